/-
  The walks: each function does what its model says, where the model has a value. No other condition.
-/
import Derived.Test.YtailgbhadhoedaaW2
namespace Go.Proofs
open Go.Fw Go.RowKit Go.Shelf
set_option maxRecDepth 20000 in
theorem c_sight_Proves {w0 : World} (va0_0 : Value) (va0_1 : Value) (a0 : GNet) (ha0_0 : SliceR w0 va0_0 a0.Rates) (ha0_1 : SliceR w0 va0_1 a0.Sights) (va1 : Value) (a1 : (List Int)) (ha1 : SliceR w0 va1 a1) {r0 : Bool} (hm : sight_Proves a0 a1 = some r0) :
  Calls Try.prog 28 #[(.agg #[va0_0, va0_1]), va1] w0 (Ret w0 fun _ v => v = (.bool r0)) := by
 unfold sight_Proves at hm
 refine calls_of_W Try.func28 rfl Try.ntmps28 (Nat.le_of_ble_eq_true rfl) ?_
 have H := Inv.start (w := w0)
 refine W.seq ?_
 refine W.region ?_
 refine O.box [va0_0, va0_1] H rfl rfl rfl rfl ?_
 intro b1 w1 H hb1
 refine O.assign (v := (.bool false)) rfl rfl rfl ?_
 refine WL.nil ?_
 refine W.seq ?_
 refine W.seq ?_
 refine W.region ?_
 refine O.loadA [va0_0, va0_1] ag25 rfl rfl rfl rfl (H.cell 0 rfl) ?_
 obtain ⟨t1, hy1, hm⟩ := bind_some hm
 refine O.call Try.call33 rfl rfl rfl (c_sight_Valid _ _ (GNet.mk a0.Rates a0.Sights) (H.arg ha0_0) (H.arg ha0_1) hy1) ?_
 rintro _ w2 hb2 rfl
 have H := H.ext hb2
 refine O.not rfl rfl rfl ?_
 refine O.move (v := (.bool (!t1))) rfl rfl rfl ?_
 refine WL.cut 4 (fun f w => f 1 = va1 ∧ f 2 = (.pointer (some ⟨b1, 0, none⟩)) ∧ f 21 = .bool ((!t1) || (((a1.length : Nat) : Int) == 0)) ∧ Inv w0 w [boxI b1 25 [va0_0, va0_1]]) ?_ ?_
 ·
  rcases bool_ft (!t1) with hc1 | hc1
  ·
   refine WL.reset (i := 17) (v := .bool false) (congrArg Value.bool hc1) ?_
   refine O.move (v := va1) rfl rfl rfl ?_
   refine O.lenS Try.underlying22 (H.arg ha1) rfl rfl rfl ?_
   refine O.eql rfl rfl rfl rfl ?_
   refine O.pick_false (v := (.bool (((a1.length : Nat) : Int) == 0))) rfl rfl rfl rfl ?_
   exact WL.nil ⟨rfl, rfl, congrArg Value.bool (or_f hc1), H⟩
  ·
   refine WL.reset (i := 17) (v := .bool true) (congrArg Value.bool hc1) ?_
   refine O.skip rfl rfl ?_
   refine O.skip rfl rfl ?_
   refine O.skip rfl rfl ?_
   refine O.pick_true (v := (.bool true)) rfl rfl rfl rfl ?_
   exact WL.nil ⟨rfl, rfl, congrArg Value.bool (or_t hc1), H⟩
 ·
  rintro f w ⟨hf1, hf2, hf21, H⟩
  obtain ⟨u1, rfl⟩ := up3 hf1 hf2 hf21
  refine O.move (v := (.bool ((!t1) || (((a1.length : Nat) : Int) == 0)))) rfl rfl rfl ?_
  obtain ⟨b2, hm1, hm⟩ := bind_some hm
  refine WL.cut 4 (fun f w => f 1 = va1 ∧ f 2 = (.pointer (some ⟨b1, 0, none⟩)) ∧ f 26 = .bool b2 ∧ Inv w0 w [boxI b1 25 [va0_0, va0_1]]) ?_ ?_
  ·
   rcases ite_some hm1 with ⟨hc2, hm1⟩ | ⟨hc2, hm1⟩
   ·
    refine WL.reset (i := 22) (v := .bool true) (congrArg Value.bool hc2) ?_
    refine O.skip rfl rfl ?_
    refine O.skip rfl rfl ?_
    refine O.skip rfl rfl ?_
    refine O.pick_true (v := (.bool true)) rfl rfl rfl rfl ?_
    refine WL.nil ?_
    have hq : true = b2 := Option.some.inj (show some true = some b2 from hm1)
    subst hq
    exact ⟨rfl, rfl, rfl, H⟩
   ·
    refine WL.reset (i := 22) (v := .bool false) (congrArg Value.bool hc2) ?_
    refine O.move (v := va1) rfl rfl rfl ?_
    refine O.makeFunc rfl rfl rfl rfl ?_
    obtain ⟨t2, hy2, hm1⟩ := bind_some hm1
    refine O.call Try.call69 rfl rfl rfl (c_slices_ContainsFunc_int _ _ (H.arg ha1) _ (fun x0 => sight_Proves_c1 x0 (GNet.mk a0.Rates a0.Sights)) (fun w hw x0 _ hy => callsV_mk Try.call70 (c_sight_Proves_c1 x0 _ _ _ (GNet.mk a0.Rates a0.Sights) (cells_mono (H.cell 0 rfl) hw) ((H.arg ha0_0).mono hw) ((H.arg ha0_1).mono hw) hy)) hy2) ?_
    rintro _ w3 hb3 rfl
    have H := H.ext hb3
    refine O.pick_false (v := (.bool t2)) rfl rfl rfl rfl ?_
    refine WL.nil ?_
    have hq : t2 = b2 := Option.some.inj (show some t2 = some b2 from hm1)
    subst hq
    exact ⟨rfl, rfl, rfl, H⟩
  ·
   rintro f w ⟨hf1, hf2, hf26, H⟩
   obtain ⟨u2, rfl⟩ := up3 hf1 hf2 hf26
   refine WL.nil ?_
   rcases ite_some hm with ⟨hc3, hm⟩ | ⟨hc3, hm⟩
   ·
    refine W.cond_true (congrArg Value.bool hc3) ?_
    refine W.seq ?_
    refine W.region ?_
    refine O.assign (v := (.bool false)) rfl rfl rfl ?_
    refine WL.nil ?_
    refine W.ret ?_
    have hq : false = r0 := Option.some.inj (show some false = some r0 from hm)
    subst hq
    exact ends1 Try.results28 rfl ⟨_, rfl, H.base, rfl⟩
   ·
    refine W.cond_false (congrArg Value.bool hc3) ?_
    refine W.skip ?_
    refine W.seq ?_
    refine W.region ?_
    refine O.assign (v := (.int .i64 0)) rfl rfl rfl ?_
    refine WL.nil ?_
    refine W.seq ?_
    refine W.seq ?_
    refine W.region ?_
    refine O.move (v := va1) rfl rfl rfl ?_
    refine O.lenS Try.underlying22 (H.arg ha1) rfl rfl rfl ?_
    refine O.move (v := (.int .i64 0)) rfl rfl rfl ?_
    refine WL.nil ?_
    obtain ⟨o1, hm2, hm⟩ := bind_some hm
    refine W.via (fun f w => ∃ s1 : Int, o1 = .next s1 ∧ f 5 = (.int .i64 s1) ∧ Inv w0 w []) ?_ ?_
    ·
     refine W.block ?_
     have hbdik1 := (H.arg ha1).len_le
     refine W.rangeN (i := 0) hm2 (fun rem ik1 s f w => ∃ z2 : Int, z2 = s ∧ (ik1 : Int) + rem = max 0 ((a1.length : Nat) : Int) ∧ f 29 = .int .i64 (ik1 : Int) ∧ f 28 = (.int .i64 ((a1.length : Nat) : Int)) ∧ f 1 = va1 ∧ f 2 = (.pointer (some ⟨b1, 0, none⟩)) ∧ f 5 = (.int .i64 z2) ∧ f 27 = va1 ∧ Inv w0 w [boxI b1 25 [va0_0, va0_1]]) ?_ ?_ ?_
     ·
      exact ⟨_, rfl, rangeN_start, rfl, rfl, rfl, rfl, rfl, rfl, H⟩
     ·
      rintro k ik1 _ st f w ⟨z2, rfl, hdropk1, hf29, hf28, hf1, hf2, hf5, hf27, H⟩ hm3
      have hltk1 := rangeN_lt hdropk1
      obtain ⟨u3, rfl⟩ := up6 hf29 hf28 hf1 hf2 hf5 hf27
      have hinck1 := addI_lt hltk1 hbdik1
      refine W.seq ?_
      refine W.region ?_
      refine O.lss rfl rfl rfl rfl ?_
      refine WL.nil ?_
      refine W.seq ?_
      refine W.cond_true (congrArg Value.bool (decide_eq_true hltk1)) ?_
      refine W.skip ?_
      refine W.seq ?_
      refine W.block ?_
      refine W.seq ?_
      refine W.region ?_
      refine O.move (v := (.int .i64 (ik1 : Int))) rfl rfl rfl ?_
      obtain ⟨x1, hx1, hm3⟩ := bind_some hm3
      obtain ⟨p1, hp1, hrp1⟩ := fix_indexAddr Try.underlying22 sz3 ha1 hx1
      refine hrp1 rfl rfl rfl rfl ?_
      refine O.load sc3 rfl rfl rfl ((hp1.mono H.base).flat 0 _ rfl) ?_
      refine O.assign (v := (.int .i64 (ik1 : Int))) rfl rfl rfl ?_
      refine O.assign (v := (.int .i64 x1)) rfl rfl rfl ?_
      refine WL.nil ?_
      refine W.seq ?_
      refine W.region ?_
      refine O.loadA [va0_0, va0_1] ag25 rfl rfl rfl rfl (H.cell 0 rfl) ?_
      refine O.move (v := (.int .i64 x1)) rfl rfl rfl ?_
      obtain ⟨⟨t3, t4, t5⟩, hy3, hm3⟩ := bind_some hm3
      refine O.call Try.call71 rfl rfl rfl (c_sight_taken _ _ (GNet.mk a0.Rates a0.Sights) (H.arg ha0_0) (H.arg ha0_1) _ hy3) ?_
      rintro _ w4 hb4 rfl
      have H := H.ext hb4
      refine O.move (v := (.tuple #[(.agg (Flat.cells t3).toArray), (.agg (Flat.cells t4).toArray), (.int .i64 t5)])) rfl rfl rfl ?_
      refine O.extract (v := (.agg (Flat.cells t3).toArray)) rfl rfl rfl rfl ?_
      refine O.extract (v := (.agg (Flat.cells t4).toArray)) rfl rfl rfl rfl ?_
      refine O.extract (v := (.int .i64 t5)) rfl rfl rfl rfl ?_
      refine O.alloc [(.int .i64 0), (.int .i64 0)] ze87 H rfl rfl rfl ?_
      intro b3 w5 H hb5
      refine O.alloc [(.int .i64 0), (.int .i64 0)] ze87 H rfl rfl rfl ?_
      intro b4 w6 H hb6
      refine O.store 1 0 [(.int .i64 t3.clock), (.int .i64 t3.at_)] [(.int .i64 t3.clock), (.int .i64 t3.at_)] sz87 H rfl rfl rfl rfl rfl rfl ⟨⟨rfl, rfl⟩, rfl⟩ (one_cons rfl (one_cons rfl one_nil)) ?_
      intro w7 H
      refine O.store 2 0 [(.int .i64 t4.clock), (.int .i64 t4.at_)] [(.int .i64 t4.clock), (.int .i64 t4.at_)] sz87 H rfl rfl rfl rfl rfl rfl ⟨⟨rfl, rfl⟩, rfl⟩ (one_cons rfl (one_cons rfl one_nil)) ?_
      intro w8 H
      refine O.assign (v := (.int .i64 t5)) rfl rfl rfl ?_
      refine WL.nil ?_
      refine W.seq ?_
      obtain ⟨t6, ht6, hm3⟩ := bind_some hm3
      obtain ⟨t7, ht7, hm3⟩ := bind_some hm3
      obtain ⟨x2, hx2, hm3⟩ := bind_some hm3
      obtain ⟨p2, hp2, hrp2⟩ := fix_indexAddr Try.underlying22 sz3 ha1 hx2
      obtain ⟨⟨t8, t9, t10⟩, hy4, hm3⟩ := bind_some hm3
      have H := H.addGone
      have H := H.addGone
      refine W.drawD 18 [[], [], [], [2], [], [4], [2, 3, 4, 5], [1, 2, 3, 4, 5, 6], [1, 2, 3, 4, 5, 6, 7], [0, 1, 2, 3, 4, 5, 6, 7, 8], [0, 1, 2, 3, 4, 5, 6, 7, 8, 9], [0, 1, 2, 3, 4, 5, 6, 7, 8, 9, 10], [0, 1, 2, 3, 4, 5, 6, 7, 8, 9, 10], [0, 1, 2, 3, 4, 5, 6, 7, 8, 9, 10], [], [], [0, 1, 2, 3, 4, 5, 6, 7, 8, 9, 10, 11, 14, 15], [0, 1, 2, 3, 4, 5, 6, 7, 8, 9, 10, 11, 12, 14, 15, 16]] [[9, 10, 11, 12, 13, 16, 17], [7, 8, 9, 10, 11, 12, 13, 16, 17], [3, 6, 7, 8, 9, 10, 11, 12, 13, 16, 17], [6, 7, 8, 9, 10, 11, 12, 13, 16, 17], [5, 6, 7, 8, 9, 10, 11, 12, 13, 16, 17], [6, 7, 8, 9, 10, 11, 12, 13, 16, 17], [7, 8, 9, 10, 11, 12, 13, 16, 17], [8, 9, 10, 11, 12, 13, 16, 17], [9, 10, 11, 12, 13, 16, 17], [10, 11, 12, 13, 16, 17], [11, 12, 13, 16, 17], [16, 17], [17], [], [16, 17], [16, 17], [17], []] (fun S f w => ∃ b5 : Nat, ∃ b6 : Nat, f 1 = va1 ∧ f 2 = (.pointer (some ⟨b1, 0, none⟩)) ∧ f 5 = (.int .i64 z2) ∧ f 6 = (.int .i64 (ik1 : Int)) ∧ f 9 = (.pointer (some ⟨b4, 0, none⟩)) ∧ f 10 = (.int .i64 t5) ∧ f 27 = va1 ∧ f 28 = (.int .i64 ((a1.length : Nat) : Int)) ∧ f 29 = (.int .i64 (ik1 : Int)) ∧ (S 0 = true → f 42 = (.agg #[va0_0, va0_1])) ∧ (S 1 = true → f 43 = va1) ∧ (S 2 = true → f 44 = (.int .i64 (ik1 : Int))) ∧ (S 3 = true → f 45 = (.int .i64 t6)) ∧ (S 4 = true → f 46 = va1) ∧ (S 5 = true → f 47 = (.int .i64 ((a1.length : Nat) : Int))) ∧ (S 6 = true → f 48 = (.int .i64 t7)) ∧ (S 7 = true → f 49 = (.pointer (some p2))) ∧ (S 8 = true → f 50 = (.int .i64 x2)) ∧ (S 9 = true → f 51 = (.tuple #[(.agg (Flat.cells t8).toArray), (.agg (Flat.cells t9).toArray), (.int .i64 t10)])) ∧ (S 10 = true → f 41 = (.tuple #[(.agg (Flat.cells t8).toArray), (.agg (Flat.cells t9).toArray), (.int .i64 t10)])) ∧ (S 11 = true → f 52 = (.agg (Flat.cells t8).toArray)) ∧ (S 12 = true → f 53 = (.agg (Flat.cells t9).toArray)) ∧ (S 13 = true → f 54 = (.int .i64 t10)) ∧ (S 14 = true → f 11 = (.pointer (some ⟨b5, 0, none⟩))) ∧ (S 15 = true → f 12 = (.pointer (some ⟨b6, 0, none⟩))) ∧ (S 16 = true → S 14 = true) ∧ (S 16 = true → S 15 = true) ∧ (S 17 = true → S 14 = true) ∧ (S 17 = true → S 15 = true) ∧ (S 17 = true → S 16 = true) ∧ (S 14 = false → S 15 = false → S 16 = false → S 17 = false → Inv w0 w [boxI b1 25 [va0_0, va0_1], boxI b3 87 [(.int .i64 t3.clock), (.int .i64 t3.at_)], boxI b4 87 [(.int .i64 t4.clock), (.int .i64 t4.at_)], goneI, goneI]) ∧ (S 14 = true → S 15 = false → S 16 = false → S 17 = false → Inv w0 w [boxI b1 25 [va0_0, va0_1], boxI b3 87 [(.int .i64 t3.clock), (.int .i64 t3.at_)], boxI b4 87 [(.int .i64 t4.clock), (.int .i64 t4.at_)], boxI b5 87 [(.int .i64 0), (.int .i64 0)], goneI]) ∧ (S 14 = false → S 15 = true → S 16 = false → S 17 = false → Inv w0 w [boxI b1 25 [va0_0, va0_1], boxI b3 87 [(.int .i64 t3.clock), (.int .i64 t3.at_)], boxI b4 87 [(.int .i64 t4.clock), (.int .i64 t4.at_)], goneI, boxI b6 87 [(.int .i64 0), (.int .i64 0)]]) ∧ (S 14 = true → S 15 = true → S 16 = false → S 17 = false → Inv w0 w [boxI b1 25 [va0_0, va0_1], boxI b3 87 [(.int .i64 t3.clock), (.int .i64 t3.at_)], boxI b4 87 [(.int .i64 t4.clock), (.int .i64 t4.at_)], boxI b5 87 [(.int .i64 0), (.int .i64 0)], boxI b6 87 [(.int .i64 0), (.int .i64 0)]]) ∧ (S 14 = true → S 15 = true → S 16 = true → S 17 = false → Inv w0 w [boxI b1 25 [va0_0, va0_1], boxI b3 87 [(.int .i64 t3.clock), (.int .i64 t3.at_)], boxI b4 87 [(.int .i64 t4.clock), (.int .i64 t4.at_)], boxI b5 87 [(.int .i64 t8.clock), (.int .i64 t8.at_)], boxI b6 87 [(.int .i64 0), (.int .i64 0)]]) ∧ (S 14 = true → S 15 = true → S 16 = true → S 17 = true → Inv w0 w [boxI b1 25 [va0_0, va0_1], boxI b3 87 [(.int .i64 t3.clock), (.int .i64 t3.at_)], boxI b4 87 [(.int .i64 t4.clock), (.int .i64 t4.at_)], boxI b5 87 [(.int .i64 t8.clock), (.int .i64 t8.at_)], boxI b6 87 [(.int .i64 t9.clock), (.int .i64 t9.at_)]])) fol (by kernel_rfl) ?_ ?_ ?_
      ·
       exact fun d _ => ⟨0, 0, rfl, rfl, rfl, rfl, rfl, rfl, rfl, rfl, rfl, nF, nF, nF, nF, nF, nF, nF, nF, nF, nF, nF, nF, nF, nF, nF, nF, nF, nF, nF, nF, nF, (fun _ _ _ _ => H.ext (below_drawn d)), (fun a _ _ _ => nF a), (fun _ a _ _ => nF a), (fun a _ _ _ => nF a), (fun a _ _ _ => nF a), (fun a _ _ _ => nF a)⟩
      ·
       refine ⟨?_, ⟨?_, ⟨?_, ⟨?_, ⟨?_, ⟨?_, ⟨?_, ⟨?_, ⟨?_, ⟨?_, ⟨?_, ⟨?_, ⟨?_, ⟨?_, ⟨?_, ⟨?_, ⟨?_, ⟨?_, trivial⟩⟩⟩⟩⟩⟩⟩⟩⟩⟩⟩⟩⟩⟩⟩⟩⟩⟩
       ·
        rintro S f w hS - ⟨e9, e10, e11, e12, e13, e16, e17, -⟩ ⟨b5, b6, hf1, hf2, hf5, hf6, hf9, hf10, hf27, hf28, hf29, hd0, hd1, hd2, hd3, hd4, hd5, hd6, hd7, hd8, hd9, hd10, hd11, hd12, hd13, hd14, hd15, C16_14, C16_15, C17_14, C17_15, C17_16, W0, W1, W2, W3, W4, W5⟩
        obtain ⟨u4, rfl⟩ := up1 hf2
        rcases bool_ft (S 14) with e14 | e14
        ·
         rcases bool_ft (S 15) with e15 | e15
         ·
          have H := W0 e14 e15 e16 e17
          refine O.loadA [va0_0, va0_1] ag25 rfl rfl rfl rfl (H.cell 0 rfl) ?_
          exact WL.nil ⟨b5, b6, hf1, rfl, hf5, hf6, hf9, hf10, hf27, hf28, hf29, (fun _ => rfl), hd1, hd2, hd3, hd4, hd5, hd6, hd7, hd8, hd9, hd10, hd11, hd12, hd13, hd14, hd15, C16_14, C16_15, C17_14, C17_15, C17_16, (fun _ _ _ _ => H), (fun a _ _ _ => nX e14 a), (fun _ a _ _ => nX e15 a), (fun a _ _ _ => nX e14 a), (fun a _ _ _ => nX e14 a), (fun a _ _ _ => nX e14 a)⟩
         ·
          have H := W2 e14 e15 e16 e17
          refine O.loadA [va0_0, va0_1] ag25 rfl rfl rfl rfl (H.cell 0 rfl) ?_
          exact WL.nil ⟨b5, b6, hf1, rfl, hf5, hf6, hf9, hf10, hf27, hf28, hf29, (fun _ => rfl), hd1, hd2, hd3, hd4, hd5, hd6, hd7, hd8, hd9, hd10, hd11, hd12, hd13, hd14, hd15, C16_14, C16_15, C17_14, C17_15, C17_16, (fun _ a _ _ => nT e15 a), (fun a _ _ _ => nX e14 a), (fun _ _ _ _ => H), (fun a _ _ _ => nX e14 a), (fun a _ _ _ => nX e14 a), (fun a _ _ _ => nX e14 a)⟩
        ·
         rcases bool_ft (S 15) with e15 | e15
         ·
          have H := W1 e14 e15 e16 e17
          refine O.loadA [va0_0, va0_1] ag25 rfl rfl rfl rfl (H.cell 0 rfl) ?_
          exact WL.nil ⟨b5, b6, hf1, rfl, hf5, hf6, hf9, hf10, hf27, hf28, hf29, (fun _ => rfl), hd1, hd2, hd3, hd4, hd5, hd6, hd7, hd8, hd9, hd10, hd11, hd12, hd13, hd14, hd15, C16_14, C16_15, C17_14, C17_15, C17_16, (fun a _ _ _ => nT e14 a), (fun _ _ _ _ => H), (fun a _ _ _ => nT e14 a), (fun _ a _ _ => nX e15 a), (fun _ a _ _ => nX e15 a), (fun _ a _ _ => nX e15 a)⟩
         ·
          have H := W3 e14 e15 e16 e17
          refine O.loadA [va0_0, va0_1] ag25 rfl rfl rfl rfl (H.cell 0 rfl) ?_
          exact WL.nil ⟨b5, b6, hf1, rfl, hf5, hf6, hf9, hf10, hf27, hf28, hf29, (fun _ => rfl), hd1, hd2, hd3, hd4, hd5, hd6, hd7, hd8, hd9, hd10, hd11, hd12, hd13, hd14, hd15, C16_14, C16_15, C17_14, C17_15, C17_16, (fun a _ _ _ => nT e14 a), (fun _ a _ _ => nT e15 a), (fun a _ _ _ => nT e14 a), (fun _ _ _ _ => H), (fun _ _ a _ => nX e16 a), (fun _ _ a _ => nX e16 a)⟩
       ·
        rintro S f w hS - ⟨e7, e8, e9, e10, e11, e12, e13, e16, e17, -⟩ ⟨b5, b6, hf1, hf2, hf5, hf6, hf9, hf10, hf27, hf28, hf29, hd0, hd1, hd2, hd3, hd4, hd5, hd6, hd7, hd8, hd9, hd10, hd11, hd12, hd13, hd14, hd15, C16_14, C16_15, C17_14, C17_15, C17_16, W0, W1, W2, W3, W4, W5⟩
        obtain ⟨u5, rfl⟩ := up1 hf1
        rcases bool_ft (S 14) with e14 | e14
        ·
         rcases bool_ft (S 15) with e15 | e15
         ·
          have H := W0 e14 e15 e16 e17
          refine O.move (v := va1) rfl rfl rfl ?_
          exact WL.nil ⟨b5, b6, rfl, hf2, hf5, hf6, hf9, hf10, hf27, hf28, hf29, hd0, (fun _ => rfl), hd2, hd3, hd4, hd5, hd6, hd7, hd8, hd9, hd10, hd11, hd12, hd13, hd14, hd15, C16_14, C16_15, C17_14, C17_15, C17_16, (fun _ _ _ _ => H), (fun a _ _ _ => nX e14 a), (fun _ a _ _ => nX e15 a), (fun a _ _ _ => nX e14 a), (fun a _ _ _ => nX e14 a), (fun a _ _ _ => nX e14 a)⟩
         ·
          have H := W2 e14 e15 e16 e17
          refine O.move (v := va1) rfl rfl rfl ?_
          exact WL.nil ⟨b5, b6, rfl, hf2, hf5, hf6, hf9, hf10, hf27, hf28, hf29, hd0, (fun _ => rfl), hd2, hd3, hd4, hd5, hd6, hd7, hd8, hd9, hd10, hd11, hd12, hd13, hd14, hd15, C16_14, C16_15, C17_14, C17_15, C17_16, (fun _ a _ _ => nT e15 a), (fun a _ _ _ => nX e14 a), (fun _ _ _ _ => H), (fun a _ _ _ => nX e14 a), (fun a _ _ _ => nX e14 a), (fun a _ _ _ => nX e14 a)⟩
        ·
         rcases bool_ft (S 15) with e15 | e15
         ·
          have H := W1 e14 e15 e16 e17
          refine O.move (v := va1) rfl rfl rfl ?_
          exact WL.nil ⟨b5, b6, rfl, hf2, hf5, hf6, hf9, hf10, hf27, hf28, hf29, hd0, (fun _ => rfl), hd2, hd3, hd4, hd5, hd6, hd7, hd8, hd9, hd10, hd11, hd12, hd13, hd14, hd15, C16_14, C16_15, C17_14, C17_15, C17_16, (fun a _ _ _ => nT e14 a), (fun _ _ _ _ => H), (fun a _ _ _ => nT e14 a), (fun _ a _ _ => nX e15 a), (fun _ a _ _ => nX e15 a), (fun _ a _ _ => nX e15 a)⟩
         ·
          have H := W3 e14 e15 e16 e17
          refine O.move (v := va1) rfl rfl rfl ?_
          exact WL.nil ⟨b5, b6, rfl, hf2, hf5, hf6, hf9, hf10, hf27, hf28, hf29, hd0, (fun _ => rfl), hd2, hd3, hd4, hd5, hd6, hd7, hd8, hd9, hd10, hd11, hd12, hd13, hd14, hd15, C16_14, C16_15, C17_14, C17_15, C17_16, (fun a _ _ _ => nT e14 a), (fun _ a _ _ => nT e15 a), (fun a _ _ _ => nT e14 a), (fun _ _ _ _ => H), (fun _ _ a _ => nX e16 a), (fun _ _ a _ => nX e16 a)⟩
       ·
        rintro S f w hS - ⟨e3, e6, e7, e8, e9, e10, e11, e12, e13, e16, e17, -⟩ ⟨b5, b6, hf1, hf2, hf5, hf6, hf9, hf10, hf27, hf28, hf29, hd0, hd1, hd2, hd3, hd4, hd5, hd6, hd7, hd8, hd9, hd10, hd11, hd12, hd13, hd14, hd15, C16_14, C16_15, C17_14, C17_15, C17_16, W0, W1, W2, W3, W4, W5⟩
        obtain ⟨u6, rfl⟩ := up1 hf6
        rcases bool_ft (S 14) with e14 | e14
        ·
         rcases bool_ft (S 15) with e15 | e15
         ·
          have H := W0 e14 e15 e16 e17
          refine O.move (v := (.int .i64 (ik1 : Int))) rfl rfl rfl ?_
          exact WL.nil ⟨b5, b6, hf1, hf2, hf5, rfl, hf9, hf10, hf27, hf28, hf29, hd0, hd1, (fun _ => rfl), hd3, hd4, hd5, hd6, hd7, hd8, hd9, hd10, hd11, hd12, hd13, hd14, hd15, C16_14, C16_15, C17_14, C17_15, C17_16, (fun _ _ _ _ => H), (fun a _ _ _ => nX e14 a), (fun _ a _ _ => nX e15 a), (fun a _ _ _ => nX e14 a), (fun a _ _ _ => nX e14 a), (fun a _ _ _ => nX e14 a)⟩
         ·
          have H := W2 e14 e15 e16 e17
          refine O.move (v := (.int .i64 (ik1 : Int))) rfl rfl rfl ?_
          exact WL.nil ⟨b5, b6, hf1, hf2, hf5, rfl, hf9, hf10, hf27, hf28, hf29, hd0, hd1, (fun _ => rfl), hd3, hd4, hd5, hd6, hd7, hd8, hd9, hd10, hd11, hd12, hd13, hd14, hd15, C16_14, C16_15, C17_14, C17_15, C17_16, (fun _ a _ _ => nT e15 a), (fun a _ _ _ => nX e14 a), (fun _ _ _ _ => H), (fun a _ _ _ => nX e14 a), (fun a _ _ _ => nX e14 a), (fun a _ _ _ => nX e14 a)⟩
        ·
         rcases bool_ft (S 15) with e15 | e15
         ·
          have H := W1 e14 e15 e16 e17
          refine O.move (v := (.int .i64 (ik1 : Int))) rfl rfl rfl ?_
          exact WL.nil ⟨b5, b6, hf1, hf2, hf5, rfl, hf9, hf10, hf27, hf28, hf29, hd0, hd1, (fun _ => rfl), hd3, hd4, hd5, hd6, hd7, hd8, hd9, hd10, hd11, hd12, hd13, hd14, hd15, C16_14, C16_15, C17_14, C17_15, C17_16, (fun a _ _ _ => nT e14 a), (fun _ _ _ _ => H), (fun a _ _ _ => nT e14 a), (fun _ a _ _ => nX e15 a), (fun _ a _ _ => nX e15 a), (fun _ a _ _ => nX e15 a)⟩
         ·
          have H := W3 e14 e15 e16 e17
          refine O.move (v := (.int .i64 (ik1 : Int))) rfl rfl rfl ?_
          exact WL.nil ⟨b5, b6, hf1, hf2, hf5, rfl, hf9, hf10, hf27, hf28, hf29, hd0, hd1, (fun _ => rfl), hd3, hd4, hd5, hd6, hd7, hd8, hd9, hd10, hd11, hd12, hd13, hd14, hd15, C16_14, C16_15, C17_14, C17_15, C17_16, (fun a _ _ _ => nT e14 a), (fun _ a _ _ => nT e15 a), (fun a _ _ _ => nT e14 a), (fun _ _ _ _ => H), (fun _ _ a _ => nX e16 a), (fun _ _ a _ => nX e16 a)⟩
       ·
        rintro S f w hS ⟨e2, -⟩ ⟨e6, e7, e8, e9, e10, e11, e12, e13, e16, e17, -⟩ ⟨b5, b6, hf1, hf2, hf5, hf6, hf9, hf10, hf27, hf28, hf29, hd0, hd1, hd2, hd3, hd4, hd5, hd6, hd7, hd8, hd9, hd10, hd11, hd12, hd13, hd14, hd15, C16_14, C16_15, C17_14, C17_15, C17_16, W0, W1, W2, W3, W4, W5⟩
        have hf44 := hd2 e2
        obtain ⟨u7, rfl⟩ := up1 hf44
        rcases bool_ft (S 14) with e14 | e14
        ·
         rcases bool_ft (S 15) with e15 | e15
         ·
          have H := W0 e14 e15 e16 e17
          refine O.add rfl rfl rfl rfl ht6 ?_
          exact WL.nil ⟨b5, b6, hf1, hf2, hf5, hf6, hf9, hf10, hf27, hf28, hf29, hd0, hd1, hd2, (fun _ => rfl), hd4, hd5, hd6, hd7, hd8, hd9, hd10, hd11, hd12, hd13, hd14, hd15, C16_14, C16_15, C17_14, C17_15, C17_16, (fun _ _ _ _ => H), (fun a _ _ _ => nX e14 a), (fun _ a _ _ => nX e15 a), (fun a _ _ _ => nX e14 a), (fun a _ _ _ => nX e14 a), (fun a _ _ _ => nX e14 a)⟩
         ·
          have H := W2 e14 e15 e16 e17
          refine O.add rfl rfl rfl rfl ht6 ?_
          exact WL.nil ⟨b5, b6, hf1, hf2, hf5, hf6, hf9, hf10, hf27, hf28, hf29, hd0, hd1, hd2, (fun _ => rfl), hd4, hd5, hd6, hd7, hd8, hd9, hd10, hd11, hd12, hd13, hd14, hd15, C16_14, C16_15, C17_14, C17_15, C17_16, (fun _ a _ _ => nT e15 a), (fun a _ _ _ => nX e14 a), (fun _ _ _ _ => H), (fun a _ _ _ => nX e14 a), (fun a _ _ _ => nX e14 a), (fun a _ _ _ => nX e14 a)⟩
        ·
         rcases bool_ft (S 15) with e15 | e15
         ·
          have H := W1 e14 e15 e16 e17
          refine O.add rfl rfl rfl rfl ht6 ?_
          exact WL.nil ⟨b5, b6, hf1, hf2, hf5, hf6, hf9, hf10, hf27, hf28, hf29, hd0, hd1, hd2, (fun _ => rfl), hd4, hd5, hd6, hd7, hd8, hd9, hd10, hd11, hd12, hd13, hd14, hd15, C16_14, C16_15, C17_14, C17_15, C17_16, (fun a _ _ _ => nT e14 a), (fun _ _ _ _ => H), (fun a _ _ _ => nT e14 a), (fun _ a _ _ => nX e15 a), (fun _ a _ _ => nX e15 a), (fun _ a _ _ => nX e15 a)⟩
         ·
          have H := W3 e14 e15 e16 e17
          refine O.add rfl rfl rfl rfl ht6 ?_
          exact WL.nil ⟨b5, b6, hf1, hf2, hf5, hf6, hf9, hf10, hf27, hf28, hf29, hd0, hd1, hd2, (fun _ => rfl), hd4, hd5, hd6, hd7, hd8, hd9, hd10, hd11, hd12, hd13, hd14, hd15, C16_14, C16_15, C17_14, C17_15, C17_16, (fun a _ _ _ => nT e14 a), (fun _ a _ _ => nT e15 a), (fun a _ _ _ => nT e14 a), (fun _ _ _ _ => H), (fun _ _ a _ => nX e16 a), (fun _ _ a _ => nX e16 a)⟩
       ·
        rintro S f w hS - ⟨e5, e6, e7, e8, e9, e10, e11, e12, e13, e16, e17, -⟩ ⟨b5, b6, hf1, hf2, hf5, hf6, hf9, hf10, hf27, hf28, hf29, hd0, hd1, hd2, hd3, hd4, hd5, hd6, hd7, hd8, hd9, hd10, hd11, hd12, hd13, hd14, hd15, C16_14, C16_15, C17_14, C17_15, C17_16, W0, W1, W2, W3, W4, W5⟩
        obtain ⟨u8, rfl⟩ := up1 hf1
        rcases bool_ft (S 14) with e14 | e14
        ·
         rcases bool_ft (S 15) with e15 | e15
         ·
          have H := W0 e14 e15 e16 e17
          refine O.move (v := va1) rfl rfl rfl ?_
          exact WL.nil ⟨b5, b6, rfl, hf2, hf5, hf6, hf9, hf10, hf27, hf28, hf29, hd0, hd1, hd2, hd3, (fun _ => rfl), hd5, hd6, hd7, hd8, hd9, hd10, hd11, hd12, hd13, hd14, hd15, C16_14, C16_15, C17_14, C17_15, C17_16, (fun _ _ _ _ => H), (fun a _ _ _ => nX e14 a), (fun _ a _ _ => nX e15 a), (fun a _ _ _ => nX e14 a), (fun a _ _ _ => nX e14 a), (fun a _ _ _ => nX e14 a)⟩
         ·
          have H := W2 e14 e15 e16 e17
          refine O.move (v := va1) rfl rfl rfl ?_
          exact WL.nil ⟨b5, b6, rfl, hf2, hf5, hf6, hf9, hf10, hf27, hf28, hf29, hd0, hd1, hd2, hd3, (fun _ => rfl), hd5, hd6, hd7, hd8, hd9, hd10, hd11, hd12, hd13, hd14, hd15, C16_14, C16_15, C17_14, C17_15, C17_16, (fun _ a _ _ => nT e15 a), (fun a _ _ _ => nX e14 a), (fun _ _ _ _ => H), (fun a _ _ _ => nX e14 a), (fun a _ _ _ => nX e14 a), (fun a _ _ _ => nX e14 a)⟩
        ·
         rcases bool_ft (S 15) with e15 | e15
         ·
          have H := W1 e14 e15 e16 e17
          refine O.move (v := va1) rfl rfl rfl ?_
          exact WL.nil ⟨b5, b6, rfl, hf2, hf5, hf6, hf9, hf10, hf27, hf28, hf29, hd0, hd1, hd2, hd3, (fun _ => rfl), hd5, hd6, hd7, hd8, hd9, hd10, hd11, hd12, hd13, hd14, hd15, C16_14, C16_15, C17_14, C17_15, C17_16, (fun a _ _ _ => nT e14 a), (fun _ _ _ _ => H), (fun a _ _ _ => nT e14 a), (fun _ a _ _ => nX e15 a), (fun _ a _ _ => nX e15 a), (fun _ a _ _ => nX e15 a)⟩
         ·
          have H := W3 e14 e15 e16 e17
          refine O.move (v := va1) rfl rfl rfl ?_
          exact WL.nil ⟨b5, b6, rfl, hf2, hf5, hf6, hf9, hf10, hf27, hf28, hf29, hd0, hd1, hd2, hd3, (fun _ => rfl), hd5, hd6, hd7, hd8, hd9, hd10, hd11, hd12, hd13, hd14, hd15, C16_14, C16_15, C17_14, C17_15, C17_16, (fun a _ _ _ => nT e14 a), (fun _ a _ _ => nT e15 a), (fun a _ _ _ => nT e14 a), (fun _ _ _ _ => H), (fun _ _ a _ => nX e16 a), (fun _ _ a _ => nX e16 a)⟩
       ·
        rintro S f w hS ⟨e4, -⟩ ⟨e6, e7, e8, e9, e10, e11, e12, e13, e16, e17, -⟩ ⟨b5, b6, hf1, hf2, hf5, hf6, hf9, hf10, hf27, hf28, hf29, hd0, hd1, hd2, hd3, hd4, hd5, hd6, hd7, hd8, hd9, hd10, hd11, hd12, hd13, hd14, hd15, C16_14, C16_15, C17_14, C17_15, C17_16, W0, W1, W2, W3, W4, W5⟩
        have hf46 := hd4 e4
        obtain ⟨u9, rfl⟩ := up1 hf46
        rcases bool_ft (S 14) with e14 | e14
        ·
         rcases bool_ft (S 15) with e15 | e15
         ·
          have H := W0 e14 e15 e16 e17
          refine O.lenS Try.underlying22 (H.arg ha1) rfl rfl rfl ?_
          exact WL.nil ⟨b5, b6, hf1, hf2, hf5, hf6, hf9, hf10, hf27, hf28, hf29, hd0, hd1, hd2, hd3, hd4, (fun _ => rfl), hd6, hd7, hd8, hd9, hd10, hd11, hd12, hd13, hd14, hd15, C16_14, C16_15, C17_14, C17_15, C17_16, (fun _ _ _ _ => H), (fun a _ _ _ => nX e14 a), (fun _ a _ _ => nX e15 a), (fun a _ _ _ => nX e14 a), (fun a _ _ _ => nX e14 a), (fun a _ _ _ => nX e14 a)⟩
         ·
          have H := W2 e14 e15 e16 e17
          refine O.lenS Try.underlying22 (H.arg ha1) rfl rfl rfl ?_
          exact WL.nil ⟨b5, b6, hf1, hf2, hf5, hf6, hf9, hf10, hf27, hf28, hf29, hd0, hd1, hd2, hd3, hd4, (fun _ => rfl), hd6, hd7, hd8, hd9, hd10, hd11, hd12, hd13, hd14, hd15, C16_14, C16_15, C17_14, C17_15, C17_16, (fun _ a _ _ => nT e15 a), (fun a _ _ _ => nX e14 a), (fun _ _ _ _ => H), (fun a _ _ _ => nX e14 a), (fun a _ _ _ => nX e14 a), (fun a _ _ _ => nX e14 a)⟩
        ·
         rcases bool_ft (S 15) with e15 | e15
         ·
          have H := W1 e14 e15 e16 e17
          refine O.lenS Try.underlying22 (H.arg ha1) rfl rfl rfl ?_
          exact WL.nil ⟨b5, b6, hf1, hf2, hf5, hf6, hf9, hf10, hf27, hf28, hf29, hd0, hd1, hd2, hd3, hd4, (fun _ => rfl), hd6, hd7, hd8, hd9, hd10, hd11, hd12, hd13, hd14, hd15, C16_14, C16_15, C17_14, C17_15, C17_16, (fun a _ _ _ => nT e14 a), (fun _ _ _ _ => H), (fun a _ _ _ => nT e14 a), (fun _ a _ _ => nX e15 a), (fun _ a _ _ => nX e15 a), (fun _ a _ _ => nX e15 a)⟩
         ·
          have H := W3 e14 e15 e16 e17
          refine O.lenS Try.underlying22 (H.arg ha1) rfl rfl rfl ?_
          exact WL.nil ⟨b5, b6, hf1, hf2, hf5, hf6, hf9, hf10, hf27, hf28, hf29, hd0, hd1, hd2, hd3, hd4, (fun _ => rfl), hd6, hd7, hd8, hd9, hd10, hd11, hd12, hd13, hd14, hd15, C16_14, C16_15, C17_14, C17_15, C17_16, (fun a _ _ _ => nT e14 a), (fun _ a _ _ => nT e15 a), (fun a _ _ _ => nT e14 a), (fun _ _ _ _ => H), (fun _ _ a _ => nX e16 a), (fun _ _ a _ => nX e16 a)⟩
       ·
        rintro S f w hS ⟨e2, e3, e4, e5, -⟩ ⟨e7, e8, e9, e10, e11, e12, e13, e16, e17, -⟩ ⟨b5, b6, hf1, hf2, hf5, hf6, hf9, hf10, hf27, hf28, hf29, hd0, hd1, hd2, hd3, hd4, hd5, hd6, hd7, hd8, hd9, hd10, hd11, hd12, hd13, hd14, hd15, C16_14, C16_15, C17_14, C17_15, C17_16, W0, W1, W2, W3, W4, W5⟩
        have hf45 := hd3 e3
        have hf47 := hd5 e5
        obtain ⟨u10, rfl⟩ := up2 hf45 hf47
        rcases bool_ft (S 14) with e14 | e14
        ·
         rcases bool_ft (S 15) with e15 | e15
         ·
          have H := W0 e14 e15 e16 e17
          refine O.rem rfl rfl rfl rfl ht7 ?_
          exact WL.nil ⟨b5, b6, hf1, hf2, hf5, hf6, hf9, hf10, hf27, hf28, hf29, hd0, hd1, hd2, hd3, hd4, hd5, (fun _ => rfl), hd7, hd8, hd9, hd10, hd11, hd12, hd13, hd14, hd15, C16_14, C16_15, C17_14, C17_15, C17_16, (fun _ _ _ _ => H), (fun a _ _ _ => nX e14 a), (fun _ a _ _ => nX e15 a), (fun a _ _ _ => nX e14 a), (fun a _ _ _ => nX e14 a), (fun a _ _ _ => nX e14 a)⟩
         ·
          have H := W2 e14 e15 e16 e17
          refine O.rem rfl rfl rfl rfl ht7 ?_
          exact WL.nil ⟨b5, b6, hf1, hf2, hf5, hf6, hf9, hf10, hf27, hf28, hf29, hd0, hd1, hd2, hd3, hd4, hd5, (fun _ => rfl), hd7, hd8, hd9, hd10, hd11, hd12, hd13, hd14, hd15, C16_14, C16_15, C17_14, C17_15, C17_16, (fun _ a _ _ => nT e15 a), (fun a _ _ _ => nX e14 a), (fun _ _ _ _ => H), (fun a _ _ _ => nX e14 a), (fun a _ _ _ => nX e14 a), (fun a _ _ _ => nX e14 a)⟩
        ·
         rcases bool_ft (S 15) with e15 | e15
         ·
          have H := W1 e14 e15 e16 e17
          refine O.rem rfl rfl rfl rfl ht7 ?_
          exact WL.nil ⟨b5, b6, hf1, hf2, hf5, hf6, hf9, hf10, hf27, hf28, hf29, hd0, hd1, hd2, hd3, hd4, hd5, (fun _ => rfl), hd7, hd8, hd9, hd10, hd11, hd12, hd13, hd14, hd15, C16_14, C16_15, C17_14, C17_15, C17_16, (fun a _ _ _ => nT e14 a), (fun _ _ _ _ => H), (fun a _ _ _ => nT e14 a), (fun _ a _ _ => nX e15 a), (fun _ a _ _ => nX e15 a), (fun _ a _ _ => nX e15 a)⟩
         ·
          have H := W3 e14 e15 e16 e17
          refine O.rem rfl rfl rfl rfl ht7 ?_
          exact WL.nil ⟨b5, b6, hf1, hf2, hf5, hf6, hf9, hf10, hf27, hf28, hf29, hd0, hd1, hd2, hd3, hd4, hd5, (fun _ => rfl), hd7, hd8, hd9, hd10, hd11, hd12, hd13, hd14, hd15, C16_14, C16_15, C17_14, C17_15, C17_16, (fun a _ _ _ => nT e14 a), (fun _ a _ _ => nT e15 a), (fun a _ _ _ => nT e14 a), (fun _ _ _ _ => H), (fun _ _ a _ => nX e16 a), (fun _ _ a _ => nX e16 a)⟩
       ·
        rintro S f w hS ⟨e1, e2, e3, e4, e5, e6, -⟩ ⟨e8, e9, e10, e11, e12, e13, e16, e17, -⟩ ⟨b5, b6, hf1, hf2, hf5, hf6, hf9, hf10, hf27, hf28, hf29, hd0, hd1, hd2, hd3, hd4, hd5, hd6, hd7, hd8, hd9, hd10, hd11, hd12, hd13, hd14, hd15, C16_14, C16_15, C17_14, C17_15, C17_16, W0, W1, W2, W3, W4, W5⟩
        have hf43 := hd1 e1
        have hf48 := hd6 e6
        obtain ⟨u11, rfl⟩ := up2 hf43 hf48
        rcases bool_ft (S 14) with e14 | e14
        ·
         rcases bool_ft (S 15) with e15 | e15
         ·
          have H := W0 e14 e15 e16 e17
          refine hrp2 rfl rfl rfl rfl ?_
          exact WL.nil ⟨b5, b6, hf1, hf2, hf5, hf6, hf9, hf10, hf27, hf28, hf29, hd0, hd1, hd2, hd3, hd4, hd5, hd6, (fun _ => rfl), hd8, hd9, hd10, hd11, hd12, hd13, hd14, hd15, C16_14, C16_15, C17_14, C17_15, C17_16, (fun _ _ _ _ => H), (fun a _ _ _ => nX e14 a), (fun _ a _ _ => nX e15 a), (fun a _ _ _ => nX e14 a), (fun a _ _ _ => nX e14 a), (fun a _ _ _ => nX e14 a)⟩
         ·
          have H := W2 e14 e15 e16 e17
          refine hrp2 rfl rfl rfl rfl ?_
          exact WL.nil ⟨b5, b6, hf1, hf2, hf5, hf6, hf9, hf10, hf27, hf28, hf29, hd0, hd1, hd2, hd3, hd4, hd5, hd6, (fun _ => rfl), hd8, hd9, hd10, hd11, hd12, hd13, hd14, hd15, C16_14, C16_15, C17_14, C17_15, C17_16, (fun _ a _ _ => nT e15 a), (fun a _ _ _ => nX e14 a), (fun _ _ _ _ => H), (fun a _ _ _ => nX e14 a), (fun a _ _ _ => nX e14 a), (fun a _ _ _ => nX e14 a)⟩
        ·
         rcases bool_ft (S 15) with e15 | e15
         ·
          have H := W1 e14 e15 e16 e17
          refine hrp2 rfl rfl rfl rfl ?_
          exact WL.nil ⟨b5, b6, hf1, hf2, hf5, hf6, hf9, hf10, hf27, hf28, hf29, hd0, hd1, hd2, hd3, hd4, hd5, hd6, (fun _ => rfl), hd8, hd9, hd10, hd11, hd12, hd13, hd14, hd15, C16_14, C16_15, C17_14, C17_15, C17_16, (fun a _ _ _ => nT e14 a), (fun _ _ _ _ => H), (fun a _ _ _ => nT e14 a), (fun _ a _ _ => nX e15 a), (fun _ a _ _ => nX e15 a), (fun _ a _ _ => nX e15 a)⟩
         ·
          have H := W3 e14 e15 e16 e17
          refine hrp2 rfl rfl rfl rfl ?_
          exact WL.nil ⟨b5, b6, hf1, hf2, hf5, hf6, hf9, hf10, hf27, hf28, hf29, hd0, hd1, hd2, hd3, hd4, hd5, hd6, (fun _ => rfl), hd8, hd9, hd10, hd11, hd12, hd13, hd14, hd15, C16_14, C16_15, C17_14, C17_15, C17_16, (fun a _ _ _ => nT e14 a), (fun _ a _ _ => nT e15 a), (fun a _ _ _ => nT e14 a), (fun _ _ _ _ => H), (fun _ _ a _ => nX e16 a), (fun _ _ a _ => nX e16 a)⟩
       ·
        rintro S f w hS ⟨e1, e2, e3, e4, e5, e6, e7, -⟩ ⟨e9, e10, e11, e12, e13, e16, e17, -⟩ ⟨b5, b6, hf1, hf2, hf5, hf6, hf9, hf10, hf27, hf28, hf29, hd0, hd1, hd2, hd3, hd4, hd5, hd6, hd7, hd8, hd9, hd10, hd11, hd12, hd13, hd14, hd15, C16_14, C16_15, C17_14, C17_15, C17_16, W0, W1, W2, W3, W4, W5⟩
        have hf49 := hd7 e7
        obtain ⟨u12, rfl⟩ := up1 hf49
        rcases bool_ft (S 14) with e14 | e14
        ·
         rcases bool_ft (S 15) with e15 | e15
         ·
          have H := W0 e14 e15 e16 e17
          refine O.load sc3 rfl rfl rfl ((hp2.mono H.base).flat 0 _ rfl) ?_
          exact WL.nil ⟨b5, b6, hf1, hf2, hf5, hf6, hf9, hf10, hf27, hf28, hf29, hd0, hd1, hd2, hd3, hd4, hd5, hd6, hd7, (fun _ => rfl), hd9, hd10, hd11, hd12, hd13, hd14, hd15, C16_14, C16_15, C17_14, C17_15, C17_16, (fun _ _ _ _ => H), (fun a _ _ _ => nX e14 a), (fun _ a _ _ => nX e15 a), (fun a _ _ _ => nX e14 a), (fun a _ _ _ => nX e14 a), (fun a _ _ _ => nX e14 a)⟩
         ·
          have H := W2 e14 e15 e16 e17
          refine O.load sc3 rfl rfl rfl ((hp2.mono H.base).flat 0 _ rfl) ?_
          exact WL.nil ⟨b5, b6, hf1, hf2, hf5, hf6, hf9, hf10, hf27, hf28, hf29, hd0, hd1, hd2, hd3, hd4, hd5, hd6, hd7, (fun _ => rfl), hd9, hd10, hd11, hd12, hd13, hd14, hd15, C16_14, C16_15, C17_14, C17_15, C17_16, (fun _ a _ _ => nT e15 a), (fun a _ _ _ => nX e14 a), (fun _ _ _ _ => H), (fun a _ _ _ => nX e14 a), (fun a _ _ _ => nX e14 a), (fun a _ _ _ => nX e14 a)⟩
        ·
         rcases bool_ft (S 15) with e15 | e15
         ·
          have H := W1 e14 e15 e16 e17
          refine O.load sc3 rfl rfl rfl ((hp2.mono H.base).flat 0 _ rfl) ?_
          exact WL.nil ⟨b5, b6, hf1, hf2, hf5, hf6, hf9, hf10, hf27, hf28, hf29, hd0, hd1, hd2, hd3, hd4, hd5, hd6, hd7, (fun _ => rfl), hd9, hd10, hd11, hd12, hd13, hd14, hd15, C16_14, C16_15, C17_14, C17_15, C17_16, (fun a _ _ _ => nT e14 a), (fun _ _ _ _ => H), (fun a _ _ _ => nT e14 a), (fun _ a _ _ => nX e15 a), (fun _ a _ _ => nX e15 a), (fun _ a _ _ => nX e15 a)⟩
         ·
          have H := W3 e14 e15 e16 e17
          refine O.load sc3 rfl rfl rfl ((hp2.mono H.base).flat 0 _ rfl) ?_
          exact WL.nil ⟨b5, b6, hf1, hf2, hf5, hf6, hf9, hf10, hf27, hf28, hf29, hd0, hd1, hd2, hd3, hd4, hd5, hd6, hd7, (fun _ => rfl), hd9, hd10, hd11, hd12, hd13, hd14, hd15, C16_14, C16_15, C17_14, C17_15, C17_16, (fun a _ _ _ => nT e14 a), (fun _ a _ _ => nT e15 a), (fun a _ _ _ => nT e14 a), (fun _ _ _ _ => H), (fun _ _ a _ => nX e16 a), (fun _ _ a _ => nX e16 a)⟩
       ·
        rintro S f w hS ⟨e0, e1, e2, e3, e4, e5, e6, e7, e8, -⟩ ⟨e10, e11, e12, e13, e16, e17, -⟩ ⟨b5, b6, hf1, hf2, hf5, hf6, hf9, hf10, hf27, hf28, hf29, hd0, hd1, hd2, hd3, hd4, hd5, hd6, hd7, hd8, hd9, hd10, hd11, hd12, hd13, hd14, hd15, C16_14, C16_15, C17_14, C17_15, C17_16, W0, W1, W2, W3, W4, W5⟩
        have hf42 := hd0 e0
        have hf50 := hd8 e8
        obtain ⟨u13, rfl⟩ := up2 hf42 hf50
        rcases bool_ft (S 14) with e14 | e14
        ·
         rcases bool_ft (S 15) with e15 | e15
         ·
          have H := W0 e14 e15 e16 e17
          refine O.call Try.call71 rfl rfl rfl (c_sight_taken _ _ (GNet.mk a0.Rates a0.Sights) (H.arg ha0_0) (H.arg ha0_1) _ hy4) ?_
          rintro _ w9 hb7 rfl
          have H := H.ext hb7
          exact WL.nil ⟨b5, b6, hf1, hf2, hf5, hf6, hf9, hf10, hf27, hf28, hf29, hd0, hd1, hd2, hd3, hd4, hd5, hd6, hd7, hd8, (fun _ => rfl), hd10, hd11, hd12, hd13, hd14, hd15, C16_14, C16_15, C17_14, C17_15, C17_16, (fun _ _ _ _ => H), (fun a _ _ _ => nX e14 a), (fun _ a _ _ => nX e15 a), (fun a _ _ _ => nX e14 a), (fun a _ _ _ => nX e14 a), (fun a _ _ _ => nX e14 a)⟩
         ·
          have H := W2 e14 e15 e16 e17
          refine O.call Try.call71 rfl rfl rfl (c_sight_taken _ _ (GNet.mk a0.Rates a0.Sights) (H.arg ha0_0) (H.arg ha0_1) _ hy4) ?_
          rintro _ w9 hb7 rfl
          have H := H.ext hb7
          exact WL.nil ⟨b5, b6, hf1, hf2, hf5, hf6, hf9, hf10, hf27, hf28, hf29, hd0, hd1, hd2, hd3, hd4, hd5, hd6, hd7, hd8, (fun _ => rfl), hd10, hd11, hd12, hd13, hd14, hd15, C16_14, C16_15, C17_14, C17_15, C17_16, (fun _ a _ _ => nT e15 a), (fun a _ _ _ => nX e14 a), (fun _ _ _ _ => H), (fun a _ _ _ => nX e14 a), (fun a _ _ _ => nX e14 a), (fun a _ _ _ => nX e14 a)⟩
        ·
         rcases bool_ft (S 15) with e15 | e15
         ·
          have H := W1 e14 e15 e16 e17
          refine O.call Try.call71 rfl rfl rfl (c_sight_taken _ _ (GNet.mk a0.Rates a0.Sights) (H.arg ha0_0) (H.arg ha0_1) _ hy4) ?_
          rintro _ w9 hb7 rfl
          have H := H.ext hb7
          exact WL.nil ⟨b5, b6, hf1, hf2, hf5, hf6, hf9, hf10, hf27, hf28, hf29, hd0, hd1, hd2, hd3, hd4, hd5, hd6, hd7, hd8, (fun _ => rfl), hd10, hd11, hd12, hd13, hd14, hd15, C16_14, C16_15, C17_14, C17_15, C17_16, (fun a _ _ _ => nT e14 a), (fun _ _ _ _ => H), (fun a _ _ _ => nT e14 a), (fun _ a _ _ => nX e15 a), (fun _ a _ _ => nX e15 a), (fun _ a _ _ => nX e15 a)⟩
         ·
          have H := W3 e14 e15 e16 e17
          refine O.call Try.call71 rfl rfl rfl (c_sight_taken _ _ (GNet.mk a0.Rates a0.Sights) (H.arg ha0_0) (H.arg ha0_1) _ hy4) ?_
          rintro _ w9 hb7 rfl
          have H := H.ext hb7
          exact WL.nil ⟨b5, b6, hf1, hf2, hf5, hf6, hf9, hf10, hf27, hf28, hf29, hd0, hd1, hd2, hd3, hd4, hd5, hd6, hd7, hd8, (fun _ => rfl), hd10, hd11, hd12, hd13, hd14, hd15, C16_14, C16_15, C17_14, C17_15, C17_16, (fun a _ _ _ => nT e14 a), (fun _ a _ _ => nT e15 a), (fun a _ _ _ => nT e14 a), (fun _ _ _ _ => H), (fun _ _ a _ => nX e16 a), (fun _ _ a _ => nX e16 a)⟩
       ·
        rintro S f w hS ⟨e0, e1, e2, e3, e4, e5, e6, e7, e8, e9, -⟩ ⟨e11, e12, e13, e16, e17, -⟩ ⟨b5, b6, hf1, hf2, hf5, hf6, hf9, hf10, hf27, hf28, hf29, hd0, hd1, hd2, hd3, hd4, hd5, hd6, hd7, hd8, hd9, hd10, hd11, hd12, hd13, hd14, hd15, C16_14, C16_15, C17_14, C17_15, C17_16, W0, W1, W2, W3, W4, W5⟩
        have hf51 := hd9 e9
        obtain ⟨u14, rfl⟩ := up1 hf51
        rcases bool_ft (S 14) with e14 | e14
        ·
         rcases bool_ft (S 15) with e15 | e15
         ·
          have H := W0 e14 e15 e16 e17
          refine O.move (v := (.tuple #[(.agg (Flat.cells t8).toArray), (.agg (Flat.cells t9).toArray), (.int .i64 t10)])) rfl rfl rfl ?_
          exact WL.nil ⟨b5, b6, hf1, hf2, hf5, hf6, hf9, hf10, hf27, hf28, hf29, hd0, hd1, hd2, hd3, hd4, hd5, hd6, hd7, hd8, hd9, (fun _ => rfl), hd11, hd12, hd13, hd14, hd15, C16_14, C16_15, C17_14, C17_15, C17_16, (fun _ _ _ _ => H), (fun a _ _ _ => nX e14 a), (fun _ a _ _ => nX e15 a), (fun a _ _ _ => nX e14 a), (fun a _ _ _ => nX e14 a), (fun a _ _ _ => nX e14 a)⟩
         ·
          have H := W2 e14 e15 e16 e17
          refine O.move (v := (.tuple #[(.agg (Flat.cells t8).toArray), (.agg (Flat.cells t9).toArray), (.int .i64 t10)])) rfl rfl rfl ?_
          exact WL.nil ⟨b5, b6, hf1, hf2, hf5, hf6, hf9, hf10, hf27, hf28, hf29, hd0, hd1, hd2, hd3, hd4, hd5, hd6, hd7, hd8, hd9, (fun _ => rfl), hd11, hd12, hd13, hd14, hd15, C16_14, C16_15, C17_14, C17_15, C17_16, (fun _ a _ _ => nT e15 a), (fun a _ _ _ => nX e14 a), (fun _ _ _ _ => H), (fun a _ _ _ => nX e14 a), (fun a _ _ _ => nX e14 a), (fun a _ _ _ => nX e14 a)⟩
        ·
         rcases bool_ft (S 15) with e15 | e15
         ·
          have H := W1 e14 e15 e16 e17
          refine O.move (v := (.tuple #[(.agg (Flat.cells t8).toArray), (.agg (Flat.cells t9).toArray), (.int .i64 t10)])) rfl rfl rfl ?_
          exact WL.nil ⟨b5, b6, hf1, hf2, hf5, hf6, hf9, hf10, hf27, hf28, hf29, hd0, hd1, hd2, hd3, hd4, hd5, hd6, hd7, hd8, hd9, (fun _ => rfl), hd11, hd12, hd13, hd14, hd15, C16_14, C16_15, C17_14, C17_15, C17_16, (fun a _ _ _ => nT e14 a), (fun _ _ _ _ => H), (fun a _ _ _ => nT e14 a), (fun _ a _ _ => nX e15 a), (fun _ a _ _ => nX e15 a), (fun _ a _ _ => nX e15 a)⟩
         ·
          have H := W3 e14 e15 e16 e17
          refine O.move (v := (.tuple #[(.agg (Flat.cells t8).toArray), (.agg (Flat.cells t9).toArray), (.int .i64 t10)])) rfl rfl rfl ?_
          exact WL.nil ⟨b5, b6, hf1, hf2, hf5, hf6, hf9, hf10, hf27, hf28, hf29, hd0, hd1, hd2, hd3, hd4, hd5, hd6, hd7, hd8, hd9, (fun _ => rfl), hd11, hd12, hd13, hd14, hd15, C16_14, C16_15, C17_14, C17_15, C17_16, (fun a _ _ _ => nT e14 a), (fun _ a _ _ => nT e15 a), (fun a _ _ _ => nT e14 a), (fun _ _ _ _ => H), (fun _ _ a _ => nX e16 a), (fun _ _ a _ => nX e16 a)⟩
       ·
        rintro S f w hS ⟨e0, e1, e2, e3, e4, e5, e6, e7, e8, e9, e10, -⟩ ⟨e16, e17, -⟩ ⟨b5, b6, hf1, hf2, hf5, hf6, hf9, hf10, hf27, hf28, hf29, hd0, hd1, hd2, hd3, hd4, hd5, hd6, hd7, hd8, hd9, hd10, hd11, hd12, hd13, hd14, hd15, C16_14, C16_15, C17_14, C17_15, C17_16, W0, W1, W2, W3, W4, W5⟩
        have hf41 := hd10 e10
        obtain ⟨u15, rfl⟩ := up1 hf41
        rcases bool_ft (S 14) with e14 | e14
        ·
         rcases bool_ft (S 15) with e15 | e15
         ·
          have H := W0 e14 e15 e16 e17
          refine O.extract (v := (.agg (Flat.cells t8).toArray)) rfl rfl rfl rfl ?_
          exact WL.nil ⟨b5, b6, hf1, hf2, hf5, hf6, hf9, hf10, hf27, hf28, hf29, hd0, hd1, hd2, hd3, hd4, hd5, hd6, hd7, hd8, hd9, hd10, (fun _ => rfl), hd12, hd13, hd14, hd15, C16_14, C16_15, C17_14, C17_15, C17_16, (fun _ _ _ _ => H), (fun a _ _ _ => nX e14 a), (fun _ a _ _ => nX e15 a), (fun a _ _ _ => nX e14 a), (fun a _ _ _ => nX e14 a), (fun a _ _ _ => nX e14 a)⟩
         ·
          have H := W2 e14 e15 e16 e17
          refine O.extract (v := (.agg (Flat.cells t8).toArray)) rfl rfl rfl rfl ?_
          exact WL.nil ⟨b5, b6, hf1, hf2, hf5, hf6, hf9, hf10, hf27, hf28, hf29, hd0, hd1, hd2, hd3, hd4, hd5, hd6, hd7, hd8, hd9, hd10, (fun _ => rfl), hd12, hd13, hd14, hd15, C16_14, C16_15, C17_14, C17_15, C17_16, (fun _ a _ _ => nT e15 a), (fun a _ _ _ => nX e14 a), (fun _ _ _ _ => H), (fun a _ _ _ => nX e14 a), (fun a _ _ _ => nX e14 a), (fun a _ _ _ => nX e14 a)⟩
        ·
         rcases bool_ft (S 15) with e15 | e15
         ·
          have H := W1 e14 e15 e16 e17
          refine O.extract (v := (.agg (Flat.cells t8).toArray)) rfl rfl rfl rfl ?_
          exact WL.nil ⟨b5, b6, hf1, hf2, hf5, hf6, hf9, hf10, hf27, hf28, hf29, hd0, hd1, hd2, hd3, hd4, hd5, hd6, hd7, hd8, hd9, hd10, (fun _ => rfl), hd12, hd13, hd14, hd15, C16_14, C16_15, C17_14, C17_15, C17_16, (fun a _ _ _ => nT e14 a), (fun _ _ _ _ => H), (fun a _ _ _ => nT e14 a), (fun _ a _ _ => nX e15 a), (fun _ a _ _ => nX e15 a), (fun _ a _ _ => nX e15 a)⟩
         ·
          have H := W3 e14 e15 e16 e17
          refine O.extract (v := (.agg (Flat.cells t8).toArray)) rfl rfl rfl rfl ?_
          exact WL.nil ⟨b5, b6, hf1, hf2, hf5, hf6, hf9, hf10, hf27, hf28, hf29, hd0, hd1, hd2, hd3, hd4, hd5, hd6, hd7, hd8, hd9, hd10, (fun _ => rfl), hd12, hd13, hd14, hd15, C16_14, C16_15, C17_14, C17_15, C17_16, (fun a _ _ _ => nT e14 a), (fun _ a _ _ => nT e15 a), (fun a _ _ _ => nT e14 a), (fun _ _ _ _ => H), (fun _ _ a _ => nX e16 a), (fun _ _ a _ => nX e16 a)⟩
       ·
        rintro S f w hS ⟨e0, e1, e2, e3, e4, e5, e6, e7, e8, e9, e10, -⟩ ⟨e17, -⟩ ⟨b5, b6, hf1, hf2, hf5, hf6, hf9, hf10, hf27, hf28, hf29, hd0, hd1, hd2, hd3, hd4, hd5, hd6, hd7, hd8, hd9, hd10, hd11, hd12, hd13, hd14, hd15, C16_14, C16_15, C17_14, C17_15, C17_16, W0, W1, W2, W3, W4, W5⟩
        have hf41 := hd10 e10
        obtain ⟨u16, rfl⟩ := up1 hf41
        rcases bool_ft (S 14) with e14 | e14
        ·
         rcases bool_ft (S 15) with e15 | e15
         ·
          rcases bool_ft (S 16) with e16 | e16
          ·
           have H := W0 e14 e15 e16 e17
           refine O.extract (v := (.agg (Flat.cells t9).toArray)) rfl rfl rfl rfl ?_
           exact WL.nil ⟨b5, b6, hf1, hf2, hf5, hf6, hf9, hf10, hf27, hf28, hf29, hd0, hd1, hd2, hd3, hd4, hd5, hd6, hd7, hd8, hd9, hd10, hd11, (fun _ => rfl), hd13, hd14, hd15, C16_14, C16_15, C17_14, C17_15, C17_16, (fun _ _ _ _ => H), (fun a _ _ _ => nX e14 a), (fun _ a _ _ => nX e15 a), (fun a _ _ _ => nX e14 a), (fun a _ _ _ => nX e14 a), (fun a _ _ _ => nX e14 a)⟩
          ·
           exact nomatch (show true = false from (C16_14 e16).symm.trans e14)
         ·
          rcases bool_ft (S 16) with e16 | e16
          ·
           have H := W2 e14 e15 e16 e17
           refine O.extract (v := (.agg (Flat.cells t9).toArray)) rfl rfl rfl rfl ?_
           exact WL.nil ⟨b5, b6, hf1, hf2, hf5, hf6, hf9, hf10, hf27, hf28, hf29, hd0, hd1, hd2, hd3, hd4, hd5, hd6, hd7, hd8, hd9, hd10, hd11, (fun _ => rfl), hd13, hd14, hd15, C16_14, C16_15, C17_14, C17_15, C17_16, (fun _ a _ _ => nT e15 a), (fun a _ _ _ => nX e14 a), (fun _ _ _ _ => H), (fun a _ _ _ => nX e14 a), (fun a _ _ _ => nX e14 a), (fun a _ _ _ => nX e14 a)⟩
          ·
           exact nomatch (show true = false from (C16_14 e16).symm.trans e14)
        ·
         rcases bool_ft (S 15) with e15 | e15
         ·
          rcases bool_ft (S 16) with e16 | e16
          ·
           have H := W1 e14 e15 e16 e17
           refine O.extract (v := (.agg (Flat.cells t9).toArray)) rfl rfl rfl rfl ?_
           exact WL.nil ⟨b5, b6, hf1, hf2, hf5, hf6, hf9, hf10, hf27, hf28, hf29, hd0, hd1, hd2, hd3, hd4, hd5, hd6, hd7, hd8, hd9, hd10, hd11, (fun _ => rfl), hd13, hd14, hd15, C16_14, C16_15, C17_14, C17_15, C17_16, (fun a _ _ _ => nT e14 a), (fun _ _ _ _ => H), (fun a _ _ _ => nT e14 a), (fun _ a _ _ => nX e15 a), (fun _ a _ _ => nX e15 a), (fun _ a _ _ => nX e15 a)⟩
          ·
           exact nomatch (show true = false from (C16_15 e16).symm.trans e15)
         ·
          rcases bool_ft (S 16) with e16 | e16
          ·
           have H := W3 e14 e15 e16 e17
           refine O.extract (v := (.agg (Flat.cells t9).toArray)) rfl rfl rfl rfl ?_
           exact WL.nil ⟨b5, b6, hf1, hf2, hf5, hf6, hf9, hf10, hf27, hf28, hf29, hd0, hd1, hd2, hd3, hd4, hd5, hd6, hd7, hd8, hd9, hd10, hd11, (fun _ => rfl), hd13, hd14, hd15, C16_14, C16_15, C17_14, C17_15, C17_16, (fun a _ _ _ => nT e14 a), (fun _ a _ _ => nT e15 a), (fun a _ _ _ => nT e14 a), (fun _ _ _ _ => H), (fun _ _ a _ => nX e16 a), (fun _ _ a _ => nX e16 a)⟩
          ·
           have H := W4 e14 e15 e16 e17
           refine O.extract (v := (.agg (Flat.cells t9).toArray)) rfl rfl rfl rfl ?_
           exact WL.nil ⟨b5, b6, hf1, hf2, hf5, hf6, hf9, hf10, hf27, hf28, hf29, hd0, hd1, hd2, hd3, hd4, hd5, hd6, hd7, hd8, hd9, hd10, hd11, (fun _ => rfl), hd13, hd14, hd15, C16_14, C16_15, C17_14, C17_15, C17_16, (fun a _ _ _ => nT e14 a), (fun _ a _ _ => nT e15 a), (fun a _ _ _ => nT e14 a), (fun _ _ a _ => nT e16 a), (fun _ _ _ _ => H), (fun _ _ _ a => nX e17 a)⟩
       ·
        rintro S f w hS ⟨e0, e1, e2, e3, e4, e5, e6, e7, e8, e9, e10, -⟩ - ⟨b5, b6, hf1, hf2, hf5, hf6, hf9, hf10, hf27, hf28, hf29, hd0, hd1, hd2, hd3, hd4, hd5, hd6, hd7, hd8, hd9, hd10, hd11, hd12, hd13, hd14, hd15, C16_14, C16_15, C17_14, C17_15, C17_16, W0, W1, W2, W3, W4, W5⟩
        have hf41 := hd10 e10
        obtain ⟨u17, rfl⟩ := up1 hf41
        rcases bool_ft (S 14) with e14 | e14
        ·
         rcases bool_ft (S 15) with e15 | e15
         ·
          rcases bool_ft (S 16) with e16 | e16
          ·
           rcases bool_ft (S 17) with e17 | e17
           ·
            have H := W0 e14 e15 e16 e17
            refine O.extract (v := (.int .i64 t10)) rfl rfl rfl rfl ?_
            exact WL.nil ⟨b5, b6, hf1, hf2, hf5, hf6, hf9, hf10, hf27, hf28, hf29, hd0, hd1, hd2, hd3, hd4, hd5, hd6, hd7, hd8, hd9, hd10, hd11, hd12, (fun _ => rfl), hd14, hd15, C16_14, C16_15, C17_14, C17_15, C17_16, (fun _ _ _ _ => H), (fun a _ _ _ => nX e14 a), (fun _ a _ _ => nX e15 a), (fun a _ _ _ => nX e14 a), (fun a _ _ _ => nX e14 a), (fun a _ _ _ => nX e14 a)⟩
           ·
            exact nomatch (show true = false from (C17_14 e17).symm.trans e14)
          ·
           rcases bool_ft (S 17) with e17 | e17
           ·
            exact nomatch (show true = false from (C16_14 e16).symm.trans e14)
           ·
            exact nomatch (show true = false from (C16_14 e16).symm.trans e14)
         ·
          rcases bool_ft (S 16) with e16 | e16
          ·
           rcases bool_ft (S 17) with e17 | e17
           ·
            have H := W2 e14 e15 e16 e17
            refine O.extract (v := (.int .i64 t10)) rfl rfl rfl rfl ?_
            exact WL.nil ⟨b5, b6, hf1, hf2, hf5, hf6, hf9, hf10, hf27, hf28, hf29, hd0, hd1, hd2, hd3, hd4, hd5, hd6, hd7, hd8, hd9, hd10, hd11, hd12, (fun _ => rfl), hd14, hd15, C16_14, C16_15, C17_14, C17_15, C17_16, (fun _ a _ _ => nT e15 a), (fun a _ _ _ => nX e14 a), (fun _ _ _ _ => H), (fun a _ _ _ => nX e14 a), (fun a _ _ _ => nX e14 a), (fun a _ _ _ => nX e14 a)⟩
           ·
            exact nomatch (show true = false from (C17_14 e17).symm.trans e14)
          ·
           rcases bool_ft (S 17) with e17 | e17
           ·
            exact nomatch (show true = false from (C16_14 e16).symm.trans e14)
           ·
            exact nomatch (show true = false from (C16_14 e16).symm.trans e14)
        ·
         rcases bool_ft (S 15) with e15 | e15
         ·
          rcases bool_ft (S 16) with e16 | e16
          ·
           rcases bool_ft (S 17) with e17 | e17
           ·
            have H := W1 e14 e15 e16 e17
            refine O.extract (v := (.int .i64 t10)) rfl rfl rfl rfl ?_
            exact WL.nil ⟨b5, b6, hf1, hf2, hf5, hf6, hf9, hf10, hf27, hf28, hf29, hd0, hd1, hd2, hd3, hd4, hd5, hd6, hd7, hd8, hd9, hd10, hd11, hd12, (fun _ => rfl), hd14, hd15, C16_14, C16_15, C17_14, C17_15, C17_16, (fun a _ _ _ => nT e14 a), (fun _ _ _ _ => H), (fun a _ _ _ => nT e14 a), (fun _ a _ _ => nX e15 a), (fun _ a _ _ => nX e15 a), (fun _ a _ _ => nX e15 a)⟩
           ·
            exact nomatch (show true = false from (C17_15 e17).symm.trans e15)
          ·
           rcases bool_ft (S 17) with e17 | e17
           ·
            exact nomatch (show true = false from (C16_15 e16).symm.trans e15)
           ·
            exact nomatch (show true = false from (C16_15 e16).symm.trans e15)
         ·
          rcases bool_ft (S 16) with e16 | e16
          ·
           rcases bool_ft (S 17) with e17 | e17
           ·
            have H := W3 e14 e15 e16 e17
            refine O.extract (v := (.int .i64 t10)) rfl rfl rfl rfl ?_
            exact WL.nil ⟨b5, b6, hf1, hf2, hf5, hf6, hf9, hf10, hf27, hf28, hf29, hd0, hd1, hd2, hd3, hd4, hd5, hd6, hd7, hd8, hd9, hd10, hd11, hd12, (fun _ => rfl), hd14, hd15, C16_14, C16_15, C17_14, C17_15, C17_16, (fun a _ _ _ => nT e14 a), (fun _ a _ _ => nT e15 a), (fun a _ _ _ => nT e14 a), (fun _ _ _ _ => H), (fun _ _ a _ => nX e16 a), (fun _ _ a _ => nX e16 a)⟩
           ·
            exact nomatch (show true = false from (C17_16 e17).symm.trans e16)
          ·
           rcases bool_ft (S 17) with e17 | e17
           ·
            have H := W4 e14 e15 e16 e17
            refine O.extract (v := (.int .i64 t10)) rfl rfl rfl rfl ?_
            exact WL.nil ⟨b5, b6, hf1, hf2, hf5, hf6, hf9, hf10, hf27, hf28, hf29, hd0, hd1, hd2, hd3, hd4, hd5, hd6, hd7, hd8, hd9, hd10, hd11, hd12, (fun _ => rfl), hd14, hd15, C16_14, C16_15, C17_14, C17_15, C17_16, (fun a _ _ _ => nT e14 a), (fun _ a _ _ => nT e15 a), (fun a _ _ _ => nT e14 a), (fun _ _ a _ => nT e16 a), (fun _ _ _ _ => H), (fun _ _ _ a => nX e17 a)⟩
           ·
            have H := W5 e14 e15 e16 e17
            refine O.extract (v := (.int .i64 t10)) rfl rfl rfl rfl ?_
            exact WL.nil ⟨b5, b6, hf1, hf2, hf5, hf6, hf9, hf10, hf27, hf28, hf29, hd0, hd1, hd2, hd3, hd4, hd5, hd6, hd7, hd8, hd9, hd10, hd11, hd12, (fun _ => rfl), hd14, hd15, C16_14, C16_15, C17_14, C17_15, C17_16, (fun a _ _ _ => nT e14 a), (fun _ a _ _ => nT e15 a), (fun a _ _ _ => nT e14 a), (fun _ _ a _ => nT e16 a), (fun _ _ _ a => nT e17 a), (fun _ _ _ _ => H)⟩
       ·
        rintro S f w hS - ⟨e16, e17, -⟩ ⟨_, b6, hf1, hf2, hf5, hf6, hf9, hf10, hf27, hf28, hf29, hd0, hd1, hd2, hd3, hd4, hd5, hd6, hd7, hd8, hd9, hd10, hd11, hd12, hd13, hd14, hd15, C16_14, C16_15, C17_14, C17_15, C17_16, W0, W1, W2, W3, W4, W5⟩
        rcases bool_ft (S 15) with e15 | e15
        ·
         have H := W0 hS e15 e16 e17
         refine O.alloc [(.int .i64 0), (.int .i64 0)] ze87 H rfl rfl rfl ?_
         intro b5 w10 H hb8
         refine WL.nil ?_
         have H := H.pick [0, 1, 2, 5, 4] [boxI b1 25 [va0_0, va0_1], boxI b3 87 [(.int .i64 t3.clock), (.int .i64 t3.at_)], boxI b4 87 [(.int .i64 t4.clock), (.int .i64 t4.at_)], boxI b5 87 [(.int .i64 0), (.int .i64 0)], goneI] rfl (by decide)
         exact ⟨b5, b6, hf1, hf2, hf5, hf6, hf9, hf10, hf27, hf28, hf29, hd0, hd1, hd2, hd3, hd4, hd5, hd6, hd7, hd8, hd9, hd10, hd11, hd12, hd13, (fun _ => rfl), hd15, (fun _ => rfl), C16_15, (fun _ => rfl), C17_15, C17_16, (fun a _ _ _ => nG a), (fun _ _ _ _ => H), (fun a _ _ _ => nG a), (fun _ a _ _ => nX e15 a), (fun _ a _ _ => nX e15 a), (fun _ a _ _ => nX e15 a)⟩
        ·
         have H := W2 hS e15 e16 e17
         refine O.alloc [(.int .i64 0), (.int .i64 0)] ze87 H rfl rfl rfl ?_
         intro b5 w10 H hb8
         refine WL.nil ?_
         have H := H.pick [0, 1, 2, 5, 4] [boxI b1 25 [va0_0, va0_1], boxI b3 87 [(.int .i64 t3.clock), (.int .i64 t3.at_)], boxI b4 87 [(.int .i64 t4.clock), (.int .i64 t4.at_)], boxI b5 87 [(.int .i64 0), (.int .i64 0)], boxI b6 87 [(.int .i64 0), (.int .i64 0)]] rfl (by decide)
         exact ⟨b5, b6, hf1, hf2, hf5, hf6, hf9, hf10, hf27, hf28, hf29, hd0, hd1, hd2, hd3, hd4, hd5, hd6, hd7, hd8, hd9, hd10, hd11, hd12, hd13, (fun _ => rfl), hd15, (fun _ => rfl), C16_15, (fun _ => rfl), C17_15, C17_16, (fun a _ _ _ => nG a), (fun _ a _ _ => nT e15 a), (fun a _ _ _ => nG a), (fun _ _ _ _ => H), (fun _ _ a _ => nX e16 a), (fun _ _ a _ => nX e16 a)⟩
       ·
        rintro S f w hS - ⟨e16, e17, -⟩ ⟨b5, _, hf1, hf2, hf5, hf6, hf9, hf10, hf27, hf28, hf29, hd0, hd1, hd2, hd3, hd4, hd5, hd6, hd7, hd8, hd9, hd10, hd11, hd12, hd13, hd14, hd15, C16_14, C16_15, C17_14, C17_15, C17_16, W0, W1, W2, W3, W4, W5⟩
        rcases bool_ft (S 14) with e14 | e14
        ·
         have H := W0 e14 hS e16 e17
         refine O.alloc [(.int .i64 0), (.int .i64 0)] ze87 H rfl rfl rfl ?_
         intro b6 w11 H hb9
         refine WL.nil ?_
         have H := H.pick [0, 1, 2, 3, 5] [boxI b1 25 [va0_0, va0_1], boxI b3 87 [(.int .i64 t3.clock), (.int .i64 t3.at_)], boxI b4 87 [(.int .i64 t4.clock), (.int .i64 t4.at_)], goneI, boxI b6 87 [(.int .i64 0), (.int .i64 0)]] rfl (by decide)
         exact ⟨b5, b6, hf1, hf2, hf5, hf6, hf9, hf10, hf27, hf28, hf29, hd0, hd1, hd2, hd3, hd4, hd5, hd6, hd7, hd8, hd9, hd10, hd11, hd12, hd13, hd14, (fun _ => rfl), C16_14, (fun _ => rfl), C17_14, (fun _ => rfl), C17_16, (fun _ a _ _ => nG a), (fun a _ _ _ => nX e14 a), (fun _ _ _ _ => H), (fun a _ _ _ => nX e14 a), (fun a _ _ _ => nX e14 a), (fun a _ _ _ => nX e14 a)⟩
        ·
         have H := W1 e14 hS e16 e17
         refine O.alloc [(.int .i64 0), (.int .i64 0)] ze87 H rfl rfl rfl ?_
         intro b6 w11 H hb9
         refine WL.nil ?_
         have H := H.pick [0, 1, 2, 3, 5] [boxI b1 25 [va0_0, va0_1], boxI b3 87 [(.int .i64 t3.clock), (.int .i64 t3.at_)], boxI b4 87 [(.int .i64 t4.clock), (.int .i64 t4.at_)], boxI b5 87 [(.int .i64 0), (.int .i64 0)], boxI b6 87 [(.int .i64 0), (.int .i64 0)]] rfl (by decide)
         exact ⟨b5, b6, hf1, hf2, hf5, hf6, hf9, hf10, hf27, hf28, hf29, hd0, hd1, hd2, hd3, hd4, hd5, hd6, hd7, hd8, hd9, hd10, hd11, hd12, hd13, hd14, (fun _ => rfl), C16_14, (fun _ => rfl), C17_14, (fun _ => rfl), C17_16, (fun a _ _ _ => nT e14 a), (fun _ a _ _ => nG a), (fun a _ _ _ => nT e14 a), (fun _ _ _ _ => H), (fun _ _ a _ => nX e16 a), (fun _ _ a _ => nX e16 a)⟩
       ·
        rintro S f w hS ⟨e0, e1, e2, e3, e4, e5, e6, e7, e8, e9, e10, e11, e14, e15, -⟩ ⟨e17, -⟩ ⟨b5, b6, hf1, hf2, hf5, hf6, hf9, hf10, hf27, hf28, hf29, hd0, hd1, hd2, hd3, hd4, hd5, hd6, hd7, hd8, hd9, hd10, hd11, hd12, hd13, hd14, hd15, C16_14, C16_15, C17_14, C17_15, C17_16, W0, W1, W2, W3, W4, W5⟩
        have hf11 := hd14 e14
        have hf52 := hd11 e11
        obtain ⟨u18, rfl⟩ := up2 hf11 hf52
        have H := W3 e14 e15 hS e17
        refine O.store 3 0 [(.int .i64 t8.clock), (.int .i64 t8.at_)] [(.int .i64 t8.clock), (.int .i64 t8.at_)] sz87 H rfl rfl rfl rfl rfl rfl ⟨⟨rfl, rfl⟩, rfl⟩ (one_cons rfl (one_cons rfl one_nil)) ?_
        intro w12 H
        exact WL.nil ⟨b5, b6, hf1, hf2, hf5, hf6, hf9, hf10, hf27, hf28, hf29, hd0, hd1, hd2, hd3, hd4, hd5, hd6, hd7, hd8, hd9, hd10, hd11, hd12, hd13, hd14, hd15, (fun _ => e14), (fun _ => e15), C17_14, C17_15, (fun _ => rfl), (fun a _ _ _ => nT e14 a), (fun _ a _ _ => nT e15 a), (fun a _ _ _ => nT e14 a), (fun _ _ a _ => nG a), (fun _ _ _ _ => H), (fun _ _ _ a => nX e17 a)⟩
       ·
        rintro S f w hS ⟨e0, e1, e2, e3, e4, e5, e6, e7, e8, e9, e10, e11, e12, e14, e15, e16, -⟩ - ⟨b5, b6, hf1, hf2, hf5, hf6, hf9, hf10, hf27, hf28, hf29, hd0, hd1, hd2, hd3, hd4, hd5, hd6, hd7, hd8, hd9, hd10, hd11, hd12, hd13, hd14, hd15, C16_14, C16_15, C17_14, C17_15, C17_16, W0, W1, W2, W3, W4, W5⟩
        have hf12 := hd15 e15
        have hf53 := hd12 e12
        obtain ⟨u19, rfl⟩ := up2 hf12 hf53
        have H := W4 e14 e15 e16 hS
        refine O.store 4 0 [(.int .i64 t9.clock), (.int .i64 t9.at_)] [(.int .i64 t9.clock), (.int .i64 t9.at_)] sz87 H rfl rfl rfl rfl rfl rfl ⟨⟨rfl, rfl⟩, rfl⟩ (one_cons rfl (one_cons rfl one_nil)) ?_
        intro w13 H
        exact WL.nil ⟨b5, b6, hf1, hf2, hf5, hf6, hf9, hf10, hf27, hf28, hf29, hd0, hd1, hd2, hd3, hd4, hd5, hd6, hd7, hd8, hd9, hd10, hd11, hd12, hd13, hd14, hd15, C16_14, C16_15, (fun _ => e14), (fun _ => e15), (fun _ => e16), (fun a _ _ _ => nT e14 a), (fun _ a _ _ => nT e15 a), (fun a _ _ _ => nT e14 a), (fun _ _ a _ => nT e16 a), (fun _ _ _ a => nG a), (fun _ _ _ _ => H)⟩
      ·
       rintro S f w ⟨e0, e1, e2, e3, e4, e5, e6, e7, e8, e9, e10, e11, e12, e13, e14, e15, e16, e17, -⟩ ⟨b5, b6, hf1, hf2, hf5, hf6, hf9, hf10, hf27, hf28, hf29, hd0, hd1, hd2, hd3, hd4, hd5, hd6, hd7, hd8, hd9, hd10, hd11, hd12, hd13, hd14, hd15, C16_14, C16_15, C17_14, C17_15, C17_16, W0, W1, W2, W3, W4, W5⟩
       have hf11 := hd14 e14
       have hf54 := hd13 e13
       have H := W5 e14 e15 e16 e17
       obtain ⟨u20, rfl⟩ : ∃ u20, f = (upd (upd (upd (upd (upd (upd (upd (upd (upd (upd u20 1 va1) 2 (.pointer (some ⟨b1, 0, none⟩))) 5 (.int .i64 z2)) 9 (.pointer (some ⟨b4, 0, none⟩))) 10 (.int .i64 t5)) 11 (.pointer (some ⟨b5, 0, none⟩))) 27 va1) 28 (.int .i64 ((a1.length : Nat) : Int))) 29 (.int .i64 (ik1 : Int))) 54 (.int .i64 t10)) := ⟨f, by rw [upd_self hf1, upd_self hf2, upd_self hf5, upd_self hf9, upd_self hf10, upd_self hf11, upd_self hf27, upd_self hf28, upd_self hf29, upd_self hf54]⟩
       refine O.assign (v := (.int .i64 t10)) rfl rfl rfl ?_
       refine WL.nil ?_
       refine W.seq ?_
       refine W.seq ?_
       refine W.region ?_
       refine O.fieldAddr fd87_0 rfl rfl rfl ?_
       refine O.load sc3 rfl rfl rfl (H.cell 2 rfl 0 _ rfl) ?_
       refine O.fieldAddr fd87_0 rfl rfl rfl ?_
       refine O.load sc3 rfl rfl rfl (H.cell 3 rfl 0 _ rfl) ?_
       refine O.neq rfl rfl rfl rfl ?_
       refine WL.nil ?_
       rcases ite_some hm3 with ⟨hc4, hm3⟩ | ⟨hc4, hm3⟩
       ·
        refine W.cond_true (congrArg Value.bool hc4) ?_
        refine W.seq ?_
        refine W.region ?_
        refine O.assign (v := (.bool false)) rfl rfl rfl ?_
        refine WL.nil ?_
        refine W.ret ?_
        obtain rfl := Option.some.inj hm3
        refine ⟨_, rfl, ?_⟩
        rintro rfl
        have hq : false = r0 := Option.some.inj (show some false = some r0 from hm)
        subst hq
        exact ends1 Try.results28 rfl ⟨_, rfl, H.base, rfl⟩
       ·
        refine W.cond_false (congrArg Value.bool hc4) ?_
        refine W.skip ?_
        refine W.region ?_
        refine O.move (v := (.int .i64 z2)) rfl rfl rfl ?_
        refine O.move (v := (.int .i64 t5)) rfl rfl rfl ?_
        refine O.loadA [va0_0, va0_1] ag25 rfl rfl rfl rfl (H.cell 0 rfl) ?_
        refine O.fieldAddr fd87_0 rfl rfl rfl ?_
        refine O.load sc3 rfl rfl rfl (H.cell 2 rfl 0 _ rfl) ?_
        refine O.fieldAddr fd87_1 rfl rfl rfl ?_
        refine O.load sc3 rfl rfl rfl (H.cell 2 rfl 1 _ rfl) ?_
        refine O.fieldAddr fd87_1 rfl rfl rfl ?_
        refine O.load sc3 rfl rfl rfl (H.cell 3 rfl 1 _ rfl) ?_
        obtain ⟨t11, ht11, hm3⟩ := bind_some hm3
        refine O.sub rfl rfl rfl rfl ht11 ?_
        obtain ⟨t12, hy5, hm3⟩ := bind_some hm3
        refine O.call Try.call72 rfl rfl rfl (c_sight_carry _ _ (GNet.mk a0.Rates a0.Sights) (H.arg ha0_0) (H.arg ha0_1) _ _ hy5) ?_
        rintro _ w14 hb10 rfl
        have H := H.ext hb10
        obtain ⟨t13, ht13, hm3⟩ := bind_some hm3
        refine O.add rfl rfl rfl rfl ht13 ?_
        obtain ⟨t14, ht14, hm3⟩ := bind_some hm3
        refine O.add rfl rfl rfl rfl ht14 ?_
        refine O.assign (v := (.int .i64 t14)) rfl rfl rfl ?_
        refine WL.nil ?_
        refine W.region ?_
        refine O.add rfl rfl rfl rfl hinck1 ?_
        refine O.move (v := .int .i64 ((ik1 : Int) + 1)) rfl rfl rfl ?_
        refine WL.nil ?_
        have H := H.keep [0] [boxI b1 25 [va0_0, va0_1]] rfl (by decide)
        obtain rfl := Option.some.inj hm3
        exact ⟨_, rfl, _, rfl, rangeN_next hdropk1, rfl, rfl, rfl, rfl, rfl, rfl, H⟩
     ·
      rintro ik1 _ f w ⟨z2, rfl, hdropk1, hf29, hf28, hf1, hf2, hf5, hf27, H⟩ hfin
      have hltk1 := rangeN_end hdropk1
      obtain ⟨u21, rfl⟩ := up6 hf29 hf28 hf1 hf2 hf5 hf27
      refine W.seq ?_
      refine W.region ?_
      refine O.lss rfl rfl rfl rfl ?_
      refine WL.nil ?_
      refine W.seq ?_
      refine W.cond_false (congrArg Value.bool (decide_eq_false hltk1)) ?_
      refine W.exit ?_
      obtain rfl : Ctl.next z2 = o1 := hfin
      have H := H.keep [] [] rfl (by decide)
      refine xT rfl ?_
      exact ⟨_, rfl, rfl, H⟩
    ·
     rintro f w ⟨s1, rfl, hf5, H⟩
     obtain ⟨u22, rfl⟩ := up1 hf5
     refine W.seq ?_
     refine W.region ?_
     refine O.move (v := (.int .i64 s1)) rfl rfl rfl ?_
     refine O.lss rfl rfl rfl rfl ?_
     refine O.assign (v := (.bool (decide (s1 < 0)))) rfl rfl rfl ?_
     refine WL.nil ?_
     refine W.ret ?_
     have hq : (decide (s1 < 0)) = r0 := Option.some.inj (show some (decide (s1 < 0)) = some r0 from hm)
     subst hq
     exact ends1 Try.results28 rfl ⟨_, rfl, H.base, rfl⟩

set_option maxRecDepth 20000 in
theorem c_noongunlaw02_awake {w0 : World}  {r0 : Bool} (hm : noongunlaw02_awake  = some r0) :
  Calls Try.prog 15 #[] w0 (Ret w0 fun _ v => v = (.bool r0)) := by
 unfold noongunlaw02_awake at hm
 refine calls_of_W Try.func15 rfl Try.ntmps15 (Nat.le_of_ble_eq_true rfl) ?_
 have H := Inv.start (w := w0)
 refine W.seq ?_
 refine W.region ?_
 refine O.assign (v := (.bool false)) rfl rfl rfl ?_
 refine WL.nil ?_
 refine W.seq ?_
 refine W.region ?_
 obtain ⟨t1, hy1, hm⟩ := bind_some hm
 refine O.call Try.call53 rfl rfl rfl (c_noongunlaw02_two  hy1) ?_
 rintro _ w1 hb1 ⟨v1, v2, rfl, ho1⟩
 have H := H.addAll hb1 ho1
 refine O.alloc [(.slice none 0 0), (.slice none 0 0)] ze25 H rfl rfl rfl ?_
 intro b1 w2 H hb2
 have H := H.addNil (α := Int) (E := 3)
 have H := H.addNil (α := GSight) (E := 39)
 refine O.store 2 0 [v1, v2] [v1, v2] sz25 H rfl rfl rfl rfl rfl rfl ⟨⟨rfl, rfl⟩, rfl⟩ (one_cons (SliceR.one (H.own 0 rfl)) (one_cons (SliceR.one (H.own 1 rfl)) one_nil)) ?_
 intro w3 H
 refine WL.nil ?_
 refine W.seq ?_
 refine W.region ?_
 refine O.loadA [v1, v2] ag25 rfl rfl rfl rfl (H.cell 2 rfl) ?_
 obtain ⟨⟨t2, t3⟩, hy2, hm⟩ := bind_some hm
 refine O.call Try.call20 rfl rfl rfl (c_sight_Consistent _ _ (GNet.mk t1.Rates t1.Sights) (H.own 0 rfl) (H.own 1 rfl) hy2) ?_
 rintro _ w4 hb3 rfl
 have H := H.ext hb3
 refine O.move (v := (.tuple #[(.bool t2), (.int .i64 t3)])) rfl rfl rfl ?_
 refine O.extract (v := (.bool t2)) rfl rfl rfl rfl ?_
 refine O.extract (v := (.int .i64 t3)) rfl rfl rfl rfl ?_
 refine O.assign (v := (.bool t2)) rfl rfl rfl ?_
 refine O.assign (v := (.int .i64 t3)) rfl rfl rfl ?_
 refine WL.nil ?_
 refine W.seq ?_
 refine W.region ?_
 refine O.fieldAddr fd25_1 rfl rfl rfl ?_
 refine O.load sc23 rfl rfl rfl (H.cell 2 rfl 1 _ rfl) ?_
 obtain ⟨t4, ht4, hm⟩ := bind_some hm
 refine O.sliceHs Try.underlying23 sz39 (H.own 1 rfl) ht4 rfl rfl rfl rfl ?_
 intro v3 hs1
 refine O.fieldAddr fd25_1 rfl rfl rfl ?_
 refine O.store 2 1 [v3] [v1, v3] sz23 H rfl rfl rfl rfl rfl (SliceR.cells1 (hs1 _ (H.own 1 rfl))) ⟨⟨rfl, rfl⟩, rfl⟩ (one_cons (SliceR.one (hs1 _ (H.own 1 rfl))) one_nil) ?_
 intro w5 H
 refine WL.nil ?_
 refine W.seq ?_
 refine W.region ?_
 refine O.loadA [v1, v3] ag25 rfl rfl rfl rfl (H.cell 2 rfl) ?_
 obtain ⟨⟨t5, t6⟩, hy3, hm⟩ := bind_some hm
 refine O.call Try.call21 rfl rfl rfl (c_sight_Error _ _ (GNet.mk t1.Rates t4) (H.own 0 rfl) (hs1 _ (H.own 1 rfl)) _ _ hy3) ?_
 rintro _ w6 hb4 rfl
 have H := H.ext hb4
 refine O.move (v := (.tuple #[(.agg (Flat.cells t5).toArray), (.int .i64 t6)])) rfl rfl rfl ?_
 refine O.extract (v := (.agg (Flat.cells t5).toArray)) rfl rfl rfl rfl ?_
 refine O.extract (v := (.int .i64 t6)) rfl rfl rfl rfl ?_
 refine O.alloc [(.int .i64 0), (.int .i64 0)] ze30 H rfl rfl rfl ?_
 intro b2 w7 H hb5
 refine O.store 5 0 [(.int .i64 t5.Lo), (.int .i64 t5.Hi)] [(.int .i64 t5.Lo), (.int .i64 t5.Hi)] sz30 H rfl rfl rfl rfl rfl rfl ⟨⟨rfl, rfl⟩, rfl⟩ (one_cons rfl (one_cons rfl one_nil)) ?_
 intro w8 H
 refine O.assign (v := (.int .i64 t6)) rfl rfl rfl ?_
 refine WL.nil ?_
 refine W.seq ?_
 refine W.region ?_
 refine O.move (v := (.int .i64 t3)) rfl rfl rfl ?_
 refine O.eql rfl rfl rfl rfl ?_
 refine O.move (v := (.bool (t3 == 0))) rfl rfl rfl ?_
 refine WL.cut 3 (fun f w => f 4 = (.pointer (some ⟨b2, 0, none⟩)) ∧ f 5 = (.int .i64 t6) ∧ f 26 = .bool ((t3 == 0) && (!t2)) ∧ Inv w0 w [ownI (α := Int) v1 3 t1.Rates, ownI (α := GSight) v2 39 t1.Sights, boxI b1 25 [v1, v3], ownI (α := Int) (.slice none 0 0) 3 ([] : List Int), ownI (α := GSight) (.slice none 0 0) 39 ([] : List GSight), boxI b2 30 [(.int .i64 t5.Lo), (.int .i64 t5.Hi)]]) ?_ ?_
 ·
  rcases bool_ft (t3 == 0) with hc1 | hc1
  ·
   refine WL.reset (i := 23) (v := .bool false) (congrArg Value.bool hc1) ?_
   refine O.skip rfl rfl ?_
   refine O.skip rfl rfl ?_
   refine O.pick_false (v := (.bool false)) rfl rfl rfl rfl ?_
   exact WL.nil ⟨rfl, rfl, congrArg Value.bool (and_f hc1), H⟩
  ·
   refine WL.reset (i := 23) (v := .bool true) (congrArg Value.bool hc1) ?_
   refine O.move (v := (.bool t2)) rfl rfl rfl ?_
   refine O.not rfl rfl rfl ?_
   refine O.pick_true (v := (.bool (!t2))) rfl rfl rfl rfl ?_
   exact WL.nil ⟨rfl, rfl, congrArg Value.bool (and_t hc1), H⟩
 ·
  rintro f w ⟨hf4, hf5, hf26, H⟩
  obtain ⟨u1, rfl⟩ := up3 hf4 hf5 hf26
  refine O.move (v := (.bool ((t3 == 0) && (!t2)))) rfl rfl rfl ?_
  obtain ⟨b3, hm1, hm⟩ := bind_some hm
  refine WL.cut 4 (fun f w => f 4 = (.pointer (some ⟨b2, 0, none⟩)) ∧ f 5 = (.int .i64 t6) ∧ f 31 = .bool b3 ∧ Inv w0 w [ownI (α := Int) v1 3 t1.Rates, ownI (α := GSight) v2 39 t1.Sights, boxI b1 25 [v1, v3], ownI (α := Int) (.slice none 0 0) 3 ([] : List Int), ownI (α := GSight) (.slice none 0 0) 39 ([] : List GSight), boxI b2 30 [(.int .i64 t5.Lo), (.int .i64 t5.Hi)]]) ?_ ?_
  ·
   rcases ite_some hm1 with ⟨hc2, hm1⟩ | ⟨hc2, hm1⟩
   ·
    refine WL.reset (i := 27) (v := .bool true) (congrArg Value.bool hc2) ?_
    obtain ⟨t7, hy4, hm1⟩ := bind_some hm1
    refine O.call Try.call53 rfl rfl rfl (c_noongunlaw02_two  hy4) ?_
    rintro _ w9 hb6 ⟨v4, v5, rfl, ho2⟩
    have H := H.addAll hb6 ho2
    refine O.buildSlice (α := Int) [(.int .i64 0), (.int .i64 3)] [0, 3] Try.underlying22 el3 H rfl rfl rfl rfl rfl rfl rfl ?_
    intro v6 w10 H hb7
    obtain ⟨t8, hy5, hm1⟩ := bind_some hm1
    refine O.call Try.call28 rfl rfl rfl (c_sight_Proves _ _ t7 (H.own 6 rfl) (H.own 7 rfl) _ _ (H.own 8 rfl) hy5) ?_
    rintro _ w11 hb8 rfl
    have H := H.ext hb8
    refine O.pick_true (v := (.bool t8)) rfl rfl rfl rfl ?_
    refine WL.nil ?_
    have H := H.keep [0, 1, 2, 3, 4, 5] [ownI (α := Int) v1 3 t1.Rates, ownI (α := GSight) v2 39 t1.Sights, boxI b1 25 [v1, v3], ownI (α := Int) (.slice none 0 0) 3 ([] : List Int), ownI (α := GSight) (.slice none 0 0) 39 ([] : List GSight), boxI b2 30 [(.int .i64 t5.Lo), (.int .i64 t5.Hi)]] rfl (by decide)
    have hq : t8 = b3 := Option.some.inj (show some t8 = some b3 from hm1)
    subst hq
    exact ⟨rfl, rfl, rfl, H⟩
   ·
    refine WL.reset (i := 27) (v := .bool false) (congrArg Value.bool hc2) ?_
    refine O.skip rfl rfl ?_
    refine O.skip rfl rfl ?_
    refine O.skip rfl rfl ?_
    refine O.pick_false (v := (.bool false)) rfl rfl rfl rfl ?_
    refine WL.nil ?_
    have hq : false = b3 := Option.some.inj (show some false = some b3 from hm1)
    subst hq
    exact ⟨rfl, rfl, rfl, H⟩
  ·
   rintro f w ⟨hf4, hf5, hf31, H⟩
   obtain ⟨u2, rfl⟩ := up3 hf4 hf5 hf31
   refine O.move (v := (.bool b3)) rfl rfl rfl ?_
   refine WL.cut 3 (fun f w => f 4 = (.pointer (some ⟨b2, 0, none⟩)) ∧ f 35 = .bool (b3 && (t6 == 0)) ∧ Inv w0 w [ownI (α := Int) v1 3 t1.Rates, ownI (α := GSight) v2 39 t1.Sights, boxI b1 25 [v1, v3], ownI (α := Int) (.slice none 0 0) 3 ([] : List Int), ownI (α := GSight) (.slice none 0 0) 39 ([] : List GSight), boxI b2 30 [(.int .i64 t5.Lo), (.int .i64 t5.Hi)]]) ?_ ?_
   ·
    rcases bool_ft b3 with hc3 | hc3
    ·
     refine WL.reset (i := 32) (v := .bool false) (congrArg Value.bool hc3) ?_
     refine O.skip rfl rfl ?_
     refine O.skip rfl rfl ?_
     refine O.pick_false (v := (.bool false)) rfl rfl rfl rfl ?_
     exact WL.nil ⟨rfl, congrArg Value.bool (and_f hc3), H⟩
    ·
     refine WL.reset (i := 32) (v := .bool true) (congrArg Value.bool hc3) ?_
     refine O.move (v := (.int .i64 t6)) rfl rfl rfl ?_
     refine O.eql rfl rfl rfl rfl ?_
     refine O.pick_true (v := (.bool (t6 == 0))) rfl rfl rfl rfl ?_
     exact WL.nil ⟨rfl, congrArg Value.bool (and_t hc3), H⟩
   ·
    rintro f w ⟨hf4, hf35, H⟩
    obtain ⟨u3, rfl⟩ := up2 hf4 hf35
    refine O.move (v := (.bool (b3 && (t6 == 0)))) rfl rfl rfl ?_
    refine WL.cut 4 (fun f w => f 40 = .bool ((b3 && (t6 == 0)) && (t5 == (GSpan.mk 90 110))) ∧ Inv w0 w [ownI (α := Int) v1 3 t1.Rates, ownI (α := GSight) v2 39 t1.Sights, boxI b1 25 [v1, v3], ownI (α := Int) (.slice none 0 0) 3 ([] : List Int), ownI (α := GSight) (.slice none 0 0) 39 ([] : List GSight), boxI b2 30 [(.int .i64 t5.Lo), (.int .i64 t5.Hi)]]) ?_ ?_
    ·
     rcases bool_ft (b3 && (t6 == 0)) with hc4 | hc4
     ·
      refine WL.reset (i := 36) (v := .bool false) (congrArg Value.bool hc4) ?_
      refine O.skip rfl rfl ?_
      refine O.skip rfl rfl ?_
      refine O.skip rfl rfl ?_
      refine O.pick_false (v := (.bool false)) rfl rfl rfl rfl ?_
      exact WL.nil ⟨congrArg Value.bool (and_f hc4), H⟩
     ·
      refine WL.reset (i := 36) (v := .bool true) (congrArg Value.bool hc4) ?_
      refine O.loadA [(.int .i64 t5.Lo), (.int .i64 t5.Hi)] ag30 rfl rfl rfl rfl (H.cell 5 rfl) ?_
      refine O.build (v := (.agg (Flat.cells (GSpan.mk 90 110)).toArray)) (fun w => bd30_0_1 _ _ w) rfl rfl rfl ?_
      refine O.eqlSt t5 (GSpan.mk 90 110) eq30 rfl rfl rfl rfl ?_
      refine O.pick_true (v := (.bool (t5 == (GSpan.mk 90 110)))) rfl rfl rfl rfl ?_
      exact WL.nil ⟨congrArg Value.bool (and_t hc4), H⟩
    ·
     rintro f w ⟨hf40, H⟩
     obtain ⟨u4, rfl⟩ := up1 hf40
     refine O.assign (v := (.bool ((b3 && (t6 == 0)) && (t5 == (GSpan.mk 90 110))))) rfl rfl rfl ?_
     refine WL.nil ?_
     refine W.ret ?_
     have hq : ((b3 && (t6 == 0)) && (t5 == (GSpan.mk 90 110))) = r0 := Option.some.inj (show some ((b3 && (t6 == 0)) && (t5 == (GSpan.mk 90 110))) = some r0 from hm)
     subst hq
     exact ends1 Try.results15 rfl ⟨_, rfl, H.base, rfl⟩

theorem c_noongunref02_within {w0 : World} (a0 : Int) (a1 : Int) (a2 : Int) {r0 : Bool} (hm : noongunref02_within a0 a1 a2 = some r0) :
  Calls Try.prog 59 #[(.int .i64 a0), (.int .i64 a1), (.int .i64 a2)] w0 (Ret w0 fun _ v => v = (.bool r0)) := by
 unfold noongunref02_within at hm
 refine calls_of_W Try.func59 rfl Try.ntmps59 (Nat.le_of_ble_eq_true rfl) ?_
 have H := Inv.start (w := w0)
 refine W.seq ?_
 refine W.region ?_
 refine O.assign (v := (.bool false)) rfl rfl rfl ?_
 refine WL.nil ?_
 refine W.seq ?_
 refine W.region ?_
 refine O.move (v := (.int .i64 a0)) rfl rfl rfl ?_
 refine O.move (v := (.int .i64 a1)) rfl rfl rfl ?_
 refine O.geq rfl rfl rfl rfl ?_
 refine O.move (v := (.bool (decide (a1 ≤ a0)))) rfl rfl rfl ?_
 refine WL.cut 4 (fun f w => f 14 = .bool ((decide (a1 ≤ a0)) && (decide (a0 ≤ a2))) ∧ Inv w0 w []) ?_ ?_
 ·
  rcases bool_ft (decide (a1 ≤ a0)) with hc1 | hc1
  ·
   refine WL.reset (i := 10) (v := .bool false) (congrArg Value.bool hc1) ?_
   refine O.skip rfl rfl ?_
   refine O.skip rfl rfl ?_
   refine O.skip rfl rfl ?_
   refine O.pick_false (v := (.bool false)) rfl rfl rfl rfl ?_
   exact WL.nil ⟨congrArg Value.bool (and_f hc1), H⟩
  ·
   refine WL.reset (i := 10) (v := .bool true) (congrArg Value.bool hc1) ?_
   refine O.move (v := (.int .i64 a0)) rfl rfl rfl ?_
   refine O.move (v := (.int .i64 a2)) rfl rfl rfl ?_
   refine O.leq rfl rfl rfl rfl ?_
   refine O.pick_true (v := (.bool (decide (a0 ≤ a2)))) rfl rfl rfl rfl ?_
   exact WL.nil ⟨congrArg Value.bool (and_t hc1), H⟩
 ·
  rintro f w ⟨hf14, H⟩
  obtain ⟨u1, rfl⟩ := up1 hf14
  refine O.assign (v := (.bool ((decide (a1 ≤ a0)) && (decide (a0 ≤ a2))))) rfl rfl rfl ?_
  refine WL.nil ?_
  refine W.ret ?_
  have hq : ((decide (a1 ≤ a0)) && (decide (a0 ≤ a2))) = r0 := Option.some.inj (show some ((decide (a1 ≤ a0)) && (decide (a0 ≤ a2))) = some r0 from hm)
  subst hq
  exact ends1 Try.results59 rfl ⟨_, rfl, H.base, rfl⟩

set_option maxRecDepth 20000 in
theorem c_noongunref02_ValidSight {w0 : World} (a0 : GSight) (a1 : Int) {r0 : Bool} (hm : noongunref02_ValidSight a0 a1 = some r0) :
  Calls Try.prog 60 #[(.agg (Flat.cells a0).toArray), (.int .i64 a1)] w0 (Ret w0 fun _ v => v = (.bool r0)) := by
 unfold noongunref02_ValidSight at hm
 refine calls_of_W Try.func60 rfl Try.ntmps60 (Nat.le_of_ble_eq_true rfl) ?_
 have H := Inv.start (w := w0)
 refine W.seq ?_
 refine W.region ?_
 refine O.box [(.int .i64 a0.At), (.int .i64 a0.A), (.int .i64 a0.B), (.int .i64 a0.Lo), (.int .i64 a0.Hi)] H rfl rfl rfl rfl ?_
 intro b1 w1 H hb1
 refine O.assign (v := (.bool false)) rfl rfl rfl ?_
 refine WL.nil ?_
 refine W.seq ?_
 refine W.region ?_
 refine O.fieldAddr fd39_0 rfl rfl rfl ?_
 refine O.load sc3 rfl rfl rfl (H.cell 0 rfl 0 _ rfl) ?_
 obtain ⟨t1, hy1, hm⟩ := bind_some hm
 refine O.call Try.call59 rfl rfl rfl (c_noongunref02_within _ _ _ hy1) ?_
 rintro _ w2 hb2 rfl
 have H := H.ext hb2
 refine O.move (v := (.bool t1)) rfl rfl rfl ?_
 refine WL.cut 4 (fun f w => f 1 = (.int .i64 a1) ∧ f 2 = (.pointer (some ⟨b1, 0, none⟩)) ∧ f 12 = .bool (t1 && (decide (0 ≤ a0.A))) ∧ Inv w0 w [boxI b1 39 [(.int .i64 a0.At), (.int .i64 a0.A), (.int .i64 a0.B), (.int .i64 a0.Lo), (.int .i64 a0.Hi)]]) ?_ ?_
 ·
  rcases bool_ft t1 with hc1 | hc1
  ·
   refine WL.reset (i := 8) (v := .bool false) (congrArg Value.bool hc1) ?_
   refine O.skip rfl rfl ?_
   refine O.skip rfl rfl ?_
   refine O.skip rfl rfl ?_
   refine O.pick_false (v := (.bool false)) rfl rfl rfl rfl ?_
   exact WL.nil ⟨rfl, rfl, congrArg Value.bool (and_f hc1), H⟩
  ·
   refine WL.reset (i := 8) (v := .bool true) (congrArg Value.bool hc1) ?_
   refine O.fieldAddr fd39_1 rfl rfl rfl ?_
   refine O.load sc3 rfl rfl rfl (H.cell 0 rfl 1 _ rfl) ?_
   refine O.geq rfl rfl rfl rfl ?_
   refine O.pick_true (v := (.bool (decide (0 ≤ a0.A)))) rfl rfl rfl rfl ?_
   exact WL.nil ⟨rfl, rfl, congrArg Value.bool (and_t hc1), H⟩
 ·
  rintro f w ⟨hf1, hf2, hf12, H⟩
  obtain ⟨u1, rfl⟩ := up3 hf1 hf2 hf12
  refine O.move (v := (.bool (t1 && (decide (0 ≤ a0.A))))) rfl rfl rfl ?_
  refine WL.cut 5 (fun f w => f 1 = (.int .i64 a1) ∧ f 2 = (.pointer (some ⟨b1, 0, none⟩)) ∧ f 18 = .bool ((t1 && (decide (0 ≤ a0.A))) && (decide (a0.A < a1))) ∧ Inv w0 w [boxI b1 39 [(.int .i64 a0.At), (.int .i64 a0.A), (.int .i64 a0.B), (.int .i64 a0.Lo), (.int .i64 a0.Hi)]]) ?_ ?_
  ·
   rcases bool_ft (t1 && (decide (0 ≤ a0.A))) with hc2 | hc2
   ·
    refine WL.reset (i := 13) (v := .bool false) (congrArg Value.bool hc2) ?_
    refine O.skip rfl rfl ?_
    refine O.skip rfl rfl ?_
    refine O.skip rfl rfl ?_
    refine O.skip rfl rfl ?_
    refine O.pick_false (v := (.bool false)) rfl rfl rfl rfl ?_
    exact WL.nil ⟨rfl, rfl, congrArg Value.bool (and_f hc2), H⟩
   ·
    refine WL.reset (i := 13) (v := .bool true) (congrArg Value.bool hc2) ?_
    refine O.fieldAddr fd39_1 rfl rfl rfl ?_
    refine O.load sc3 rfl rfl rfl (H.cell 0 rfl 1 _ rfl) ?_
    refine O.move (v := (.int .i64 a1)) rfl rfl rfl ?_
    refine O.lss rfl rfl rfl rfl ?_
    refine O.pick_true (v := (.bool (decide (a0.A < a1)))) rfl rfl rfl rfl ?_
    exact WL.nil ⟨rfl, rfl, congrArg Value.bool (and_t hc2), H⟩
  ·
   rintro f w ⟨hf1, hf2, hf18, H⟩
   obtain ⟨u2, rfl⟩ := up3 hf1 hf2 hf18
   refine O.move (v := (.bool ((t1 && (decide (0 ≤ a0.A))) && (decide (a0.A < a1))))) rfl rfl rfl ?_
   refine WL.cut 4 (fun f w => f 1 = (.int .i64 a1) ∧ f 2 = (.pointer (some ⟨b1, 0, none⟩)) ∧ f 23 = .bool (((t1 && (decide (0 ≤ a0.A))) && (decide (a0.A < a1))) && (decide (0 ≤ a0.B))) ∧ Inv w0 w [boxI b1 39 [(.int .i64 a0.At), (.int .i64 a0.A), (.int .i64 a0.B), (.int .i64 a0.Lo), (.int .i64 a0.Hi)]]) ?_ ?_
   ·
    rcases bool_ft ((t1 && (decide (0 ≤ a0.A))) && (decide (a0.A < a1))) with hc3 | hc3
    ·
     refine WL.reset (i := 19) (v := .bool false) (congrArg Value.bool hc3) ?_
     refine O.skip rfl rfl ?_
     refine O.skip rfl rfl ?_
     refine O.skip rfl rfl ?_
     refine O.pick_false (v := (.bool false)) rfl rfl rfl rfl ?_
     exact WL.nil ⟨rfl, rfl, congrArg Value.bool (and_f hc3), H⟩
    ·
     refine WL.reset (i := 19) (v := .bool true) (congrArg Value.bool hc3) ?_
     refine O.fieldAddr fd39_2 rfl rfl rfl ?_
     refine O.load sc3 rfl rfl rfl (H.cell 0 rfl 2 _ rfl) ?_
     refine O.geq rfl rfl rfl rfl ?_
     refine O.pick_true (v := (.bool (decide (0 ≤ a0.B)))) rfl rfl rfl rfl ?_
     exact WL.nil ⟨rfl, rfl, congrArg Value.bool (and_t hc3), H⟩
   ·
    rintro f w ⟨hf1, hf2, hf23, H⟩
    obtain ⟨u3, rfl⟩ := up3 hf1 hf2 hf23
    refine O.move (v := (.bool (((t1 && (decide (0 ≤ a0.A))) && (decide (a0.A < a1))) && (decide (0 ≤ a0.B))))) rfl rfl rfl ?_
    refine WL.cut 5 (fun f w => f 2 = (.pointer (some ⟨b1, 0, none⟩)) ∧ f 29 = .bool ((((t1 && (decide (0 ≤ a0.A))) && (decide (a0.A < a1))) && (decide (0 ≤ a0.B))) && (decide (a0.B < a1))) ∧ Inv w0 w [boxI b1 39 [(.int .i64 a0.At), (.int .i64 a0.A), (.int .i64 a0.B), (.int .i64 a0.Lo), (.int .i64 a0.Hi)]]) ?_ ?_
    ·
     rcases bool_ft (((t1 && (decide (0 ≤ a0.A))) && (decide (a0.A < a1))) && (decide (0 ≤ a0.B))) with hc4 | hc4
     ·
      refine WL.reset (i := 24) (v := .bool false) (congrArg Value.bool hc4) ?_
      refine O.skip rfl rfl ?_
      refine O.skip rfl rfl ?_
      refine O.skip rfl rfl ?_
      refine O.skip rfl rfl ?_
      refine O.pick_false (v := (.bool false)) rfl rfl rfl rfl ?_
      exact WL.nil ⟨rfl, congrArg Value.bool (and_f hc4), H⟩
     ·
      refine WL.reset (i := 24) (v := .bool true) (congrArg Value.bool hc4) ?_
      refine O.fieldAddr fd39_2 rfl rfl rfl ?_
      refine O.load sc3 rfl rfl rfl (H.cell 0 rfl 2 _ rfl) ?_
      refine O.move (v := (.int .i64 a1)) rfl rfl rfl ?_
      refine O.lss rfl rfl rfl rfl ?_
      refine O.pick_true (v := (.bool (decide (a0.B < a1)))) rfl rfl rfl rfl ?_
      exact WL.nil ⟨rfl, congrArg Value.bool (and_t hc4), H⟩
    ·
     rintro f w ⟨hf2, hf29, H⟩
     obtain ⟨u4, rfl⟩ := up2 hf2 hf29
     refine O.move (v := (.bool ((((t1 && (decide (0 ≤ a0.A))) && (decide (a0.A < a1))) && (decide (0 ≤ a0.B))) && (decide (a0.B < a1))))) rfl rfl rfl ?_
     refine WL.cut 6 (fun f w => f 2 = (.pointer (some ⟨b1, 0, none⟩)) ∧ f 36 = .bool (((((t1 && (decide (0 ≤ a0.A))) && (decide (a0.A < a1))) && (decide (0 ≤ a0.B))) && (decide (a0.B < a1))) && (a0.A != a0.B)) ∧ Inv w0 w [boxI b1 39 [(.int .i64 a0.At), (.int .i64 a0.A), (.int .i64 a0.B), (.int .i64 a0.Lo), (.int .i64 a0.Hi)]]) ?_ ?_
     ·
      rcases bool_ft ((((t1 && (decide (0 ≤ a0.A))) && (decide (a0.A < a1))) && (decide (0 ≤ a0.B))) && (decide (a0.B < a1))) with hc5 | hc5
      ·
       refine WL.reset (i := 30) (v := .bool false) (congrArg Value.bool hc5) ?_
       refine O.skip rfl rfl ?_
       refine O.skip rfl rfl ?_
       refine O.skip rfl rfl ?_
       refine O.skip rfl rfl ?_
       refine O.skip rfl rfl ?_
       refine O.pick_false (v := (.bool false)) rfl rfl rfl rfl ?_
       exact WL.nil ⟨rfl, congrArg Value.bool (and_f hc5), H⟩
      ·
       refine WL.reset (i := 30) (v := .bool true) (congrArg Value.bool hc5) ?_
       refine O.fieldAddr fd39_1 rfl rfl rfl ?_
       refine O.load sc3 rfl rfl rfl (H.cell 0 rfl 1 _ rfl) ?_
       refine O.fieldAddr fd39_2 rfl rfl rfl ?_
       refine O.load sc3 rfl rfl rfl (H.cell 0 rfl 2 _ rfl) ?_
       refine O.neq rfl rfl rfl rfl ?_
       refine O.pick_true (v := (.bool (a0.A != a0.B))) rfl rfl rfl rfl ?_
       exact WL.nil ⟨rfl, congrArg Value.bool (and_t hc5), H⟩
     ·
      rintro f w ⟨hf2, hf36, H⟩
      obtain ⟨u5, rfl⟩ := up2 hf2 hf36
      refine O.move (v := (.bool (((((t1 && (decide (0 ≤ a0.A))) && (decide (a0.A < a1))) && (decide (0 ≤ a0.B))) && (decide (a0.B < a1))) && (a0.A != a0.B)))) rfl rfl rfl ?_
      refine WL.cut 4 (fun f w => f 2 = (.pointer (some ⟨b1, 0, none⟩)) ∧ f 41 = .bool ((((((t1 && (decide (0 ≤ a0.A))) && (decide (a0.A < a1))) && (decide (0 ≤ a0.B))) && (decide (a0.B < a1))) && (a0.A != a0.B)) && (decide ((-86400000) ≤ a0.Lo))) ∧ Inv w0 w [boxI b1 39 [(.int .i64 a0.At), (.int .i64 a0.A), (.int .i64 a0.B), (.int .i64 a0.Lo), (.int .i64 a0.Hi)]]) ?_ ?_
      ·
       rcases bool_ft (((((t1 && (decide (0 ≤ a0.A))) && (decide (a0.A < a1))) && (decide (0 ≤ a0.B))) && (decide (a0.B < a1))) && (a0.A != a0.B)) with hc6 | hc6
       ·
        refine WL.reset (i := 37) (v := .bool false) (congrArg Value.bool hc6) ?_
        refine O.skip rfl rfl ?_
        refine O.skip rfl rfl ?_
        refine O.skip rfl rfl ?_
        refine O.pick_false (v := (.bool false)) rfl rfl rfl rfl ?_
        exact WL.nil ⟨rfl, congrArg Value.bool (and_f hc6), H⟩
       ·
        refine WL.reset (i := 37) (v := .bool true) (congrArg Value.bool hc6) ?_
        refine O.fieldAddr fd39_3 rfl rfl rfl ?_
        refine O.load sc3 rfl rfl rfl (H.cell 0 rfl 3 _ rfl) ?_
        refine O.leq rfl rfl rfl rfl ?_
        refine O.pick_true (v := (.bool (decide ((-86400000) ≤ a0.Lo)))) rfl rfl rfl rfl ?_
        exact WL.nil ⟨rfl, congrArg Value.bool (and_t hc6), H⟩
      ·
       rintro f w ⟨hf2, hf41, H⟩
       obtain ⟨u6, rfl⟩ := up2 hf2 hf41
       refine O.move (v := (.bool ((((((t1 && (decide (0 ≤ a0.A))) && (decide (a0.A < a1))) && (decide (0 ≤ a0.B))) && (decide (a0.B < a1))) && (a0.A != a0.B)) && (decide ((-86400000) ≤ a0.Lo))))) rfl rfl rfl ?_
       refine WL.cut 6 (fun f w => f 2 = (.pointer (some ⟨b1, 0, none⟩)) ∧ f 48 = .bool (((((((t1 && (decide (0 ≤ a0.A))) && (decide (a0.A < a1))) && (decide (0 ≤ a0.B))) && (decide (a0.B < a1))) && (a0.A != a0.B)) && (decide ((-86400000) ≤ a0.Lo))) && (decide (a0.Lo ≤ a0.Hi))) ∧ Inv w0 w [boxI b1 39 [(.int .i64 a0.At), (.int .i64 a0.A), (.int .i64 a0.B), (.int .i64 a0.Lo), (.int .i64 a0.Hi)]]) ?_ ?_
       ·
        rcases bool_ft ((((((t1 && (decide (0 ≤ a0.A))) && (decide (a0.A < a1))) && (decide (0 ≤ a0.B))) && (decide (a0.B < a1))) && (a0.A != a0.B)) && (decide ((-86400000) ≤ a0.Lo))) with hc7 | hc7
        ·
         refine WL.reset (i := 42) (v := .bool false) (congrArg Value.bool hc7) ?_
         refine O.skip rfl rfl ?_
         refine O.skip rfl rfl ?_
         refine O.skip rfl rfl ?_
         refine O.skip rfl rfl ?_
         refine O.skip rfl rfl ?_
         refine O.pick_false (v := (.bool false)) rfl rfl rfl rfl ?_
         exact WL.nil ⟨rfl, congrArg Value.bool (and_f hc7), H⟩
        ·
         refine WL.reset (i := 42) (v := .bool true) (congrArg Value.bool hc7) ?_
         refine O.fieldAddr fd39_3 rfl rfl rfl ?_
         refine O.load sc3 rfl rfl rfl (H.cell 0 rfl 3 _ rfl) ?_
         refine O.fieldAddr fd39_4 rfl rfl rfl ?_
         refine O.load sc3 rfl rfl rfl (H.cell 0 rfl 4 _ rfl) ?_
         refine O.leq rfl rfl rfl rfl ?_
         refine O.pick_true (v := (.bool (decide (a0.Lo ≤ a0.Hi)))) rfl rfl rfl rfl ?_
         exact WL.nil ⟨rfl, congrArg Value.bool (and_t hc7), H⟩
       ·
        rintro f w ⟨hf2, hf48, H⟩
        obtain ⟨u7, rfl⟩ := up2 hf2 hf48
        refine O.move (v := (.bool (((((((t1 && (decide (0 ≤ a0.A))) && (decide (a0.A < a1))) && (decide (0 ≤ a0.B))) && (decide (a0.B < a1))) && (a0.A != a0.B)) && (decide ((-86400000) ≤ a0.Lo))) && (decide (a0.Lo ≤ a0.Hi))))) rfl rfl rfl ?_
        refine WL.cut 4 (fun f w => f 53 = .bool ((((((((t1 && (decide (0 ≤ a0.A))) && (decide (a0.A < a1))) && (decide (0 ≤ a0.B))) && (decide (a0.B < a1))) && (a0.A != a0.B)) && (decide ((-86400000) ≤ a0.Lo))) && (decide (a0.Lo ≤ a0.Hi))) && (decide (a0.Hi ≤ 86400000))) ∧ Inv w0 w [boxI b1 39 [(.int .i64 a0.At), (.int .i64 a0.A), (.int .i64 a0.B), (.int .i64 a0.Lo), (.int .i64 a0.Hi)]]) ?_ ?_
        ·
         rcases bool_ft (((((((t1 && (decide (0 ≤ a0.A))) && (decide (a0.A < a1))) && (decide (0 ≤ a0.B))) && (decide (a0.B < a1))) && (a0.A != a0.B)) && (decide ((-86400000) ≤ a0.Lo))) && (decide (a0.Lo ≤ a0.Hi))) with hc8 | hc8
         ·
          refine WL.reset (i := 49) (v := .bool false) (congrArg Value.bool hc8) ?_
          refine O.skip rfl rfl ?_
          refine O.skip rfl rfl ?_
          refine O.skip rfl rfl ?_
          refine O.pick_false (v := (.bool false)) rfl rfl rfl rfl ?_
          exact WL.nil ⟨congrArg Value.bool (and_f hc8), H⟩
         ·
          refine WL.reset (i := 49) (v := .bool true) (congrArg Value.bool hc8) ?_
          refine O.fieldAddr fd39_4 rfl rfl rfl ?_
          refine O.load sc3 rfl rfl rfl (H.cell 0 rfl 4 _ rfl) ?_
          refine O.leq rfl rfl rfl rfl ?_
          refine O.pick_true (v := (.bool (decide (a0.Hi ≤ 86400000)))) rfl rfl rfl rfl ?_
          exact WL.nil ⟨congrArg Value.bool (and_t hc8), H⟩
        ·
         rintro f w ⟨hf53, H⟩
         obtain ⟨u8, rfl⟩ := up1 hf53
         refine O.assign (v := (.bool ((((((((t1 && (decide (0 ≤ a0.A))) && (decide (a0.A < a1))) && (decide (0 ≤ a0.B))) && (decide (a0.B < a1))) && (a0.A != a0.B)) && (decide ((-86400000) ≤ a0.Lo))) && (decide (a0.Lo ≤ a0.Hi))) && (decide (a0.Hi ≤ 86400000))))) rfl rfl rfl ?_
         refine WL.nil ?_
         refine W.ret ?_
         have hq : ((((((((t1 && (decide (0 ≤ a0.A))) && (decide (a0.A < a1))) && (decide (0 ≤ a0.B))) && (decide (a0.B < a1))) && (a0.A != a0.B)) && (decide ((-86400000) ≤ a0.Lo))) && (decide (a0.Lo ≤ a0.Hi))) && (decide (a0.Hi ≤ 86400000))) = r0 := Option.some.inj (show some ((((((((t1 && (decide (0 ≤ a0.A))) && (decide (a0.A < a1))) && (decide (0 ≤ a0.B))) && (decide (a0.B < a1))) && (a0.A != a0.B)) && (decide ((-86400000) ≤ a0.Lo))) && (decide (a0.Lo ≤ a0.Hi))) && (decide (a0.Hi ≤ 86400000))) = some r0 from hm)
         subst hq
         exact ends1 Try.results60 rfl ⟨_, rfl, H.base, rfl⟩

set_option maxRecDepth 20000 in
theorem c_noongunref02_Valid {w0 : World} (va0_0 : Value) (va0_1 : Value) (a0 : GNet) (ha0_0 : SliceR w0 va0_0 a0.Rates) (ha0_1 : SliceR w0 va0_1 a0.Sights) {r0 : Bool} (hm : noongunref02_Valid a0 = some r0) :
  Calls Try.prog 18 #[(.agg #[va0_0, va0_1])] w0 (Ret w0 fun _ v => v = (.bool r0)) := by
 unfold noongunref02_Valid at hm
 refine calls_of_W Try.func18 rfl Try.ntmps18 (Nat.le_of_ble_eq_true rfl) ?_
 have H := Inv.start (w := w0)
 refine W.seq ?_
 refine W.region ?_
 refine O.box [va0_0, va0_1] H rfl rfl rfl rfl ?_
 intro b1 w1 H hb1
 refine O.assign (v := (.bool false)) rfl rfl rfl ?_
 refine WL.nil ?_
 refine W.seq ?_
 refine W.seq ?_
 refine W.region ?_
 refine O.fieldAddr fd25_0 rfl rfl rfl ?_
 refine O.load sc22 rfl rfl rfl (H.cell 0 rfl 0 _ rfl) ?_
 refine O.lenS Try.underlying22 (H.arg ha0_0) rfl rfl rfl ?_
 obtain ⟨t1, hy1, hm⟩ := bind_some hm
 refine O.call Try.call59 rfl rfl rfl (c_noongunref02_within _ _ _ hy1) ?_
 rintro _ w2 hb2 rfl
 have H := H.ext hb2
 refine O.not rfl rfl rfl ?_
 refine O.move (v := (.bool (!t1))) rfl rfl rfl ?_
 obtain ⟨b2, hm1, hm⟩ := bind_some hm
 refine WL.cut 6 (fun f w => f 1 = (.pointer (some ⟨b1, 0, none⟩)) ∧ f 18 = .bool b2 ∧ Inv w0 w [boxI b1 25 [va0_0, va0_1]]) ?_ ?_
 ·
  rcases ite_some hm1 with ⟨hc1, hm1⟩ | ⟨hc1, hm1⟩
  ·
   refine WL.reset (i := 12) (v := .bool true) (congrArg Value.bool hc1) ?_
   refine O.skip rfl rfl ?_
   refine O.skip rfl rfl ?_
   refine O.skip rfl rfl ?_
   refine O.skip rfl rfl ?_
   refine O.skip rfl rfl ?_
   refine O.pick_true (v := (.bool true)) rfl rfl rfl rfl ?_
   refine WL.nil ?_
   have hq : true = b2 := Option.some.inj (show some true = some b2 from hm1)
   subst hq
   exact ⟨rfl, rfl, H⟩
  ·
   refine WL.reset (i := 12) (v := .bool false) (congrArg Value.bool hc1) ?_
   refine O.fieldAddr fd25_0 rfl rfl rfl ?_
   refine O.load sc22 rfl rfl rfl (H.cell 0 rfl 0 _ rfl) ?_
   obtain ⟨x1, hx1, hm1⟩ := bind_some hm1
   obtain ⟨p1, hp1, hrp1⟩ := fix_indexAddr Try.underlying22 sz3 ha0_0 hx1
   refine hrp1 rfl rfl rfl rfl ?_
   refine O.load sc3 rfl rfl rfl ((hp1.mono H.base).flat 0 _ rfl) ?_
   refine O.neq rfl rfl rfl rfl ?_
   refine O.pick_false (v := (.bool (x1 != 0))) rfl rfl rfl rfl ?_
   refine WL.nil ?_
   have hq : (x1 != 0) = b2 := Option.some.inj (show some (x1 != 0) = some b2 from hm1)
   subst hq
   exact ⟨rfl, rfl, H⟩
 ·
  rintro f w ⟨hf1, hf18, H⟩
  obtain ⟨u1, rfl⟩ := up2 hf1 hf18
  refine O.move (v := (.bool b2)) rfl rfl rfl ?_
  refine WL.cut 5 (fun f w => f 1 = (.pointer (some ⟨b1, 0, none⟩)) ∧ f 24 = .bool (b2 || (decide (30 < ((a0.Sights.length : Nat) : Int)))) ∧ Inv w0 w [boxI b1 25 [va0_0, va0_1]]) ?_ ?_
  ·
   rcases bool_ft b2 with hc2 | hc2
   ·
    refine WL.reset (i := 19) (v := .bool false) (congrArg Value.bool hc2) ?_
    refine O.fieldAddr fd25_1 rfl rfl rfl ?_
    refine O.load sc23 rfl rfl rfl (H.cell 0 rfl 1 _ rfl) ?_
    refine O.lenS Try.underlying23 (H.arg ha0_1) rfl rfl rfl ?_
    refine O.gtr rfl rfl rfl rfl ?_
    refine O.pick_false (v := (.bool (decide (30 < ((a0.Sights.length : Nat) : Int))))) rfl rfl rfl rfl ?_
    exact WL.nil ⟨rfl, congrArg Value.bool (or_f hc2), H⟩
   ·
    refine WL.reset (i := 19) (v := .bool true) (congrArg Value.bool hc2) ?_
    refine O.skip rfl rfl ?_
    refine O.skip rfl rfl ?_
    refine O.skip rfl rfl ?_
    refine O.skip rfl rfl ?_
    refine O.pick_true (v := (.bool true)) rfl rfl rfl rfl ?_
    exact WL.nil ⟨rfl, congrArg Value.bool (or_t hc2), H⟩
  ·
   rintro f w ⟨hf1, hf24, H⟩
   obtain ⟨u2, rfl⟩ := up2 hf1 hf24
   refine WL.nil ?_
   rcases ite_some hm with ⟨hc3, hm⟩ | ⟨hc3, hm⟩
   ·
    refine W.cond_true (congrArg Value.bool hc3) ?_
    refine W.seq ?_
    refine W.region ?_
    refine O.assign (v := (.bool false)) rfl rfl rfl ?_
    refine WL.nil ?_
    refine W.ret ?_
    have hq : false = r0 := Option.some.inj (show some false = some r0 from hm)
    subst hq
    exact ends1 Try.results18 rfl ⟨_, rfl, H.base, rfl⟩
   ·
    refine W.cond_false (congrArg Value.bool hc3) ?_
    refine W.skip ?_
    refine W.seq ?_
    refine W.seq ?_
    refine W.region ?_
    refine O.fieldAddr fd25_0 rfl rfl rfl ?_
    refine O.load sc22 rfl rfl rfl (H.cell 0 rfl 0 _ rfl) ?_
    refine O.lenS Try.underlying22 (H.arg ha0_0) rfl rfl rfl ?_
    refine O.move (v := (.int .i64 0)) rfl rfl rfl ?_
    refine WL.nil ?_
    obtain ⟨o1, hm2, hm⟩ := bind_some hm
    refine W.via (fun f w => o1 = .next () ∧ f 1 = (.pointer (some ⟨b1, 0, none⟩)) ∧ Inv w0 w [boxI b1 25 [va0_0, va0_1]]) ?_ ?_
    ·
     refine W.block ?_
     refine W.rangeL (i := 0) hm2 (fun rem ik1 s f w => () = s ∧ a0.Rates.drop ik1 = rem ∧ f 28 = .int .i64 (ik1 : Int) ∧ f 27 = (.int .i64 ((a0.Rates.length : Nat) : Int)) ∧ f 1 = (.pointer (some ⟨b1, 0, none⟩)) ∧ f 26 = va0_0 ∧ Inv w0 w [boxI b1 25 [va0_0, va0_1]]) ?_ ?_ ?_
     ·
      exact ⟨rfl, List.drop_zero, rfl, rfl, rfl, rfl, H⟩
     ·
      rintro yk1 xs ik1 _ st f w ⟨rfl, hdropk1, hf28, hf27, hf1, hf26, H⟩ hm3
      have hltk1 := drop_lt hdropk1; have hixk1 := drop_idx hdropk1
      obtain ⟨u3, rfl⟩ := up4 hf28 hf27 hf1 hf26
      have hinck1 := addI_lt hltk1 (H.arg ha0_0).len_le
      refine W.seq ?_
      refine W.region ?_
      refine O.lss rfl rfl rfl rfl ?_
      refine WL.nil ?_
      refine W.seq ?_
      refine W.cond_true (congrArg Value.bool (decide_eq_true hltk1)) ?_
      refine W.skip ?_
      refine W.seq ?_
      refine W.block ?_
      refine W.seq ?_
      refine W.region ?_
      obtain ⟨p2, hp2, hrp2⟩ := fix_indexAddr Try.underlying22 sz3 ha0_0 hixk1
      refine hrp2 rfl rfl rfl rfl ?_
      refine O.load sc3 rfl rfl rfl ((hp2.mono H.base).flat 0 _ rfl) ?_
      refine O.assign (v := (.int .i64 yk1)) rfl rfl rfl ?_
      refine WL.nil ?_
      refine W.seq ?_
      refine W.region ?_
      refine O.move (v := (.int .i64 yk1)) rfl rfl rfl ?_
      obtain ⟨t2, hy2, hm3⟩ := bind_some hm3
      refine O.call Try.call59 rfl rfl rfl (c_noongunref02_within _ _ _ hy2) ?_
      rintro _ w3 hb3 rfl
      have H := H.ext hb3
      refine O.not rfl rfl rfl ?_
      refine WL.nil ?_
      rcases ite_some hm3 with ⟨hc4, hm3⟩ | ⟨hc4, hm3⟩
      ·
       refine W.cond_true (congrArg Value.bool hc4) ?_
       refine W.seq ?_
       refine W.region ?_
       refine O.assign (v := (.bool false)) rfl rfl rfl ?_
       refine WL.nil ?_
       refine W.ret ?_
       obtain rfl := Option.some.inj hm3
       refine ⟨_, rfl, ?_⟩
       rintro rfl
       have hq : false = r0 := Option.some.inj (show some false = some r0 from hm)
       subst hq
       exact ends1 Try.results18 rfl ⟨_, rfl, H.base, rfl⟩
      ·
       refine W.cond_false (congrArg Value.bool hc4) ?_
       refine W.skip ?_
       refine W.region ?_
       refine O.add rfl rfl rfl rfl hinck1 ?_
       refine O.move (v := .int .i64 ((ik1 : Int) + 1)) rfl rfl rfl ?_
       refine WL.nil ?_
       obtain rfl := Option.some.inj hm3
       exact ⟨_, rfl, rfl, drop_next hdropk1, rfl, rfl, rfl, rfl, H⟩
     ·
      rintro ik1 _ f w ⟨rfl, hdropk1, hf28, hf27, hf1, hf26, H⟩ hfin
      have hltk1 := drop_end hdropk1
      obtain ⟨u4, rfl⟩ := up4 hf28 hf27 hf1 hf26
      refine W.seq ?_
      refine W.region ?_
      refine O.lss rfl rfl rfl rfl ?_
      refine WL.nil ?_
      refine W.seq ?_
      refine W.cond_false (congrArg Value.bool (decide_eq_false hltk1)) ?_
      refine W.exit ?_
      obtain rfl : Ctl.next () = o1 := hfin
      refine xT rfl ?_
      exact ⟨rfl, rfl, H⟩
    ·
     rintro f w ⟨rfl, hf1, H⟩
     obtain ⟨u5, rfl⟩ := up1 hf1
     refine W.seq ?_
     refine W.seq ?_
     refine W.region ?_
     refine O.fieldAddr fd25_1 rfl rfl rfl ?_
     refine O.load sc23 rfl rfl rfl (H.cell 0 rfl 1 _ rfl) ?_
     refine O.lenS Try.underlying23 (H.arg ha0_1) rfl rfl rfl ?_
     refine O.move (v := (.int .i64 0)) rfl rfl rfl ?_
     refine WL.nil ?_
     obtain ⟨o2, hm4, hm⟩ := bind_some hm
     refine W.via (fun f w => o2 = .next () ∧ Inv w0 w []) ?_ ?_
     ·
      refine W.block ?_
      refine W.rangeL (i := 0) hm4 (fun rem ik2 s f w => () = s ∧ a0.Sights.drop ik2 = rem ∧ f 39 = .int .i64 (ik2 : Int) ∧ f 38 = (.int .i64 ((a0.Sights.length : Nat) : Int)) ∧ f 1 = (.pointer (some ⟨b1, 0, none⟩)) ∧ f 37 = va0_1 ∧ Inv w0 w [boxI b1 25 [va0_0, va0_1]]) ?_ ?_ ?_
      ·
       exact ⟨rfl, List.drop_zero, rfl, rfl, rfl, rfl, H⟩
      ·
       rintro yk2 xs ik2 _ st f w ⟨rfl, hdropk2, hf39, hf38, hf1, hf37, H⟩ hm5
       have hltk2 := drop_lt hdropk2; have hixk2 := drop_idx hdropk2
       obtain ⟨u6, rfl⟩ := up4 hf39 hf38 hf1 hf37
       have hinck2 := addI_lt hltk2 (H.arg ha0_1).len_le
       refine W.seq ?_
       refine W.region ?_
       refine O.lss rfl rfl rfl rfl ?_
       refine WL.nil ?_
       refine W.seq ?_
       refine W.cond_true (congrArg Value.bool (decide_eq_true hltk2)) ?_
       refine W.skip ?_
       refine W.seq ?_
       refine W.block ?_
       refine W.seq ?_
       refine W.region ?_
       obtain ⟨p3, hp3, hrp3⟩ := fix_indexAddr Try.underlying23 sz39 ha0_1 hixk2
       refine hrp3 rfl rfl rfl rfl ?_
       refine O.loadA [(.int .i64 yk2.At), (.int .i64 yk2.A), (.int .i64 yk2.B), (.int .i64 yk2.Lo), (.int .i64 yk2.Hi)] ag39 rfl rfl rfl rfl ((hp3.mono H.base).flat) ?_
       refine O.alloc [(.int .i64 0), (.int .i64 0), (.int .i64 0), (.int .i64 0), (.int .i64 0)] ze39 H rfl rfl rfl ?_
       intro b3 w4 H hb4
       refine O.store 1 0 [(.int .i64 yk2.At), (.int .i64 yk2.A), (.int .i64 yk2.B), (.int .i64 yk2.Lo), (.int .i64 yk2.Hi)] [(.int .i64 yk2.At), (.int .i64 yk2.A), (.int .i64 yk2.B), (.int .i64 yk2.Lo), (.int .i64 yk2.Hi)] sz39 H rfl rfl rfl rfl rfl rfl ⟨⟨rfl, rfl⟩, rfl⟩ (one_cons rfl (one_cons rfl (one_cons rfl (one_cons rfl (one_cons rfl one_nil))))) ?_
       intro w5 H
       refine WL.nil ?_
       refine W.seq ?_
       refine W.region ?_
       refine O.loadA [(.int .i64 yk2.At), (.int .i64 yk2.A), (.int .i64 yk2.B), (.int .i64 yk2.Lo), (.int .i64 yk2.Hi)] ag39 rfl rfl rfl rfl (H.cell 1 rfl) ?_
       refine O.fieldAddr fd25_0 rfl rfl rfl ?_
       refine O.load sc22 rfl rfl rfl (H.cell 0 rfl 0 _ rfl) ?_
       refine O.lenS Try.underlying22 (H.arg ha0_0) rfl rfl rfl ?_
       obtain ⟨t3, hy3, hm5⟩ := bind_some hm5
       refine O.call Try.call60 rfl rfl rfl (c_noongunref02_ValidSight yk2 _ hy3) ?_
       rintro _ w6 hb5 rfl
       have H := H.ext hb5
       refine O.not rfl rfl rfl ?_
       refine WL.nil ?_
       rcases ite_some hm5 with ⟨hc5, hm5⟩ | ⟨hc5, hm5⟩
       ·
        refine W.cond_true (congrArg Value.bool hc5) ?_
        refine W.seq ?_
        refine W.region ?_
        refine O.assign (v := (.bool false)) rfl rfl rfl ?_
        refine WL.nil ?_
        refine W.ret ?_
        obtain rfl := Option.some.inj hm5
        refine ⟨_, rfl, ?_⟩
        rintro rfl
        have hq : false = r0 := Option.some.inj (show some false = some r0 from hm)
        subst hq
        exact ends1 Try.results18 rfl ⟨_, rfl, H.base, rfl⟩
       ·
        refine W.cond_false (congrArg Value.bool hc5) ?_
        refine W.skip ?_
        refine W.region ?_
        refine O.add rfl rfl rfl rfl hinck2 ?_
        refine O.move (v := .int .i64 ((ik2 : Int) + 1)) rfl rfl rfl ?_
        refine WL.nil ?_
        have H := H.keep [0] [boxI b1 25 [va0_0, va0_1]] rfl (by decide)
        obtain rfl := Option.some.inj hm5
        exact ⟨_, rfl, rfl, drop_next hdropk2, rfl, rfl, rfl, rfl, H⟩
      ·
       rintro ik2 _ f w ⟨rfl, hdropk2, hf39, hf38, hf1, hf37, H⟩ hfin
       have hltk2 := drop_end hdropk2
       obtain ⟨u7, rfl⟩ := up4 hf39 hf38 hf1 hf37
       refine W.seq ?_
       refine W.region ?_
       refine O.lss rfl rfl rfl rfl ?_
       refine WL.nil ?_
       refine W.seq ?_
       refine W.cond_false (congrArg Value.bool (decide_eq_false hltk2)) ?_
       refine W.exit ?_
       obtain rfl : Ctl.next () = o2 := hfin
       have H := H.keep [] [] rfl (by decide)
       refine xT rfl ?_
       exact ⟨rfl, H⟩
     ·
      rintro f w ⟨rfl, H⟩
      refine W.seq ?_
      refine W.region ?_
      refine O.assign (v := (.bool true)) rfl rfl rfl ?_
      refine WL.nil ?_
      refine W.ret ?_
      have hq : true = r0 := Option.some.inj (show some true = some r0 from hm)
      subst hq
      exact ends1 Try.results18 rfl ⟨_, rfl, H.base, rfl⟩

theorem c_noongunref02_Consistent {w0 : World} (va0_0 : Value) (va0_1 : Value) (a0 : GNet) (ha0_0 : SliceR w0 va0_0 a0.Rates) (ha0_1 : SliceR w0 va0_1 a0.Sights) {r0 : Bool} {r1 : Int} (hm : noongunref02_Consistent a0 = some (r0, r1)) :
  Calls Try.prog 27 #[(.agg #[va0_0, va0_1])] w0 (Ret w0 fun _ v => v = .tuple #[(.bool r0), (.int .i64 r1)]) := by
 unfold noongunref02_Consistent at hm
 refine calls_of_W Try.func27 rfl Try.ntmps27 (Nat.le_of_ble_eq_true rfl) ?_
 have H := Inv.start (w := w0)
 refine W.seq ?_
 refine W.region ?_
 refine O.box [va0_0, va0_1] H rfl rfl rfl rfl ?_
 intro b1 w1 H hb1
 refine O.assign (v := (.bool false)) rfl rfl rfl ?_
 refine O.assign (v := (.int .i64 0)) rfl rfl rfl ?_
 refine WL.nil ?_
 refine W.seq ?_
 refine W.seq ?_
 refine W.region ?_
 refine O.loadA [va0_0, va0_1] ag25 rfl rfl rfl rfl (H.cell 0 rfl) ?_
 obtain ⟨t1, hy1, hm⟩ := bind_some hm
 refine O.call Try.call18 rfl rfl rfl (c_noongunref02_Valid _ _ (GNet.mk a0.Rates a0.Sights) (H.arg ha0_0) (H.arg ha0_1) hy1) ?_
 rintro _ w2 hb2 rfl
 have H := H.ext hb2
 refine O.not rfl rfl rfl ?_
 refine WL.nil ?_
 rcases ite_some hm with ⟨hc1, hm⟩ | ⟨hc1, hm⟩
 ·
  refine W.cond_true (congrArg Value.bool hc1) ?_
  refine W.seq ?_
  refine W.region ?_
  refine O.assign (v := (.bool false)) rfl rfl rfl ?_
  refine O.assign (v := (.int .i64 1)) rfl rfl rfl ?_
  refine WL.nil ?_
  refine W.ret ?_
  have hq : (false, 1) = (r0, r1) := Option.some.inj (show some (false, 1) = some (r0, r1) from hm)
  obtain ⟨he0, hq0⟩ := Prod.mk.inj hq; clear hq; subst he0
  subst hq0
  exact ends2 Try.results27 rfl rfl ⟨_, rfl, H.base, rfl⟩
 ·
  refine W.cond_false (congrArg Value.bool hc1) ?_
  refine W.skip ?_
  refine W.seq ?_
  refine W.region ?_
  refine O.loadA [va0_0, va0_1] ag25 rfl rfl rfl rfl (H.cell 0 rfl) ?_
  have H := H.addNil (α := GPoint) (E := 78)
  have H := H.pick [0, 1] ([boxI b1 25 [va0_0, va0_1]] ++ [ownI (α := GPoint) (.slice none 0 0) 78 ([] : List GPoint)]) rfl (by decide)
  obtain ⟨⟨t2, t3⟩, hy2, hm⟩ := bind_some hm
  refine O.callF [boxI b1 25 [va0_0, va0_1]] [ownI (α := GPoint) (.slice none 0 0) 78 ([] : List GPoint)] H Try.call67 rfl rfl rfl (c_ref_ways _ _ (GNet.mk a0.Rates a0.Sights) _ ([] : List GPoint) (fun _ hb => ha0_0.mono (Inv.belowF H hb)) (fun _ hb => ha0_1.mono (Inv.belowF H hb)) (InvD.frame H) hy2) ?_
  intro vq w3 Lq H hvq
  obtain ⟨b2, v1, v2, rc1, rfl, rfl⟩ := hvq
  have H := H.addGone
  have H := H.pick [0, 4, 1, 2, 3] [boxI b1 25 [va0_0, va0_1], goneI, boxI b2 118 [v1, v2], ownI (α := GPoint) v1 78 t2, mtxI (α := Int) v2 22 3 rc1 t3] rfl (by decide)
  obtain ⟨t4, hy3, hm⟩ := bind_some hm
  refine O.call Try.call68 rfl rfl rfl (c_noongunref02_graph_consistent _ _ _ (GRefgraph.mk t2 t3) (H.cell 2 rfl) (H.own 3 rfl) (H.mtxRd 4 rfl) hy3) ?_
  rintro _ w4 hb3 rfl
  have H := H.ext hb3
  refine O.assign (v := (.bool t4)) rfl rfl rfl ?_
  refine O.assign (v := (.int .i64 0)) rfl rfl rfl ?_
  refine WL.nil ?_
  refine W.ret ?_
  have hq : (t4, 0) = (r0, r1) := Option.some.inj (show some (t4, 0) = some (r0, r1) from hm)
  obtain ⟨he0, hq0⟩ := Prod.mk.inj hq; clear hq; subst he0
  subst hq0
  exact ends2 Try.results27 rfl rfl ⟨_, rfl, H.base, rfl⟩

end Go.Proofs
