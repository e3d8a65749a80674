/-
  The walks: each function does what its model says, where the model has a value. No other condition.
-/
import Derived.Test.YtailgbhadhoedaaW1
namespace Go.Proofs
open Go.Fw Go.RowKit Go.Shelf
set_option maxRecDepth 20000 in
theorem c_sight_Proves {w0 : World} (va0_0 : Value) (va0_1 : Value) (a0 : GNet) (ha0_0 : SliceR w0 va0_0 a0.Rates) (ha0_1 : SliceR w0 va0_1 a0.Sights) (va1 : Value) (a1 : (List Int)) (ha1 : SliceR w0 va1 a1) {r0 : Bool} (hm : sight_Proves a0 a1 = some r0) :
    Calls Try.prog 28 #[(.agg #[va0_0, va0_1]), va1] w0 (Ret w0 fun _ v => v = (.bool r0)) := by
  unfold sight_Proves at hm
  refine calls_of_W Try.func28 rfl Try.ntmps28 (Nat.le_of_ble_eq_true rfl) ?_
  have H := Inv.start (w := w0)
  refine W.seq ?_
  refine W.region ?_
  refine O.box [va0_0, va0_1] H rfl rfl rfl rfl ?_
  intro b1 w1 H hb1
  refine O.assign (v := (.bool false)) rfl rfl rfl ?_
  refine WL.nil ?_
  refine W.seq ?_
  refine W.seq ?_
  refine W.region ?_
  refine O.loadA [va0_0, va0_1] ag25 rfl rfl rfl rfl (H.cell 0 rfl) ?_
  obtain ⟨t1, hy1, hm⟩ := bind_some hm
  refine O.call Try.call33 rfl rfl rfl (c_sight_Valid _ _ (GNet.mk a0.Rates a0.Sights) (H.arg ha0_0) (H.arg ha0_1) hy1) ?_
  rintro _ w2 hb2 rfl
  have H := H.ext hb2
  refine O.not rfl rfl rfl ?_
  refine O.move (v := (.bool (!t1))) rfl rfl rfl ?_
  refine WL.cut 4 (fun f w => f 1 = va1 ∧ f 2 = (.pointer (some ⟨b1, 0, none⟩)) ∧ f 21 = .bool ((!t1) || (((a1.length : Nat) : Int) == 0)) ∧ Inv w0 w [boxI b1 25 [va0_0, va0_1]]) ?_ ?_
  · skip
    rcases bool_ft (!t1) with hc1 | hc1
    · skip
      refine WL.reset (i := 17) (v := .bool false) (congrArg Value.bool hc1) ?_
      refine O.move (v := va1) rfl rfl rfl ?_
      refine O.lenS Try.underlying22 (H.arg ha1) rfl rfl rfl ?_
      refine O.eql rfl rfl rfl rfl ?_
      refine O.pick_false (v := (.bool (((a1.length : Nat) : Int) == 0))) rfl rfl rfl rfl ?_
      refine WL.nil ?_
      exact ⟨rfl, rfl, congrArg Value.bool (or_f hc1), H⟩
    · skip
      refine WL.reset (i := 17) (v := .bool true) (congrArg Value.bool hc1) ?_
      refine O.skip rfl rfl ?_
      refine O.skip rfl rfl ?_
      refine O.skip rfl rfl ?_
      refine O.pick_true (v := (.bool true)) rfl rfl rfl rfl ?_
      refine WL.nil ?_
      exact ⟨rfl, rfl, congrArg Value.bool (or_t hc1), H⟩
  · skip
    rintro f w ⟨hf1, hf2, hf21, H⟩
    obtain ⟨u1, rfl⟩ : ∃ u1, f = (upd (upd (upd u1 1 va1) 2 (.pointer (some ⟨b1, 0, none⟩))) 21 (.bool ((!t1) || (((a1.length : Nat) : Int) == 0)))) := ⟨f, by rw [upd_self hf1, upd_self hf2, upd_self hf21]⟩
    refine O.move (v := (.bool ((!t1) || (((a1.length : Nat) : Int) == 0)))) rfl rfl rfl ?_
    obtain ⟨b2, hm1, hm⟩ := bind_some hm
    refine WL.cut 4 (fun f w => f 1 = va1 ∧ f 2 = (.pointer (some ⟨b1, 0, none⟩)) ∧ f 26 = .bool b2 ∧ Inv w0 w [boxI b1 25 [va0_0, va0_1]]) ?_ ?_
    · skip
      rcases ite_some hm1 with ⟨hc2, hm1⟩ | ⟨hc2, hm1⟩
      · skip
        refine WL.reset (i := 22) (v := .bool true) (congrArg Value.bool hc2) ?_
        refine O.skip rfl rfl ?_
        refine O.skip rfl rfl ?_
        refine O.skip rfl rfl ?_
        refine O.pick_true (v := (.bool true)) rfl rfl rfl rfl ?_
        refine WL.nil ?_
        have hq : true = b2 := Option.some.inj (show some true = some b2 from hm1)
        subst hq
        exact ⟨rfl, rfl, rfl, H⟩
      · skip
        refine WL.reset (i := 22) (v := .bool false) (congrArg Value.bool hc2) ?_
        refine O.move (v := va1) rfl rfl rfl ?_
        refine O.makeFunc rfl rfl rfl rfl ?_
        obtain ⟨t2, hy2, hm1⟩ := bind_some hm1
        refine O.call Try.call69 rfl rfl rfl (c_slices_ContainsFunc_int _ _ (H.arg ha1) _ (fun x0 => sight_Proves_c1 x0 (GNet.mk a0.Rates a0.Sights)) (fun w hw x0 _ hy => callsV_mk Try.call70 (c_sight_Proves_c1 x0 _ _ _ (GNet.mk a0.Rates a0.Sights) (cells_mono (H.cell 0 rfl) hw) ((H.arg ha0_0).mono hw) ((H.arg ha0_1).mono hw) hy)) hy2) ?_
        rintro _ w3 hb3 rfl
        have H := H.ext hb3
        refine O.pick_false (v := (.bool t2)) rfl rfl rfl rfl ?_
        refine WL.nil ?_
        have hq : t2 = b2 := Option.some.inj (show some t2 = some b2 from hm1)
        subst hq
        exact ⟨rfl, rfl, rfl, H⟩
    · skip
      rintro f w ⟨hf1, hf2, hf26, H⟩
      obtain ⟨u2, rfl⟩ : ∃ u2, f = (upd (upd (upd u2 1 va1) 2 (.pointer (some ⟨b1, 0, none⟩))) 26 (.bool b2)) := ⟨f, by rw [upd_self hf1, upd_self hf2, upd_self hf26]⟩
      refine WL.nil ?_
      rcases ite_some hm with ⟨hc3, hm⟩ | ⟨hc3, hm⟩
      · refine W.cond_true (congrArg Value.bool hc3) ?_
        refine W.seq ?_
        refine W.region ?_
        refine O.assign (v := (.bool false)) rfl rfl rfl ?_
        refine WL.nil ?_
        refine W.ret ?_
        have hq : false = r0 := Option.some.inj (show some false = some r0 from hm)
        subst hq
        exact ends1 Try.results28 rfl ⟨_, rfl, H.base, rfl⟩
      · refine W.cond_false (congrArg Value.bool hc3) ?_
        refine W.skip ?_
        refine W.seq ?_
        refine W.region ?_
        refine O.assign (v := (.int .i64 0)) rfl rfl rfl ?_
        refine WL.nil ?_
        refine W.seq ?_
        refine W.seq ?_
        refine W.region ?_
        refine O.move (v := va1) rfl rfl rfl ?_
        refine O.lenS Try.underlying22 (H.arg ha1) rfl rfl rfl ?_
        refine O.move (v := (.int .i64 0)) rfl rfl rfl ?_
        refine WL.nil ?_
        obtain ⟨o1, hm2, hm⟩ := bind_some hm
        refine W.via (fun f w => ∃ s1 : Int, o1 = .next s1 ∧ f 5 = (.int .i64 s1) ∧ Inv w0 w []) ?_ ?_
        · skip
          refine W.block ?_
          have hbdik1 := (H.arg ha1).len_le
          refine W.rangeN (i := 0) hm2 (fun rem ik1 s f w => ∃ z2 : Int, z2 = s ∧ (ik1 : Int) + rem = max 0 ((a1.length : Nat) : Int) ∧ f 29 = .int .i64 (ik1 : Int) ∧ f 28 = (.int .i64 ((a1.length : Nat) : Int)) ∧ f 1 = va1 ∧ f 2 = (.pointer (some ⟨b1, 0, none⟩)) ∧ f 5 = (.int .i64 z2) ∧ f 27 = va1 ∧ Inv w0 w [boxI b1 25 [va0_0, va0_1]]) ?_ ?_ ?_
          · skip
            exact ⟨_, rfl, rangeN_start, rfl, rfl, rfl, rfl, rfl, rfl, H⟩
          · skip
            rintro k ik1 _ st f w ⟨z2, rfl, hdropk1, hf29, hf28, hf1, hf2, hf5, hf27, H⟩ hm3
            have hltk1 := rangeN_lt hdropk1
            obtain ⟨u3, rfl⟩ : ∃ u3, f = (upd (upd (upd (upd (upd (upd u3 29 (.int .i64 (ik1 : Int))) 28 (.int .i64 ((a1.length : Nat) : Int))) 1 va1) 2 (.pointer (some ⟨b1, 0, none⟩))) 5 (.int .i64 z2)) 27 va1) := ⟨f, by rw [upd_self hf29, upd_self hf28, upd_self hf1, upd_self hf2, upd_self hf5, upd_self hf27]⟩
            have hinck1 := addI_lt hltk1 hbdik1
            refine W.seq ?_
            refine W.region ?_
            refine O.lss rfl rfl rfl rfl ?_
            refine WL.nil ?_
            refine W.seq ?_
            refine W.cond_true (congrArg Value.bool (decide_eq_true hltk1)) ?_
            refine W.skip ?_
            refine W.seq ?_
            refine W.block ?_
            refine W.seq ?_
            refine W.region ?_
            refine O.move (v := (.int .i64 (ik1 : Int))) rfl rfl rfl ?_
            obtain ⟨x1, hx1, hm3⟩ := bind_some hm3
            obtain ⟨p1, hp1, hrp1⟩ := fix_indexAddr Try.underlying22 sz3 ha1 hx1
            refine hrp1 rfl rfl rfl rfl ?_
            refine O.load sc3 rfl rfl rfl ((hp1.mono H.base).flat 0 _ rfl) ?_
            refine O.assign (v := (.int .i64 (ik1 : Int))) rfl rfl rfl ?_
            refine O.assign (v := (.int .i64 x1)) rfl rfl rfl ?_
            refine WL.nil ?_
            refine W.seq ?_
            refine W.region ?_
            refine O.loadA [va0_0, va0_1] ag25 rfl rfl rfl rfl (H.cell 0 rfl) ?_
            refine O.move (v := (.int .i64 x1)) rfl rfl rfl ?_
            obtain ⟨⟨t3, t4, t5⟩, hy3, hm3⟩ := bind_some hm3
            refine O.call Try.call71 rfl rfl rfl (c_sight_taken _ _ (GNet.mk a0.Rates a0.Sights) (H.arg ha0_0) (H.arg ha0_1) _ hy3) ?_
            rintro _ w4 hb4 rfl
            have H := H.ext hb4
            refine O.move (v := (.tuple #[(.agg (Flat.cells t3).toArray), (.agg (Flat.cells t4).toArray), (.int .i64 t5)])) rfl rfl rfl ?_
            refine O.extract (v := (.agg (Flat.cells t3).toArray)) rfl rfl rfl rfl ?_
            refine O.extract (v := (.agg (Flat.cells t4).toArray)) rfl rfl rfl rfl ?_
            refine O.extract (v := (.int .i64 t5)) rfl rfl rfl rfl ?_
            refine O.alloc [(.int .i64 0), (.int .i64 0)] ze87 H rfl rfl rfl ?_
            intro b3 w5 H hb5
            refine O.alloc [(.int .i64 0), (.int .i64 0)] ze87 H rfl rfl rfl ?_
            intro b4 w6 H hb6
            refine O.store 1 0 [(.int .i64 t3.clock), (.int .i64 t3.at_)] [(.int .i64 t3.clock), (.int .i64 t3.at_)] sz87 H rfl rfl rfl rfl rfl rfl ⟨⟨rfl, rfl⟩, rfl⟩ (one_cons rfl (one_cons rfl one_nil)) ?_
            intro w7 H
            refine O.store 2 0 [(.int .i64 t4.clock), (.int .i64 t4.at_)] [(.int .i64 t4.clock), (.int .i64 t4.at_)] sz87 H rfl rfl rfl rfl rfl rfl ⟨⟨rfl, rfl⟩, rfl⟩ (one_cons rfl (one_cons rfl one_nil)) ?_
            intro w8 H
            refine O.assign (v := (.int .i64 t5)) rfl rfl rfl ?_
            refine WL.nil ?_
            refine W.seq ?_
            obtain ⟨t6, ht6, hm3⟩ := bind_some hm3
            obtain ⟨t7, ht7, hm3⟩ := bind_some hm3
            obtain ⟨x2, hx2, hm3⟩ := bind_some hm3
            obtain ⟨p2, hp2, hrp2⟩ := fix_indexAddr Try.underlying22 sz3 ha1 hx2
            obtain ⟨⟨t8, t9, t10⟩, hy4, hm3⟩ := bind_some hm3
            have H := H.addGone
            have H := H.addGone
            refine W.drawD 18 [[], [], [], [2], [], [4], [2, 3, 4, 5], [1, 2, 3, 4, 5, 6], [1, 2, 3, 4, 5, 6, 7], [0, 1, 2, 3, 4, 5, 6, 7, 8], [0, 1, 2, 3, 4, 5, 6, 7, 8, 9], [0, 1, 2, 3, 4, 5, 6, 7, 8, 9, 10], [0, 1, 2, 3, 4, 5, 6, 7, 8, 9, 10], [0, 1, 2, 3, 4, 5, 6, 7, 8, 9, 10], [], [], [0, 1, 2, 3, 4, 5, 6, 7, 8, 9, 10, 11, 14, 15], [0, 1, 2, 3, 4, 5, 6, 7, 8, 9, 10, 11, 12, 14, 15, 16]] [[9, 10, 11, 12, 13, 16, 17], [7, 8, 9, 10, 11, 12, 13, 16, 17], [3, 6, 7, 8, 9, 10, 11, 12, 13, 16, 17], [6, 7, 8, 9, 10, 11, 12, 13, 16, 17], [5, 6, 7, 8, 9, 10, 11, 12, 13, 16, 17], [6, 7, 8, 9, 10, 11, 12, 13, 16, 17], [7, 8, 9, 10, 11, 12, 13, 16, 17], [8, 9, 10, 11, 12, 13, 16, 17], [9, 10, 11, 12, 13, 16, 17], [10, 11, 12, 13, 16, 17], [11, 12, 13, 16, 17], [16, 17], [17], [], [16, 17], [16, 17], [17], []] (fun S f w => ∃ b5 : Nat, ∃ b6 : Nat, f 1 = va1 ∧ f 2 = (.pointer (some ⟨b1, 0, none⟩)) ∧ f 5 = (.int .i64 z2) ∧ f 6 = (.int .i64 (ik1 : Int)) ∧ f 9 = (.pointer (some ⟨b4, 0, none⟩)) ∧ f 10 = (.int .i64 t5) ∧ f 27 = va1 ∧ f 28 = (.int .i64 ((a1.length : Nat) : Int)) ∧ f 29 = (.int .i64 (ik1 : Int)) ∧ (S 0 = true → f 42 = (.agg #[va0_0, va0_1])) ∧ (S 1 = true → f 43 = va1) ∧ (S 2 = true → f 44 = (.int .i64 (ik1 : Int))) ∧ (S 3 = true → f 45 = (.int .i64 t6)) ∧ (S 4 = true → f 46 = va1) ∧ (S 5 = true → f 47 = (.int .i64 ((a1.length : Nat) : Int))) ∧ (S 6 = true → f 48 = (.int .i64 t7)) ∧ (S 7 = true → f 49 = (.pointer (some p2))) ∧ (S 8 = true → f 50 = (.int .i64 x2)) ∧ (S 9 = true → f 51 = (.tuple #[(.agg (Flat.cells t8).toArray), (.agg (Flat.cells t9).toArray), (.int .i64 t10)])) ∧ (S 10 = true → f 41 = (.tuple #[(.agg (Flat.cells t8).toArray), (.agg (Flat.cells t9).toArray), (.int .i64 t10)])) ∧ (S 11 = true → f 52 = (.agg (Flat.cells t8).toArray)) ∧ (S 12 = true → f 53 = (.agg (Flat.cells t9).toArray)) ∧ (S 13 = true → f 54 = (.int .i64 t10)) ∧ (S 14 = true → f 11 = (.pointer (some ⟨b5, 0, none⟩))) ∧ (S 15 = true → f 12 = (.pointer (some ⟨b6, 0, none⟩))) ∧ (S 16 = true → S 14 = true) ∧ (S 16 = true → S 15 = true) ∧ (S 17 = true → S 14 = true) ∧ (S 17 = true → S 15 = true) ∧ (S 17 = true → S 16 = true) ∧ (S 14 = false → S 15 = false → S 16 = false → S 17 = false → Inv w0 w [boxI b1 25 [va0_0, va0_1], boxI b3 87 [(.int .i64 t3.clock), (.int .i64 t3.at_)], boxI b4 87 [(.int .i64 t4.clock), (.int .i64 t4.at_)], goneI, goneI]) ∧ (S 14 = true → S 15 = false → S 16 = false → S 17 = false → Inv w0 w [boxI b1 25 [va0_0, va0_1], boxI b3 87 [(.int .i64 t3.clock), (.int .i64 t3.at_)], boxI b4 87 [(.int .i64 t4.clock), (.int .i64 t4.at_)], boxI b5 87 [(.int .i64 0), (.int .i64 0)], goneI]) ∧ (S 14 = false → S 15 = true → S 16 = false → S 17 = false → Inv w0 w [boxI b1 25 [va0_0, va0_1], boxI b3 87 [(.int .i64 t3.clock), (.int .i64 t3.at_)], boxI b4 87 [(.int .i64 t4.clock), (.int .i64 t4.at_)], goneI, boxI b6 87 [(.int .i64 0), (.int .i64 0)]]) ∧ (S 14 = true → S 15 = true → S 16 = false → S 17 = false → Inv w0 w [boxI b1 25 [va0_0, va0_1], boxI b3 87 [(.int .i64 t3.clock), (.int .i64 t3.at_)], boxI b4 87 [(.int .i64 t4.clock), (.int .i64 t4.at_)], boxI b5 87 [(.int .i64 0), (.int .i64 0)], boxI b6 87 [(.int .i64 0), (.int .i64 0)]]) ∧ (S 14 = true → S 15 = true → S 16 = true → S 17 = false → Inv w0 w [boxI b1 25 [va0_0, va0_1], boxI b3 87 [(.int .i64 t3.clock), (.int .i64 t3.at_)], boxI b4 87 [(.int .i64 t4.clock), (.int .i64 t4.at_)], boxI b5 87 [(.int .i64 t8.clock), (.int .i64 t8.at_)], boxI b6 87 [(.int .i64 0), (.int .i64 0)]]) ∧ (S 14 = true → S 15 = true → S 16 = true → S 17 = true → Inv w0 w [boxI b1 25 [va0_0, va0_1], boxI b3 87 [(.int .i64 t3.clock), (.int .i64 t3.at_)], boxI b4 87 [(.int .i64 t4.clock), (.int .i64 t4.at_)], boxI b5 87 [(.int .i64 t8.clock), (.int .i64 t8.at_)], boxI b6 87 [(.int .i64 t9.clock), (.int .i64 t9.at_)]])) fol (by kernel_rfl) ?_ ?_ ?_
            · skip
              exact fun d _ => ⟨0, 0, rfl, rfl, rfl, rfl, rfl, rfl, rfl, rfl, rfl, (fun a => nomatch (show false = true from a)), (fun a => nomatch (show false = true from a)), (fun a => nomatch (show false = true from a)), (fun a => nomatch (show false = true from a)), (fun a => nomatch (show false = true from a)), (fun a => nomatch (show false = true from a)), (fun a => nomatch (show false = true from a)), (fun a => nomatch (show false = true from a)), (fun a => nomatch (show false = true from a)), (fun a => nomatch (show false = true from a)), (fun a => nomatch (show false = true from a)), (fun a => nomatch (show false = true from a)), (fun a => nomatch (show false = true from a)), (fun a => nomatch (show false = true from a)), (fun a => nomatch (show false = true from a)), (fun a => nomatch (show false = true from a)), (fun a => nomatch (show false = true from a)), (fun a => nomatch (show false = true from a)), (fun a => nomatch (show false = true from a)), (fun a => nomatch (show false = true from a)), (fun a => nomatch (show false = true from a)), (fun _ _ _ _ => H.ext (below_drawn d)), (fun a _ _ _ => nomatch (show false = true from a)), (fun _ a _ _ => nomatch (show false = true from a)), (fun a _ _ _ => nomatch (show false = true from a)), (fun a _ _ _ => nomatch (show false = true from a)), (fun a _ _ _ => nomatch (show false = true from a))⟩
            · skip
              refine ⟨?_, ⟨?_, ⟨?_, ⟨?_, ⟨?_, ⟨?_, ⟨?_, ⟨?_, ⟨?_, ⟨?_, ⟨?_, ⟨?_, ⟨?_, ⟨?_, ⟨?_, ⟨?_, ⟨?_, ⟨?_, trivial⟩⟩⟩⟩⟩⟩⟩⟩⟩⟩⟩⟩⟩⟩⟩⟩⟩⟩
              · skip
                rintro S f w hS - ⟨e9, e10, e11, e12, e13, e16, e17, -⟩ ⟨b5, b6, hf1, hf2, hf5, hf6, hf9, hf10, hf27, hf28, hf29, hd0, hd1, hd2, hd3, hd4, hd5, hd6, hd7, hd8, hd9, hd10, hd11, hd12, hd13, hd14, hd15, C16_14, C16_15, C17_14, C17_15, C17_16, W0, W1, W2, W3, W4, W5⟩
                obtain ⟨u4, rfl⟩ : ∃ u4, f = (upd u4 2 (.pointer (some ⟨b1, 0, none⟩))) := ⟨f, by rw [upd_self hf2]⟩
                rcases bool_ft (S 14) with e14 | e14
                · skip
                  rcases bool_ft (S 15) with e15 | e15
                  · skip
                    have H := W0 e14 e15 e16 e17
                    refine O.loadA [va0_0, va0_1] ag25 rfl rfl rfl rfl (H.cell 0 rfl) ?_
                    refine WL.nil ?_
                    exact ⟨b5, b6, hf1, rfl, hf5, hf6, hf9, hf10, hf27, hf28, hf29, (fun _ => rfl), hd1, hd2, hd3, hd4, hd5, hd6, hd7, hd8, hd9, hd10, hd11, hd12, hd13, hd14, hd15, C16_14, C16_15, C17_14, C17_15, C17_16, (fun _ _ _ _ => H), (fun a _ _ _ => nomatch (show false = true from e14.symm.trans a)), (fun _ a _ _ => nomatch (show false = true from e15.symm.trans a)), (fun a _ _ _ => nomatch (show false = true from e14.symm.trans a)), (fun a _ _ _ => nomatch (show false = true from e14.symm.trans a)), (fun a _ _ _ => nomatch (show false = true from e14.symm.trans a))⟩
                  · skip
                    have H := W2 e14 e15 e16 e17
                    refine O.loadA [va0_0, va0_1] ag25 rfl rfl rfl rfl (H.cell 0 rfl) ?_
                    refine WL.nil ?_
                    exact ⟨b5, b6, hf1, rfl, hf5, hf6, hf9, hf10, hf27, hf28, hf29, (fun _ => rfl), hd1, hd2, hd3, hd4, hd5, hd6, hd7, hd8, hd9, hd10, hd11, hd12, hd13, hd14, hd15, C16_14, C16_15, C17_14, C17_15, C17_16, (fun _ a _ _ => nomatch (show true = false from e15.symm.trans a)), (fun a _ _ _ => nomatch (show false = true from e14.symm.trans a)), (fun _ _ _ _ => H), (fun a _ _ _ => nomatch (show false = true from e14.symm.trans a)), (fun a _ _ _ => nomatch (show false = true from e14.symm.trans a)), (fun a _ _ _ => nomatch (show false = true from e14.symm.trans a))⟩
                · skip
                  rcases bool_ft (S 15) with e15 | e15
                  · skip
                    have H := W1 e14 e15 e16 e17
                    refine O.loadA [va0_0, va0_1] ag25 rfl rfl rfl rfl (H.cell 0 rfl) ?_
                    refine WL.nil ?_
                    exact ⟨b5, b6, hf1, rfl, hf5, hf6, hf9, hf10, hf27, hf28, hf29, (fun _ => rfl), hd1, hd2, hd3, hd4, hd5, hd6, hd7, hd8, hd9, hd10, hd11, hd12, hd13, hd14, hd15, C16_14, C16_15, C17_14, C17_15, C17_16, (fun a _ _ _ => nomatch (show true = false from e14.symm.trans a)), (fun _ _ _ _ => H), (fun a _ _ _ => nomatch (show true = false from e14.symm.trans a)), (fun _ a _ _ => nomatch (show false = true from e15.symm.trans a)), (fun _ a _ _ => nomatch (show false = true from e15.symm.trans a)), (fun _ a _ _ => nomatch (show false = true from e15.symm.trans a))⟩
                  · skip
                    have H := W3 e14 e15 e16 e17
                    refine O.loadA [va0_0, va0_1] ag25 rfl rfl rfl rfl (H.cell 0 rfl) ?_
                    refine WL.nil ?_
                    exact ⟨b5, b6, hf1, rfl, hf5, hf6, hf9, hf10, hf27, hf28, hf29, (fun _ => rfl), hd1, hd2, hd3, hd4, hd5, hd6, hd7, hd8, hd9, hd10, hd11, hd12, hd13, hd14, hd15, C16_14, C16_15, C17_14, C17_15, C17_16, (fun a _ _ _ => nomatch (show true = false from e14.symm.trans a)), (fun _ a _ _ => nomatch (show true = false from e15.symm.trans a)), (fun a _ _ _ => nomatch (show true = false from e14.symm.trans a)), (fun _ _ _ _ => H), (fun _ _ a _ => nomatch (show false = true from e16.symm.trans a)), (fun _ _ a _ => nomatch (show false = true from e16.symm.trans a))⟩
              · skip
                rintro S f w hS - ⟨e7, e8, e9, e10, e11, e12, e13, e16, e17, -⟩ ⟨b5, b6, hf1, hf2, hf5, hf6, hf9, hf10, hf27, hf28, hf29, hd0, hd1, hd2, hd3, hd4, hd5, hd6, hd7, hd8, hd9, hd10, hd11, hd12, hd13, hd14, hd15, C16_14, C16_15, C17_14, C17_15, C17_16, W0, W1, W2, W3, W4, W5⟩
                obtain ⟨u5, rfl⟩ : ∃ u5, f = (upd u5 1 va1) := ⟨f, by rw [upd_self hf1]⟩
                rcases bool_ft (S 14) with e14 | e14
                · skip
                  rcases bool_ft (S 15) with e15 | e15
                  · skip
                    have H := W0 e14 e15 e16 e17
                    refine O.move (v := va1) rfl rfl rfl ?_
                    refine WL.nil ?_
                    exact ⟨b5, b6, rfl, hf2, hf5, hf6, hf9, hf10, hf27, hf28, hf29, hd0, (fun _ => rfl), hd2, hd3, hd4, hd5, hd6, hd7, hd8, hd9, hd10, hd11, hd12, hd13, hd14, hd15, C16_14, C16_15, C17_14, C17_15, C17_16, (fun _ _ _ _ => H), (fun a _ _ _ => nomatch (show false = true from e14.symm.trans a)), (fun _ a _ _ => nomatch (show false = true from e15.symm.trans a)), (fun a _ _ _ => nomatch (show false = true from e14.symm.trans a)), (fun a _ _ _ => nomatch (show false = true from e14.symm.trans a)), (fun a _ _ _ => nomatch (show false = true from e14.symm.trans a))⟩
                  · skip
                    have H := W2 e14 e15 e16 e17
                    refine O.move (v := va1) rfl rfl rfl ?_
                    refine WL.nil ?_
                    exact ⟨b5, b6, rfl, hf2, hf5, hf6, hf9, hf10, hf27, hf28, hf29, hd0, (fun _ => rfl), hd2, hd3, hd4, hd5, hd6, hd7, hd8, hd9, hd10, hd11, hd12, hd13, hd14, hd15, C16_14, C16_15, C17_14, C17_15, C17_16, (fun _ a _ _ => nomatch (show true = false from e15.symm.trans a)), (fun a _ _ _ => nomatch (show false = true from e14.symm.trans a)), (fun _ _ _ _ => H), (fun a _ _ _ => nomatch (show false = true from e14.symm.trans a)), (fun a _ _ _ => nomatch (show false = true from e14.symm.trans a)), (fun a _ _ _ => nomatch (show false = true from e14.symm.trans a))⟩
                · skip
                  rcases bool_ft (S 15) with e15 | e15
                  · skip
                    have H := W1 e14 e15 e16 e17
                    refine O.move (v := va1) rfl rfl rfl ?_
                    refine WL.nil ?_
                    exact ⟨b5, b6, rfl, hf2, hf5, hf6, hf9, hf10, hf27, hf28, hf29, hd0, (fun _ => rfl), hd2, hd3, hd4, hd5, hd6, hd7, hd8, hd9, hd10, hd11, hd12, hd13, hd14, hd15, C16_14, C16_15, C17_14, C17_15, C17_16, (fun a _ _ _ => nomatch (show true = false from e14.symm.trans a)), (fun _ _ _ _ => H), (fun a _ _ _ => nomatch (show true = false from e14.symm.trans a)), (fun _ a _ _ => nomatch (show false = true from e15.symm.trans a)), (fun _ a _ _ => nomatch (show false = true from e15.symm.trans a)), (fun _ a _ _ => nomatch (show false = true from e15.symm.trans a))⟩
                  · skip
                    have H := W3 e14 e15 e16 e17
                    refine O.move (v := va1) rfl rfl rfl ?_
                    refine WL.nil ?_
                    exact ⟨b5, b6, rfl, hf2, hf5, hf6, hf9, hf10, hf27, hf28, hf29, hd0, (fun _ => rfl), hd2, hd3, hd4, hd5, hd6, hd7, hd8, hd9, hd10, hd11, hd12, hd13, hd14, hd15, C16_14, C16_15, C17_14, C17_15, C17_16, (fun a _ _ _ => nomatch (show true = false from e14.symm.trans a)), (fun _ a _ _ => nomatch (show true = false from e15.symm.trans a)), (fun a _ _ _ => nomatch (show true = false from e14.symm.trans a)), (fun _ _ _ _ => H), (fun _ _ a _ => nomatch (show false = true from e16.symm.trans a)), (fun _ _ a _ => nomatch (show false = true from e16.symm.trans a))⟩
              · skip
                rintro S f w hS - ⟨e3, e6, e7, e8, e9, e10, e11, e12, e13, e16, e17, -⟩ ⟨b5, b6, hf1, hf2, hf5, hf6, hf9, hf10, hf27, hf28, hf29, hd0, hd1, hd2, hd3, hd4, hd5, hd6, hd7, hd8, hd9, hd10, hd11, hd12, hd13, hd14, hd15, C16_14, C16_15, C17_14, C17_15, C17_16, W0, W1, W2, W3, W4, W5⟩
                obtain ⟨u6, rfl⟩ : ∃ u6, f = (upd u6 6 (.int .i64 (ik1 : Int))) := ⟨f, by rw [upd_self hf6]⟩
                rcases bool_ft (S 14) with e14 | e14
                · skip
                  rcases bool_ft (S 15) with e15 | e15
                  · skip
                    have H := W0 e14 e15 e16 e17
                    refine O.move (v := (.int .i64 (ik1 : Int))) rfl rfl rfl ?_
                    refine WL.nil ?_
                    exact ⟨b5, b6, hf1, hf2, hf5, rfl, hf9, hf10, hf27, hf28, hf29, hd0, hd1, (fun _ => rfl), hd3, hd4, hd5, hd6, hd7, hd8, hd9, hd10, hd11, hd12, hd13, hd14, hd15, C16_14, C16_15, C17_14, C17_15, C17_16, (fun _ _ _ _ => H), (fun a _ _ _ => nomatch (show false = true from e14.symm.trans a)), (fun _ a _ _ => nomatch (show false = true from e15.symm.trans a)), (fun a _ _ _ => nomatch (show false = true from e14.symm.trans a)), (fun a _ _ _ => nomatch (show false = true from e14.symm.trans a)), (fun a _ _ _ => nomatch (show false = true from e14.symm.trans a))⟩
                  · skip
                    have H := W2 e14 e15 e16 e17
                    refine O.move (v := (.int .i64 (ik1 : Int))) rfl rfl rfl ?_
                    refine WL.nil ?_
                    exact ⟨b5, b6, hf1, hf2, hf5, rfl, hf9, hf10, hf27, hf28, hf29, hd0, hd1, (fun _ => rfl), hd3, hd4, hd5, hd6, hd7, hd8, hd9, hd10, hd11, hd12, hd13, hd14, hd15, C16_14, C16_15, C17_14, C17_15, C17_16, (fun _ a _ _ => nomatch (show true = false from e15.symm.trans a)), (fun a _ _ _ => nomatch (show false = true from e14.symm.trans a)), (fun _ _ _ _ => H), (fun a _ _ _ => nomatch (show false = true from e14.symm.trans a)), (fun a _ _ _ => nomatch (show false = true from e14.symm.trans a)), (fun a _ _ _ => nomatch (show false = true from e14.symm.trans a))⟩
                · skip
                  rcases bool_ft (S 15) with e15 | e15
                  · skip
                    have H := W1 e14 e15 e16 e17
                    refine O.move (v := (.int .i64 (ik1 : Int))) rfl rfl rfl ?_
                    refine WL.nil ?_
                    exact ⟨b5, b6, hf1, hf2, hf5, rfl, hf9, hf10, hf27, hf28, hf29, hd0, hd1, (fun _ => rfl), hd3, hd4, hd5, hd6, hd7, hd8, hd9, hd10, hd11, hd12, hd13, hd14, hd15, C16_14, C16_15, C17_14, C17_15, C17_16, (fun a _ _ _ => nomatch (show true = false from e14.symm.trans a)), (fun _ _ _ _ => H), (fun a _ _ _ => nomatch (show true = false from e14.symm.trans a)), (fun _ a _ _ => nomatch (show false = true from e15.symm.trans a)), (fun _ a _ _ => nomatch (show false = true from e15.symm.trans a)), (fun _ a _ _ => nomatch (show false = true from e15.symm.trans a))⟩
                  · skip
                    have H := W3 e14 e15 e16 e17
                    refine O.move (v := (.int .i64 (ik1 : Int))) rfl rfl rfl ?_
                    refine WL.nil ?_
                    exact ⟨b5, b6, hf1, hf2, hf5, rfl, hf9, hf10, hf27, hf28, hf29, hd0, hd1, (fun _ => rfl), hd3, hd4, hd5, hd6, hd7, hd8, hd9, hd10, hd11, hd12, hd13, hd14, hd15, C16_14, C16_15, C17_14, C17_15, C17_16, (fun a _ _ _ => nomatch (show true = false from e14.symm.trans a)), (fun _ a _ _ => nomatch (show true = false from e15.symm.trans a)), (fun a _ _ _ => nomatch (show true = false from e14.symm.trans a)), (fun _ _ _ _ => H), (fun _ _ a _ => nomatch (show false = true from e16.symm.trans a)), (fun _ _ a _ => nomatch (show false = true from e16.symm.trans a))⟩
              · skip
                rintro S f w hS ⟨e2, -⟩ ⟨e6, e7, e8, e9, e10, e11, e12, e13, e16, e17, -⟩ ⟨b5, b6, hf1, hf2, hf5, hf6, hf9, hf10, hf27, hf28, hf29, hd0, hd1, hd2, hd3, hd4, hd5, hd6, hd7, hd8, hd9, hd10, hd11, hd12, hd13, hd14, hd15, C16_14, C16_15, C17_14, C17_15, C17_16, W0, W1, W2, W3, W4, W5⟩
                have hf44 := hd2 e2
                obtain ⟨u7, rfl⟩ : ∃ u7, f = (upd u7 44 (.int .i64 (ik1 : Int))) := ⟨f, by rw [upd_self hf44]⟩
                rcases bool_ft (S 14) with e14 | e14
                · skip
                  rcases bool_ft (S 15) with e15 | e15
                  · skip
                    have H := W0 e14 e15 e16 e17
                    refine O.add rfl rfl rfl rfl ht6 ?_
                    refine WL.nil ?_
                    exact ⟨b5, b6, hf1, hf2, hf5, hf6, hf9, hf10, hf27, hf28, hf29, hd0, hd1, hd2, (fun _ => rfl), hd4, hd5, hd6, hd7, hd8, hd9, hd10, hd11, hd12, hd13, hd14, hd15, C16_14, C16_15, C17_14, C17_15, C17_16, (fun _ _ _ _ => H), (fun a _ _ _ => nomatch (show false = true from e14.symm.trans a)), (fun _ a _ _ => nomatch (show false = true from e15.symm.trans a)), (fun a _ _ _ => nomatch (show false = true from e14.symm.trans a)), (fun a _ _ _ => nomatch (show false = true from e14.symm.trans a)), (fun a _ _ _ => nomatch (show false = true from e14.symm.trans a))⟩
                  · skip
                    have H := W2 e14 e15 e16 e17
                    refine O.add rfl rfl rfl rfl ht6 ?_
                    refine WL.nil ?_
                    exact ⟨b5, b6, hf1, hf2, hf5, hf6, hf9, hf10, hf27, hf28, hf29, hd0, hd1, hd2, (fun _ => rfl), hd4, hd5, hd6, hd7, hd8, hd9, hd10, hd11, hd12, hd13, hd14, hd15, C16_14, C16_15, C17_14, C17_15, C17_16, (fun _ a _ _ => nomatch (show true = false from e15.symm.trans a)), (fun a _ _ _ => nomatch (show false = true from e14.symm.trans a)), (fun _ _ _ _ => H), (fun a _ _ _ => nomatch (show false = true from e14.symm.trans a)), (fun a _ _ _ => nomatch (show false = true from e14.symm.trans a)), (fun a _ _ _ => nomatch (show false = true from e14.symm.trans a))⟩
                · skip
                  rcases bool_ft (S 15) with e15 | e15
                  · skip
                    have H := W1 e14 e15 e16 e17
                    refine O.add rfl rfl rfl rfl ht6 ?_
                    refine WL.nil ?_
                    exact ⟨b5, b6, hf1, hf2, hf5, hf6, hf9, hf10, hf27, hf28, hf29, hd0, hd1, hd2, (fun _ => rfl), hd4, hd5, hd6, hd7, hd8, hd9, hd10, hd11, hd12, hd13, hd14, hd15, C16_14, C16_15, C17_14, C17_15, C17_16, (fun a _ _ _ => nomatch (show true = false from e14.symm.trans a)), (fun _ _ _ _ => H), (fun a _ _ _ => nomatch (show true = false from e14.symm.trans a)), (fun _ a _ _ => nomatch (show false = true from e15.symm.trans a)), (fun _ a _ _ => nomatch (show false = true from e15.symm.trans a)), (fun _ a _ _ => nomatch (show false = true from e15.symm.trans a))⟩
                  · skip
                    have H := W3 e14 e15 e16 e17
                    refine O.add rfl rfl rfl rfl ht6 ?_
                    refine WL.nil ?_
                    exact ⟨b5, b6, hf1, hf2, hf5, hf6, hf9, hf10, hf27, hf28, hf29, hd0, hd1, hd2, (fun _ => rfl), hd4, hd5, hd6, hd7, hd8, hd9, hd10, hd11, hd12, hd13, hd14, hd15, C16_14, C16_15, C17_14, C17_15, C17_16, (fun a _ _ _ => nomatch (show true = false from e14.symm.trans a)), (fun _ a _ _ => nomatch (show true = false from e15.symm.trans a)), (fun a _ _ _ => nomatch (show true = false from e14.symm.trans a)), (fun _ _ _ _ => H), (fun _ _ a _ => nomatch (show false = true from e16.symm.trans a)), (fun _ _ a _ => nomatch (show false = true from e16.symm.trans a))⟩
              · skip
                rintro S f w hS - ⟨e5, e6, e7, e8, e9, e10, e11, e12, e13, e16, e17, -⟩ ⟨b5, b6, hf1, hf2, hf5, hf6, hf9, hf10, hf27, hf28, hf29, hd0, hd1, hd2, hd3, hd4, hd5, hd6, hd7, hd8, hd9, hd10, hd11, hd12, hd13, hd14, hd15, C16_14, C16_15, C17_14, C17_15, C17_16, W0, W1, W2, W3, W4, W5⟩
                obtain ⟨u8, rfl⟩ : ∃ u8, f = (upd u8 1 va1) := ⟨f, by rw [upd_self hf1]⟩
                rcases bool_ft (S 14) with e14 | e14
                · skip
                  rcases bool_ft (S 15) with e15 | e15
                  · skip
                    have H := W0 e14 e15 e16 e17
                    refine O.move (v := va1) rfl rfl rfl ?_
                    refine WL.nil ?_
                    exact ⟨b5, b6, rfl, hf2, hf5, hf6, hf9, hf10, hf27, hf28, hf29, hd0, hd1, hd2, hd3, (fun _ => rfl), hd5, hd6, hd7, hd8, hd9, hd10, hd11, hd12, hd13, hd14, hd15, C16_14, C16_15, C17_14, C17_15, C17_16, (fun _ _ _ _ => H), (fun a _ _ _ => nomatch (show false = true from e14.symm.trans a)), (fun _ a _ _ => nomatch (show false = true from e15.symm.trans a)), (fun a _ _ _ => nomatch (show false = true from e14.symm.trans a)), (fun a _ _ _ => nomatch (show false = true from e14.symm.trans a)), (fun a _ _ _ => nomatch (show false = true from e14.symm.trans a))⟩
                  · skip
                    have H := W2 e14 e15 e16 e17
                    refine O.move (v := va1) rfl rfl rfl ?_
                    refine WL.nil ?_
                    exact ⟨b5, b6, rfl, hf2, hf5, hf6, hf9, hf10, hf27, hf28, hf29, hd0, hd1, hd2, hd3, (fun _ => rfl), hd5, hd6, hd7, hd8, hd9, hd10, hd11, hd12, hd13, hd14, hd15, C16_14, C16_15, C17_14, C17_15, C17_16, (fun _ a _ _ => nomatch (show true = false from e15.symm.trans a)), (fun a _ _ _ => nomatch (show false = true from e14.symm.trans a)), (fun _ _ _ _ => H), (fun a _ _ _ => nomatch (show false = true from e14.symm.trans a)), (fun a _ _ _ => nomatch (show false = true from e14.symm.trans a)), (fun a _ _ _ => nomatch (show false = true from e14.symm.trans a))⟩
                · skip
                  rcases bool_ft (S 15) with e15 | e15
                  · skip
                    have H := W1 e14 e15 e16 e17
                    refine O.move (v := va1) rfl rfl rfl ?_
                    refine WL.nil ?_
                    exact ⟨b5, b6, rfl, hf2, hf5, hf6, hf9, hf10, hf27, hf28, hf29, hd0, hd1, hd2, hd3, (fun _ => rfl), hd5, hd6, hd7, hd8, hd9, hd10, hd11, hd12, hd13, hd14, hd15, C16_14, C16_15, C17_14, C17_15, C17_16, (fun a _ _ _ => nomatch (show true = false from e14.symm.trans a)), (fun _ _ _ _ => H), (fun a _ _ _ => nomatch (show true = false from e14.symm.trans a)), (fun _ a _ _ => nomatch (show false = true from e15.symm.trans a)), (fun _ a _ _ => nomatch (show false = true from e15.symm.trans a)), (fun _ a _ _ => nomatch (show false = true from e15.symm.trans a))⟩
                  · skip
                    have H := W3 e14 e15 e16 e17
                    refine O.move (v := va1) rfl rfl rfl ?_
                    refine WL.nil ?_
                    exact ⟨b5, b6, rfl, hf2, hf5, hf6, hf9, hf10, hf27, hf28, hf29, hd0, hd1, hd2, hd3, (fun _ => rfl), hd5, hd6, hd7, hd8, hd9, hd10, hd11, hd12, hd13, hd14, hd15, C16_14, C16_15, C17_14, C17_15, C17_16, (fun a _ _ _ => nomatch (show true = false from e14.symm.trans a)), (fun _ a _ _ => nomatch (show true = false from e15.symm.trans a)), (fun a _ _ _ => nomatch (show true = false from e14.symm.trans a)), (fun _ _ _ _ => H), (fun _ _ a _ => nomatch (show false = true from e16.symm.trans a)), (fun _ _ a _ => nomatch (show false = true from e16.symm.trans a))⟩
              · skip
                rintro S f w hS ⟨e4, -⟩ ⟨e6, e7, e8, e9, e10, e11, e12, e13, e16, e17, -⟩ ⟨b5, b6, hf1, hf2, hf5, hf6, hf9, hf10, hf27, hf28, hf29, hd0, hd1, hd2, hd3, hd4, hd5, hd6, hd7, hd8, hd9, hd10, hd11, hd12, hd13, hd14, hd15, C16_14, C16_15, C17_14, C17_15, C17_16, W0, W1, W2, W3, W4, W5⟩
                have hf46 := hd4 e4
                obtain ⟨u9, rfl⟩ : ∃ u9, f = (upd u9 46 va1) := ⟨f, by rw [upd_self hf46]⟩
                rcases bool_ft (S 14) with e14 | e14
                · skip
                  rcases bool_ft (S 15) with e15 | e15
                  · skip
                    have H := W0 e14 e15 e16 e17
                    refine O.lenS Try.underlying22 (H.arg ha1) rfl rfl rfl ?_
                    refine WL.nil ?_
                    exact ⟨b5, b6, hf1, hf2, hf5, hf6, hf9, hf10, hf27, hf28, hf29, hd0, hd1, hd2, hd3, hd4, (fun _ => rfl), hd6, hd7, hd8, hd9, hd10, hd11, hd12, hd13, hd14, hd15, C16_14, C16_15, C17_14, C17_15, C17_16, (fun _ _ _ _ => H), (fun a _ _ _ => nomatch (show false = true from e14.symm.trans a)), (fun _ a _ _ => nomatch (show false = true from e15.symm.trans a)), (fun a _ _ _ => nomatch (show false = true from e14.symm.trans a)), (fun a _ _ _ => nomatch (show false = true from e14.symm.trans a)), (fun a _ _ _ => nomatch (show false = true from e14.symm.trans a))⟩
                  · skip
                    have H := W2 e14 e15 e16 e17
                    refine O.lenS Try.underlying22 (H.arg ha1) rfl rfl rfl ?_
                    refine WL.nil ?_
                    exact ⟨b5, b6, hf1, hf2, hf5, hf6, hf9, hf10, hf27, hf28, hf29, hd0, hd1, hd2, hd3, hd4, (fun _ => rfl), hd6, hd7, hd8, hd9, hd10, hd11, hd12, hd13, hd14, hd15, C16_14, C16_15, C17_14, C17_15, C17_16, (fun _ a _ _ => nomatch (show true = false from e15.symm.trans a)), (fun a _ _ _ => nomatch (show false = true from e14.symm.trans a)), (fun _ _ _ _ => H), (fun a _ _ _ => nomatch (show false = true from e14.symm.trans a)), (fun a _ _ _ => nomatch (show false = true from e14.symm.trans a)), (fun a _ _ _ => nomatch (show false = true from e14.symm.trans a))⟩
                · skip
                  rcases bool_ft (S 15) with e15 | e15
                  · skip
                    have H := W1 e14 e15 e16 e17
                    refine O.lenS Try.underlying22 (H.arg ha1) rfl rfl rfl ?_
                    refine WL.nil ?_
                    exact ⟨b5, b6, hf1, hf2, hf5, hf6, hf9, hf10, hf27, hf28, hf29, hd0, hd1, hd2, hd3, hd4, (fun _ => rfl), hd6, hd7, hd8, hd9, hd10, hd11, hd12, hd13, hd14, hd15, C16_14, C16_15, C17_14, C17_15, C17_16, (fun a _ _ _ => nomatch (show true = false from e14.symm.trans a)), (fun _ _ _ _ => H), (fun a _ _ _ => nomatch (show true = false from e14.symm.trans a)), (fun _ a _ _ => nomatch (show false = true from e15.symm.trans a)), (fun _ a _ _ => nomatch (show false = true from e15.symm.trans a)), (fun _ a _ _ => nomatch (show false = true from e15.symm.trans a))⟩
                  · skip
                    have H := W3 e14 e15 e16 e17
                    refine O.lenS Try.underlying22 (H.arg ha1) rfl rfl rfl ?_
                    refine WL.nil ?_
                    exact ⟨b5, b6, hf1, hf2, hf5, hf6, hf9, hf10, hf27, hf28, hf29, hd0, hd1, hd2, hd3, hd4, (fun _ => rfl), hd6, hd7, hd8, hd9, hd10, hd11, hd12, hd13, hd14, hd15, C16_14, C16_15, C17_14, C17_15, C17_16, (fun a _ _ _ => nomatch (show true = false from e14.symm.trans a)), (fun _ a _ _ => nomatch (show true = false from e15.symm.trans a)), (fun a _ _ _ => nomatch (show true = false from e14.symm.trans a)), (fun _ _ _ _ => H), (fun _ _ a _ => nomatch (show false = true from e16.symm.trans a)), (fun _ _ a _ => nomatch (show false = true from e16.symm.trans a))⟩
              · skip
                rintro S f w hS ⟨e2, e3, e4, e5, -⟩ ⟨e7, e8, e9, e10, e11, e12, e13, e16, e17, -⟩ ⟨b5, b6, hf1, hf2, hf5, hf6, hf9, hf10, hf27, hf28, hf29, hd0, hd1, hd2, hd3, hd4, hd5, hd6, hd7, hd8, hd9, hd10, hd11, hd12, hd13, hd14, hd15, C16_14, C16_15, C17_14, C17_15, C17_16, W0, W1, W2, W3, W4, W5⟩
                have hf45 := hd3 e3
                have hf47 := hd5 e5
                obtain ⟨u10, rfl⟩ : ∃ u10, f = (upd (upd u10 45 (.int .i64 t6)) 47 (.int .i64 ((a1.length : Nat) : Int))) := ⟨f, by rw [upd_self hf45, upd_self hf47]⟩
                rcases bool_ft (S 14) with e14 | e14
                · skip
                  rcases bool_ft (S 15) with e15 | e15
                  · skip
                    have H := W0 e14 e15 e16 e17
                    refine O.rem rfl rfl rfl rfl ht7 ?_
                    refine WL.nil ?_
                    exact ⟨b5, b6, hf1, hf2, hf5, hf6, hf9, hf10, hf27, hf28, hf29, hd0, hd1, hd2, hd3, hd4, hd5, (fun _ => rfl), hd7, hd8, hd9, hd10, hd11, hd12, hd13, hd14, hd15, C16_14, C16_15, C17_14, C17_15, C17_16, (fun _ _ _ _ => H), (fun a _ _ _ => nomatch (show false = true from e14.symm.trans a)), (fun _ a _ _ => nomatch (show false = true from e15.symm.trans a)), (fun a _ _ _ => nomatch (show false = true from e14.symm.trans a)), (fun a _ _ _ => nomatch (show false = true from e14.symm.trans a)), (fun a _ _ _ => nomatch (show false = true from e14.symm.trans a))⟩
                  · skip
                    have H := W2 e14 e15 e16 e17
                    refine O.rem rfl rfl rfl rfl ht7 ?_
                    refine WL.nil ?_
                    exact ⟨b5, b6, hf1, hf2, hf5, hf6, hf9, hf10, hf27, hf28, hf29, hd0, hd1, hd2, hd3, hd4, hd5, (fun _ => rfl), hd7, hd8, hd9, hd10, hd11, hd12, hd13, hd14, hd15, C16_14, C16_15, C17_14, C17_15, C17_16, (fun _ a _ _ => nomatch (show true = false from e15.symm.trans a)), (fun a _ _ _ => nomatch (show false = true from e14.symm.trans a)), (fun _ _ _ _ => H), (fun a _ _ _ => nomatch (show false = true from e14.symm.trans a)), (fun a _ _ _ => nomatch (show false = true from e14.symm.trans a)), (fun a _ _ _ => nomatch (show false = true from e14.symm.trans a))⟩
                · skip
                  rcases bool_ft (S 15) with e15 | e15
                  · skip
                    have H := W1 e14 e15 e16 e17
                    refine O.rem rfl rfl rfl rfl ht7 ?_
                    refine WL.nil ?_
                    exact ⟨b5, b6, hf1, hf2, hf5, hf6, hf9, hf10, hf27, hf28, hf29, hd0, hd1, hd2, hd3, hd4, hd5, (fun _ => rfl), hd7, hd8, hd9, hd10, hd11, hd12, hd13, hd14, hd15, C16_14, C16_15, C17_14, C17_15, C17_16, (fun a _ _ _ => nomatch (show true = false from e14.symm.trans a)), (fun _ _ _ _ => H), (fun a _ _ _ => nomatch (show true = false from e14.symm.trans a)), (fun _ a _ _ => nomatch (show false = true from e15.symm.trans a)), (fun _ a _ _ => nomatch (show false = true from e15.symm.trans a)), (fun _ a _ _ => nomatch (show false = true from e15.symm.trans a))⟩
                  · skip
                    have H := W3 e14 e15 e16 e17
                    refine O.rem rfl rfl rfl rfl ht7 ?_
                    refine WL.nil ?_
                    exact ⟨b5, b6, hf1, hf2, hf5, hf6, hf9, hf10, hf27, hf28, hf29, hd0, hd1, hd2, hd3, hd4, hd5, (fun _ => rfl), hd7, hd8, hd9, hd10, hd11, hd12, hd13, hd14, hd15, C16_14, C16_15, C17_14, C17_15, C17_16, (fun a _ _ _ => nomatch (show true = false from e14.symm.trans a)), (fun _ a _ _ => nomatch (show true = false from e15.symm.trans a)), (fun a _ _ _ => nomatch (show true = false from e14.symm.trans a)), (fun _ _ _ _ => H), (fun _ _ a _ => nomatch (show false = true from e16.symm.trans a)), (fun _ _ a _ => nomatch (show false = true from e16.symm.trans a))⟩
              · skip
                rintro S f w hS ⟨e1, e2, e3, e4, e5, e6, -⟩ ⟨e8, e9, e10, e11, e12, e13, e16, e17, -⟩ ⟨b5, b6, hf1, hf2, hf5, hf6, hf9, hf10, hf27, hf28, hf29, hd0, hd1, hd2, hd3, hd4, hd5, hd6, hd7, hd8, hd9, hd10, hd11, hd12, hd13, hd14, hd15, C16_14, C16_15, C17_14, C17_15, C17_16, W0, W1, W2, W3, W4, W5⟩
                have hf43 := hd1 e1
                have hf48 := hd6 e6
                obtain ⟨u11, rfl⟩ : ∃ u11, f = (upd (upd u11 43 va1) 48 (.int .i64 t7)) := ⟨f, by rw [upd_self hf43, upd_self hf48]⟩
                rcases bool_ft (S 14) with e14 | e14
                · skip
                  rcases bool_ft (S 15) with e15 | e15
                  · skip
                    have H := W0 e14 e15 e16 e17
                    refine hrp2 rfl rfl rfl rfl ?_
                    refine WL.nil ?_
                    exact ⟨b5, b6, hf1, hf2, hf5, hf6, hf9, hf10, hf27, hf28, hf29, hd0, hd1, hd2, hd3, hd4, hd5, hd6, (fun _ => rfl), hd8, hd9, hd10, hd11, hd12, hd13, hd14, hd15, C16_14, C16_15, C17_14, C17_15, C17_16, (fun _ _ _ _ => H), (fun a _ _ _ => nomatch (show false = true from e14.symm.trans a)), (fun _ a _ _ => nomatch (show false = true from e15.symm.trans a)), (fun a _ _ _ => nomatch (show false = true from e14.symm.trans a)), (fun a _ _ _ => nomatch (show false = true from e14.symm.trans a)), (fun a _ _ _ => nomatch (show false = true from e14.symm.trans a))⟩
                  · skip
                    have H := W2 e14 e15 e16 e17
                    refine hrp2 rfl rfl rfl rfl ?_
                    refine WL.nil ?_
                    exact ⟨b5, b6, hf1, hf2, hf5, hf6, hf9, hf10, hf27, hf28, hf29, hd0, hd1, hd2, hd3, hd4, hd5, hd6, (fun _ => rfl), hd8, hd9, hd10, hd11, hd12, hd13, hd14, hd15, C16_14, C16_15, C17_14, C17_15, C17_16, (fun _ a _ _ => nomatch (show true = false from e15.symm.trans a)), (fun a _ _ _ => nomatch (show false = true from e14.symm.trans a)), (fun _ _ _ _ => H), (fun a _ _ _ => nomatch (show false = true from e14.symm.trans a)), (fun a _ _ _ => nomatch (show false = true from e14.symm.trans a)), (fun a _ _ _ => nomatch (show false = true from e14.symm.trans a))⟩
                · skip
                  rcases bool_ft (S 15) with e15 | e15
                  · skip
                    have H := W1 e14 e15 e16 e17
                    refine hrp2 rfl rfl rfl rfl ?_
                    refine WL.nil ?_
                    exact ⟨b5, b6, hf1, hf2, hf5, hf6, hf9, hf10, hf27, hf28, hf29, hd0, hd1, hd2, hd3, hd4, hd5, hd6, (fun _ => rfl), hd8, hd9, hd10, hd11, hd12, hd13, hd14, hd15, C16_14, C16_15, C17_14, C17_15, C17_16, (fun a _ _ _ => nomatch (show true = false from e14.symm.trans a)), (fun _ _ _ _ => H), (fun a _ _ _ => nomatch (show true = false from e14.symm.trans a)), (fun _ a _ _ => nomatch (show false = true from e15.symm.trans a)), (fun _ a _ _ => nomatch (show false = true from e15.symm.trans a)), (fun _ a _ _ => nomatch (show false = true from e15.symm.trans a))⟩
                  · skip
                    have H := W3 e14 e15 e16 e17
                    refine hrp2 rfl rfl rfl rfl ?_
                    refine WL.nil ?_
                    exact ⟨b5, b6, hf1, hf2, hf5, hf6, hf9, hf10, hf27, hf28, hf29, hd0, hd1, hd2, hd3, hd4, hd5, hd6, (fun _ => rfl), hd8, hd9, hd10, hd11, hd12, hd13, hd14, hd15, C16_14, C16_15, C17_14, C17_15, C17_16, (fun a _ _ _ => nomatch (show true = false from e14.symm.trans a)), (fun _ a _ _ => nomatch (show true = false from e15.symm.trans a)), (fun a _ _ _ => nomatch (show true = false from e14.symm.trans a)), (fun _ _ _ _ => H), (fun _ _ a _ => nomatch (show false = true from e16.symm.trans a)), (fun _ _ a _ => nomatch (show false = true from e16.symm.trans a))⟩
              · skip
                rintro S f w hS ⟨e1, e2, e3, e4, e5, e6, e7, -⟩ ⟨e9, e10, e11, e12, e13, e16, e17, -⟩ ⟨b5, b6, hf1, hf2, hf5, hf6, hf9, hf10, hf27, hf28, hf29, hd0, hd1, hd2, hd3, hd4, hd5, hd6, hd7, hd8, hd9, hd10, hd11, hd12, hd13, hd14, hd15, C16_14, C16_15, C17_14, C17_15, C17_16, W0, W1, W2, W3, W4, W5⟩
                have hf49 := hd7 e7
                obtain ⟨u12, rfl⟩ : ∃ u12, f = (upd u12 49 (.pointer (some p2))) := ⟨f, by rw [upd_self hf49]⟩
                rcases bool_ft (S 14) with e14 | e14
                · skip
                  rcases bool_ft (S 15) with e15 | e15
                  · skip
                    have H := W0 e14 e15 e16 e17
                    refine O.load sc3 rfl rfl rfl ((hp2.mono H.base).flat 0 _ rfl) ?_
                    refine WL.nil ?_
                    exact ⟨b5, b6, hf1, hf2, hf5, hf6, hf9, hf10, hf27, hf28, hf29, hd0, hd1, hd2, hd3, hd4, hd5, hd6, hd7, (fun _ => rfl), hd9, hd10, hd11, hd12, hd13, hd14, hd15, C16_14, C16_15, C17_14, C17_15, C17_16, (fun _ _ _ _ => H), (fun a _ _ _ => nomatch (show false = true from e14.symm.trans a)), (fun _ a _ _ => nomatch (show false = true from e15.symm.trans a)), (fun a _ _ _ => nomatch (show false = true from e14.symm.trans a)), (fun a _ _ _ => nomatch (show false = true from e14.symm.trans a)), (fun a _ _ _ => nomatch (show false = true from e14.symm.trans a))⟩
                  · skip
                    have H := W2 e14 e15 e16 e17
                    refine O.load sc3 rfl rfl rfl ((hp2.mono H.base).flat 0 _ rfl) ?_
                    refine WL.nil ?_
                    exact ⟨b5, b6, hf1, hf2, hf5, hf6, hf9, hf10, hf27, hf28, hf29, hd0, hd1, hd2, hd3, hd4, hd5, hd6, hd7, (fun _ => rfl), hd9, hd10, hd11, hd12, hd13, hd14, hd15, C16_14, C16_15, C17_14, C17_15, C17_16, (fun _ a _ _ => nomatch (show true = false from e15.symm.trans a)), (fun a _ _ _ => nomatch (show false = true from e14.symm.trans a)), (fun _ _ _ _ => H), (fun a _ _ _ => nomatch (show false = true from e14.symm.trans a)), (fun a _ _ _ => nomatch (show false = true from e14.symm.trans a)), (fun a _ _ _ => nomatch (show false = true from e14.symm.trans a))⟩
                · skip
                  rcases bool_ft (S 15) with e15 | e15
                  · skip
                    have H := W1 e14 e15 e16 e17
                    refine O.load sc3 rfl rfl rfl ((hp2.mono H.base).flat 0 _ rfl) ?_
                    refine WL.nil ?_
                    exact ⟨b5, b6, hf1, hf2, hf5, hf6, hf9, hf10, hf27, hf28, hf29, hd0, hd1, hd2, hd3, hd4, hd5, hd6, hd7, (fun _ => rfl), hd9, hd10, hd11, hd12, hd13, hd14, hd15, C16_14, C16_15, C17_14, C17_15, C17_16, (fun a _ _ _ => nomatch (show true = false from e14.symm.trans a)), (fun _ _ _ _ => H), (fun a _ _ _ => nomatch (show true = false from e14.symm.trans a)), (fun _ a _ _ => nomatch (show false = true from e15.symm.trans a)), (fun _ a _ _ => nomatch (show false = true from e15.symm.trans a)), (fun _ a _ _ => nomatch (show false = true from e15.symm.trans a))⟩
                  · skip
                    have H := W3 e14 e15 e16 e17
                    refine O.load sc3 rfl rfl rfl ((hp2.mono H.base).flat 0 _ rfl) ?_
                    refine WL.nil ?_
                    exact ⟨b5, b6, hf1, hf2, hf5, hf6, hf9, hf10, hf27, hf28, hf29, hd0, hd1, hd2, hd3, hd4, hd5, hd6, hd7, (fun _ => rfl), hd9, hd10, hd11, hd12, hd13, hd14, hd15, C16_14, C16_15, C17_14, C17_15, C17_16, (fun a _ _ _ => nomatch (show true = false from e14.symm.trans a)), (fun _ a _ _ => nomatch (show true = false from e15.symm.trans a)), (fun a _ _ _ => nomatch (show true = false from e14.symm.trans a)), (fun _ _ _ _ => H), (fun _ _ a _ => nomatch (show false = true from e16.symm.trans a)), (fun _ _ a _ => nomatch (show false = true from e16.symm.trans a))⟩
              · skip
                rintro S f w hS ⟨e0, e1, e2, e3, e4, e5, e6, e7, e8, -⟩ ⟨e10, e11, e12, e13, e16, e17, -⟩ ⟨b5, b6, hf1, hf2, hf5, hf6, hf9, hf10, hf27, hf28, hf29, hd0, hd1, hd2, hd3, hd4, hd5, hd6, hd7, hd8, hd9, hd10, hd11, hd12, hd13, hd14, hd15, C16_14, C16_15, C17_14, C17_15, C17_16, W0, W1, W2, W3, W4, W5⟩
                have hf42 := hd0 e0
                have hf50 := hd8 e8
                obtain ⟨u13, rfl⟩ : ∃ u13, f = (upd (upd u13 42 (.agg #[va0_0, va0_1])) 50 (.int .i64 x2)) := ⟨f, by rw [upd_self hf42, upd_self hf50]⟩
                rcases bool_ft (S 14) with e14 | e14
                · skip
                  rcases bool_ft (S 15) with e15 | e15
                  · skip
                    have H := W0 e14 e15 e16 e17
                    refine O.call Try.call71 rfl rfl rfl (c_sight_taken _ _ (GNet.mk a0.Rates a0.Sights) (H.arg ha0_0) (H.arg ha0_1) _ hy4) ?_
                    rintro _ w9 hb7 rfl
                    have H := H.ext hb7
                    refine WL.nil ?_
                    exact ⟨b5, b6, hf1, hf2, hf5, hf6, hf9, hf10, hf27, hf28, hf29, hd0, hd1, hd2, hd3, hd4, hd5, hd6, hd7, hd8, (fun _ => rfl), hd10, hd11, hd12, hd13, hd14, hd15, C16_14, C16_15, C17_14, C17_15, C17_16, (fun _ _ _ _ => H), (fun a _ _ _ => nomatch (show false = true from e14.symm.trans a)), (fun _ a _ _ => nomatch (show false = true from e15.symm.trans a)), (fun a _ _ _ => nomatch (show false = true from e14.symm.trans a)), (fun a _ _ _ => nomatch (show false = true from e14.symm.trans a)), (fun a _ _ _ => nomatch (show false = true from e14.symm.trans a))⟩
                  · skip
                    have H := W2 e14 e15 e16 e17
                    refine O.call Try.call71 rfl rfl rfl (c_sight_taken _ _ (GNet.mk a0.Rates a0.Sights) (H.arg ha0_0) (H.arg ha0_1) _ hy4) ?_
                    rintro _ w9 hb7 rfl
                    have H := H.ext hb7
                    refine WL.nil ?_
                    exact ⟨b5, b6, hf1, hf2, hf5, hf6, hf9, hf10, hf27, hf28, hf29, hd0, hd1, hd2, hd3, hd4, hd5, hd6, hd7, hd8, (fun _ => rfl), hd10, hd11, hd12, hd13, hd14, hd15, C16_14, C16_15, C17_14, C17_15, C17_16, (fun _ a _ _ => nomatch (show true = false from e15.symm.trans a)), (fun a _ _ _ => nomatch (show false = true from e14.symm.trans a)), (fun _ _ _ _ => H), (fun a _ _ _ => nomatch (show false = true from e14.symm.trans a)), (fun a _ _ _ => nomatch (show false = true from e14.symm.trans a)), (fun a _ _ _ => nomatch (show false = true from e14.symm.trans a))⟩
                · skip
                  rcases bool_ft (S 15) with e15 | e15
                  · skip
                    have H := W1 e14 e15 e16 e17
                    refine O.call Try.call71 rfl rfl rfl (c_sight_taken _ _ (GNet.mk a0.Rates a0.Sights) (H.arg ha0_0) (H.arg ha0_1) _ hy4) ?_
                    rintro _ w9 hb7 rfl
                    have H := H.ext hb7
                    refine WL.nil ?_
                    exact ⟨b5, b6, hf1, hf2, hf5, hf6, hf9, hf10, hf27, hf28, hf29, hd0, hd1, hd2, hd3, hd4, hd5, hd6, hd7, hd8, (fun _ => rfl), hd10, hd11, hd12, hd13, hd14, hd15, C16_14, C16_15, C17_14, C17_15, C17_16, (fun a _ _ _ => nomatch (show true = false from e14.symm.trans a)), (fun _ _ _ _ => H), (fun a _ _ _ => nomatch (show true = false from e14.symm.trans a)), (fun _ a _ _ => nomatch (show false = true from e15.symm.trans a)), (fun _ a _ _ => nomatch (show false = true from e15.symm.trans a)), (fun _ a _ _ => nomatch (show false = true from e15.symm.trans a))⟩
                  · skip
                    have H := W3 e14 e15 e16 e17
                    refine O.call Try.call71 rfl rfl rfl (c_sight_taken _ _ (GNet.mk a0.Rates a0.Sights) (H.arg ha0_0) (H.arg ha0_1) _ hy4) ?_
                    rintro _ w9 hb7 rfl
                    have H := H.ext hb7
                    refine WL.nil ?_
                    exact ⟨b5, b6, hf1, hf2, hf5, hf6, hf9, hf10, hf27, hf28, hf29, hd0, hd1, hd2, hd3, hd4, hd5, hd6, hd7, hd8, (fun _ => rfl), hd10, hd11, hd12, hd13, hd14, hd15, C16_14, C16_15, C17_14, C17_15, C17_16, (fun a _ _ _ => nomatch (show true = false from e14.symm.trans a)), (fun _ a _ _ => nomatch (show true = false from e15.symm.trans a)), (fun a _ _ _ => nomatch (show true = false from e14.symm.trans a)), (fun _ _ _ _ => H), (fun _ _ a _ => nomatch (show false = true from e16.symm.trans a)), (fun _ _ a _ => nomatch (show false = true from e16.symm.trans a))⟩
              · skip
                rintro S f w hS ⟨e0, e1, e2, e3, e4, e5, e6, e7, e8, e9, -⟩ ⟨e11, e12, e13, e16, e17, -⟩ ⟨b5, b6, hf1, hf2, hf5, hf6, hf9, hf10, hf27, hf28, hf29, hd0, hd1, hd2, hd3, hd4, hd5, hd6, hd7, hd8, hd9, hd10, hd11, hd12, hd13, hd14, hd15, C16_14, C16_15, C17_14, C17_15, C17_16, W0, W1, W2, W3, W4, W5⟩
                have hf51 := hd9 e9
                obtain ⟨u14, rfl⟩ : ∃ u14, f = (upd u14 51 (.tuple #[(.agg (Flat.cells t8).toArray), (.agg (Flat.cells t9).toArray), (.int .i64 t10)])) := ⟨f, by rw [upd_self hf51]⟩
                rcases bool_ft (S 14) with e14 | e14
                · skip
                  rcases bool_ft (S 15) with e15 | e15
                  · skip
                    have H := W0 e14 e15 e16 e17
                    refine O.move (v := (.tuple #[(.agg (Flat.cells t8).toArray), (.agg (Flat.cells t9).toArray), (.int .i64 t10)])) rfl rfl rfl ?_
                    refine WL.nil ?_
                    exact ⟨b5, b6, hf1, hf2, hf5, hf6, hf9, hf10, hf27, hf28, hf29, hd0, hd1, hd2, hd3, hd4, hd5, hd6, hd7, hd8, hd9, (fun _ => rfl), hd11, hd12, hd13, hd14, hd15, C16_14, C16_15, C17_14, C17_15, C17_16, (fun _ _ _ _ => H), (fun a _ _ _ => nomatch (show false = true from e14.symm.trans a)), (fun _ a _ _ => nomatch (show false = true from e15.symm.trans a)), (fun a _ _ _ => nomatch (show false = true from e14.symm.trans a)), (fun a _ _ _ => nomatch (show false = true from e14.symm.trans a)), (fun a _ _ _ => nomatch (show false = true from e14.symm.trans a))⟩
                  · skip
                    have H := W2 e14 e15 e16 e17
                    refine O.move (v := (.tuple #[(.agg (Flat.cells t8).toArray), (.agg (Flat.cells t9).toArray), (.int .i64 t10)])) rfl rfl rfl ?_
                    refine WL.nil ?_
                    exact ⟨b5, b6, hf1, hf2, hf5, hf6, hf9, hf10, hf27, hf28, hf29, hd0, hd1, hd2, hd3, hd4, hd5, hd6, hd7, hd8, hd9, (fun _ => rfl), hd11, hd12, hd13, hd14, hd15, C16_14, C16_15, C17_14, C17_15, C17_16, (fun _ a _ _ => nomatch (show true = false from e15.symm.trans a)), (fun a _ _ _ => nomatch (show false = true from e14.symm.trans a)), (fun _ _ _ _ => H), (fun a _ _ _ => nomatch (show false = true from e14.symm.trans a)), (fun a _ _ _ => nomatch (show false = true from e14.symm.trans a)), (fun a _ _ _ => nomatch (show false = true from e14.symm.trans a))⟩
                · skip
                  rcases bool_ft (S 15) with e15 | e15
                  · skip
                    have H := W1 e14 e15 e16 e17
                    refine O.move (v := (.tuple #[(.agg (Flat.cells t8).toArray), (.agg (Flat.cells t9).toArray), (.int .i64 t10)])) rfl rfl rfl ?_
                    refine WL.nil ?_
                    exact ⟨b5, b6, hf1, hf2, hf5, hf6, hf9, hf10, hf27, hf28, hf29, hd0, hd1, hd2, hd3, hd4, hd5, hd6, hd7, hd8, hd9, (fun _ => rfl), hd11, hd12, hd13, hd14, hd15, C16_14, C16_15, C17_14, C17_15, C17_16, (fun a _ _ _ => nomatch (show true = false from e14.symm.trans a)), (fun _ _ _ _ => H), (fun a _ _ _ => nomatch (show true = false from e14.symm.trans a)), (fun _ a _ _ => nomatch (show false = true from e15.symm.trans a)), (fun _ a _ _ => nomatch (show false = true from e15.symm.trans a)), (fun _ a _ _ => nomatch (show false = true from e15.symm.trans a))⟩
                  · skip
                    have H := W3 e14 e15 e16 e17
                    refine O.move (v := (.tuple #[(.agg (Flat.cells t8).toArray), (.agg (Flat.cells t9).toArray), (.int .i64 t10)])) rfl rfl rfl ?_
                    refine WL.nil ?_
                    exact ⟨b5, b6, hf1, hf2, hf5, hf6, hf9, hf10, hf27, hf28, hf29, hd0, hd1, hd2, hd3, hd4, hd5, hd6, hd7, hd8, hd9, (fun _ => rfl), hd11, hd12, hd13, hd14, hd15, C16_14, C16_15, C17_14, C17_15, C17_16, (fun a _ _ _ => nomatch (show true = false from e14.symm.trans a)), (fun _ a _ _ => nomatch (show true = false from e15.symm.trans a)), (fun a _ _ _ => nomatch (show true = false from e14.symm.trans a)), (fun _ _ _ _ => H), (fun _ _ a _ => nomatch (show false = true from e16.symm.trans a)), (fun _ _ a _ => nomatch (show false = true from e16.symm.trans a))⟩
              · skip
                rintro S f w hS ⟨e0, e1, e2, e3, e4, e5, e6, e7, e8, e9, e10, -⟩ ⟨e16, e17, -⟩ ⟨b5, b6, hf1, hf2, hf5, hf6, hf9, hf10, hf27, hf28, hf29, hd0, hd1, hd2, hd3, hd4, hd5, hd6, hd7, hd8, hd9, hd10, hd11, hd12, hd13, hd14, hd15, C16_14, C16_15, C17_14, C17_15, C17_16, W0, W1, W2, W3, W4, W5⟩
                have hf41 := hd10 e10
                obtain ⟨u15, rfl⟩ : ∃ u15, f = (upd u15 41 (.tuple #[(.agg (Flat.cells t8).toArray), (.agg (Flat.cells t9).toArray), (.int .i64 t10)])) := ⟨f, by rw [upd_self hf41]⟩
                rcases bool_ft (S 14) with e14 | e14
                · skip
                  rcases bool_ft (S 15) with e15 | e15
                  · skip
                    have H := W0 e14 e15 e16 e17
                    refine O.extract (v := (.agg (Flat.cells t8).toArray)) rfl rfl rfl rfl ?_
                    refine WL.nil ?_
                    exact ⟨b5, b6, hf1, hf2, hf5, hf6, hf9, hf10, hf27, hf28, hf29, hd0, hd1, hd2, hd3, hd4, hd5, hd6, hd7, hd8, hd9, hd10, (fun _ => rfl), hd12, hd13, hd14, hd15, C16_14, C16_15, C17_14, C17_15, C17_16, (fun _ _ _ _ => H), (fun a _ _ _ => nomatch (show false = true from e14.symm.trans a)), (fun _ a _ _ => nomatch (show false = true from e15.symm.trans a)), (fun a _ _ _ => nomatch (show false = true from e14.symm.trans a)), (fun a _ _ _ => nomatch (show false = true from e14.symm.trans a)), (fun a _ _ _ => nomatch (show false = true from e14.symm.trans a))⟩
                  · skip
                    have H := W2 e14 e15 e16 e17
                    refine O.extract (v := (.agg (Flat.cells t8).toArray)) rfl rfl rfl rfl ?_
                    refine WL.nil ?_
                    exact ⟨b5, b6, hf1, hf2, hf5, hf6, hf9, hf10, hf27, hf28, hf29, hd0, hd1, hd2, hd3, hd4, hd5, hd6, hd7, hd8, hd9, hd10, (fun _ => rfl), hd12, hd13, hd14, hd15, C16_14, C16_15, C17_14, C17_15, C17_16, (fun _ a _ _ => nomatch (show true = false from e15.symm.trans a)), (fun a _ _ _ => nomatch (show false = true from e14.symm.trans a)), (fun _ _ _ _ => H), (fun a _ _ _ => nomatch (show false = true from e14.symm.trans a)), (fun a _ _ _ => nomatch (show false = true from e14.symm.trans a)), (fun a _ _ _ => nomatch (show false = true from e14.symm.trans a))⟩
                · skip
                  rcases bool_ft (S 15) with e15 | e15
                  · skip
                    have H := W1 e14 e15 e16 e17
                    refine O.extract (v := (.agg (Flat.cells t8).toArray)) rfl rfl rfl rfl ?_
                    refine WL.nil ?_
                    exact ⟨b5, b6, hf1, hf2, hf5, hf6, hf9, hf10, hf27, hf28, hf29, hd0, hd1, hd2, hd3, hd4, hd5, hd6, hd7, hd8, hd9, hd10, (fun _ => rfl), hd12, hd13, hd14, hd15, C16_14, C16_15, C17_14, C17_15, C17_16, (fun a _ _ _ => nomatch (show true = false from e14.symm.trans a)), (fun _ _ _ _ => H), (fun a _ _ _ => nomatch (show true = false from e14.symm.trans a)), (fun _ a _ _ => nomatch (show false = true from e15.symm.trans a)), (fun _ a _ _ => nomatch (show false = true from e15.symm.trans a)), (fun _ a _ _ => nomatch (show false = true from e15.symm.trans a))⟩
                  · skip
                    have H := W3 e14 e15 e16 e17
                    refine O.extract (v := (.agg (Flat.cells t8).toArray)) rfl rfl rfl rfl ?_
                    refine WL.nil ?_
                    exact ⟨b5, b6, hf1, hf2, hf5, hf6, hf9, hf10, hf27, hf28, hf29, hd0, hd1, hd2, hd3, hd4, hd5, hd6, hd7, hd8, hd9, hd10, (fun _ => rfl), hd12, hd13, hd14, hd15, C16_14, C16_15, C17_14, C17_15, C17_16, (fun a _ _ _ => nomatch (show true = false from e14.symm.trans a)), (fun _ a _ _ => nomatch (show true = false from e15.symm.trans a)), (fun a _ _ _ => nomatch (show true = false from e14.symm.trans a)), (fun _ _ _ _ => H), (fun _ _ a _ => nomatch (show false = true from e16.symm.trans a)), (fun _ _ a _ => nomatch (show false = true from e16.symm.trans a))⟩
              · skip
                rintro S f w hS ⟨e0, e1, e2, e3, e4, e5, e6, e7, e8, e9, e10, -⟩ ⟨e17, -⟩ ⟨b5, b6, hf1, hf2, hf5, hf6, hf9, hf10, hf27, hf28, hf29, hd0, hd1, hd2, hd3, hd4, hd5, hd6, hd7, hd8, hd9, hd10, hd11, hd12, hd13, hd14, hd15, C16_14, C16_15, C17_14, C17_15, C17_16, W0, W1, W2, W3, W4, W5⟩
                have hf41 := hd10 e10
                obtain ⟨u16, rfl⟩ : ∃ u16, f = (upd u16 41 (.tuple #[(.agg (Flat.cells t8).toArray), (.agg (Flat.cells t9).toArray), (.int .i64 t10)])) := ⟨f, by rw [upd_self hf41]⟩
                rcases bool_ft (S 14) with e14 | e14
                · skip
                  rcases bool_ft (S 15) with e15 | e15
                  · skip
                    rcases bool_ft (S 16) with e16 | e16
                    · skip
                      have H := W0 e14 e15 e16 e17
                      refine O.extract (v := (.agg (Flat.cells t9).toArray)) rfl rfl rfl rfl ?_
                      refine WL.nil ?_
                      exact ⟨b5, b6, hf1, hf2, hf5, hf6, hf9, hf10, hf27, hf28, hf29, hd0, hd1, hd2, hd3, hd4, hd5, hd6, hd7, hd8, hd9, hd10, hd11, (fun _ => rfl), hd13, hd14, hd15, C16_14, C16_15, C17_14, C17_15, C17_16, (fun _ _ _ _ => H), (fun a _ _ _ => nomatch (show false = true from e14.symm.trans a)), (fun _ a _ _ => nomatch (show false = true from e15.symm.trans a)), (fun a _ _ _ => nomatch (show false = true from e14.symm.trans a)), (fun a _ _ _ => nomatch (show false = true from e14.symm.trans a)), (fun a _ _ _ => nomatch (show false = true from e14.symm.trans a))⟩
                    · skip
                      exact nomatch (show true = false from (C16_14 e16).symm.trans e14)
                  · skip
                    rcases bool_ft (S 16) with e16 | e16
                    · skip
                      have H := W2 e14 e15 e16 e17
                      refine O.extract (v := (.agg (Flat.cells t9).toArray)) rfl rfl rfl rfl ?_
                      refine WL.nil ?_
                      exact ⟨b5, b6, hf1, hf2, hf5, hf6, hf9, hf10, hf27, hf28, hf29, hd0, hd1, hd2, hd3, hd4, hd5, hd6, hd7, hd8, hd9, hd10, hd11, (fun _ => rfl), hd13, hd14, hd15, C16_14, C16_15, C17_14, C17_15, C17_16, (fun _ a _ _ => nomatch (show true = false from e15.symm.trans a)), (fun a _ _ _ => nomatch (show false = true from e14.symm.trans a)), (fun _ _ _ _ => H), (fun a _ _ _ => nomatch (show false = true from e14.symm.trans a)), (fun a _ _ _ => nomatch (show false = true from e14.symm.trans a)), (fun a _ _ _ => nomatch (show false = true from e14.symm.trans a))⟩
                    · skip
                      exact nomatch (show true = false from (C16_14 e16).symm.trans e14)
                · skip
                  rcases bool_ft (S 15) with e15 | e15
                  · skip
                    rcases bool_ft (S 16) with e16 | e16
                    · skip
                      have H := W1 e14 e15 e16 e17
                      refine O.extract (v := (.agg (Flat.cells t9).toArray)) rfl rfl rfl rfl ?_
                      refine WL.nil ?_
                      exact ⟨b5, b6, hf1, hf2, hf5, hf6, hf9, hf10, hf27, hf28, hf29, hd0, hd1, hd2, hd3, hd4, hd5, hd6, hd7, hd8, hd9, hd10, hd11, (fun _ => rfl), hd13, hd14, hd15, C16_14, C16_15, C17_14, C17_15, C17_16, (fun a _ _ _ => nomatch (show true = false from e14.symm.trans a)), (fun _ _ _ _ => H), (fun a _ _ _ => nomatch (show true = false from e14.symm.trans a)), (fun _ a _ _ => nomatch (show false = true from e15.symm.trans a)), (fun _ a _ _ => nomatch (show false = true from e15.symm.trans a)), (fun _ a _ _ => nomatch (show false = true from e15.symm.trans a))⟩
                    · skip
                      exact nomatch (show true = false from (C16_15 e16).symm.trans e15)
                  · skip
                    rcases bool_ft (S 16) with e16 | e16
                    · skip
                      have H := W3 e14 e15 e16 e17
                      refine O.extract (v := (.agg (Flat.cells t9).toArray)) rfl rfl rfl rfl ?_
                      refine WL.nil ?_
                      exact ⟨b5, b6, hf1, hf2, hf5, hf6, hf9, hf10, hf27, hf28, hf29, hd0, hd1, hd2, hd3, hd4, hd5, hd6, hd7, hd8, hd9, hd10, hd11, (fun _ => rfl), hd13, hd14, hd15, C16_14, C16_15, C17_14, C17_15, C17_16, (fun a _ _ _ => nomatch (show true = false from e14.symm.trans a)), (fun _ a _ _ => nomatch (show true = false from e15.symm.trans a)), (fun a _ _ _ => nomatch (show true = false from e14.symm.trans a)), (fun _ _ _ _ => H), (fun _ _ a _ => nomatch (show false = true from e16.symm.trans a)), (fun _ _ a _ => nomatch (show false = true from e16.symm.trans a))⟩
                    · skip
                      have H := W4 e14 e15 e16 e17
                      refine O.extract (v := (.agg (Flat.cells t9).toArray)) rfl rfl rfl rfl ?_
                      refine WL.nil ?_
                      exact ⟨b5, b6, hf1, hf2, hf5, hf6, hf9, hf10, hf27, hf28, hf29, hd0, hd1, hd2, hd3, hd4, hd5, hd6, hd7, hd8, hd9, hd10, hd11, (fun _ => rfl), hd13, hd14, hd15, C16_14, C16_15, C17_14, C17_15, C17_16, (fun a _ _ _ => nomatch (show true = false from e14.symm.trans a)), (fun _ a _ _ => nomatch (show true = false from e15.symm.trans a)), (fun a _ _ _ => nomatch (show true = false from e14.symm.trans a)), (fun _ _ a _ => nomatch (show true = false from e16.symm.trans a)), (fun _ _ _ _ => H), (fun _ _ _ a => nomatch (show false = true from e17.symm.trans a))⟩
              · skip
                rintro S f w hS ⟨e0, e1, e2, e3, e4, e5, e6, e7, e8, e9, e10, -⟩ - ⟨b5, b6, hf1, hf2, hf5, hf6, hf9, hf10, hf27, hf28, hf29, hd0, hd1, hd2, hd3, hd4, hd5, hd6, hd7, hd8, hd9, hd10, hd11, hd12, hd13, hd14, hd15, C16_14, C16_15, C17_14, C17_15, C17_16, W0, W1, W2, W3, W4, W5⟩
                have hf41 := hd10 e10
                obtain ⟨u17, rfl⟩ : ∃ u17, f = (upd u17 41 (.tuple #[(.agg (Flat.cells t8).toArray), (.agg (Flat.cells t9).toArray), (.int .i64 t10)])) := ⟨f, by rw [upd_self hf41]⟩
                rcases bool_ft (S 14) with e14 | e14
                · skip
                  rcases bool_ft (S 15) with e15 | e15
                  · skip
                    rcases bool_ft (S 16) with e16 | e16
                    · skip
                      rcases bool_ft (S 17) with e17 | e17
                      · skip
                        have H := W0 e14 e15 e16 e17
                        refine O.extract (v := (.int .i64 t10)) rfl rfl rfl rfl ?_
                        refine WL.nil ?_
                        exact ⟨b5, b6, hf1, hf2, hf5, hf6, hf9, hf10, hf27, hf28, hf29, hd0, hd1, hd2, hd3, hd4, hd5, hd6, hd7, hd8, hd9, hd10, hd11, hd12, (fun _ => rfl), hd14, hd15, C16_14, C16_15, C17_14, C17_15, C17_16, (fun _ _ _ _ => H), (fun a _ _ _ => nomatch (show false = true from e14.symm.trans a)), (fun _ a _ _ => nomatch (show false = true from e15.symm.trans a)), (fun a _ _ _ => nomatch (show false = true from e14.symm.trans a)), (fun a _ _ _ => nomatch (show false = true from e14.symm.trans a)), (fun a _ _ _ => nomatch (show false = true from e14.symm.trans a))⟩
                      · skip
                        exact nomatch (show true = false from (C17_14 e17).symm.trans e14)
                    · skip
                      rcases bool_ft (S 17) with e17 | e17
                      · skip
                        exact nomatch (show true = false from (C16_14 e16).symm.trans e14)
                      · skip
                        exact nomatch (show true = false from (C16_14 e16).symm.trans e14)
                  · skip
                    rcases bool_ft (S 16) with e16 | e16
                    · skip
                      rcases bool_ft (S 17) with e17 | e17
                      · skip
                        have H := W2 e14 e15 e16 e17
                        refine O.extract (v := (.int .i64 t10)) rfl rfl rfl rfl ?_
                        refine WL.nil ?_
                        exact ⟨b5, b6, hf1, hf2, hf5, hf6, hf9, hf10, hf27, hf28, hf29, hd0, hd1, hd2, hd3, hd4, hd5, hd6, hd7, hd8, hd9, hd10, hd11, hd12, (fun _ => rfl), hd14, hd15, C16_14, C16_15, C17_14, C17_15, C17_16, (fun _ a _ _ => nomatch (show true = false from e15.symm.trans a)), (fun a _ _ _ => nomatch (show false = true from e14.symm.trans a)), (fun _ _ _ _ => H), (fun a _ _ _ => nomatch (show false = true from e14.symm.trans a)), (fun a _ _ _ => nomatch (show false = true from e14.symm.trans a)), (fun a _ _ _ => nomatch (show false = true from e14.symm.trans a))⟩
                      · skip
                        exact nomatch (show true = false from (C17_14 e17).symm.trans e14)
                    · skip
                      rcases bool_ft (S 17) with e17 | e17
                      · skip
                        exact nomatch (show true = false from (C16_14 e16).symm.trans e14)
                      · skip
                        exact nomatch (show true = false from (C16_14 e16).symm.trans e14)
                · skip
                  rcases bool_ft (S 15) with e15 | e15
                  · skip
                    rcases bool_ft (S 16) with e16 | e16
                    · skip
                      rcases bool_ft (S 17) with e17 | e17
                      · skip
                        have H := W1 e14 e15 e16 e17
                        refine O.extract (v := (.int .i64 t10)) rfl rfl rfl rfl ?_
                        refine WL.nil ?_
                        exact ⟨b5, b6, hf1, hf2, hf5, hf6, hf9, hf10, hf27, hf28, hf29, hd0, hd1, hd2, hd3, hd4, hd5, hd6, hd7, hd8, hd9, hd10, hd11, hd12, (fun _ => rfl), hd14, hd15, C16_14, C16_15, C17_14, C17_15, C17_16, (fun a _ _ _ => nomatch (show true = false from e14.symm.trans a)), (fun _ _ _ _ => H), (fun a _ _ _ => nomatch (show true = false from e14.symm.trans a)), (fun _ a _ _ => nomatch (show false = true from e15.symm.trans a)), (fun _ a _ _ => nomatch (show false = true from e15.symm.trans a)), (fun _ a _ _ => nomatch (show false = true from e15.symm.trans a))⟩
                      · skip
                        exact nomatch (show true = false from (C17_15 e17).symm.trans e15)
                    · skip
                      rcases bool_ft (S 17) with e17 | e17
                      · skip
                        exact nomatch (show true = false from (C16_15 e16).symm.trans e15)
                      · skip
                        exact nomatch (show true = false from (C16_15 e16).symm.trans e15)
                  · skip
                    rcases bool_ft (S 16) with e16 | e16
                    · skip
                      rcases bool_ft (S 17) with e17 | e17
                      · skip
                        have H := W3 e14 e15 e16 e17
                        refine O.extract (v := (.int .i64 t10)) rfl rfl rfl rfl ?_
                        refine WL.nil ?_
                        exact ⟨b5, b6, hf1, hf2, hf5, hf6, hf9, hf10, hf27, hf28, hf29, hd0, hd1, hd2, hd3, hd4, hd5, hd6, hd7, hd8, hd9, hd10, hd11, hd12, (fun _ => rfl), hd14, hd15, C16_14, C16_15, C17_14, C17_15, C17_16, (fun a _ _ _ => nomatch (show true = false from e14.symm.trans a)), (fun _ a _ _ => nomatch (show true = false from e15.symm.trans a)), (fun a _ _ _ => nomatch (show true = false from e14.symm.trans a)), (fun _ _ _ _ => H), (fun _ _ a _ => nomatch (show false = true from e16.symm.trans a)), (fun _ _ a _ => nomatch (show false = true from e16.symm.trans a))⟩
                      · skip
                        exact nomatch (show true = false from (C17_16 e17).symm.trans e16)
                    · skip
                      rcases bool_ft (S 17) with e17 | e17
                      · skip
                        have H := W4 e14 e15 e16 e17
                        refine O.extract (v := (.int .i64 t10)) rfl rfl rfl rfl ?_
                        refine WL.nil ?_
                        exact ⟨b5, b6, hf1, hf2, hf5, hf6, hf9, hf10, hf27, hf28, hf29, hd0, hd1, hd2, hd3, hd4, hd5, hd6, hd7, hd8, hd9, hd10, hd11, hd12, (fun _ => rfl), hd14, hd15, C16_14, C16_15, C17_14, C17_15, C17_16, (fun a _ _ _ => nomatch (show true = false from e14.symm.trans a)), (fun _ a _ _ => nomatch (show true = false from e15.symm.trans a)), (fun a _ _ _ => nomatch (show true = false from e14.symm.trans a)), (fun _ _ a _ => nomatch (show true = false from e16.symm.trans a)), (fun _ _ _ _ => H), (fun _ _ _ a => nomatch (show false = true from e17.symm.trans a))⟩
                      · skip
                        have H := W5 e14 e15 e16 e17
                        refine O.extract (v := (.int .i64 t10)) rfl rfl rfl rfl ?_
                        refine WL.nil ?_
                        exact ⟨b5, b6, hf1, hf2, hf5, hf6, hf9, hf10, hf27, hf28, hf29, hd0, hd1, hd2, hd3, hd4, hd5, hd6, hd7, hd8, hd9, hd10, hd11, hd12, (fun _ => rfl), hd14, hd15, C16_14, C16_15, C17_14, C17_15, C17_16, (fun a _ _ _ => nomatch (show true = false from e14.symm.trans a)), (fun _ a _ _ => nomatch (show true = false from e15.symm.trans a)), (fun a _ _ _ => nomatch (show true = false from e14.symm.trans a)), (fun _ _ a _ => nomatch (show true = false from e16.symm.trans a)), (fun _ _ _ a => nomatch (show true = false from e17.symm.trans a)), (fun _ _ _ _ => H)⟩
              · skip
                rintro S f w hS - ⟨e16, e17, -⟩ ⟨_, b6, hf1, hf2, hf5, hf6, hf9, hf10, hf27, hf28, hf29, hd0, hd1, hd2, hd3, hd4, hd5, hd6, hd7, hd8, hd9, hd10, hd11, hd12, hd13, hd14, hd15, C16_14, C16_15, C17_14, C17_15, C17_16, W0, W1, W2, W3, W4, W5⟩
                rcases bool_ft (S 15) with e15 | e15
                · skip
                  have H := W0 hS e15 e16 e17
                  refine O.alloc [(.int .i64 0), (.int .i64 0)] ze87 H rfl rfl rfl ?_
                  intro b5 w10 H hb8
                  refine WL.nil ?_
                  have H := H.pick [0, 1, 2, 5, 4] [boxI b1 25 [va0_0, va0_1], boxI b3 87 [(.int .i64 t3.clock), (.int .i64 t3.at_)], boxI b4 87 [(.int .i64 t4.clock), (.int .i64 t4.at_)], boxI b5 87 [(.int .i64 0), (.int .i64 0)], goneI] rfl (by decide)
                  exact ⟨b5, b6, hf1, hf2, hf5, hf6, hf9, hf10, hf27, hf28, hf29, hd0, hd1, hd2, hd3, hd4, hd5, hd6, hd7, hd8, hd9, hd10, hd11, hd12, hd13, (fun _ => rfl), hd15, (fun _ => rfl), C16_15, (fun _ => rfl), C17_15, C17_16, (fun a _ _ _ => nomatch (show true = false from a)), (fun _ _ _ _ => H), (fun a _ _ _ => nomatch (show true = false from a)), (fun _ a _ _ => nomatch (show false = true from e15.symm.trans a)), (fun _ a _ _ => nomatch (show false = true from e15.symm.trans a)), (fun _ a _ _ => nomatch (show false = true from e15.symm.trans a))⟩
                · skip
                  have H := W2 hS e15 e16 e17
                  refine O.alloc [(.int .i64 0), (.int .i64 0)] ze87 H rfl rfl rfl ?_
                  intro b5 w10 H hb8
                  refine WL.nil ?_
                  have H := H.pick [0, 1, 2, 5, 4] [boxI b1 25 [va0_0, va0_1], boxI b3 87 [(.int .i64 t3.clock), (.int .i64 t3.at_)], boxI b4 87 [(.int .i64 t4.clock), (.int .i64 t4.at_)], boxI b5 87 [(.int .i64 0), (.int .i64 0)], boxI b6 87 [(.int .i64 0), (.int .i64 0)]] rfl (by decide)
                  exact ⟨b5, b6, hf1, hf2, hf5, hf6, hf9, hf10, hf27, hf28, hf29, hd0, hd1, hd2, hd3, hd4, hd5, hd6, hd7, hd8, hd9, hd10, hd11, hd12, hd13, (fun _ => rfl), hd15, (fun _ => rfl), C16_15, (fun _ => rfl), C17_15, C17_16, (fun a _ _ _ => nomatch (show true = false from a)), (fun _ a _ _ => nomatch (show true = false from e15.symm.trans a)), (fun a _ _ _ => nomatch (show true = false from a)), (fun _ _ _ _ => H), (fun _ _ a _ => nomatch (show false = true from e16.symm.trans a)), (fun _ _ a _ => nomatch (show false = true from e16.symm.trans a))⟩
              · skip
                rintro S f w hS - ⟨e16, e17, -⟩ ⟨b5, _, hf1, hf2, hf5, hf6, hf9, hf10, hf27, hf28, hf29, hd0, hd1, hd2, hd3, hd4, hd5, hd6, hd7, hd8, hd9, hd10, hd11, hd12, hd13, hd14, hd15, C16_14, C16_15, C17_14, C17_15, C17_16, W0, W1, W2, W3, W4, W5⟩
                rcases bool_ft (S 14) with e14 | e14
                · skip
                  have H := W0 e14 hS e16 e17
                  refine O.alloc [(.int .i64 0), (.int .i64 0)] ze87 H rfl rfl rfl ?_
                  intro b6 w11 H hb9
                  refine WL.nil ?_
                  have H := H.pick [0, 1, 2, 3, 5] [boxI b1 25 [va0_0, va0_1], boxI b3 87 [(.int .i64 t3.clock), (.int .i64 t3.at_)], boxI b4 87 [(.int .i64 t4.clock), (.int .i64 t4.at_)], goneI, boxI b6 87 [(.int .i64 0), (.int .i64 0)]] rfl (by decide)
                  exact ⟨b5, b6, hf1, hf2, hf5, hf6, hf9, hf10, hf27, hf28, hf29, hd0, hd1, hd2, hd3, hd4, hd5, hd6, hd7, hd8, hd9, hd10, hd11, hd12, hd13, hd14, (fun _ => rfl), C16_14, (fun _ => rfl), C17_14, (fun _ => rfl), C17_16, (fun _ a _ _ => nomatch (show true = false from a)), (fun a _ _ _ => nomatch (show false = true from e14.symm.trans a)), (fun _ _ _ _ => H), (fun a _ _ _ => nomatch (show false = true from e14.symm.trans a)), (fun a _ _ _ => nomatch (show false = true from e14.symm.trans a)), (fun a _ _ _ => nomatch (show false = true from e14.symm.trans a))⟩
                · skip
                  have H := W1 e14 hS e16 e17
                  refine O.alloc [(.int .i64 0), (.int .i64 0)] ze87 H rfl rfl rfl ?_
                  intro b6 w11 H hb9
                  refine WL.nil ?_
                  have H := H.pick [0, 1, 2, 3, 5] [boxI b1 25 [va0_0, va0_1], boxI b3 87 [(.int .i64 t3.clock), (.int .i64 t3.at_)], boxI b4 87 [(.int .i64 t4.clock), (.int .i64 t4.at_)], boxI b5 87 [(.int .i64 0), (.int .i64 0)], boxI b6 87 [(.int .i64 0), (.int .i64 0)]] rfl (by decide)
                  exact ⟨b5, b6, hf1, hf2, hf5, hf6, hf9, hf10, hf27, hf28, hf29, hd0, hd1, hd2, hd3, hd4, hd5, hd6, hd7, hd8, hd9, hd10, hd11, hd12, hd13, hd14, (fun _ => rfl), C16_14, (fun _ => rfl), C17_14, (fun _ => rfl), C17_16, (fun a _ _ _ => nomatch (show true = false from e14.symm.trans a)), (fun _ a _ _ => nomatch (show true = false from a)), (fun a _ _ _ => nomatch (show true = false from e14.symm.trans a)), (fun _ _ _ _ => H), (fun _ _ a _ => nomatch (show false = true from e16.symm.trans a)), (fun _ _ a _ => nomatch (show false = true from e16.symm.trans a))⟩
              · skip
                rintro S f w hS ⟨e0, e1, e2, e3, e4, e5, e6, e7, e8, e9, e10, e11, e14, e15, -⟩ ⟨e17, -⟩ ⟨b5, b6, hf1, hf2, hf5, hf6, hf9, hf10, hf27, hf28, hf29, hd0, hd1, hd2, hd3, hd4, hd5, hd6, hd7, hd8, hd9, hd10, hd11, hd12, hd13, hd14, hd15, C16_14, C16_15, C17_14, C17_15, C17_16, W0, W1, W2, W3, W4, W5⟩
                have hf11 := hd14 e14
                have hf52 := hd11 e11
                obtain ⟨u18, rfl⟩ : ∃ u18, f = (upd (upd u18 11 (.pointer (some ⟨b5, 0, none⟩))) 52 (.agg (Flat.cells t8).toArray)) := ⟨f, by rw [upd_self hf11, upd_self hf52]⟩
                have H := W3 e14 e15 hS e17
                refine O.store 3 0 [(.int .i64 t8.clock), (.int .i64 t8.at_)] [(.int .i64 t8.clock), (.int .i64 t8.at_)] sz87 H rfl rfl rfl rfl rfl rfl ⟨⟨rfl, rfl⟩, rfl⟩ (one_cons rfl (one_cons rfl one_nil)) ?_
                intro w12 H
                refine WL.nil ?_
                exact ⟨b5, b6, hf1, hf2, hf5, hf6, hf9, hf10, hf27, hf28, hf29, hd0, hd1, hd2, hd3, hd4, hd5, hd6, hd7, hd8, hd9, hd10, hd11, hd12, hd13, hd14, hd15, (fun _ => e14), (fun _ => e15), C17_14, C17_15, (fun _ => rfl), (fun a _ _ _ => nomatch (show true = false from e14.symm.trans a)), (fun _ a _ _ => nomatch (show true = false from e15.symm.trans a)), (fun a _ _ _ => nomatch (show true = false from e14.symm.trans a)), (fun _ _ a _ => nomatch (show true = false from a)), (fun _ _ _ _ => H), (fun _ _ _ a => nomatch (show false = true from e17.symm.trans a))⟩
              · skip
                rintro S f w hS ⟨e0, e1, e2, e3, e4, e5, e6, e7, e8, e9, e10, e11, e12, e14, e15, e16, -⟩ - ⟨b5, b6, hf1, hf2, hf5, hf6, hf9, hf10, hf27, hf28, hf29, hd0, hd1, hd2, hd3, hd4, hd5, hd6, hd7, hd8, hd9, hd10, hd11, hd12, hd13, hd14, hd15, C16_14, C16_15, C17_14, C17_15, C17_16, W0, W1, W2, W3, W4, W5⟩
                have hf12 := hd15 e15
                have hf53 := hd12 e12
                obtain ⟨u19, rfl⟩ : ∃ u19, f = (upd (upd u19 12 (.pointer (some ⟨b6, 0, none⟩))) 53 (.agg (Flat.cells t9).toArray)) := ⟨f, by rw [upd_self hf12, upd_self hf53]⟩
                have H := W4 e14 e15 e16 hS
                refine O.store 4 0 [(.int .i64 t9.clock), (.int .i64 t9.at_)] [(.int .i64 t9.clock), (.int .i64 t9.at_)] sz87 H rfl rfl rfl rfl rfl rfl ⟨⟨rfl, rfl⟩, rfl⟩ (one_cons rfl (one_cons rfl one_nil)) ?_
                intro w13 H
                refine WL.nil ?_
                exact ⟨b5, b6, hf1, hf2, hf5, hf6, hf9, hf10, hf27, hf28, hf29, hd0, hd1, hd2, hd3, hd4, hd5, hd6, hd7, hd8, hd9, hd10, hd11, hd12, hd13, hd14, hd15, C16_14, C16_15, (fun _ => e14), (fun _ => e15), (fun _ => e16), (fun a _ _ _ => nomatch (show true = false from e14.symm.trans a)), (fun _ a _ _ => nomatch (show true = false from e15.symm.trans a)), (fun a _ _ _ => nomatch (show true = false from e14.symm.trans a)), (fun _ _ a _ => nomatch (show true = false from e16.symm.trans a)), (fun _ _ _ a => nomatch (show true = false from a)), (fun _ _ _ _ => H)⟩
            · skip
              rintro S f w ⟨e0, e1, e2, e3, e4, e5, e6, e7, e8, e9, e10, e11, e12, e13, e14, e15, e16, e17, -⟩ ⟨b5, b6, hf1, hf2, hf5, hf6, hf9, hf10, hf27, hf28, hf29, hd0, hd1, hd2, hd3, hd4, hd5, hd6, hd7, hd8, hd9, hd10, hd11, hd12, hd13, hd14, hd15, C16_14, C16_15, C17_14, C17_15, C17_16, W0, W1, W2, W3, W4, W5⟩
              have hf11 := hd14 e14
              have hf54 := hd13 e13
              have H := W5 e14 e15 e16 e17
              obtain ⟨u20, rfl⟩ : ∃ u20, f = (upd (upd (upd (upd (upd (upd (upd (upd (upd (upd u20 1 va1) 2 (.pointer (some ⟨b1, 0, none⟩))) 5 (.int .i64 z2)) 9 (.pointer (some ⟨b4, 0, none⟩))) 10 (.int .i64 t5)) 11 (.pointer (some ⟨b5, 0, none⟩))) 27 va1) 28 (.int .i64 ((a1.length : Nat) : Int))) 29 (.int .i64 (ik1 : Int))) 54 (.int .i64 t10)) := ⟨f, by rw [upd_self hf1, upd_self hf2, upd_self hf5, upd_self hf9, upd_self hf10, upd_self hf11, upd_self hf27, upd_self hf28, upd_self hf29, upd_self hf54]⟩
              refine O.assign (v := (.int .i64 t10)) rfl rfl rfl ?_
              refine WL.nil ?_
              refine W.seq ?_
              refine W.seq ?_
              refine W.region ?_
              refine O.fieldAddr fd87_0 rfl rfl rfl ?_
              refine O.load sc3 rfl rfl rfl (H.cell 2 rfl 0 _ rfl) ?_
              refine O.fieldAddr fd87_0 rfl rfl rfl ?_
              refine O.load sc3 rfl rfl rfl (H.cell 3 rfl 0 _ rfl) ?_
              refine O.neq rfl rfl rfl rfl ?_
              refine WL.nil ?_
              rcases ite_some hm3 with ⟨hc4, hm3⟩ | ⟨hc4, hm3⟩
              · refine W.cond_true (congrArg Value.bool hc4) ?_
                refine W.seq ?_
                refine W.region ?_
                refine O.assign (v := (.bool false)) rfl rfl rfl ?_
                refine WL.nil ?_
                refine W.ret ?_
                obtain rfl := Option.some.inj hm3
                refine ⟨_, rfl, ?_⟩
                rintro rfl
                have hq : false = r0 := Option.some.inj (show some false = some r0 from hm)
                subst hq
                exact ends1 Try.results28 rfl ⟨_, rfl, H.base, rfl⟩
              · refine W.cond_false (congrArg Value.bool hc4) ?_
                refine W.skip ?_
                refine W.region ?_
                refine O.move (v := (.int .i64 z2)) rfl rfl rfl ?_
                refine O.move (v := (.int .i64 t5)) rfl rfl rfl ?_
                refine O.loadA [va0_0, va0_1] ag25 rfl rfl rfl rfl (H.cell 0 rfl) ?_
                refine O.fieldAddr fd87_0 rfl rfl rfl ?_
                refine O.load sc3 rfl rfl rfl (H.cell 2 rfl 0 _ rfl) ?_
                refine O.fieldAddr fd87_1 rfl rfl rfl ?_
                refine O.load sc3 rfl rfl rfl (H.cell 2 rfl 1 _ rfl) ?_
                refine O.fieldAddr fd87_1 rfl rfl rfl ?_
                refine O.load sc3 rfl rfl rfl (H.cell 3 rfl 1 _ rfl) ?_
                obtain ⟨t11, ht11, hm3⟩ := bind_some hm3
                refine O.sub rfl rfl rfl rfl ht11 ?_
                obtain ⟨t12, hy5, hm3⟩ := bind_some hm3
                refine O.call Try.call72 rfl rfl rfl (c_sight_carry _ _ (GNet.mk a0.Rates a0.Sights) (H.arg ha0_0) (H.arg ha0_1) _ _ hy5) ?_
                rintro _ w14 hb10 rfl
                have H := H.ext hb10
                obtain ⟨t13, ht13, hm3⟩ := bind_some hm3
                refine O.add rfl rfl rfl rfl ht13 ?_
                obtain ⟨t14, ht14, hm3⟩ := bind_some hm3
                refine O.add rfl rfl rfl rfl ht14 ?_
                refine O.assign (v := (.int .i64 t14)) rfl rfl rfl ?_
                refine WL.nil ?_
                refine W.region ?_
                refine O.add rfl rfl rfl rfl hinck1 ?_
                refine O.move (v := .int .i64 ((ik1 : Int) + 1)) rfl rfl rfl ?_
                refine WL.nil ?_
                have H := H.keep [0] [boxI b1 25 [va0_0, va0_1]] rfl (by decide)
                obtain rfl := Option.some.inj hm3
                exact ⟨_, rfl, _, rfl, rangeN_next hdropk1, rfl, rfl, rfl, rfl, rfl, rfl, H⟩
          · skip
            rintro ik1 _ f w ⟨z2, rfl, hdropk1, hf29, hf28, hf1, hf2, hf5, hf27, H⟩ hfin
            have hltk1 := rangeN_end hdropk1
            obtain ⟨u21, rfl⟩ : ∃ u21, f = (upd (upd (upd (upd (upd (upd u21 29 (.int .i64 (ik1 : Int))) 28 (.int .i64 ((a1.length : Nat) : Int))) 1 va1) 2 (.pointer (some ⟨b1, 0, none⟩))) 5 (.int .i64 z2)) 27 va1) := ⟨f, by rw [upd_self hf29, upd_self hf28, upd_self hf1, upd_self hf2, upd_self hf5, upd_self hf27]⟩
            refine W.seq ?_
            refine W.region ?_
            refine O.lss rfl rfl rfl rfl ?_
            refine WL.nil ?_
            refine W.seq ?_
            refine W.cond_false (congrArg Value.bool (decide_eq_false hltk1)) ?_
            refine W.exit ?_
            obtain rfl : Ctl.next z2 = o1 := hfin
            have H := H.keep [] [] rfl (by decide)
            refine xT rfl ?_
            exact ⟨_, rfl, rfl, H⟩
        · skip
          rintro f w ⟨s1, rfl, hf5, H⟩
          obtain ⟨u22, rfl⟩ : ∃ u22, f = (upd u22 5 (.int .i64 s1)) := ⟨f, by rw [upd_self hf5]⟩
          refine W.seq ?_
          refine W.region ?_
          refine O.move (v := (.int .i64 s1)) rfl rfl rfl ?_
          refine O.lss rfl rfl rfl rfl ?_
          refine O.assign (v := (.bool (decide (s1 < 0)))) rfl rfl rfl ?_
          refine WL.nil ?_
          refine W.ret ?_
          have hq : (decide (s1 < 0)) = r0 := Option.some.inj (show some (decide (s1 < 0)) = some r0 from hm)
          subst hq
          exact ends1 Try.results28 rfl ⟨_, rfl, H.base, rfl⟩

set_option maxRecDepth 20000 in
theorem c_noongunlaw02_awake {w0 : World}  {r0 : Bool} (hm : noongunlaw02_awake  = some r0) :
    Calls Try.prog 15 #[] w0 (Ret w0 fun _ v => v = (.bool r0)) := by
  unfold noongunlaw02_awake at hm
  refine calls_of_W Try.func15 rfl Try.ntmps15 (Nat.le_of_ble_eq_true rfl) ?_
  have H := Inv.start (w := w0)
  refine W.seq ?_
  refine W.region ?_
  refine O.assign (v := (.bool false)) rfl rfl rfl ?_
  refine WL.nil ?_
  refine W.seq ?_
  refine W.region ?_
  obtain ⟨t1, hy1, hm⟩ := bind_some hm
  refine O.call Try.call53 rfl rfl rfl (c_noongunlaw02_two  hy1) ?_
  rintro _ w1 hb1 ⟨v1, v2, rfl, ho1⟩
  have H := H.addAll hb1 ho1
  refine O.alloc [(.slice none 0 0), (.slice none 0 0)] ze25 H rfl rfl rfl ?_
  intro b1 w2 H hb2
  have H := H.addNil (α := Int) (E := 3)
  have H := H.addNil (α := GSight) (E := 39)
  refine O.store 2 0 [v1, v2] [v1, v2] sz25 H rfl rfl rfl rfl rfl rfl ⟨⟨rfl, rfl⟩, rfl⟩ (one_cons (SliceR.one (H.own 0 rfl)) (one_cons (SliceR.one (H.own 1 rfl)) one_nil)) ?_
  intro w3 H
  refine WL.nil ?_
  refine W.seq ?_
  refine W.region ?_
  refine O.loadA [v1, v2] ag25 rfl rfl rfl rfl (H.cell 2 rfl) ?_
  obtain ⟨⟨t2, t3⟩, hy2, hm⟩ := bind_some hm
  refine O.call Try.call20 rfl rfl rfl (c_sight_Consistent _ _ (GNet.mk t1.Rates t1.Sights) (H.own 0 rfl) (H.own 1 rfl) hy2) ?_
  rintro _ w4 hb3 rfl
  have H := H.ext hb3
  refine O.move (v := (.tuple #[(.bool t2), (.int .i64 t3)])) rfl rfl rfl ?_
  refine O.extract (v := (.bool t2)) rfl rfl rfl rfl ?_
  refine O.extract (v := (.int .i64 t3)) rfl rfl rfl rfl ?_
  refine O.assign (v := (.bool t2)) rfl rfl rfl ?_
  refine O.assign (v := (.int .i64 t3)) rfl rfl rfl ?_
  refine WL.nil ?_
  refine W.seq ?_
  refine W.region ?_
  refine O.fieldAddr fd25_1 rfl rfl rfl ?_
  refine O.load sc23 rfl rfl rfl (H.cell 2 rfl 1 _ rfl) ?_
  obtain ⟨t4, ht4, hm⟩ := bind_some hm
  refine O.sliceHs Try.underlying23 sz39 (H.own 1 rfl) ht4 rfl rfl rfl rfl ?_
  intro v3 hs1
  refine O.fieldAddr fd25_1 rfl rfl rfl ?_
  refine O.store 2 1 [v3] [v1, v3] sz23 H rfl rfl rfl rfl rfl (SliceR.cells1 (hs1 _ (H.own 1 rfl))) ⟨⟨rfl, rfl⟩, rfl⟩ (one_cons (SliceR.one (hs1 _ (H.own 1 rfl))) one_nil) ?_
  intro w5 H
  refine WL.nil ?_
  refine W.seq ?_
  refine W.region ?_
  refine O.loadA [v1, v3] ag25 rfl rfl rfl rfl (H.cell 2 rfl) ?_
  obtain ⟨⟨t5, t6⟩, hy3, hm⟩ := bind_some hm
  refine O.call Try.call21 rfl rfl rfl (c_sight_Error _ _ (GNet.mk t1.Rates t4) (H.own 0 rfl) (hs1 _ (H.own 1 rfl)) _ _ hy3) ?_
  rintro _ w6 hb4 rfl
  have H := H.ext hb4
  refine O.move (v := (.tuple #[(.agg (Flat.cells t5).toArray), (.int .i64 t6)])) rfl rfl rfl ?_
  refine O.extract (v := (.agg (Flat.cells t5).toArray)) rfl rfl rfl rfl ?_
  refine O.extract (v := (.int .i64 t6)) rfl rfl rfl rfl ?_
  refine O.alloc [(.int .i64 0), (.int .i64 0)] ze30 H rfl rfl rfl ?_
  intro b2 w7 H hb5
  refine O.store 5 0 [(.int .i64 t5.Lo), (.int .i64 t5.Hi)] [(.int .i64 t5.Lo), (.int .i64 t5.Hi)] sz30 H rfl rfl rfl rfl rfl rfl ⟨⟨rfl, rfl⟩, rfl⟩ (one_cons rfl (one_cons rfl one_nil)) ?_
  intro w8 H
  refine O.assign (v := (.int .i64 t6)) rfl rfl rfl ?_
  refine WL.nil ?_
  refine W.seq ?_
  refine W.region ?_
  refine O.move (v := (.int .i64 t3)) rfl rfl rfl ?_
  refine O.eql rfl rfl rfl rfl ?_
  refine O.move (v := (.bool (t3 == 0))) rfl rfl rfl ?_
  refine WL.cut 3 (fun f w => f 4 = (.pointer (some ⟨b2, 0, none⟩)) ∧ f 5 = (.int .i64 t6) ∧ f 26 = .bool ((t3 == 0) && (!t2)) ∧ Inv w0 w [ownI (α := Int) v1 3 t1.Rates, ownI (α := GSight) v2 39 t1.Sights, boxI b1 25 [v1, v3], ownI (α := Int) (.slice none 0 0) 3 ([] : List Int), ownI (α := GSight) (.slice none 0 0) 39 ([] : List GSight), boxI b2 30 [(.int .i64 t5.Lo), (.int .i64 t5.Hi)]]) ?_ ?_
  · skip
    rcases bool_ft (t3 == 0) with hc1 | hc1
    · skip
      refine WL.reset (i := 23) (v := .bool false) (congrArg Value.bool hc1) ?_
      refine O.skip rfl rfl ?_
      refine O.skip rfl rfl ?_
      refine O.pick_false (v := (.bool false)) rfl rfl rfl rfl ?_
      refine WL.nil ?_
      exact ⟨rfl, rfl, congrArg Value.bool (and_f hc1), H⟩
    · skip
      refine WL.reset (i := 23) (v := .bool true) (congrArg Value.bool hc1) ?_
      refine O.move (v := (.bool t2)) rfl rfl rfl ?_
      refine O.not rfl rfl rfl ?_
      refine O.pick_true (v := (.bool (!t2))) rfl rfl rfl rfl ?_
      refine WL.nil ?_
      exact ⟨rfl, rfl, congrArg Value.bool (and_t hc1), H⟩
  · skip
    rintro f w ⟨hf4, hf5, hf26, H⟩
    obtain ⟨u1, rfl⟩ : ∃ u1, f = (upd (upd (upd u1 4 (.pointer (some ⟨b2, 0, none⟩))) 5 (.int .i64 t6)) 26 (.bool ((t3 == 0) && (!t2)))) := ⟨f, by rw [upd_self hf4, upd_self hf5, upd_self hf26]⟩
    refine O.move (v := (.bool ((t3 == 0) && (!t2)))) rfl rfl rfl ?_
    obtain ⟨b3, hm1, hm⟩ := bind_some hm
    refine WL.cut 4 (fun f w => f 4 = (.pointer (some ⟨b2, 0, none⟩)) ∧ f 5 = (.int .i64 t6) ∧ f 31 = .bool b3 ∧ Inv w0 w [ownI (α := Int) v1 3 t1.Rates, ownI (α := GSight) v2 39 t1.Sights, boxI b1 25 [v1, v3], ownI (α := Int) (.slice none 0 0) 3 ([] : List Int), ownI (α := GSight) (.slice none 0 0) 39 ([] : List GSight), boxI b2 30 [(.int .i64 t5.Lo), (.int .i64 t5.Hi)]]) ?_ ?_
    · skip
      rcases ite_some hm1 with ⟨hc2, hm1⟩ | ⟨hc2, hm1⟩
      · skip
        refine WL.reset (i := 27) (v := .bool true) (congrArg Value.bool hc2) ?_
        obtain ⟨t7, hy4, hm1⟩ := bind_some hm1
        refine O.call Try.call53 rfl rfl rfl (c_noongunlaw02_two  hy4) ?_
        rintro _ w9 hb6 ⟨v4, v5, rfl, ho2⟩
        have H := H.addAll hb6 ho2
        refine O.buildSlice (α := Int) [(.int .i64 0), (.int .i64 3)] [0, 3] Try.underlying22 el3 H rfl rfl rfl rfl rfl rfl rfl ?_
        intro v6 w10 H hb7
        obtain ⟨t8, hy5, hm1⟩ := bind_some hm1
        refine O.call Try.call28 rfl rfl rfl (c_sight_Proves _ _ t7 (H.own 6 rfl) (H.own 7 rfl) _ _ (H.own 8 rfl) hy5) ?_
        rintro _ w11 hb8 rfl
        have H := H.ext hb8
        refine O.pick_true (v := (.bool t8)) rfl rfl rfl rfl ?_
        refine WL.nil ?_
        have H := H.keep [0, 1, 2, 3, 4, 5] [ownI (α := Int) v1 3 t1.Rates, ownI (α := GSight) v2 39 t1.Sights, boxI b1 25 [v1, v3], ownI (α := Int) (.slice none 0 0) 3 ([] : List Int), ownI (α := GSight) (.slice none 0 0) 39 ([] : List GSight), boxI b2 30 [(.int .i64 t5.Lo), (.int .i64 t5.Hi)]] rfl (by decide)
        have hq : t8 = b3 := Option.some.inj (show some t8 = some b3 from hm1)
        subst hq
        exact ⟨rfl, rfl, rfl, H⟩
      · skip
        refine WL.reset (i := 27) (v := .bool false) (congrArg Value.bool hc2) ?_
        refine O.skip rfl rfl ?_
        refine O.skip rfl rfl ?_
        refine O.skip rfl rfl ?_
        refine O.pick_false (v := (.bool false)) rfl rfl rfl rfl ?_
        refine WL.nil ?_
        have hq : false = b3 := Option.some.inj (show some false = some b3 from hm1)
        subst hq
        exact ⟨rfl, rfl, rfl, H⟩
    · skip
      rintro f w ⟨hf4, hf5, hf31, H⟩
      obtain ⟨u2, rfl⟩ : ∃ u2, f = (upd (upd (upd u2 4 (.pointer (some ⟨b2, 0, none⟩))) 5 (.int .i64 t6)) 31 (.bool b3)) := ⟨f, by rw [upd_self hf4, upd_self hf5, upd_self hf31]⟩
      refine O.move (v := (.bool b3)) rfl rfl rfl ?_
      refine WL.cut 3 (fun f w => f 4 = (.pointer (some ⟨b2, 0, none⟩)) ∧ f 35 = .bool (b3 && (t6 == 0)) ∧ Inv w0 w [ownI (α := Int) v1 3 t1.Rates, ownI (α := GSight) v2 39 t1.Sights, boxI b1 25 [v1, v3], ownI (α := Int) (.slice none 0 0) 3 ([] : List Int), ownI (α := GSight) (.slice none 0 0) 39 ([] : List GSight), boxI b2 30 [(.int .i64 t5.Lo), (.int .i64 t5.Hi)]]) ?_ ?_
      · skip
        rcases bool_ft b3 with hc3 | hc3
        · skip
          refine WL.reset (i := 32) (v := .bool false) (congrArg Value.bool hc3) ?_
          refine O.skip rfl rfl ?_
          refine O.skip rfl rfl ?_
          refine O.pick_false (v := (.bool false)) rfl rfl rfl rfl ?_
          refine WL.nil ?_
          exact ⟨rfl, congrArg Value.bool (and_f hc3), H⟩
        · skip
          refine WL.reset (i := 32) (v := .bool true) (congrArg Value.bool hc3) ?_
          refine O.move (v := (.int .i64 t6)) rfl rfl rfl ?_
          refine O.eql rfl rfl rfl rfl ?_
          refine O.pick_true (v := (.bool (t6 == 0))) rfl rfl rfl rfl ?_
          refine WL.nil ?_
          exact ⟨rfl, congrArg Value.bool (and_t hc3), H⟩
      · skip
        rintro f w ⟨hf4, hf35, H⟩
        obtain ⟨u3, rfl⟩ : ∃ u3, f = (upd (upd u3 4 (.pointer (some ⟨b2, 0, none⟩))) 35 (.bool (b3 && (t6 == 0)))) := ⟨f, by rw [upd_self hf4, upd_self hf35]⟩
        refine O.move (v := (.bool (b3 && (t6 == 0)))) rfl rfl rfl ?_
        refine WL.cut 4 (fun f w => f 40 = .bool ((b3 && (t6 == 0)) && (t5 == (GSpan.mk 90 110))) ∧ Inv w0 w [ownI (α := Int) v1 3 t1.Rates, ownI (α := GSight) v2 39 t1.Sights, boxI b1 25 [v1, v3], ownI (α := Int) (.slice none 0 0) 3 ([] : List Int), ownI (α := GSight) (.slice none 0 0) 39 ([] : List GSight), boxI b2 30 [(.int .i64 t5.Lo), (.int .i64 t5.Hi)]]) ?_ ?_
        · skip
          rcases bool_ft (b3 && (t6 == 0)) with hc4 | hc4
          · skip
            refine WL.reset (i := 36) (v := .bool false) (congrArg Value.bool hc4) ?_
            refine O.skip rfl rfl ?_
            refine O.skip rfl rfl ?_
            refine O.skip rfl rfl ?_
            refine O.pick_false (v := (.bool false)) rfl rfl rfl rfl ?_
            refine WL.nil ?_
            exact ⟨congrArg Value.bool (and_f hc4), H⟩
          · skip
            refine WL.reset (i := 36) (v := .bool true) (congrArg Value.bool hc4) ?_
            refine O.loadA [(.int .i64 t5.Lo), (.int .i64 t5.Hi)] ag30 rfl rfl rfl rfl (H.cell 5 rfl) ?_
            refine O.build (v := (.agg (Flat.cells (GSpan.mk 90 110)).toArray)) (fun w => bd30_0_1 _ _ w) rfl rfl rfl ?_
            refine O.eqlSt t5 (GSpan.mk 90 110) eq30 rfl rfl rfl rfl ?_
            refine O.pick_true (v := (.bool (t5 == (GSpan.mk 90 110)))) rfl rfl rfl rfl ?_
            refine WL.nil ?_
            exact ⟨congrArg Value.bool (and_t hc4), H⟩
        · skip
          rintro f w ⟨hf40, H⟩
          obtain ⟨u4, rfl⟩ : ∃ u4, f = (upd u4 40 (.bool ((b3 && (t6 == 0)) && (t5 == (GSpan.mk 90 110))))) := ⟨f, by rw [upd_self hf40]⟩
          refine O.assign (v := (.bool ((b3 && (t6 == 0)) && (t5 == (GSpan.mk 90 110))))) rfl rfl rfl ?_
          refine WL.nil ?_
          refine W.ret ?_
          have hq : ((b3 && (t6 == 0)) && (t5 == (GSpan.mk 90 110))) = r0 := Option.some.inj (show some ((b3 && (t6 == 0)) && (t5 == (GSpan.mk 90 110))) = some r0 from hm)
          subst hq
          exact ends1 Try.results15 rfl ⟨_, rfl, H.base, rfl⟩

theorem c_noongunlaw02_inside {w0 : World} (a0 : GSpan) (a1 : GSpan) {r0 : Bool} (hm : noongunlaw02_inside a0 a1 = some r0) :
    Calls Try.prog 17 #[(.agg (Flat.cells a0).toArray), (.agg (Flat.cells a1).toArray)] w0 (Ret w0 fun _ v => v = (.bool r0)) := by
  unfold noongunlaw02_inside at hm
  refine calls_of_W Try.func17 rfl Try.ntmps17 (Nat.le_of_ble_eq_true rfl) ?_
  have H := Inv.start (w := w0)
  refine W.seq ?_
  refine W.region ?_
  refine O.box [(.int .i64 a0.Lo), (.int .i64 a0.Hi)] H rfl rfl rfl rfl ?_
  intro b1 w1 H hb1
  refine O.box [(.int .i64 a1.Lo), (.int .i64 a1.Hi)] H rfl rfl rfl rfl ?_
  intro b2 w2 H hb2
  refine O.assign (v := (.bool false)) rfl rfl rfl ?_
  refine WL.nil ?_
  refine W.seq ?_
  refine W.region ?_
  refine O.fieldAddr fd30_0 rfl rfl rfl ?_
  refine O.load sc3 rfl rfl rfl (H.cell 1 rfl 0 _ rfl) ?_
  refine O.fieldAddr fd30_0 rfl rfl rfl ?_
  refine O.load sc3 rfl rfl rfl (H.cell 0 rfl 0 _ rfl) ?_
  refine O.leq rfl rfl rfl rfl ?_
  refine O.move (v := (.bool (decide (a1.Lo ≤ a0.Lo)))) rfl rfl rfl ?_
  refine WL.cut 6 (fun f w => f 16 = .bool ((decide (a1.Lo ≤ a0.Lo)) && (decide (a0.Hi ≤ a1.Hi))) ∧ Inv w0 w [boxI b1 30 [(.int .i64 a0.Lo), (.int .i64 a0.Hi)], boxI b2 30 [(.int .i64 a1.Lo), (.int .i64 a1.Hi)]]) ?_ ?_
  · skip
    rcases bool_ft (decide (a1.Lo ≤ a0.Lo)) with hc1 | hc1
    · skip
      refine WL.reset (i := 10) (v := .bool false) (congrArg Value.bool hc1) ?_
      refine O.skip rfl rfl ?_
      refine O.skip rfl rfl ?_
      refine O.skip rfl rfl ?_
      refine O.skip rfl rfl ?_
      refine O.skip rfl rfl ?_
      refine O.pick_false (v := (.bool false)) rfl rfl rfl rfl ?_
      refine WL.nil ?_
      exact ⟨congrArg Value.bool (and_f hc1), H⟩
    · skip
      refine WL.reset (i := 10) (v := .bool true) (congrArg Value.bool hc1) ?_
      refine O.fieldAddr fd30_1 rfl rfl rfl ?_
      refine O.load sc3 rfl rfl rfl (H.cell 0 rfl 1 _ rfl) ?_
      refine O.fieldAddr fd30_1 rfl rfl rfl ?_
      refine O.load sc3 rfl rfl rfl (H.cell 1 rfl 1 _ rfl) ?_
      refine O.leq rfl rfl rfl rfl ?_
      refine O.pick_true (v := (.bool (decide (a0.Hi ≤ a1.Hi)))) rfl rfl rfl rfl ?_
      refine WL.nil ?_
      exact ⟨congrArg Value.bool (and_t hc1), H⟩
  · skip
    rintro f w ⟨hf16, H⟩
    obtain ⟨u1, rfl⟩ : ∃ u1, f = (upd u1 16 (.bool ((decide (a1.Lo ≤ a0.Lo)) && (decide (a0.Hi ≤ a1.Hi))))) := ⟨f, by rw [upd_self hf16]⟩
    refine O.assign (v := (.bool ((decide (a1.Lo ≤ a0.Lo)) && (decide (a0.Hi ≤ a1.Hi))))) rfl rfl rfl ?_
    refine WL.nil ?_
    refine W.ret ?_
    have hq : ((decide (a1.Lo ≤ a0.Lo)) && (decide (a0.Hi ≤ a1.Hi))) = r0 := Option.some.inj (show some ((decide (a1.Lo ≤ a0.Lo)) && (decide (a0.Hi ≤ a1.Hi))) = some r0 from hm)
    subst hq
    exact ends1 Try.results17 rfl ⟨_, rfl, H.base, rfl⟩

set_option maxRecDepth 20000 in
theorem c_noongunlaw02_SightOrders {w0 : World} (va0_0 : Value) (va0_1 : Value) (a0 : GNet) (ha0_0 : SliceR w0 va0_0 a0.Rates) (ha0_1 : SliceR w0 va0_1 a0.Sights) (a1 : GArr3) (a2 : Int) {r0 : Bool} (hm : noongunlaw02_SightOrders a0 a1 a2 = some r0) :
    Calls Try.prog 3 #[(.agg #[va0_0, va0_1]), (.agg (Flat.cells a1).toArray), (.int .i64 a2)] w0 (Ret w0 fun _ v => v = (.bool r0)) := by
  unfold noongunlaw02_SightOrders at hm
  refine calls_of_W Try.func3 rfl Try.ntmps3 (Nat.le_of_ble_eq_true rfl) ?_
  have H := Inv.start (w := w0)
  refine W.seq ?_
  refine W.region ?_
  refine O.box [va0_0, va0_1] H rfl rfl rfl rfl ?_
  intro b1 w1 H hb1
  refine O.box [(.int .i64 a1.x0), (.int .i64 a1.x1), (.int .i64 a1.x2)] H rfl rfl rfl rfl ?_
  intro b2 w2 H hb2
  refine O.assign (v := (.bool false)) rfl rfl rfl ?_
  refine WL.nil ?_
  refine W.seq ?_
  refine W.seq ?_
  refine W.region ?_
  refine O.loadA [va0_0, va0_1] ag25 rfl rfl rfl rfl (H.cell 0 rfl) ?_
  obtain ⟨t1, hy1, hm⟩ := bind_some hm
  refine O.call Try.call14 rfl rfl rfl (c_noongunlaw02_Light _ _ (GNet.mk a0.Rates a0.Sights) (H.arg ha0_0) (H.arg ha0_1) hy1) ?_
  rintro _ w3 hb3 rfl
  have H := H.ext hb3
  refine O.not rfl rfl rfl ?_
  refine WL.nil ?_
  rcases ite_some hm with ⟨hc1, hm⟩ | ⟨hc1, hm⟩
  · refine W.cond_true (congrArg Value.bool hc1) ?_
    refine W.seq ?_
    refine W.region ?_
    obtain ⟨t2, hy2, hm⟩ := bind_some hm
    refine O.call Try.call15 rfl rfl rfl (c_noongunlaw02_awake  hy2) ?_
    rintro _ w4 hb4 rfl
    have H := H.ext hb4
    refine O.assign (v := (.bool t2)) rfl rfl rfl ?_
    refine WL.nil ?_
    refine W.ret ?_
    have hq : t2 = r0 := Option.some.inj (show some t2 = some r0 from hm)
    subst hq
    exact ends1 Try.results3 rfl ⟨_, rfl, H.base, rfl⟩
  · refine W.cond_false (congrArg Value.bool hc1) ?_
    refine W.skip ?_
    refine W.seq ?_
    refine W.region ?_
    refine O.loadA [va0_0, va0_1] ag25 rfl rfl rfl rfl (H.cell 0 rfl) ?_
    refine O.indexArr 0 Try.underlying26 sz3 rfl rfl rfl rfl rfl ?_
    refine O.load sc3 rfl rfl rfl (H.cell 1 rfl 0 _ rfl) ?_
    refine O.indexArr 1 Try.underlying26 sz3 rfl rfl rfl rfl rfl ?_
    refine O.load sc3 rfl rfl rfl (H.cell 1 rfl 1 _ rfl) ?_
    refine O.move (v := (.int .i64 a2)) rfl rfl rfl ?_
    obtain ⟨⟨t3, t4⟩, hy3, hm⟩ := bind_some hm
    refine O.call Try.call16 rfl rfl rfl (c_sight_Between _ _ (GNet.mk a0.Rates a0.Sights) (H.arg ha0_0) (H.arg ha0_1) _ _ _ hy3) ?_
    rintro _ w5 hb5 rfl
    have H := H.ext hb5
    refine O.move (v := (.tuple #[(.agg (Flat.cells t3).toArray), (.int .i64 t4)])) rfl rfl rfl ?_
    refine O.extract (v := (.agg (Flat.cells t3).toArray)) rfl rfl rfl rfl ?_
    refine O.extract (v := (.int .i64 t4)) rfl rfl rfl rfl ?_
    refine O.alloc [(.int .i64 0), (.int .i64 0)] ze30 H rfl rfl rfl ?_
    intro b3 w6 H hb6
    refine O.store 2 0 [(.int .i64 t3.Lo), (.int .i64 t3.Hi)] [(.int .i64 t3.Lo), (.int .i64 t3.Hi)] sz30 H rfl rfl rfl rfl rfl rfl ⟨⟨rfl, rfl⟩, rfl⟩ (one_cons rfl (one_cons rfl one_nil)) ?_
    intro w7 H
    refine O.assign (v := (.int .i64 t4)) rfl rfl rfl ?_
    refine WL.nil ?_
    refine W.seq ?_
    refine W.region ?_
    refine O.loadA [va0_0, va0_1] ag25 rfl rfl rfl rfl (H.cell 0 rfl) ?_
    refine O.indexArr 1 Try.underlying26 sz3 rfl rfl rfl rfl rfl ?_
    refine O.load sc3 rfl rfl rfl (H.cell 1 rfl 1 _ rfl) ?_
    refine O.indexArr 0 Try.underlying26 sz3 rfl rfl rfl rfl rfl ?_
    refine O.load sc3 rfl rfl rfl (H.cell 1 rfl 0 _ rfl) ?_
    refine O.move (v := (.int .i64 a2)) rfl rfl rfl ?_
    obtain ⟨⟨t5, t6⟩, hy4, hm⟩ := bind_some hm
    refine O.call Try.call16 rfl rfl rfl (c_sight_Between _ _ (GNet.mk a0.Rates a0.Sights) (H.arg ha0_0) (H.arg ha0_1) _ _ _ hy4) ?_
    rintro _ w8 hb7 rfl
    have H := H.ext hb7
    refine O.move (v := (.tuple #[(.agg (Flat.cells t5).toArray), (.int .i64 t6)])) rfl rfl rfl ?_
    refine O.extract (v := (.agg (Flat.cells t5).toArray)) rfl rfl rfl rfl ?_
    refine O.extract (v := (.int .i64 t6)) rfl rfl rfl rfl ?_
    refine O.alloc [(.int .i64 0), (.int .i64 0)] ze30 H rfl rfl rfl ?_
    intro b4 w9 H hb8
    refine O.store 3 0 [(.int .i64 t5.Lo), (.int .i64 t5.Hi)] [(.int .i64 t5.Lo), (.int .i64 t5.Hi)] sz30 H rfl rfl rfl rfl rfl rfl ⟨⟨rfl, rfl⟩, rfl⟩ (one_cons rfl (one_cons rfl one_nil)) ?_
    intro w10 H
    refine O.assign (v := (.int .i64 t6)) rfl rfl rfl ?_
    refine WL.nil ?_
    refine W.seq ?_
    refine W.seq ?_
    refine W.region ?_
    refine O.move (v := (.int .i64 t4)) rfl rfl rfl ?_
    refine O.neq rfl rfl rfl rfl ?_
    refine O.move (v := (.bool (t4 != 0))) rfl rfl rfl ?_
    refine WL.cut 3 (fun f w => f 2 = (.int .i64 a2) ∧ f 3 = (.pointer (some ⟨b1, 0, none⟩)) ∧ f 4 = (.pointer (some ⟨b2, 0, none⟩)) ∧ f 7 = (.pointer (some ⟨b3, 0, none⟩)) ∧ f 8 = (.int .i64 t4) ∧ f 9 = (.pointer (some ⟨b4, 0, none⟩)) ∧ f 10 = (.int .i64 t6) ∧ f 44 = .bool ((t4 != 0) || (t6 != 0)) ∧ Inv w0 w [boxI b1 25 [va0_0, va0_1], boxI b2 26 [(.int .i64 a1.x0), (.int .i64 a1.x1), (.int .i64 a1.x2)], boxI b3 30 [(.int .i64 t3.Lo), (.int .i64 t3.Hi)], boxI b4 30 [(.int .i64 t5.Lo), (.int .i64 t5.Hi)]]) ?_ ?_
    · skip
      rcases bool_ft (t4 != 0) with hc2 | hc2
      · skip
        refine WL.reset (i := 41) (v := .bool false) (congrArg Value.bool hc2) ?_
        refine O.move (v := (.int .i64 t6)) rfl rfl rfl ?_
        refine O.neq rfl rfl rfl rfl ?_
        refine O.pick_false (v := (.bool (t6 != 0))) rfl rfl rfl rfl ?_
        refine WL.nil ?_
        exact ⟨rfl, rfl, rfl, rfl, rfl, rfl, rfl, congrArg Value.bool (or_f hc2), H⟩
      · skip
        refine WL.reset (i := 41) (v := .bool true) (congrArg Value.bool hc2) ?_
        refine O.skip rfl rfl ?_
        refine O.skip rfl rfl ?_
        refine O.pick_true (v := (.bool true)) rfl rfl rfl rfl ?_
        refine WL.nil ?_
        exact ⟨rfl, rfl, rfl, rfl, rfl, rfl, rfl, congrArg Value.bool (or_t hc2), H⟩
    · skip
      rintro f w ⟨hf2, hf3, hf4, hf7, hf8, hf9, hf10, hf44, H⟩
      obtain ⟨u1, rfl⟩ : ∃ u1, f = (upd (upd (upd (upd (upd (upd (upd (upd u1 2 (.int .i64 a2)) 3 (.pointer (some ⟨b1, 0, none⟩))) 4 (.pointer (some ⟨b2, 0, none⟩))) 7 (.pointer (some ⟨b3, 0, none⟩))) 8 (.int .i64 t4)) 9 (.pointer (some ⟨b4, 0, none⟩))) 10 (.int .i64 t6)) 44 (.bool ((t4 != 0) || (t6 != 0)))) := ⟨f, by rw [upd_self hf2, upd_self hf3, upd_self hf4, upd_self hf7, upd_self hf8, upd_self hf9, upd_self hf10, upd_self hf44]⟩
      refine WL.nil ?_
      rcases ite_some hm with ⟨hc3, hm⟩ | ⟨hc3, hm⟩
      · refine W.cond_true (congrArg Value.bool hc3) ?_
        refine W.seq ?_
        refine W.region ?_
        refine O.move (v := (.int .i64 t4)) rfl rfl rfl ?_
        refine O.move (v := (.int .i64 t6)) rfl rfl rfl ?_
        refine O.eql rfl rfl rfl rfl ?_
        refine O.move (v := (.bool (t4 == t6))) rfl rfl rfl ?_
        refine WL.cut 7 (fun f w => f 55 = .bool ((t4 == t6) || ((t4 == 5) && (t6 == 5))) ∧ Inv w0 w [boxI b1 25 [va0_0, va0_1], boxI b2 26 [(.int .i64 a1.x0), (.int .i64 a1.x1), (.int .i64 a1.x2)], boxI b3 30 [(.int .i64 t3.Lo), (.int .i64 t3.Hi)], boxI b4 30 [(.int .i64 t5.Lo), (.int .i64 t5.Hi)]]) ?_ ?_
        · skip
          rcases bool_ft (t4 == t6) with hc4 | hc4
          · skip
            refine WL.reset (i := 48) (v := .bool false) (congrArg Value.bool hc4) ?_
            refine O.move (v := (.int .i64 t4)) rfl rfl rfl ?_
            refine O.eql rfl rfl rfl rfl ?_
            refine O.move (v := (.bool (t4 == 5))) rfl rfl rfl ?_
            refine WL.cut 3 (fun f w => f 48 = (.bool false) ∧ f 54 = .bool ((t4 == 5) && (t6 == 5)) ∧ Inv w0 w [boxI b1 25 [va0_0, va0_1], boxI b2 26 [(.int .i64 a1.x0), (.int .i64 a1.x1), (.int .i64 a1.x2)], boxI b3 30 [(.int .i64 t3.Lo), (.int .i64 t3.Hi)], boxI b4 30 [(.int .i64 t5.Lo), (.int .i64 t5.Hi)]]) ?_ ?_
            · skip
              rcases bool_ft (t4 == 5) with hc5 | hc5
              · skip
                refine WL.reset (i := 51) (v := .bool false) (congrArg Value.bool hc5) ?_
                refine O.skip rfl rfl ?_
                refine O.skip rfl rfl ?_
                refine O.pick_false (v := (.bool false)) rfl rfl rfl rfl ?_
                refine WL.nil ?_
                exact ⟨rfl, congrArg Value.bool (and_f hc5), H⟩
              · skip
                refine WL.reset (i := 51) (v := .bool true) (congrArg Value.bool hc5) ?_
                refine O.move (v := (.int .i64 t6)) rfl rfl rfl ?_
                refine O.eql rfl rfl rfl rfl ?_
                refine O.pick_true (v := (.bool (t6 == 5))) rfl rfl rfl rfl ?_
                refine WL.nil ?_
                exact ⟨rfl, congrArg Value.bool (and_t hc5), H⟩
            · skip
              rintro f w ⟨hf48, hf54, H⟩
              obtain ⟨u2, rfl⟩ : ∃ u2, f = (upd (upd u2 48 (.bool false)) 54 (.bool ((t4 == 5) && (t6 == 5)))) := ⟨f, by rw [upd_self hf48, upd_self hf54]⟩
              refine O.pick_false (v := (.bool ((t4 == 5) && (t6 == 5)))) rfl rfl rfl rfl ?_
              refine WL.nil ?_
              exact ⟨congrArg Value.bool (or_f hc4), H⟩
          · skip
            refine WL.reset (i := 48) (v := .bool true) (congrArg Value.bool hc4) ?_
            refine O.skip rfl rfl ?_
            refine O.skip rfl rfl ?_
            refine O.skip rfl rfl ?_
            refine O.skip rfl rfl ?_
            refine O.skip rfl rfl ?_
            refine O.skip rfl rfl ?_
            refine O.pick_true (v := (.bool true)) rfl rfl rfl rfl ?_
            refine WL.nil ?_
            exact ⟨congrArg Value.bool (or_t hc4), H⟩
        · skip
          rintro f w ⟨hf55, H⟩
          obtain ⟨u3, rfl⟩ : ∃ u3, f = (upd u3 55 (.bool ((t4 == t6) || ((t4 == 5) && (t6 == 5))))) := ⟨f, by rw [upd_self hf55]⟩
          refine O.move (v := (.bool ((t4 == t6) || ((t4 == 5) && (t6 == 5))))) rfl rfl rfl ?_
          obtain ⟨b5, hm1, hm⟩ := bind_some hm
          refine WL.cut 2 (fun f w => f 58 = .bool b5 ∧ Inv w0 w [boxI b1 25 [va0_0, va0_1], boxI b2 26 [(.int .i64 a1.x0), (.int .i64 a1.x1), (.int .i64 a1.x2)], boxI b3 30 [(.int .i64 t3.Lo), (.int .i64 t3.Hi)], boxI b4 30 [(.int .i64 t5.Lo), (.int .i64 t5.Hi)]]) ?_ ?_
          · skip
            rcases ite_some hm1 with ⟨hc6, hm1⟩ | ⟨hc6, hm1⟩
            · skip
              refine WL.reset (i := 56) (v := .bool true) (congrArg Value.bool hc6) ?_
              obtain ⟨t7, hy5, hm1⟩ := bind_some hm1
              refine O.call Try.call15 rfl rfl rfl (c_noongunlaw02_awake  hy5) ?_
              rintro _ w11 hb9 rfl
              have H := H.ext hb9
              refine O.pick_true (v := (.bool t7)) rfl rfl rfl rfl ?_
              refine WL.nil ?_
              have hq : t7 = b5 := Option.some.inj (show some t7 = some b5 from hm1)
              subst hq
              exact ⟨rfl, H⟩
            · skip
              refine WL.reset (i := 56) (v := .bool false) (congrArg Value.bool hc6) ?_
              refine O.skip rfl rfl ?_
              refine O.pick_false (v := (.bool false)) rfl rfl rfl rfl ?_
              refine WL.nil ?_
              have hq : false = b5 := Option.some.inj (show some false = some b5 from hm1)
              subst hq
              exact ⟨rfl, H⟩
          · skip
            rintro f w ⟨hf58, H⟩
            obtain ⟨u4, rfl⟩ : ∃ u4, f = (upd u4 58 (.bool b5)) := ⟨f, by rw [upd_self hf58]⟩
            refine O.assign (v := (.bool b5)) rfl rfl rfl ?_
            refine WL.nil ?_
            refine W.ret ?_
            have hq : b5 = r0 := Option.some.inj (show some b5 = some r0 from hm)
            subst hq
            exact ends1 Try.results3 rfl ⟨_, rfl, H.base, rfl⟩
      · refine W.cond_false (congrArg Value.bool hc3) ?_
        refine W.skip ?_
        refine W.seq ?_
        refine W.seq ?_
        refine W.region ?_
        refine O.loadA [(.int .i64 t5.Lo), (.int .i64 t5.Hi)] ag30 rfl rfl rfl rfl (H.cell 3 rfl) ?_
        refine O.fieldAddr fd30_1 rfl rfl rfl ?_
        refine O.load sc3 rfl rfl rfl (H.cell 2 rfl 1 _ rfl) ?_
        obtain ⟨t8, ht8, hm⟩ := bind_some hm
        refine O.neg rfl rfl rfl ht8 ?_
        refine O.fieldAddr fd30_0 rfl rfl rfl ?_
        refine O.load sc3 rfl rfl rfl (H.cell 2 rfl 0 _ rfl) ?_
        obtain ⟨t9, ht9, hm⟩ := bind_some hm
        refine O.neg rfl rfl rfl ht9 ?_
        refine O.build (v := (.agg (Flat.cells (GSpan.mk t8 t9)).toArray)) (fun w => bd30_0_1 _ _ w) rfl rfl rfl ?_
        refine O.neqSt t5 (GSpan.mk t8 t9) eq30 rfl rfl rfl rfl ?_
        refine WL.nil ?_
        rcases ite_some hm with ⟨hc7, hm⟩ | ⟨hc7, hm⟩
        · refine W.cond_true (congrArg Value.bool hc7) ?_
          refine W.seq ?_
          refine W.region ?_
          refine O.assign (v := (.bool false)) rfl rfl rfl ?_
          refine WL.nil ?_
          refine W.ret ?_
          have hq : false = r0 := Option.some.inj (show some false = some r0 from hm)
          subst hq
          exact ends1 Try.results3 rfl ⟨_, rfl, H.base, rfl⟩
        · refine W.cond_false (congrArg Value.bool hc7) ?_
          refine W.skip ?_
          refine W.seq ?_
          refine W.region ?_
          refine O.loadA [va0_0, va0_1] ag25 rfl rfl rfl rfl (H.cell 0 rfl) ?_
          refine O.indexArr 0 Try.underlying26 sz3 rfl rfl rfl rfl rfl ?_
          refine O.load sc3 rfl rfl rfl (H.cell 1 rfl 0 _ rfl) ?_
          refine O.indexArr 2 Try.underlying26 sz3 rfl rfl rfl rfl rfl ?_
          refine O.load sc3 rfl rfl rfl (H.cell 1 rfl 2 _ rfl) ?_
          refine O.move (v := (.int .i64 a2)) rfl rfl rfl ?_
          obtain ⟨⟨t10, t11⟩, hy6, hm⟩ := bind_some hm
          refine O.call Try.call16 rfl rfl rfl (c_sight_Between _ _ (GNet.mk a0.Rates a0.Sights) (H.arg ha0_0) (H.arg ha0_1) _ _ _ hy6) ?_
          rintro _ w12 hb10 rfl
          have H := H.ext hb10
          refine O.move (v := (.tuple #[(.agg (Flat.cells t10).toArray), (.int .i64 t11)])) rfl rfl rfl ?_
          refine O.extract (v := (.agg (Flat.cells t10).toArray)) rfl rfl rfl rfl ?_
          refine O.extract (v := (.int .i64 t11)) rfl rfl rfl rfl ?_
          refine O.alloc [(.int .i64 0), (.int .i64 0)] ze30 H rfl rfl rfl ?_
          intro b6 w13 H hb11
          refine O.store 4 0 [(.int .i64 t10.Lo), (.int .i64 t10.Hi)] [(.int .i64 t10.Lo), (.int .i64 t10.Hi)] sz30 H rfl rfl rfl rfl rfl rfl ⟨⟨rfl, rfl⟩, rfl⟩ (one_cons rfl (one_cons rfl one_nil)) ?_
          intro w14 H
          refine O.assign (v := (.int .i64 t11)) rfl rfl rfl ?_
          refine WL.nil ?_
          refine W.seq ?_
          refine W.region ?_
          refine O.loadA [va0_0, va0_1] ag25 rfl rfl rfl rfl (H.cell 0 rfl) ?_
          refine O.indexArr 2 Try.underlying26 sz3 rfl rfl rfl rfl rfl ?_
          refine O.load sc3 rfl rfl rfl (H.cell 1 rfl 2 _ rfl) ?_
          refine O.indexArr 1 Try.underlying26 sz3 rfl rfl rfl rfl rfl ?_
          refine O.load sc3 rfl rfl rfl (H.cell 1 rfl 1 _ rfl) ?_
          refine O.move (v := (.int .i64 a2)) rfl rfl rfl ?_
          obtain ⟨⟨t12, t13⟩, hy7, hm⟩ := bind_some hm
          refine O.call Try.call16 rfl rfl rfl (c_sight_Between _ _ (GNet.mk a0.Rates a0.Sights) (H.arg ha0_0) (H.arg ha0_1) _ _ _ hy7) ?_
          rintro _ w15 hb12 rfl
          have H := H.ext hb12
          refine O.move (v := (.tuple #[(.agg (Flat.cells t12).toArray), (.int .i64 t13)])) rfl rfl rfl ?_
          refine O.extract (v := (.agg (Flat.cells t12).toArray)) rfl rfl rfl rfl ?_
          refine O.extract (v := (.int .i64 t13)) rfl rfl rfl rfl ?_
          refine O.alloc [(.int .i64 0), (.int .i64 0)] ze30 H rfl rfl rfl ?_
          intro b7 w16 H hb13
          refine O.store 5 0 [(.int .i64 t12.Lo), (.int .i64 t12.Hi)] [(.int .i64 t12.Lo), (.int .i64 t12.Hi)] sz30 H rfl rfl rfl rfl rfl rfl ⟨⟨rfl, rfl⟩, rfl⟩ (one_cons rfl (one_cons rfl one_nil)) ?_
          intro w17 H
          refine O.assign (v := (.int .i64 t13)) rfl rfl rfl ?_
          refine WL.nil ?_
          refine W.seq ?_
          refine W.region ?_
          refine O.move (v := (.int .i64 t11)) rfl rfl rfl ?_
          refine O.neq rfl rfl rfl rfl ?_
          refine O.move (v := (.bool (t11 != 0))) rfl rfl rfl ?_
          refine WL.cut 3 (fun f w => f 7 = (.pointer (some ⟨b3, 0, none⟩)) ∧ f 11 = (.pointer (some ⟨b6, 0, none⟩)) ∧ f 13 = (.pointer (some ⟨b7, 0, none⟩)) ∧ f 93 = .bool ((t11 != 0) || (t13 != 0)) ∧ Inv w0 w [boxI b1 25 [va0_0, va0_1], boxI b2 26 [(.int .i64 a1.x0), (.int .i64 a1.x1), (.int .i64 a1.x2)], boxI b3 30 [(.int .i64 t3.Lo), (.int .i64 t3.Hi)], boxI b4 30 [(.int .i64 t5.Lo), (.int .i64 t5.Hi)], boxI b6 30 [(.int .i64 t10.Lo), (.int .i64 t10.Hi)], boxI b7 30 [(.int .i64 t12.Lo), (.int .i64 t12.Hi)]]) ?_ ?_
          · skip
            rcases bool_ft (t11 != 0) with hc8 | hc8
            · skip
              refine WL.reset (i := 90) (v := .bool false) (congrArg Value.bool hc8) ?_
              refine O.move (v := (.int .i64 t13)) rfl rfl rfl ?_
              refine O.neq rfl rfl rfl rfl ?_
              refine O.pick_false (v := (.bool (t13 != 0))) rfl rfl rfl rfl ?_
              refine WL.nil ?_
              exact ⟨rfl, rfl, rfl, congrArg Value.bool (or_f hc8), H⟩
            · skip
              refine WL.reset (i := 90) (v := .bool true) (congrArg Value.bool hc8) ?_
              refine O.skip rfl rfl ?_
              refine O.skip rfl rfl ?_
              refine O.pick_true (v := (.bool true)) rfl rfl rfl rfl ?_
              refine WL.nil ?_
              exact ⟨rfl, rfl, rfl, congrArg Value.bool (or_t hc8), H⟩
          · skip
            rintro f w ⟨hf7, hf11, hf13, hf93, H⟩
            obtain ⟨u5, rfl⟩ : ∃ u5, f = (upd (upd (upd (upd u5 7 (.pointer (some ⟨b3, 0, none⟩))) 11 (.pointer (some ⟨b6, 0, none⟩))) 13 (.pointer (some ⟨b7, 0, none⟩))) 93 (.bool ((t11 != 0) || (t13 != 0)))) := ⟨f, by rw [upd_self hf7, upd_self hf11, upd_self hf13, upd_self hf93]⟩
            refine O.move (v := (.bool ((t11 != 0) || (t13 != 0)))) rfl rfl rfl ?_
            obtain ⟨b8, hm2, hm⟩ := bind_some hm
            refine WL.cut 14 (fun f w => f 108 = .bool b8 ∧ Inv w0 w [boxI b1 25 [va0_0, va0_1], boxI b2 26 [(.int .i64 a1.x0), (.int .i64 a1.x1), (.int .i64 a1.x2)], boxI b3 30 [(.int .i64 t3.Lo), (.int .i64 t3.Hi)], boxI b4 30 [(.int .i64 t5.Lo), (.int .i64 t5.Hi)], boxI b6 30 [(.int .i64 t10.Lo), (.int .i64 t10.Hi)], boxI b7 30 [(.int .i64 t12.Lo), (.int .i64 t12.Hi)]]) ?_ ?_
            · skip
              rcases ite_some hm2 with ⟨hc9, hm2⟩ | ⟨hc9, hm2⟩
              · skip
                refine WL.reset (i := 94) (v := .bool true) (congrArg Value.bool hc9) ?_
                refine O.skip rfl rfl ?_
                refine O.skip rfl rfl ?_
                refine O.skip rfl rfl ?_
                refine O.skip rfl rfl ?_
                refine O.skip rfl rfl ?_
                refine O.skip rfl rfl ?_
                refine O.skip rfl rfl ?_
                refine O.skip rfl rfl ?_
                refine O.skip rfl rfl ?_
                refine O.skip rfl rfl ?_
                refine O.skip rfl rfl ?_
                refine O.skip rfl rfl ?_
                refine O.skip rfl rfl ?_
                refine O.pick_true (v := (.bool true)) rfl rfl rfl rfl ?_
                refine WL.nil ?_
                have hq : true = b8 := Option.some.inj (show some true = some b8 from hm2)
                subst hq
                exact ⟨rfl, H⟩
              · skip
                refine WL.reset (i := 94) (v := .bool false) (congrArg Value.bool hc9) ?_
                refine O.loadA [(.int .i64 t3.Lo), (.int .i64 t3.Hi)] ag30 rfl rfl rfl rfl (H.cell 2 rfl) ?_
                refine O.fieldAddr fd30_0 rfl rfl rfl ?_
                refine O.load sc3 rfl rfl rfl (H.cell 4 rfl 0 _ rfl) ?_
                refine O.fieldAddr fd30_0 rfl rfl rfl ?_
                refine O.load sc3 rfl rfl rfl (H.cell 5 rfl 0 _ rfl) ?_
                obtain ⟨t14, ht14, hm2⟩ := bind_some hm2
                refine O.add rfl rfl rfl rfl ht14 ?_
                refine O.fieldAddr fd30_1 rfl rfl rfl ?_
                refine O.load sc3 rfl rfl rfl (H.cell 4 rfl 1 _ rfl) ?_
                refine O.fieldAddr fd30_1 rfl rfl rfl ?_
                refine O.load sc3 rfl rfl rfl (H.cell 5 rfl 1 _ rfl) ?_
                obtain ⟨t15, ht15, hm2⟩ := bind_some hm2
                refine O.add rfl rfl rfl rfl ht15 ?_
                refine O.build (v := (.agg (Flat.cells (GSpan.mk t14 t15)).toArray)) (fun w => bd30_0_1 _ _ w) rfl rfl rfl ?_
                obtain ⟨t16, hy8, hm2⟩ := bind_some hm2
                refine O.call Try.call17 rfl rfl rfl (c_noongunlaw02_inside t3 (GSpan.mk t14 t15) hy8) ?_
                rintro _ w18 hb14 rfl
                have H := H.ext hb14
                refine O.pick_false (v := (.bool t16)) rfl rfl rfl rfl ?_
                refine WL.nil ?_
                have hq : t16 = b8 := Option.some.inj (show some t16 = some b8 from hm2)
                subst hq
                exact ⟨rfl, H⟩
            · skip
              rintro f w ⟨hf108, H⟩
              obtain ⟨u6, rfl⟩ : ∃ u6, f = (upd u6 108 (.bool b8)) := ⟨f, by rw [upd_self hf108]⟩
              refine O.move (v := (.bool b8)) rfl rfl rfl ?_
              obtain ⟨b9, hm3, hm⟩ := bind_some hm
              refine WL.cut 2 (fun f w => f 111 = .bool b9 ∧ Inv w0 w [boxI b1 25 [va0_0, va0_1], boxI b2 26 [(.int .i64 a1.x0), (.int .i64 a1.x1), (.int .i64 a1.x2)], boxI b3 30 [(.int .i64 t3.Lo), (.int .i64 t3.Hi)], boxI b4 30 [(.int .i64 t5.Lo), (.int .i64 t5.Hi)], boxI b6 30 [(.int .i64 t10.Lo), (.int .i64 t10.Hi)], boxI b7 30 [(.int .i64 t12.Lo), (.int .i64 t12.Hi)]]) ?_ ?_
              · skip
                rcases ite_some hm3 with ⟨hc10, hm3⟩ | ⟨hc10, hm3⟩
                · skip
                  refine WL.reset (i := 109) (v := .bool true) (congrArg Value.bool hc10) ?_
                  obtain ⟨t17, hy9, hm3⟩ := bind_some hm3
                  refine O.call Try.call15 rfl rfl rfl (c_noongunlaw02_awake  hy9) ?_
                  rintro _ w19 hb15 rfl
                  have H := H.ext hb15
                  refine O.pick_true (v := (.bool t17)) rfl rfl rfl rfl ?_
                  refine WL.nil ?_
                  have hq : t17 = b9 := Option.some.inj (show some t17 = some b9 from hm3)
                  subst hq
                  exact ⟨rfl, H⟩
                · skip
                  refine WL.reset (i := 109) (v := .bool false) (congrArg Value.bool hc10) ?_
                  refine O.skip rfl rfl ?_
                  refine O.pick_false (v := (.bool false)) rfl rfl rfl rfl ?_
                  refine WL.nil ?_
                  have hq : false = b9 := Option.some.inj (show some false = some b9 from hm3)
                  subst hq
                  exact ⟨rfl, H⟩
              · skip
                rintro f w ⟨hf111, H⟩
                obtain ⟨u7, rfl⟩ : ∃ u7, f = (upd u7 111 (.bool b9)) := ⟨f, by rw [upd_self hf111]⟩
                refine O.assign (v := (.bool b9)) rfl rfl rfl ?_
                refine WL.nil ?_
                refine W.ret ?_
                have hq : b9 = r0 := Option.some.inj (show some b9 = some r0 from hm)
                subst hq
                exact ends1 Try.results3 rfl ⟨_, rfl, H.base, rfl⟩

theorem c_slices_Clone_int {w0 : World} (va0 : Value) (a0 : (List Int)) (ha0 : SliceR w0 va0 a0) {r0 : (List Int)} (hm : slices_Clone_int a0 = some r0) :
    Calls Try.prog 65 #[va0] w0 (Ret w0 fun w v => OwnR w0 w v 3 r0) := by
  unfold slices_Clone_int at hm
  refine calls_of_W Try.func65 rfl Try.ntmps65 (Nat.le_of_ble_eq_true rfl) ?_
  have H := Inv.start (w := w0)
  refine W.seq ?_
  refine W.region ?_
  have H := H.addNil (α := Int) (E := 3)
  refine O.assign (v := (.slice none 0 0)) rfl rfl rfl ?_
  refine WL.nil ?_
  refine W.seq ?_
  refine W.seq ?_
  refine W.region ?_
  refine O.move (v := va0) rfl rfl rfl ?_
  rcases ha0.nil_or with ⟨rfl, rfl⟩ | ⟨ad, cap, rfl⟩
  · skip
    replace hm : (some ([] : List Int)) = some r0 := by simpa [appI] using hm
    refine O.eqlNil Try.underlying22 rfl rfl rfl rfl ?_
    refine WL.reset (i := 4) (v := .bool true) rfl ?_
    refine WL.nil ?_
    refine W.cond_true rfl ?_
    refine W.seq ?_
    refine W.region ?_
    have H := H.addNil (α := Int) (E := 3)
    refine O.assign (v := (.slice none 0 0)) rfl rfl rfl ?_
    refine WL.nil ?_
    refine W.ret ?_
    have hq : ([] : List Int) = r0 := Option.some.inj (show some ([] : List Int) = some r0 from hm)
    subst hq
    exact ends1 Try.results65 rfl ⟨_, rfl, H.base, H.ownR 1 rfl⟩
  · skip
    refine O.eqlNil Try.underlying22 rfl rfl rfl rfl ?_
    refine WL.reset (i := 4) (v := .bool false) rfl ?_
    refine WL.nil ?_
    refine W.cond_false rfl ?_
    refine W.skip ?_
    refine W.seq ?_
    refine W.region ?_
    refine O.buildEmpty (α := Int) Try.underlying22 el3 H rfl rfl ?_
    intro b1 w1 H hb1
    refine O.move (v := (.slice (some ad) a0.length cap)) rfl rfl rfl ?_
    obtain ⟨t1, ht1, hm⟩ := bind_some hm
    refine O.append 1 Try.underlying22 el3 rfl H rfl (H.arg ha0) ht1 rfl rfl rfl rfl ?_
    intro v1 w2 H
    refine O.assign (v := v1) rfl rfl rfl ?_
    refine WL.nil ?_
    refine W.ret ?_
    have hq : t1 = r0 := Option.some.inj (show some t1 = some r0 from hm)
    subst hq
    exact ends1 Try.results65 rfl ⟨_, rfl, H.base, H.ownR 1 rfl⟩

theorem c_slices_Clone_Sight {w0 : World} (va0 : Value) (a0 : (List GSight)) (ha0 : SliceR w0 va0 a0) {r0 : (List GSight)} (hm : slices_Clone_Sight a0 = some r0) :
    Calls Try.prog 66 #[va0] w0 (Ret w0 fun w v => OwnR w0 w v 39 r0) := by
  unfold slices_Clone_Sight at hm
  refine calls_of_W Try.func66 rfl Try.ntmps66 (Nat.le_of_ble_eq_true rfl) ?_
  have H := Inv.start (w := w0)
  refine W.seq ?_
  refine W.region ?_
  have H := H.addNil (α := GSight) (E := 39)
  refine O.assign (v := (.slice none 0 0)) rfl rfl rfl ?_
  refine WL.nil ?_
  refine W.seq ?_
  refine W.seq ?_
  refine W.region ?_
  refine O.move (v := va0) rfl rfl rfl ?_
  rcases ha0.nil_or with ⟨rfl, rfl⟩ | ⟨ad, cap, rfl⟩
  · skip
    replace hm : (some ([] : List GSight)) = some r0 := by simpa [appI] using hm
    refine O.eqlNil Try.underlying23 rfl rfl rfl rfl ?_
    refine WL.reset (i := 4) (v := .bool true) rfl ?_
    refine WL.nil ?_
    refine W.cond_true rfl ?_
    refine W.seq ?_
    refine W.region ?_
    have H := H.addNil (α := GSight) (E := 39)
    refine O.assign (v := (.slice none 0 0)) rfl rfl rfl ?_
    refine WL.nil ?_
    refine W.ret ?_
    have hq : ([] : List GSight) = r0 := Option.some.inj (show some ([] : List GSight) = some r0 from hm)
    subst hq
    exact ends1 Try.results66 rfl ⟨_, rfl, H.base, H.ownR 1 rfl⟩
  · skip
    refine O.eqlNil Try.underlying23 rfl rfl rfl rfl ?_
    refine WL.reset (i := 4) (v := .bool false) rfl ?_
    refine WL.nil ?_
    refine W.cond_false rfl ?_
    refine W.skip ?_
    refine W.seq ?_
    refine W.region ?_
    refine O.buildEmpty (α := GSight) Try.underlying23 el39 H rfl rfl ?_
    intro b1 w1 H hb1
    refine O.move (v := (.slice (some ad) a0.length cap)) rfl rfl rfl ?_
    obtain ⟨t1, ht1, hm⟩ := bind_some hm
    refine O.append 1 Try.underlying23 el39 rfl H rfl (H.arg ha0) ht1 rfl rfl rfl rfl ?_
    intro v1 w2 H
    refine O.assign (v := v1) rfl rfl rfl ?_
    refine WL.nil ?_
    refine W.ret ?_
    have hq : t1 = r0 := Option.some.inj (show some t1 = some r0 from hm)
    subst hq
    exact ends1 Try.results66 rfl ⟨_, rfl, H.base, H.ownR 1 rfl⟩

set_option maxRecDepth 20000 in
theorem c_sight_Added {w0 : World} (va0_0 : Value) (va0_1 : Value) (a0 : GNet) (ha0_0 : SliceR w0 va0_0 a0.Rates) (ha0_1 : SliceR w0 va0_1 a0.Sights) (a1 : GSight) {r0 : GNet} {r1 : Int} (hm : sight_Added a0 a1 = some (r0, r1)) :
    Calls Try.prog 26 #[(.agg #[va0_0, va0_1]), (.agg (Flat.cells a1).toArray)] w0 (Ret w0 fun w v => ∃ vr0_0 : Value, ∃ vr0_1 : Value, v = .tuple #[(.agg #[vr0_0, vr0_1]), (.int .i64 r1)] ∧ Inv w0 w [ownI (α := Int) vr0_0 3 r0.Rates, ownI (α := GSight) vr0_1 39 r0.Sights]) := by
  unfold sight_Added at hm
  refine calls_of_W Try.func26 rfl Try.ntmps26 (Nat.le_of_ble_eq_true rfl) ?_
  have H := Inv.start (w := w0)
  refine W.seq ?_
  refine W.region ?_
  refine O.box [va0_0, va0_1] H rfl rfl rfl rfl ?_
  intro b1 w1 H hb1
  refine O.box [(.int .i64 a1.At), (.int .i64 a1.A), (.int .i64 a1.B), (.int .i64 a1.Lo), (.int .i64 a1.Hi)] H rfl rfl rfl rfl ?_
  intro b2 w2 H hb2
  refine O.alloc [(.slice none 0 0), (.slice none 0 0)] ze25 H rfl rfl rfl ?_
  intro b3 w3 H hb3
  have H := H.addNil (α := Int) (E := 3)
  have H := H.addNil (α := GSight) (E := 39)
  refine O.assign (v := (.int .i64 0)) rfl rfl rfl ?_
  refine WL.nil ?_
  refine W.seq ?_
  refine W.block ?_
  refine W.seq ?_
  refine W.region ?_
  refine O.loadA [va0_0, va0_1] ag25 rfl rfl rfl rfl (H.cell 0 rfl) ?_
  obtain ⟨t1, hy1, hm⟩ := bind_some hm
  refine O.call Try.call33 rfl rfl rfl (c_sight_Valid _ _ (GNet.mk a0.Rates a0.Sights) (H.arg ha0_0) (H.arg ha0_1) hy1) ?_
  rintro _ w4 hb4 rfl
  have H := H.ext hb4
  refine O.not rfl rfl rfl ?_
  refine O.move (v := (.bool (!t1))) rfl rfl rfl ?_
  obtain ⟨b4, hm1, hm⟩ := bind_some hm
  refine WL.cut 7 (fun f w => f 2 = (.pointer (some ⟨b1, 0, none⟩)) ∧ f 3 = (.pointer (some ⟨b2, 0, none⟩)) ∧ f 4 = (.pointer (some ⟨b3, 0, none⟩)) ∧ f 17 = .bool b4 ∧ Inv w0 w [boxI b1 25 [va0_0, va0_1], boxI b2 39 [(.int .i64 a1.At), (.int .i64 a1.A), (.int .i64 a1.B), (.int .i64 a1.Lo), (.int .i64 a1.Hi)], boxI b3 25 [(.slice none 0 0), (.slice none 0 0)], ownI (α := Int) (.slice none 0 0) 3 ([] : List Int), ownI (α := GSight) (.slice none 0 0) 39 ([] : List GSight)]) ?_ ?_
  · skip
    rcases ite_some hm1 with ⟨hc1, hm1⟩ | ⟨hc1, hm1⟩
    · skip
      refine WL.reset (i := 10) (v := .bool true) (congrArg Value.bool hc1) ?_
      refine O.skip rfl rfl ?_
      refine O.skip rfl rfl ?_
      refine O.skip rfl rfl ?_
      refine O.skip rfl rfl ?_
      refine O.skip rfl rfl ?_
      refine O.skip rfl rfl ?_
      refine O.pick_true (v := (.bool true)) rfl rfl rfl rfl ?_
      refine WL.nil ?_
      have hq : true = b4 := Option.some.inj (show some true = some b4 from hm1)
      subst hq
      exact ⟨rfl, rfl, rfl, rfl, H⟩
    · skip
      refine WL.reset (i := 10) (v := .bool false) (congrArg Value.bool hc1) ?_
      refine O.loadA [(.int .i64 a1.At), (.int .i64 a1.A), (.int .i64 a1.B), (.int .i64 a1.Lo), (.int .i64 a1.Hi)] ag39 rfl rfl rfl rfl (H.cell 1 rfl) ?_
      refine O.fieldAddr fd25_0 rfl rfl rfl ?_
      refine O.load sc22 rfl rfl rfl (H.cell 0 rfl 0 _ rfl) ?_
      refine O.lenS Try.underlying22 (H.arg ha0_0) rfl rfl rfl ?_
      obtain ⟨t2, hy2, hm1⟩ := bind_some hm1
      refine O.call Try.call64 rfl rfl rfl (c_sight_validSight a1 _ hy2) ?_
      rintro _ w5 hb5 rfl
      have H := H.ext hb5
      refine O.not rfl rfl rfl ?_
      refine O.pick_false (v := (.bool (!t2))) rfl rfl rfl rfl ?_
      refine WL.nil ?_
      have hq : (!t2) = b4 := Option.some.inj (show some (!t2) = some b4 from hm1)
      subst hq
      exact ⟨rfl, rfl, rfl, rfl, H⟩
  · skip
    rintro f w ⟨hf2, hf3, hf4, hf17, H⟩
    obtain ⟨u1, rfl⟩ : ∃ u1, f = (upd (upd (upd (upd u1 2 (.pointer (some ⟨b1, 0, none⟩))) 3 (.pointer (some ⟨b2, 0, none⟩))) 4 (.pointer (some ⟨b3, 0, none⟩))) 17 (.bool b4)) := ⟨f, by rw [upd_self hf2, upd_self hf3, upd_self hf4, upd_self hf17]⟩
    refine O.assign (v := (.bool b4)) rfl rfl rfl ?_
    refine WL.nil ?_
    rcases ite_some hm with ⟨hc2, hm⟩ | ⟨hc2, hm⟩
    · refine W.cond_true (congrArg Value.bool hc2) ?_
      refine W.seq ?_
      refine W.region ?_
      refine O.build (v := (.agg #[(.slice none 0 0), (.slice none 0 0)])) (fun w => bd25_  w) rfl rfl rfl ?_
      have H := H.addNil (α := Int) (E := 3)
      have H := H.addNil (α := GSight) (E := 39)
      refine O.store 2 0 [(.slice none 0 0), (.slice none 0 0)] [(.slice none 0 0), (.slice none 0 0)] sz25 H rfl rfl rfl rfl rfl rfl ⟨⟨rfl, rfl⟩, rfl⟩ (one_cons rfl (one_cons rfl one_nil)) ?_
      intro w6 H
      refine O.assign (v := (.int .i64 1)) rfl rfl rfl ?_
      refine WL.nil ?_
      refine W.ret ?_
      have hq : ((GNet.mk ([] : List Int) ([] : List GSight)), 1) = (r0, r1) := Option.some.inj (show some ((GNet.mk ([] : List Int) ([] : List GSight)), 1) = some (r0, r1) from hm)
      obtain ⟨he0, hq0⟩ := Prod.mk.inj hq; clear hq; subst he0
      subst hq0
      exact ends2 Try.results26 ⟨_, rfl, run_loadVar_agg ag25 rfl (H.cell 2 rfl)⟩ rfl ⟨_, rfl, H.base, ⟨_, _, rfl, H.pick [5, 6] [ownI (α := Int) (.slice none 0 0) 3 ([] : List Int), ownI (α := GSight) (.slice none 0 0) 39 ([] : List GSight)] rfl (by decide)⟩⟩
    · refine W.cond_false (congrArg Value.bool hc2) ?_
      refine W.seq ?_
      refine W.region ?_
      refine O.fieldAddr fd25_1 rfl rfl rfl ?_
      refine O.load sc23 rfl rfl rfl (H.cell 0 rfl 1 _ rfl) ?_
      refine O.lenS Try.underlying23 (H.arg ha0_1) rfl rfl rfl ?_
      refine O.eql rfl rfl rfl rfl ?_
      refine O.assign (v := (.bool (((a0.Sights.length : Nat) : Int) == 30))) rfl rfl rfl ?_
      refine WL.nil ?_
      rcases ite_some hm with ⟨hc3, hm⟩ | ⟨hc3, hm⟩
      · refine W.cond_true (congrArg Value.bool hc3) ?_
        refine W.seq ?_
        refine W.region ?_
        refine O.build (v := (.agg #[(.slice none 0 0), (.slice none 0 0)])) (fun w => bd25_  w) rfl rfl rfl ?_
        have H := H.addNil (α := Int) (E := 3)
        have H := H.addNil (α := GSight) (E := 39)
        refine O.store 2 0 [(.slice none 0 0), (.slice none 0 0)] [(.slice none 0 0), (.slice none 0 0)] sz25 H rfl rfl rfl rfl rfl rfl ⟨⟨rfl, rfl⟩, rfl⟩ (one_cons rfl (one_cons rfl one_nil)) ?_
        intro w7 H
        refine O.assign (v := (.int .i64 4)) rfl rfl rfl ?_
        refine WL.nil ?_
        refine W.ret ?_
        have hq : ((GNet.mk ([] : List Int) ([] : List GSight)), 4) = (r0, r1) := Option.some.inj (show some ((GNet.mk ([] : List Int) ([] : List GSight)), 4) = some (r0, r1) from hm)
        obtain ⟨he0, hq0⟩ := Prod.mk.inj hq; clear hq; subst he0
        subst hq0
        exact ends2 Try.results26 ⟨_, rfl, run_loadVar_agg ag25 rfl (H.cell 2 rfl)⟩ rfl ⟨_, rfl, H.base, ⟨_, _, rfl, H.pick [5, 6] [ownI (α := Int) (.slice none 0 0) 3 ([] : List Int), ownI (α := GSight) (.slice none 0 0) 39 ([] : List GSight)] rfl (by decide)⟩⟩
      · refine W.cond_false (congrArg Value.bool hc3) ?_
        refine W.skip ?_
        refine W.seq ?_
        obtain ⟨t3, hy3, hm⟩ := bind_some hm
        obtain ⟨t4, hy4, hm⟩ := bind_some hm
        have H := H.addGone
        have H := H.addGone
        have H := H.addGone
        refine W.drawD 8 [[], [0], [0, 1], [], [3], [0, 1, 2, 3, 4], [], [6]] [[1, 2, 5], [2, 5], [5], [4, 5], [5], [], [7], []] (fun S f w => ∃ v1 : Value, ∃ v2 : Value, ∃ v3 : Value, f 2 = (.pointer (some ⟨b1, 0, none⟩)) ∧ f 3 = (.pointer (some ⟨b2, 0, none⟩)) ∧ f 4 = (.pointer (some ⟨b3, 0, none⟩)) ∧ (S 0 = true → f 25 = (.pointer (some (Addr.add (Addr.mk b1 0 none) 0)))) ∧ (S 1 = true → f 26 = va0_0) ∧ (S 2 = true → f 27 = v1) ∧ (S 3 = true → f 28 = (.pointer (some (Addr.add (Addr.mk b1 0 none) 1)))) ∧ (S 4 = true → f 29 = va0_1) ∧ (S 5 = true → f 30 = v2) ∧ (S 6 = true → f 31 = (.agg (Flat.cells a1).toArray)) ∧ (S 7 = true → f 32 = v3) ∧ (S 5 = true → S 2 = true) ∧ (S 2 = false → S 5 = false → S 7 = false → Inv w0 w [boxI b1 25 [va0_0, va0_1], boxI b2 39 [(.int .i64 a1.At), (.int .i64 a1.A), (.int .i64 a1.B), (.int .i64 a1.Lo), (.int .i64 a1.Hi)], boxI b3 25 [(.slice none 0 0), (.slice none 0 0)], ownI (α := Int) (.slice none 0 0) 3 ([] : List Int), ownI (α := GSight) (.slice none 0 0) 39 ([] : List GSight), goneI, goneI, goneI]) ∧ (S 2 = true → S 5 = false → S 7 = false → Inv w0 w [boxI b1 25 [va0_0, va0_1], boxI b2 39 [(.int .i64 a1.At), (.int .i64 a1.A), (.int .i64 a1.B), (.int .i64 a1.Lo), (.int .i64 a1.Hi)], boxI b3 25 [(.slice none 0 0), (.slice none 0 0)], ownI (α := Int) (.slice none 0 0) 3 ([] : List Int), ownI (α := GSight) (.slice none 0 0) 39 ([] : List GSight), ownI (α := Int) v1 3 t3, goneI, goneI]) ∧ (S 2 = false → S 5 = false → S 7 = true → Inv w0 w [boxI b1 25 [va0_0, va0_1], boxI b2 39 [(.int .i64 a1.At), (.int .i64 a1.A), (.int .i64 a1.B), (.int .i64 a1.Lo), (.int .i64 a1.Hi)], boxI b3 25 [(.slice none 0 0), (.slice none 0 0)], ownI (α := Int) (.slice none 0 0) 3 ([] : List Int), ownI (α := GSight) (.slice none 0 0) 39 ([] : List GSight), goneI, goneI, ownI (α := GSight) v3 39 ([a1] : List GSight)]) ∧ (S 2 = true → S 5 = true → S 7 = false → Inv w0 w [boxI b1 25 [va0_0, va0_1], boxI b2 39 [(.int .i64 a1.At), (.int .i64 a1.A), (.int .i64 a1.B), (.int .i64 a1.Lo), (.int .i64 a1.Hi)], boxI b3 25 [(.slice none 0 0), (.slice none 0 0)], ownI (α := Int) (.slice none 0 0) 3 ([] : List Int), ownI (α := GSight) (.slice none 0 0) 39 ([] : List GSight), ownI (α := Int) v1 3 t3, ownI (α := GSight) v2 39 t4, goneI]) ∧ (S 2 = true → S 5 = false → S 7 = true → Inv w0 w [boxI b1 25 [va0_0, va0_1], boxI b2 39 [(.int .i64 a1.At), (.int .i64 a1.A), (.int .i64 a1.B), (.int .i64 a1.Lo), (.int .i64 a1.Hi)], boxI b3 25 [(.slice none 0 0), (.slice none 0 0)], ownI (α := Int) (.slice none 0 0) 3 ([] : List Int), ownI (α := GSight) (.slice none 0 0) 39 ([] : List GSight), ownI (α := Int) v1 3 t3, goneI, ownI (α := GSight) v3 39 ([a1] : List GSight)]) ∧ (S 2 = true → S 5 = true → S 7 = true → Inv w0 w [boxI b1 25 [va0_0, va0_1], boxI b2 39 [(.int .i64 a1.At), (.int .i64 a1.A), (.int .i64 a1.B), (.int .i64 a1.Lo), (.int .i64 a1.Hi)], boxI b3 25 [(.slice none 0 0), (.slice none 0 0)], ownI (α := Int) (.slice none 0 0) 3 ([] : List Int), ownI (α := GSight) (.slice none 0 0) 39 ([] : List GSight), ownI (α := Int) v1 3 t3, ownI (α := GSight) v2 39 t4, ownI (α := GSight) v3 39 ([a1] : List GSight)])) fol (by kernel_rfl) ?_ ?_ ?_
        · skip
          exact fun d _ => ⟨.nilFunc, .nilFunc, .nilFunc, rfl, rfl, rfl, (fun a => nomatch (show false = true from a)), (fun a => nomatch (show false = true from a)), (fun a => nomatch (show false = true from a)), (fun a => nomatch (show false = true from a)), (fun a => nomatch (show false = true from a)), (fun a => nomatch (show false = true from a)), (fun a => nomatch (show false = true from a)), (fun a => nomatch (show false = true from a)), (fun a => nomatch (show false = true from a)), (fun _ _ _ => H.ext (below_drawn d)), (fun a _ _ => nomatch (show false = true from a)), (fun _ _ a => nomatch (show false = true from a)), (fun a _ _ => nomatch (show false = true from a)), (fun a _ _ => nomatch (show false = true from a)), (fun a _ _ => nomatch (show false = true from a))⟩
        · skip
          refine ⟨?_, ⟨?_, ⟨?_, ⟨?_, ⟨?_, ⟨?_, ⟨?_, ⟨?_, trivial⟩⟩⟩⟩⟩⟩⟩⟩
          · skip
            rintro S f w hS - ⟨e1, e2, e5, -⟩ ⟨v1, v2, v3, hf2, hf3, hf4, hd0, hd1, hd2, hd3, hd4, hd5, hd6, hd7, C5_2, W0, W1, W2, W3, W4, W5⟩
            obtain ⟨u2, rfl⟩ : ∃ u2, f = (upd u2 2 (.pointer (some ⟨b1, 0, none⟩))) := ⟨f, by rw [upd_self hf2]⟩
            rcases bool_ft (S 7) with e7 | e7
            · skip
              have H := W0 e2 e5 e7
              refine O.fieldAddr fd25_0 rfl rfl rfl ?_
              refine WL.nil ?_
              exact ⟨v1, v2, v3, rfl, hf3, hf4, (fun _ => rfl), hd1, hd2, hd3, hd4, hd5, hd6, hd7, C5_2, (fun _ _ _ => H), (fun a _ _ => nomatch (show false = true from e2.symm.trans a)), (fun _ _ a => nomatch (show false = true from e7.symm.trans a)), (fun a _ _ => nomatch (show false = true from e2.symm.trans a)), (fun a _ _ => nomatch (show false = true from e2.symm.trans a)), (fun a _ _ => nomatch (show false = true from e2.symm.trans a))⟩
            · skip
              have H := W2 e2 e5 e7
              refine O.fieldAddr fd25_0 rfl rfl rfl ?_
              refine WL.nil ?_
              exact ⟨v1, v2, v3, rfl, hf3, hf4, (fun _ => rfl), hd1, hd2, hd3, hd4, hd5, hd6, hd7, C5_2, (fun _ _ a => nomatch (show true = false from e7.symm.trans a)), (fun a _ _ => nomatch (show false = true from e2.symm.trans a)), (fun _ _ _ => H), (fun a _ _ => nomatch (show false = true from e2.symm.trans a)), (fun a _ _ => nomatch (show false = true from e2.symm.trans a)), (fun a _ _ => nomatch (show false = true from e2.symm.trans a))⟩
          · skip
            rintro S f w hS ⟨e0, -⟩ ⟨e2, e5, -⟩ ⟨v1, v2, v3, hf2, hf3, hf4, hd0, hd1, hd2, hd3, hd4, hd5, hd6, hd7, C5_2, W0, W1, W2, W3, W4, W5⟩
            have hf25 := hd0 e0
            obtain ⟨u3, rfl⟩ : ∃ u3, f = (upd u3 25 (.pointer (some (Addr.add (Addr.mk b1 0 none) 0)))) := ⟨f, by rw [upd_self hf25]⟩
            rcases bool_ft (S 7) with e7 | e7
            · skip
              have H := W0 e2 e5 e7
              refine O.load sc22 rfl rfl rfl (H.cell 0 rfl 0 _ rfl) ?_
              refine WL.nil ?_
              exact ⟨v1, v2, v3, hf2, hf3, hf4, hd0, (fun _ => rfl), hd2, hd3, hd4, hd5, hd6, hd7, C5_2, (fun _ _ _ => H), (fun a _ _ => nomatch (show false = true from e2.symm.trans a)), (fun _ _ a => nomatch (show false = true from e7.symm.trans a)), (fun a _ _ => nomatch (show false = true from e2.symm.trans a)), (fun a _ _ => nomatch (show false = true from e2.symm.trans a)), (fun a _ _ => nomatch (show false = true from e2.symm.trans a))⟩
            · skip
              have H := W2 e2 e5 e7
              refine O.load sc22 rfl rfl rfl (H.cell 0 rfl 0 _ rfl) ?_
              refine WL.nil ?_
              exact ⟨v1, v2, v3, hf2, hf3, hf4, hd0, (fun _ => rfl), hd2, hd3, hd4, hd5, hd6, hd7, C5_2, (fun _ _ a => nomatch (show true = false from e7.symm.trans a)), (fun a _ _ => nomatch (show false = true from e2.symm.trans a)), (fun _ _ _ => H), (fun a _ _ => nomatch (show false = true from e2.symm.trans a)), (fun a _ _ => nomatch (show false = true from e2.symm.trans a)), (fun a _ _ => nomatch (show false = true from e2.symm.trans a))⟩
          · skip
            rintro S f w hS ⟨e0, e1, -⟩ ⟨e5, -⟩ ⟨_, v2, v3, hf2, hf3, hf4, hd0, hd1, hd2, hd3, hd4, hd5, hd6, hd7, C5_2, W0, W1, W2, W3, W4, W5⟩
            have hf26 := hd1 e1
            obtain ⟨u4, rfl⟩ : ∃ u4, f = (upd u4 26 va0_0) := ⟨f, by rw [upd_self hf26]⟩
            rcases bool_ft (S 7) with e7 | e7
            · skip
              have H := W0 hS e5 e7
              refine O.call Try.call65 rfl rfl rfl (c_slices_Clone_int _ _ (H.arg ha0_0) hy3) ?_
              rintro v1 w8 hb6 ho1
              have H := H.addOwn hb6 ho1
              refine WL.nil ?_
              have H := H.pick [0, 1, 2, 3, 4, 8, 6, 7] [boxI b1 25 [va0_0, va0_1], boxI b2 39 [(.int .i64 a1.At), (.int .i64 a1.A), (.int .i64 a1.B), (.int .i64 a1.Lo), (.int .i64 a1.Hi)], boxI b3 25 [(.slice none 0 0), (.slice none 0 0)], ownI (α := Int) (.slice none 0 0) 3 ([] : List Int), ownI (α := GSight) (.slice none 0 0) 39 ([] : List GSight), ownI (α := Int) v1 3 t3, goneI, goneI] rfl (by decide)
              exact ⟨v1, v2, v3, hf2, hf3, hf4, hd0, hd1, (fun _ => rfl), hd3, hd4, hd5, hd6, hd7, (fun _ => rfl), (fun a _ _ => nomatch (show true = false from a)), (fun _ _ _ => H), (fun a _ _ => nomatch (show true = false from a)), (fun _ a _ => nomatch (show false = true from e5.symm.trans a)), (fun _ _ a => nomatch (show false = true from e7.symm.trans a)), (fun _ a _ => nomatch (show false = true from e5.symm.trans a))⟩
            · skip
              have H := W2 hS e5 e7
              refine O.call Try.call65 rfl rfl rfl (c_slices_Clone_int _ _ (H.arg ha0_0) hy3) ?_
              rintro v1 w8 hb6 ho1
              have H := H.addOwn hb6 ho1
              refine WL.nil ?_
              have H := H.pick [0, 1, 2, 3, 4, 8, 6, 7] [boxI b1 25 [va0_0, va0_1], boxI b2 39 [(.int .i64 a1.At), (.int .i64 a1.A), (.int .i64 a1.B), (.int .i64 a1.Lo), (.int .i64 a1.Hi)], boxI b3 25 [(.slice none 0 0), (.slice none 0 0)], ownI (α := Int) (.slice none 0 0) 3 ([] : List Int), ownI (α := GSight) (.slice none 0 0) 39 ([] : List GSight), ownI (α := Int) v1 3 t3, goneI, ownI (α := GSight) v3 39 ([a1] : List GSight)] rfl (by decide)
              exact ⟨v1, v2, v3, hf2, hf3, hf4, hd0, hd1, (fun _ => rfl), hd3, hd4, hd5, hd6, hd7, (fun _ => rfl), (fun a _ _ => nomatch (show true = false from a)), (fun _ _ a => nomatch (show true = false from e7.symm.trans a)), (fun a _ _ => nomatch (show true = false from a)), (fun _ a _ => nomatch (show false = true from e5.symm.trans a)), (fun _ _ _ => H), (fun _ a _ => nomatch (show false = true from e5.symm.trans a))⟩
          · skip
            rintro S f w hS - ⟨e4, e5, -⟩ ⟨v1, v2, v3, hf2, hf3, hf4, hd0, hd1, hd2, hd3, hd4, hd5, hd6, hd7, C5_2, W0, W1, W2, W3, W4, W5⟩
            obtain ⟨u5, rfl⟩ : ∃ u5, f = (upd u5 2 (.pointer (some ⟨b1, 0, none⟩))) := ⟨f, by rw [upd_self hf2]⟩
            rcases bool_ft (S 2) with e2 | e2
            · skip
              rcases bool_ft (S 7) with e7 | e7
              · skip
                have H := W0 e2 e5 e7
                refine O.fieldAddr fd25_1 rfl rfl rfl ?_
                refine WL.nil ?_
                exact ⟨v1, v2, v3, rfl, hf3, hf4, hd0, hd1, hd2, (fun _ => rfl), hd4, hd5, hd6, hd7, C5_2, (fun _ _ _ => H), (fun a _ _ => nomatch (show false = true from e2.symm.trans a)), (fun _ _ a => nomatch (show false = true from e7.symm.trans a)), (fun a _ _ => nomatch (show false = true from e2.symm.trans a)), (fun a _ _ => nomatch (show false = true from e2.symm.trans a)), (fun a _ _ => nomatch (show false = true from e2.symm.trans a))⟩
              · skip
                have H := W2 e2 e5 e7
                refine O.fieldAddr fd25_1 rfl rfl rfl ?_
                refine WL.nil ?_
                exact ⟨v1, v2, v3, rfl, hf3, hf4, hd0, hd1, hd2, (fun _ => rfl), hd4, hd5, hd6, hd7, C5_2, (fun _ _ a => nomatch (show true = false from e7.symm.trans a)), (fun a _ _ => nomatch (show false = true from e2.symm.trans a)), (fun _ _ _ => H), (fun a _ _ => nomatch (show false = true from e2.symm.trans a)), (fun a _ _ => nomatch (show false = true from e2.symm.trans a)), (fun a _ _ => nomatch (show false = true from e2.symm.trans a))⟩
            · skip
              rcases bool_ft (S 7) with e7 | e7
              · skip
                have H := W1 e2 e5 e7
                refine O.fieldAddr fd25_1 rfl rfl rfl ?_
                refine WL.nil ?_
                exact ⟨v1, v2, v3, rfl, hf3, hf4, hd0, hd1, hd2, (fun _ => rfl), hd4, hd5, hd6, hd7, C5_2, (fun a _ _ => nomatch (show true = false from e2.symm.trans a)), (fun _ _ _ => H), (fun a _ _ => nomatch (show true = false from e2.symm.trans a)), (fun _ a _ => nomatch (show false = true from e5.symm.trans a)), (fun _ _ a => nomatch (show false = true from e7.symm.trans a)), (fun _ a _ => nomatch (show false = true from e5.symm.trans a))⟩
              · skip
                have H := W4 e2 e5 e7
                refine O.fieldAddr fd25_1 rfl rfl rfl ?_
                refine WL.nil ?_
                exact ⟨v1, v2, v3, rfl, hf3, hf4, hd0, hd1, hd2, (fun _ => rfl), hd4, hd5, hd6, hd7, C5_2, (fun a _ _ => nomatch (show true = false from e2.symm.trans a)), (fun _ _ a => nomatch (show true = false from e7.symm.trans a)), (fun a _ _ => nomatch (show true = false from e2.symm.trans a)), (fun _ a _ => nomatch (show false = true from e5.symm.trans a)), (fun _ _ _ => H), (fun _ a _ => nomatch (show false = true from e5.symm.trans a))⟩
          · skip
            rintro S f w hS ⟨e3, -⟩ ⟨e5, -⟩ ⟨v1, v2, v3, hf2, hf3, hf4, hd0, hd1, hd2, hd3, hd4, hd5, hd6, hd7, C5_2, W0, W1, W2, W3, W4, W5⟩
            have hf28 := hd3 e3
            obtain ⟨u6, rfl⟩ : ∃ u6, f = (upd u6 28 (.pointer (some (Addr.add (Addr.mk b1 0 none) 1)))) := ⟨f, by rw [upd_self hf28]⟩
            rcases bool_ft (S 2) with e2 | e2
            · skip
              rcases bool_ft (S 7) with e7 | e7
              · skip
                have H := W0 e2 e5 e7
                refine O.load sc23 rfl rfl rfl (H.cell 0 rfl 1 _ rfl) ?_
                refine WL.nil ?_
                exact ⟨v1, v2, v3, hf2, hf3, hf4, hd0, hd1, hd2, hd3, (fun _ => rfl), hd5, hd6, hd7, C5_2, (fun _ _ _ => H), (fun a _ _ => nomatch (show false = true from e2.symm.trans a)), (fun _ _ a => nomatch (show false = true from e7.symm.trans a)), (fun a _ _ => nomatch (show false = true from e2.symm.trans a)), (fun a _ _ => nomatch (show false = true from e2.symm.trans a)), (fun a _ _ => nomatch (show false = true from e2.symm.trans a))⟩
              · skip
                have H := W2 e2 e5 e7
                refine O.load sc23 rfl rfl rfl (H.cell 0 rfl 1 _ rfl) ?_
                refine WL.nil ?_
                exact ⟨v1, v2, v3, hf2, hf3, hf4, hd0, hd1, hd2, hd3, (fun _ => rfl), hd5, hd6, hd7, C5_2, (fun _ _ a => nomatch (show true = false from e7.symm.trans a)), (fun a _ _ => nomatch (show false = true from e2.symm.trans a)), (fun _ _ _ => H), (fun a _ _ => nomatch (show false = true from e2.symm.trans a)), (fun a _ _ => nomatch (show false = true from e2.symm.trans a)), (fun a _ _ => nomatch (show false = true from e2.symm.trans a))⟩
            · skip
              rcases bool_ft (S 7) with e7 | e7
              · skip
                have H := W1 e2 e5 e7
                refine O.load sc23 rfl rfl rfl (H.cell 0 rfl 1 _ rfl) ?_
                refine WL.nil ?_
                exact ⟨v1, v2, v3, hf2, hf3, hf4, hd0, hd1, hd2, hd3, (fun _ => rfl), hd5, hd6, hd7, C5_2, (fun a _ _ => nomatch (show true = false from e2.symm.trans a)), (fun _ _ _ => H), (fun a _ _ => nomatch (show true = false from e2.symm.trans a)), (fun _ a _ => nomatch (show false = true from e5.symm.trans a)), (fun _ _ a => nomatch (show false = true from e7.symm.trans a)), (fun _ a _ => nomatch (show false = true from e5.symm.trans a))⟩
              · skip
                have H := W4 e2 e5 e7
                refine O.load sc23 rfl rfl rfl (H.cell 0 rfl 1 _ rfl) ?_
                refine WL.nil ?_
                exact ⟨v1, v2, v3, hf2, hf3, hf4, hd0, hd1, hd2, hd3, (fun _ => rfl), hd5, hd6, hd7, C5_2, (fun a _ _ => nomatch (show true = false from e2.symm.trans a)), (fun _ _ a => nomatch (show true = false from e7.symm.trans a)), (fun a _ _ => nomatch (show true = false from e2.symm.trans a)), (fun _ a _ => nomatch (show false = true from e5.symm.trans a)), (fun _ _ _ => H), (fun _ a _ => nomatch (show false = true from e5.symm.trans a))⟩
          · skip
            rintro S f w hS ⟨e0, e1, e2, e3, e4, -⟩ - ⟨v1, _, v3, hf2, hf3, hf4, hd0, hd1, hd2, hd3, hd4, hd5, hd6, hd7, C5_2, W0, W1, W2, W3, W4, W5⟩
            have hf29 := hd4 e4
            obtain ⟨u7, rfl⟩ : ∃ u7, f = (upd u7 29 va0_1) := ⟨f, by rw [upd_self hf29]⟩
            rcases bool_ft (S 7) with e7 | e7
            · skip
              have H := W1 e2 hS e7
              refine O.call Try.call66 rfl rfl rfl (c_slices_Clone_Sight _ _ (H.arg ha0_1) hy4) ?_
              rintro v2 w9 hb7 ho2
              have H := H.addOwn hb7 ho2
              refine WL.nil ?_
              have H := H.pick [0, 1, 2, 3, 4, 5, 8, 7] [boxI b1 25 [va0_0, va0_1], boxI b2 39 [(.int .i64 a1.At), (.int .i64 a1.A), (.int .i64 a1.B), (.int .i64 a1.Lo), (.int .i64 a1.Hi)], boxI b3 25 [(.slice none 0 0), (.slice none 0 0)], ownI (α := Int) (.slice none 0 0) 3 ([] : List Int), ownI (α := GSight) (.slice none 0 0) 39 ([] : List GSight), ownI (α := Int) v1 3 t3, ownI (α := GSight) v2 39 t4, goneI] rfl (by decide)
              exact ⟨v1, v2, v3, hf2, hf3, hf4, hd0, hd1, hd2, hd3, hd4, (fun _ => rfl), hd6, hd7, (fun _ => e2), (fun a _ _ => nomatch (show true = false from e2.symm.trans a)), (fun _ a _ => nomatch (show true = false from a)), (fun a _ _ => nomatch (show true = false from e2.symm.trans a)), (fun _ _ _ => H), (fun _ a _ => nomatch (show true = false from a)), (fun _ _ a => nomatch (show false = true from e7.symm.trans a))⟩
            · skip
              have H := W4 e2 hS e7
              refine O.call Try.call66 rfl rfl rfl (c_slices_Clone_Sight _ _ (H.arg ha0_1) hy4) ?_
              rintro v2 w9 hb7 ho2
              have H := H.addOwn hb7 ho2
              refine WL.nil ?_
              have H := H.pick [0, 1, 2, 3, 4, 5, 8, 7] [boxI b1 25 [va0_0, va0_1], boxI b2 39 [(.int .i64 a1.At), (.int .i64 a1.A), (.int .i64 a1.B), (.int .i64 a1.Lo), (.int .i64 a1.Hi)], boxI b3 25 [(.slice none 0 0), (.slice none 0 0)], ownI (α := Int) (.slice none 0 0) 3 ([] : List Int), ownI (α := GSight) (.slice none 0 0) 39 ([] : List GSight), ownI (α := Int) v1 3 t3, ownI (α := GSight) v2 39 t4, ownI (α := GSight) v3 39 ([a1] : List GSight)] rfl (by decide)
              exact ⟨v1, v2, v3, hf2, hf3, hf4, hd0, hd1, hd2, hd3, hd4, (fun _ => rfl), hd6, hd7, (fun _ => e2), (fun a _ _ => nomatch (show true = false from e2.symm.trans a)), (fun _ a _ => nomatch (show true = false from a)), (fun a _ _ => nomatch (show true = false from e2.symm.trans a)), (fun _ _ a => nomatch (show true = false from e7.symm.trans a)), (fun _ a _ => nomatch (show true = false from a)), (fun _ _ _ => H)⟩
          · skip
            rintro S f w hS - ⟨e7, -⟩ ⟨v1, v2, v3, hf2, hf3, hf4, hd0, hd1, hd2, hd3, hd4, hd5, hd6, hd7, C5_2, W0, W1, W2, W3, W4, W5⟩
            obtain ⟨u8, rfl⟩ : ∃ u8, f = (upd u8 3 (.pointer (some ⟨b2, 0, none⟩))) := ⟨f, by rw [upd_self hf3]⟩
            rcases bool_ft (S 2) with e2 | e2
            · skip
              rcases bool_ft (S 5) with e5 | e5
              · skip
                have H := W0 e2 e5 e7
                refine O.loadA [(.int .i64 a1.At), (.int .i64 a1.A), (.int .i64 a1.B), (.int .i64 a1.Lo), (.int .i64 a1.Hi)] ag39 rfl rfl rfl rfl (H.cell 1 rfl) ?_
                refine WL.nil ?_
                exact ⟨v1, v2, v3, hf2, rfl, hf4, hd0, hd1, hd2, hd3, hd4, hd5, (fun _ => rfl), hd7, C5_2, (fun _ _ _ => H), (fun a _ _ => nomatch (show false = true from e2.symm.trans a)), (fun _ _ a => nomatch (show false = true from e7.symm.trans a)), (fun a _ _ => nomatch (show false = true from e2.symm.trans a)), (fun a _ _ => nomatch (show false = true from e2.symm.trans a)), (fun a _ _ => nomatch (show false = true from e2.symm.trans a))⟩
              · skip
                exact nomatch (show true = false from (C5_2 e5).symm.trans e2)
            · skip
              rcases bool_ft (S 5) with e5 | e5
              · skip
                have H := W1 e2 e5 e7
                refine O.loadA [(.int .i64 a1.At), (.int .i64 a1.A), (.int .i64 a1.B), (.int .i64 a1.Lo), (.int .i64 a1.Hi)] ag39 rfl rfl rfl rfl (H.cell 1 rfl) ?_
                refine WL.nil ?_
                exact ⟨v1, v2, v3, hf2, rfl, hf4, hd0, hd1, hd2, hd3, hd4, hd5, (fun _ => rfl), hd7, C5_2, (fun a _ _ => nomatch (show true = false from e2.symm.trans a)), (fun _ _ _ => H), (fun a _ _ => nomatch (show true = false from e2.symm.trans a)), (fun _ a _ => nomatch (show false = true from e5.symm.trans a)), (fun _ _ a => nomatch (show false = true from e7.symm.trans a)), (fun _ a _ => nomatch (show false = true from e5.symm.trans a))⟩
              · skip
                have H := W3 e2 e5 e7
                refine O.loadA [(.int .i64 a1.At), (.int .i64 a1.A), (.int .i64 a1.B), (.int .i64 a1.Lo), (.int .i64 a1.Hi)] ag39 rfl rfl rfl rfl (H.cell 1 rfl) ?_
                refine WL.nil ?_
                exact ⟨v1, v2, v3, hf2, rfl, hf4, hd0, hd1, hd2, hd3, hd4, hd5, (fun _ => rfl), hd7, C5_2, (fun a _ _ => nomatch (show true = false from e2.symm.trans a)), (fun _ a _ => nomatch (show true = false from e5.symm.trans a)), (fun a _ _ => nomatch (show true = false from e2.symm.trans a)), (fun _ _ _ => H), (fun _ a _ => nomatch (show true = false from e5.symm.trans a)), (fun _ _ a => nomatch (show false = true from e7.symm.trans a))⟩
          · skip
            rintro S f w hS ⟨e6, -⟩ - ⟨v1, v2, _, hf2, hf3, hf4, hd0, hd1, hd2, hd3, hd4, hd5, hd6, hd7, C5_2, W0, W1, W2, W3, W4, W5⟩
            have hf31 := hd6 e6
            obtain ⟨u9, rfl⟩ : ∃ u9, f = (upd u9 31 (.agg (Flat.cells a1).toArray)) := ⟨f, by rw [upd_self hf31]⟩
            rcases bool_ft (S 2) with e2 | e2
            · skip
              rcases bool_ft (S 5) with e5 | e5
              · skip
                have H := W0 e2 e5 hS
                refine O.buildSlice (α := GSight) [(.agg (Flat.cells a1).toArray)] [a1] Try.underlying23 el39 H rfl rfl rfl rfl rfl rfl rfl ?_
                intro v3 w10 H hb8
                refine WL.nil ?_
                have H := H.pick [0, 1, 2, 3, 4, 5, 6, 8] [boxI b1 25 [va0_0, va0_1], boxI b2 39 [(.int .i64 a1.At), (.int .i64 a1.A), (.int .i64 a1.B), (.int .i64 a1.Lo), (.int .i64 a1.Hi)], boxI b3 25 [(.slice none 0 0), (.slice none 0 0)], ownI (α := Int) (.slice none 0 0) 3 ([] : List Int), ownI (α := GSight) (.slice none 0 0) 39 ([] : List GSight), goneI, goneI, ownI (α := GSight) v3 39 ([a1] : List GSight)] rfl (by decide)
                exact ⟨v1, v2, v3, hf2, hf3, hf4, hd0, hd1, hd2, hd3, hd4, hd5, hd6, (fun _ => rfl), C5_2, (fun _ _ a => nomatch (show true = false from a)), (fun a _ _ => nomatch (show false = true from e2.symm.trans a)), (fun _ _ _ => H), (fun a _ _ => nomatch (show false = true from e2.symm.trans a)), (fun a _ _ => nomatch (show false = true from e2.symm.trans a)), (fun a _ _ => nomatch (show false = true from e2.symm.trans a))⟩
              · skip
                exact nomatch (show true = false from (C5_2 e5).symm.trans e2)
            · skip
              rcases bool_ft (S 5) with e5 | e5
              · skip
                have H := W1 e2 e5 hS
                refine O.buildSlice (α := GSight) [(.agg (Flat.cells a1).toArray)] [a1] Try.underlying23 el39 H rfl rfl rfl rfl rfl rfl rfl ?_
                intro v3 w10 H hb8
                refine WL.nil ?_
                have H := H.pick [0, 1, 2, 3, 4, 5, 6, 8] [boxI b1 25 [va0_0, va0_1], boxI b2 39 [(.int .i64 a1.At), (.int .i64 a1.A), (.int .i64 a1.B), (.int .i64 a1.Lo), (.int .i64 a1.Hi)], boxI b3 25 [(.slice none 0 0), (.slice none 0 0)], ownI (α := Int) (.slice none 0 0) 3 ([] : List Int), ownI (α := GSight) (.slice none 0 0) 39 ([] : List GSight), ownI (α := Int) v1 3 t3, goneI, ownI (α := GSight) v3 39 ([a1] : List GSight)] rfl (by decide)
                exact ⟨v1, v2, v3, hf2, hf3, hf4, hd0, hd1, hd2, hd3, hd4, hd5, hd6, (fun _ => rfl), C5_2, (fun a _ _ => nomatch (show true = false from e2.symm.trans a)), (fun _ _ a => nomatch (show true = false from a)), (fun a _ _ => nomatch (show true = false from e2.symm.trans a)), (fun _ a _ => nomatch (show false = true from e5.symm.trans a)), (fun _ _ _ => H), (fun _ a _ => nomatch (show false = true from e5.symm.trans a))⟩
              · skip
                have H := W3 e2 e5 hS
                refine O.buildSlice (α := GSight) [(.agg (Flat.cells a1).toArray)] [a1] Try.underlying23 el39 H rfl rfl rfl rfl rfl rfl rfl ?_
                intro v3 w10 H hb8
                refine WL.nil ?_
                have H := H.pick [0, 1, 2, 3, 4, 5, 6, 8] [boxI b1 25 [va0_0, va0_1], boxI b2 39 [(.int .i64 a1.At), (.int .i64 a1.A), (.int .i64 a1.B), (.int .i64 a1.Lo), (.int .i64 a1.Hi)], boxI b3 25 [(.slice none 0 0), (.slice none 0 0)], ownI (α := Int) (.slice none 0 0) 3 ([] : List Int), ownI (α := GSight) (.slice none 0 0) 39 ([] : List GSight), ownI (α := Int) v1 3 t3, ownI (α := GSight) v2 39 t4, ownI (α := GSight) v3 39 ([a1] : List GSight)] rfl (by decide)
                exact ⟨v1, v2, v3, hf2, hf3, hf4, hd0, hd1, hd2, hd3, hd4, hd5, hd6, (fun _ => rfl), C5_2, (fun a _ _ => nomatch (show true = false from e2.symm.trans a)), (fun _ a _ => nomatch (show true = false from e5.symm.trans a)), (fun a _ _ => nomatch (show true = false from e2.symm.trans a)), (fun _ _ a => nomatch (show true = false from a)), (fun _ a _ => nomatch (show true = false from e5.symm.trans a)), (fun _ _ _ => H)⟩
        · skip
          rintro S f w ⟨e0, e1, e2, e3, e4, e5, e6, e7, -⟩ ⟨v1, v2, v3, hf2, hf3, hf4, hd0, hd1, hd2, hd3, hd4, hd5, hd6, hd7, C5_2, W0, W1, W2, W3, W4, W5⟩
          have hf27 := hd2 e2
          have hf30 := hd5 e5
          have hf32 := hd7 e7
          have H := W5 e2 e5 e7
          obtain ⟨u10, rfl⟩ : ∃ u10, f = (upd (upd (upd (upd u10 4 (.pointer (some ⟨b3, 0, none⟩))) 27 v1) 30 v2) 32 v3) := ⟨f, by rw [upd_self hf4, upd_self hf27, upd_self hf30, upd_self hf32]⟩
          obtain ⟨t5, ht5, hm⟩ := bind_some hm
          refine O.append 6 Try.underlying23 el39 rfl H rfl (H.own 7 rfl) ht5 rfl rfl rfl rfl ?_
          intro v4 w11 H
          obtain ⟨ad1, cap1, hvad1, _⟩ := (H.own 5 rfl).shape
          obtain ⟨ad2, cap2, hvad2, _⟩ := (H.own 6 rfl).shape
          refine O.build (v := (.agg #[v1, v4])) (fun w => by rw [hvad1, hvad2]; exact bd25_0_1 _ _ _ _ _ _ w) rfl rfl rfl ?_
          refine O.store 2 0 [v1, v4] [v1, v4] sz25 H rfl rfl rfl rfl rfl rfl ⟨⟨rfl, rfl⟩, rfl⟩ (one_cons (SliceR.one (H.own 5 rfl)) (one_cons (SliceR.one (H.own 6 rfl)) one_nil)) ?_
          intro w12 H
          refine O.assign (v := (.int .i64 0)) rfl rfl rfl ?_
          refine WL.nil ?_
          refine W.ret ?_
          have hq : ((GNet.mk t3 t5), 0) = (r0, r1) := Option.some.inj (show some ((GNet.mk t3 t5), 0) = some (r0, r1) from hm)
          obtain ⟨he0, hq0⟩ := Prod.mk.inj hq; clear hq; subst he0
          subst hq0
          exact ends2 Try.results26 ⟨_, rfl, run_loadVar_agg ag25 rfl (H.cell 2 rfl)⟩ rfl ⟨_, rfl, H.base, ⟨_, _, rfl, H.pick [5, 6] [ownI (α := Int) v1 3 t3, ownI (α := GSight) v4 39 t5] rfl (by decide)⟩⟩

set_option maxRecDepth 20000 in
theorem c_noongunlaw02_SightNarrows {w0 : World} (va0_0 : Value) (va0_1 : Value) (a0 : GNet) (ha0_0 : SliceR w0 va0_0 a0.Rates) (ha0_1 : SliceR w0 va0_1 a0.Sights) (a1 : GSight) (a2 : GArr3) {r0 : Bool} (hm : noongunlaw02_SightNarrows a0 a1 a2 = some r0) :
    Calls Try.prog 6 #[(.agg #[va0_0, va0_1]), (.agg (Flat.cells a1).toArray), (.agg (Flat.cells a2).toArray)] w0 (Ret w0 fun _ v => v = (.bool r0)) := by
  unfold noongunlaw02_SightNarrows at hm
  refine calls_of_W Try.func6 rfl Try.ntmps6 (Nat.le_of_ble_eq_true rfl) ?_
  have H := Inv.start (w := w0)
  refine W.seq ?_
  refine W.region ?_
  refine O.box [va0_0, va0_1] H rfl rfl rfl rfl ?_
  intro b1 w1 H hb1
  refine O.box [(.int .i64 a1.At), (.int .i64 a1.A), (.int .i64 a1.B), (.int .i64 a1.Lo), (.int .i64 a1.Hi)] H rfl rfl rfl rfl ?_
  intro b2 w2 H hb2
  refine O.box [(.int .i64 a2.x0), (.int .i64 a2.x1), (.int .i64 a2.x2)] H rfl rfl rfl rfl ?_
  intro b3 w3 H hb3
  refine O.assign (v := (.bool false)) rfl rfl rfl ?_
  refine WL.nil ?_
  refine W.seq ?_
  refine W.seq ?_
  refine W.region ?_
  refine O.loadA [va0_0, va0_1] ag25 rfl rfl rfl rfl (H.cell 0 rfl) ?_
  obtain ⟨t1, hy1, hm⟩ := bind_some hm
  refine O.call Try.call14 rfl rfl rfl (c_noongunlaw02_Light _ _ (GNet.mk a0.Rates a0.Sights) (H.arg ha0_0) (H.arg ha0_1) hy1) ?_
  rintro _ w4 hb4 rfl
  have H := H.ext hb4
  refine O.not rfl rfl rfl ?_
  refine WL.nil ?_
  rcases ite_some hm with ⟨hc1, hm⟩ | ⟨hc1, hm⟩
  · refine W.cond_true (congrArg Value.bool hc1) ?_
    refine W.seq ?_
    refine W.region ?_
    obtain ⟨t2, hy2, hm⟩ := bind_some hm
    refine O.call Try.call15 rfl rfl rfl (c_noongunlaw02_awake  hy2) ?_
    rintro _ w5 hb5 rfl
    have H := H.ext hb5
    refine O.assign (v := (.bool t2)) rfl rfl rfl ?_
    refine WL.nil ?_
    refine W.ret ?_
    have hq : t2 = r0 := Option.some.inj (show some t2 = some r0 from hm)
    subst hq
    exact ends1 Try.results6 rfl ⟨_, rfl, H.base, rfl⟩
  · refine W.cond_false (congrArg Value.bool hc1) ?_
    refine W.skip ?_
    refine W.seq ?_
    refine W.region ?_
    refine O.loadA [va0_0, va0_1] ag25 rfl rfl rfl rfl (H.cell 0 rfl) ?_
    refine O.loadA [(.int .i64 a1.At), (.int .i64 a1.A), (.int .i64 a1.B), (.int .i64 a1.Lo), (.int .i64 a1.Hi)] ag39 rfl rfl rfl rfl (H.cell 1 rfl) ?_
    obtain ⟨⟨t3, t4⟩, hy3, hm⟩ := bind_some hm
    refine O.call Try.call26 rfl rfl rfl (c_sight_Added _ _ (GNet.mk a0.Rates a0.Sights) (H.arg ha0_0) (H.arg ha0_1) a1 hy3) ?_
    rintro _ w6 hb6 ⟨v1, v2, rfl, ho1⟩
    have H := H.addAll hb6 ho1
    refine O.move (v := (.tuple #[(.agg #[v1, v2]), (.int .i64 t4)])) rfl rfl rfl ?_
    refine O.extract (v := (.agg #[v1, v2])) rfl rfl rfl rfl ?_
    refine O.extract (v := (.int .i64 t4)) rfl rfl rfl rfl ?_
    refine O.alloc [(.slice none 0 0), (.slice none 0 0)] ze25 H rfl rfl rfl ?_
    intro b4 w7 H hb7
    have H := H.addNil (α := Int) (E := 3)
    have H := H.addNil (α := GSight) (E := 39)
    refine O.store 5 0 [v1, v2] [v1, v2] sz25 H rfl rfl rfl rfl rfl rfl ⟨⟨rfl, rfl⟩, rfl⟩ (one_cons (SliceR.one (H.own 3 rfl)) (one_cons (SliceR.one (H.own 4 rfl)) one_nil)) ?_
    intro w8 H
    refine O.assign (v := (.int .i64 t4)) rfl rfl rfl ?_
    refine WL.nil ?_
    refine W.seq ?_
    refine W.region ?_
    refine O.loadA [va0_0, va0_1] ag25 rfl rfl rfl rfl (H.cell 0 rfl) ?_
    refine O.indexArr 0 Try.underlying26 sz3 rfl rfl rfl rfl rfl ?_
    refine O.load sc3 rfl rfl rfl (H.cell 2 rfl 0 _ rfl) ?_
    refine O.indexArr 1 Try.underlying26 sz3 rfl rfl rfl rfl rfl ?_
    refine O.load sc3 rfl rfl rfl (H.cell 2 rfl 1 _ rfl) ?_
    refine O.indexArr 2 Try.underlying26 sz3 rfl rfl rfl rfl rfl ?_
    refine O.load sc3 rfl rfl rfl (H.cell 2 rfl 2 _ rfl) ?_
    obtain ⟨⟨t5, t6⟩, hy4, hm⟩ := bind_some hm
    refine O.call Try.call16 rfl rfl rfl (c_sight_Between _ _ (GNet.mk a0.Rates a0.Sights) (H.arg ha0_0) (H.arg ha0_1) _ _ _ hy4) ?_
    rintro _ w9 hb8 rfl
    have H := H.ext hb8
    refine O.move (v := (.tuple #[(.agg (Flat.cells t5).toArray), (.int .i64 t6)])) rfl rfl rfl ?_
    refine O.extract (v := (.agg (Flat.cells t5).toArray)) rfl rfl rfl rfl ?_
    refine O.extract (v := (.int .i64 t6)) rfl rfl rfl rfl ?_
    refine O.alloc [(.int .i64 0), (.int .i64 0)] ze30 H rfl rfl rfl ?_
    intro b5 w10 H hb9
    refine O.store 8 0 [(.int .i64 t5.Lo), (.int .i64 t5.Hi)] [(.int .i64 t5.Lo), (.int .i64 t5.Hi)] sz30 H rfl rfl rfl rfl rfl rfl ⟨⟨rfl, rfl⟩, rfl⟩ (one_cons rfl (one_cons rfl one_nil)) ?_
    intro w11 H
    refine O.assign (v := (.int .i64 t6)) rfl rfl rfl ?_
    refine WL.nil ?_
    refine W.seq ?_
    refine W.seq ?_
    refine W.region ?_
    refine O.move (v := (.int .i64 t4)) rfl rfl rfl ?_
    refine O.neq rfl rfl rfl rfl ?_
    refine O.move (v := (.bool (t4 != 0))) rfl rfl rfl ?_
    refine WL.cut 3 (fun f w => f 5 = (.pointer (some ⟨b3, 0, none⟩)) ∧ f 7 = (.pointer (some ⟨b4, 0, none⟩)) ∧ f 9 = (.pointer (some ⟨b5, 0, none⟩)) ∧ f 39 = .bool ((t4 != 0) || (t6 != 0)) ∧ Inv w0 w [boxI b1 25 [va0_0, va0_1], boxI b2 39 [(.int .i64 a1.At), (.int .i64 a1.A), (.int .i64 a1.B), (.int .i64 a1.Lo), (.int .i64 a1.Hi)], boxI b3 26 [(.int .i64 a2.x0), (.int .i64 a2.x1), (.int .i64 a2.x2)], ownI (α := Int) v1 3 t3.Rates, ownI (α := GSight) v2 39 t3.Sights, boxI b4 25 [v1, v2], ownI (α := Int) (.slice none 0 0) 3 ([] : List Int), ownI (α := GSight) (.slice none 0 0) 39 ([] : List GSight), boxI b5 30 [(.int .i64 t5.Lo), (.int .i64 t5.Hi)]]) ?_ ?_
    · skip
      rcases bool_ft (t4 != 0) with hc2 | hc2
      · skip
        refine WL.reset (i := 36) (v := .bool false) (congrArg Value.bool hc2) ?_
        refine O.move (v := (.int .i64 t6)) rfl rfl rfl ?_
        refine O.neq rfl rfl rfl rfl ?_
        refine O.pick_false (v := (.bool (t6 != 0))) rfl rfl rfl rfl ?_
        refine WL.nil ?_
        exact ⟨rfl, rfl, rfl, congrArg Value.bool (or_f hc2), H⟩
      · skip
        refine WL.reset (i := 36) (v := .bool true) (congrArg Value.bool hc2) ?_
        refine O.skip rfl rfl ?_
        refine O.skip rfl rfl ?_
        refine O.pick_true (v := (.bool true)) rfl rfl rfl rfl ?_
        refine WL.nil ?_
        exact ⟨rfl, rfl, rfl, congrArg Value.bool (or_t hc2), H⟩
    · skip
      rintro f w ⟨hf5, hf7, hf9, hf39, H⟩
      obtain ⟨u1, rfl⟩ : ∃ u1, f = (upd (upd (upd (upd u1 5 (.pointer (some ⟨b3, 0, none⟩))) 7 (.pointer (some ⟨b4, 0, none⟩))) 9 (.pointer (some ⟨b5, 0, none⟩))) 39 (.bool ((t4 != 0) || (t6 != 0)))) := ⟨f, by rw [upd_self hf5, upd_self hf7, upd_self hf9, upd_self hf39]⟩
      refine WL.nil ?_
      rcases ite_some hm with ⟨hc3, hm⟩ | ⟨hc3, hm⟩
      · refine W.cond_true (congrArg Value.bool hc3) ?_
        refine W.seq ?_
        refine W.region ?_
        obtain ⟨t7, hy5, hm⟩ := bind_some hm
        refine O.call Try.call15 rfl rfl rfl (c_noongunlaw02_awake  hy5) ?_
        rintro _ w12 hb10 rfl
        have H := H.ext hb10
        refine O.assign (v := (.bool t7)) rfl rfl rfl ?_
        refine WL.nil ?_
        refine W.ret ?_
        have hq : t7 = r0 := Option.some.inj (show some t7 = some r0 from hm)
        subst hq
        exact ends1 Try.results6 rfl ⟨_, rfl, H.base, rfl⟩
      · refine W.cond_false (congrArg Value.bool hc3) ?_
        refine W.skip ?_
        refine W.seq ?_
        refine W.region ?_
        refine O.loadA [v1, v2] ag25 rfl rfl rfl rfl (H.cell 5 rfl) ?_
        refine O.indexArr 0 Try.underlying26 sz3 rfl rfl rfl rfl rfl ?_
        refine O.load sc3 rfl rfl rfl (H.cell 2 rfl 0 _ rfl) ?_
        refine O.indexArr 1 Try.underlying26 sz3 rfl rfl rfl rfl rfl ?_
        refine O.load sc3 rfl rfl rfl (H.cell 2 rfl 1 _ rfl) ?_
        refine O.indexArr 2 Try.underlying26 sz3 rfl rfl rfl rfl rfl ?_
        refine O.load sc3 rfl rfl rfl (H.cell 2 rfl 2 _ rfl) ?_
        obtain ⟨⟨t8, t9⟩, hy6, hm⟩ := bind_some hm
        refine O.call Try.call16 rfl rfl rfl (c_sight_Between _ _ (GNet.mk t3.Rates t3.Sights) (H.own 3 rfl) (H.own 4 rfl) _ _ _ hy6) ?_
        rintro _ w13 hb11 rfl
        have H := H.ext hb11
        refine O.move (v := (.tuple #[(.agg (Flat.cells t8).toArray), (.int .i64 t9)])) rfl rfl rfl ?_
        refine O.extract (v := (.agg (Flat.cells t8).toArray)) rfl rfl rfl rfl ?_
        refine O.extract (v := (.int .i64 t9)) rfl rfl rfl rfl ?_
        refine O.alloc [(.int .i64 0), (.int .i64 0)] ze30 H rfl rfl rfl ?_
        intro b6 w14 H hb12
        refine O.store 9 0 [(.int .i64 t8.Lo), (.int .i64 t8.Hi)] [(.int .i64 t8.Lo), (.int .i64 t8.Hi)] sz30 H rfl rfl rfl rfl rfl rfl ⟨⟨rfl, rfl⟩, rfl⟩ (one_cons rfl (one_cons rfl one_nil)) ?_
        intro w15 H
        refine O.assign (v := (.int .i64 t9)) rfl rfl rfl ?_
        refine WL.nil ?_
        refine W.seq ?_
        refine W.seq ?_
        refine W.region ?_
        refine O.move (v := (.int .i64 t9)) rfl rfl rfl ?_
        refine O.neq rfl rfl rfl rfl ?_
        refine WL.nil ?_
        rcases ite_some hm with ⟨hc4, hm⟩ | ⟨hc4, hm⟩
        · refine W.cond_true (congrArg Value.bool hc4) ?_
          refine W.seq ?_
          refine W.region ?_
          refine O.move (v := (.int .i64 t9)) rfl rfl rfl ?_
          refine O.eql rfl rfl rfl rfl ?_
          refine O.move (v := (.bool (t9 == 9))) rfl rfl rfl ?_
          obtain ⟨b7, hm1, hm⟩ := bind_some hm
          refine WL.cut 2 (fun f w => f 58 = .bool b7 ∧ Inv w0 w [boxI b1 25 [va0_0, va0_1], boxI b2 39 [(.int .i64 a1.At), (.int .i64 a1.A), (.int .i64 a1.B), (.int .i64 a1.Lo), (.int .i64 a1.Hi)], boxI b3 26 [(.int .i64 a2.x0), (.int .i64 a2.x1), (.int .i64 a2.x2)], ownI (α := Int) v1 3 t3.Rates, ownI (α := GSight) v2 39 t3.Sights, boxI b4 25 [v1, v2], ownI (α := Int) (.slice none 0 0) 3 ([] : List Int), ownI (α := GSight) (.slice none 0 0) 39 ([] : List GSight), boxI b5 30 [(.int .i64 t5.Lo), (.int .i64 t5.Hi)], boxI b6 30 [(.int .i64 t8.Lo), (.int .i64 t8.Hi)]]) ?_ ?_
          · skip
            rcases ite_some hm1 with ⟨hc5, hm1⟩ | ⟨hc5, hm1⟩
            · skip
              refine WL.reset (i := 56) (v := .bool true) (congrArg Value.bool hc5) ?_
              obtain ⟨t10, hy7, hm1⟩ := bind_some hm1
              refine O.call Try.call15 rfl rfl rfl (c_noongunlaw02_awake  hy7) ?_
              rintro _ w16 hb13 rfl
              have H := H.ext hb13
              refine O.pick_true (v := (.bool t10)) rfl rfl rfl rfl ?_
              refine WL.nil ?_
              have hq : t10 = b7 := Option.some.inj (show some t10 = some b7 from hm1)
              subst hq
              exact ⟨rfl, H⟩
            · skip
              refine WL.reset (i := 56) (v := .bool false) (congrArg Value.bool hc5) ?_
              refine O.skip rfl rfl ?_
              refine O.pick_false (v := (.bool false)) rfl rfl rfl rfl ?_
              refine WL.nil ?_
              have hq : false = b7 := Option.some.inj (show some false = some b7 from hm1)
              subst hq
              exact ⟨rfl, H⟩
          · skip
            rintro f w ⟨hf58, H⟩
            obtain ⟨u2, rfl⟩ : ∃ u2, f = (upd u2 58 (.bool b7)) := ⟨f, by rw [upd_self hf58]⟩
            refine O.assign (v := (.bool b7)) rfl rfl rfl ?_
            refine WL.nil ?_
            refine W.ret ?_
            have hq : b7 = r0 := Option.some.inj (show some b7 = some r0 from hm)
            subst hq
            exact ends1 Try.results6 rfl ⟨_, rfl, H.base, rfl⟩
        · refine W.cond_false (congrArg Value.bool hc4) ?_
          refine W.skip ?_
          refine W.seq ?_
          refine W.region ?_
          refine O.loadA [(.int .i64 t8.Lo), (.int .i64 t8.Hi)] ag30 rfl rfl rfl rfl (H.cell 9 rfl) ?_
          refine O.loadA [(.int .i64 t5.Lo), (.int .i64 t5.Hi)] ag30 rfl rfl rfl rfl (H.cell 8 rfl) ?_
          obtain ⟨t11, hy8, hm⟩ := bind_some hm
          refine O.call Try.call17 rfl rfl rfl (c_noongunlaw02_inside t8 t5 hy8) ?_
          rintro _ w17 hb14 rfl
          have H := H.ext hb14
          refine O.move (v := (.bool t11)) rfl rfl rfl ?_
          obtain ⟨b8, hm2, hm⟩ := bind_some hm
          refine WL.cut 2 (fun f w => f 64 = .bool b8 ∧ Inv w0 w [boxI b1 25 [va0_0, va0_1], boxI b2 39 [(.int .i64 a1.At), (.int .i64 a1.A), (.int .i64 a1.B), (.int .i64 a1.Lo), (.int .i64 a1.Hi)], boxI b3 26 [(.int .i64 a2.x0), (.int .i64 a2.x1), (.int .i64 a2.x2)], ownI (α := Int) v1 3 t3.Rates, ownI (α := GSight) v2 39 t3.Sights, boxI b4 25 [v1, v2], ownI (α := Int) (.slice none 0 0) 3 ([] : List Int), ownI (α := GSight) (.slice none 0 0) 39 ([] : List GSight), boxI b5 30 [(.int .i64 t5.Lo), (.int .i64 t5.Hi)], boxI b6 30 [(.int .i64 t8.Lo), (.int .i64 t8.Hi)]]) ?_ ?_
          · skip
            rcases ite_some hm2 with ⟨hc6, hm2⟩ | ⟨hc6, hm2⟩
            · skip
              refine WL.reset (i := 62) (v := .bool true) (congrArg Value.bool hc6) ?_
              obtain ⟨t12, hy9, hm2⟩ := bind_some hm2
              refine O.call Try.call15 rfl rfl rfl (c_noongunlaw02_awake  hy9) ?_
              rintro _ w18 hb15 rfl
              have H := H.ext hb15
              refine O.pick_true (v := (.bool t12)) rfl rfl rfl rfl ?_
              refine WL.nil ?_
              have hq : t12 = b8 := Option.some.inj (show some t12 = some b8 from hm2)
              subst hq
              exact ⟨rfl, H⟩
            · skip
              refine WL.reset (i := 62) (v := .bool false) (congrArg Value.bool hc6) ?_
              refine O.skip rfl rfl ?_
              refine O.pick_false (v := (.bool false)) rfl rfl rfl rfl ?_
              refine WL.nil ?_
              have hq : false = b8 := Option.some.inj (show some false = some b8 from hm2)
              subst hq
              exact ⟨rfl, H⟩
          · skip
            rintro f w ⟨hf64, H⟩
            obtain ⟨u3, rfl⟩ : ∃ u3, f = (upd u3 64 (.bool b8)) := ⟨f, by rw [upd_self hf64]⟩
            refine O.assign (v := (.bool b8)) rfl rfl rfl ?_
            refine WL.nil ?_
            refine W.ret ?_
            have hq : b8 = r0 := Option.some.inj (show some b8 = some r0 from hm)
            subst hq
            exact ends1 Try.results6 rfl ⟨_, rfl, H.base, rfl⟩

set_option maxRecDepth 20000 in
theorem c_sight_Shifted {w0 : World} (va0_0 : Value) (va0_1 : Value) (a0 : GNet) (ha0_0 : SliceR w0 va0_0 a0.Rates) (ha0_1 : SliceR w0 va0_1 a0.Sights) (a1 : Int) (a2 : Int) {r0 : GNet} {r1 : Int} (hm : sight_Shifted a0 a1 a2 = some (r0, r1)) :
    Calls Try.prog 34 #[(.agg #[va0_0, va0_1]), (.int .i64 a1), (.int .i64 a2)] w0 (Ret w0 fun w v => ∃ vr0_0 : Value, ∃ vr0_1 : Value, v = .tuple #[(.agg #[vr0_0, vr0_1]), (.int .i64 r1)] ∧ Inv w0 w [ownI (α := Int) vr0_0 3 r0.Rates, ownI (α := GSight) vr0_1 39 r0.Sights]) := by
  unfold sight_Shifted at hm
  refine calls_of_W Try.func34 rfl Try.ntmps34 (Nat.le_of_ble_eq_true rfl) ?_
  have H := Inv.start (w := w0)
  refine W.seq ?_
  refine W.region ?_
  refine O.box [va0_0, va0_1] H rfl rfl rfl rfl ?_
  intro b1 w1 H hb1
  refine O.alloc [(.slice none 0 0), (.slice none 0 0)] ze25 H rfl rfl rfl ?_
  intro b2 w2 H hb2
  have H := H.addNil (α := Int) (E := 3)
  have H := H.addNil (α := GSight) (E := 39)
  refine O.assign (v := (.int .i64 0)) rfl rfl rfl ?_
  refine WL.nil ?_
  refine W.seq ?_
  refine W.block ?_
  refine W.seq ?_
  refine W.region ?_
  refine O.loadA [va0_0, va0_1] ag25 rfl rfl rfl rfl (H.cell 0 rfl) ?_
  obtain ⟨t1, hy1, hm⟩ := bind_some hm
  refine O.call Try.call33 rfl rfl rfl (c_sight_Valid _ _ (GNet.mk a0.Rates a0.Sights) (H.arg ha0_0) (H.arg ha0_1) hy1) ?_
  rintro _ w3 hb3 rfl
  have H := H.ext hb3
  refine O.not rfl rfl rfl ?_
  refine O.assign (v := (.bool (!t1))) rfl rfl rfl ?_
  refine WL.nil ?_
  rcases ite_some hm with ⟨hc1, hm⟩ | ⟨hc1, hm⟩
  · refine W.cond_true (congrArg Value.bool hc1) ?_
    refine W.seq ?_
    refine W.region ?_
    refine O.build (v := (.agg #[(.slice none 0 0), (.slice none 0 0)])) (fun w => bd25_  w) rfl rfl rfl ?_
    have H := H.addNil (α := Int) (E := 3)
    have H := H.addNil (α := GSight) (E := 39)
    refine O.store 1 0 [(.slice none 0 0), (.slice none 0 0)] [(.slice none 0 0), (.slice none 0 0)] sz25 H rfl rfl rfl rfl rfl rfl ⟨⟨rfl, rfl⟩, rfl⟩ (one_cons rfl (one_cons rfl one_nil)) ?_
    intro w4 H
    refine O.assign (v := (.int .i64 1)) rfl rfl rfl ?_
    refine WL.nil ?_
    refine W.ret ?_
    have hq : ((GNet.mk ([] : List Int) ([] : List GSight)), 1) = (r0, r1) := Option.some.inj (show some ((GNet.mk ([] : List Int) ([] : List GSight)), 1) = some (r0, r1) from hm)
    obtain ⟨he0, hq0⟩ := Prod.mk.inj hq; clear hq; subst he0
    subst hq0
    exact ends2 Try.results34 ⟨_, rfl, run_loadVar_agg ag25 rfl (H.cell 1 rfl)⟩ rfl ⟨_, rfl, H.base, ⟨_, _, rfl, H.pick [4, 5] [ownI (α := Int) (.slice none 0 0) 3 ([] : List Int), ownI (α := GSight) (.slice none 0 0) 39 ([] : List GSight)] rfl (by decide)⟩⟩
  · refine W.cond_false (congrArg Value.bool hc1) ?_
    refine W.seq ?_
    refine W.region ?_
    refine O.move (v := (.int .i64 a1)) rfl rfl rfl ?_
    refine O.fieldAddr fd25_0 rfl rfl rfl ?_
    refine O.load sc22 rfl rfl rfl (H.cell 0 rfl 0 _ rfl) ?_
    refine O.lenS Try.underlying22 (H.arg ha0_0) rfl rfl rfl ?_
    obtain ⟨t2, ht2, hm⟩ := bind_some hm
    refine O.sub rfl rfl rfl rfl ht2 ?_
    obtain ⟨t3, hy2, hm⟩ := bind_some hm
    refine O.call Try.call55 rfl rfl rfl (c_sight_within _ _ _ hy2) ?_
    rintro _ w5 hb4 rfl
    have H := H.ext hb4
    refine O.not rfl rfl rfl ?_
    refine O.assign (v := (.bool (!t3))) rfl rfl rfl ?_
    refine WL.nil ?_
    rcases ite_some hm with ⟨hc2, hm⟩ | ⟨hc2, hm⟩
    · refine W.cond_true (congrArg Value.bool hc2) ?_
      refine W.seq ?_
      refine W.region ?_
      refine O.build (v := (.agg #[(.slice none 0 0), (.slice none 0 0)])) (fun w => bd25_  w) rfl rfl rfl ?_
      have H := H.addNil (α := Int) (E := 3)
      have H := H.addNil (α := GSight) (E := 39)
      refine O.store 1 0 [(.slice none 0 0), (.slice none 0 0)] [(.slice none 0 0), (.slice none 0 0)] sz25 H rfl rfl rfl rfl rfl rfl ⟨⟨rfl, rfl⟩, rfl⟩ (one_cons rfl (one_cons rfl one_nil)) ?_
      intro w6 H
      refine O.assign (v := (.int .i64 5)) rfl rfl rfl ?_
      refine WL.nil ?_
      refine W.ret ?_
      have hq : ((GNet.mk ([] : List Int) ([] : List GSight)), 5) = (r0, r1) := Option.some.inj (show some ((GNet.mk ([] : List Int) ([] : List GSight)), 5) = some (r0, r1) from hm)
      obtain ⟨he0, hq0⟩ := Prod.mk.inj hq; clear hq; subst he0
      subst hq0
      exact ends2 Try.results34 ⟨_, rfl, run_loadVar_agg ag25 rfl (H.cell 1 rfl)⟩ rfl ⟨_, rfl, H.base, ⟨_, _, rfl, H.pick [4, 5] [ownI (α := Int) (.slice none 0 0) 3 ([] : List Int), ownI (α := GSight) (.slice none 0 0) 39 ([] : List GSight)] rfl (by decide)⟩⟩
    · refine W.cond_false (congrArg Value.bool hc2) ?_
      refine W.seq ?_
      refine W.region ?_
      refine O.move (v := (.int .i64 a2)) rfl rfl rfl ?_
      obtain ⟨t4, hy3, hm⟩ := bind_some hm
      refine O.call Try.call55 rfl rfl rfl (c_sight_within _ _ _ hy3) ?_
      rintro _ w7 hb5 rfl
      have H := H.ext hb5
      refine O.not rfl rfl rfl ?_
      refine O.assign (v := (.bool (!t4))) rfl rfl rfl ?_
      refine WL.nil ?_
      rcases ite_some hm with ⟨hc3, hm⟩ | ⟨hc3, hm⟩
      · refine W.cond_true (congrArg Value.bool hc3) ?_
        refine W.seq ?_
        refine W.region ?_
        refine O.build (v := (.agg #[(.slice none 0 0), (.slice none 0 0)])) (fun w => bd25_  w) rfl rfl rfl ?_
        have H := H.addNil (α := Int) (E := 3)
        have H := H.addNil (α := GSight) (E := 39)
        refine O.store 1 0 [(.slice none 0 0), (.slice none 0 0)] [(.slice none 0 0), (.slice none 0 0)] sz25 H rfl rfl rfl rfl rfl rfl ⟨⟨rfl, rfl⟩, rfl⟩ (one_cons rfl (one_cons rfl one_nil)) ?_
        intro w8 H
        refine O.assign (v := (.int .i64 7)) rfl rfl rfl ?_
        refine WL.nil ?_
        refine W.ret ?_
        have hq : ((GNet.mk ([] : List Int) ([] : List GSight)), 7) = (r0, r1) := Option.some.inj (show some ((GNet.mk ([] : List Int) ([] : List GSight)), 7) = some (r0, r1) from hm)
        obtain ⟨he0, hq0⟩ := Prod.mk.inj hq; clear hq; subst he0
        subst hq0
        exact ends2 Try.results34 ⟨_, rfl, run_loadVar_agg ag25 rfl (H.cell 1 rfl)⟩ rfl ⟨_, rfl, H.base, ⟨_, _, rfl, H.pick [4, 5] [ownI (α := Int) (.slice none 0 0) 3 ([] : List Int), ownI (α := GSight) (.slice none 0 0) 39 ([] : List GSight)] rfl (by decide)⟩⟩
      · refine W.cond_false (congrArg Value.bool hc3) ?_
        refine W.skip ?_
        refine W.seq ?_
        refine W.region ?_
        refine O.fieldAddr fd25_0 rfl rfl rfl ?_
        refine O.load sc22 rfl rfl rfl (H.cell 0 rfl 0 _ rfl) ?_
        obtain ⟨t5, hy4, hm⟩ := bind_some hm
        refine O.call Try.call65 rfl rfl rfl (c_slices_Clone_int _ _ (H.arg ha0_0) hy4) ?_
        rintro v1 w9 hb6 ho1
        have H := H.addOwn hb6 ho1
        obtain ⟨ad1, cap1, hvad1, _⟩ := (H.own 4 rfl).shape
        refine O.build (v := (.agg #[v1, (.slice none 0 0)])) (fun w => by rw [hvad1]; exact bd25_0 _ _ _ w) rfl rfl rfl ?_
        refine O.alloc [(.slice none 0 0), (.slice none 0 0)] ze25 H rfl rfl rfl ?_
        intro b3 w10 H hb7
        have H := H.addNil (α := Int) (E := 3)
        have H := H.addNil (α := GSight) (E := 39)
        have H := H.addNil (α := GSight) (E := 39)
        refine O.store 5 0 [v1, (.slice none 0 0)] [v1, (.slice none 0 0)] sz25 H rfl rfl rfl rfl rfl rfl ⟨⟨rfl, rfl⟩, rfl⟩ (one_cons (SliceR.one (H.own 4 rfl)) (one_cons rfl one_nil)) ?_
        intro w11 H
        refine WL.nil ?_
        refine W.seq ?_
        refine W.seq ?_
        refine W.region ?_
        refine O.fieldAddr fd25_1 rfl rfl rfl ?_
        refine O.load sc23 rfl rfl rfl (H.cell 0 rfl 1 _ rfl) ?_
        refine O.lenS Try.underlying23 (H.arg ha0_1) rfl rfl rfl ?_
        refine O.move (v := (.int .i64 0)) rfl rfl rfl ?_
        refine WL.nil ?_
        obtain ⟨o1, hm1, hm⟩ := bind_some hm
        refine W.via (fun f w => ∃ s1 : (List GSight), ∃ v5 : Value, o1 = .next s1 ∧ f 6 = (.pointer (some ⟨b2, 0, none⟩)) ∧ f 8 = (.pointer (some ⟨b3, 0, none⟩)) ∧ Inv w0 w [boxI b2 25 [(.slice none 0 0), (.slice none 0 0)], ownI (α := Int) (.slice none 0 0) 3 ([] : List Int), ownI (α := GSight) (.slice none 0 0) 39 ([] : List GSight), ownI (α := Int) v1 3 t5, boxI b3 25 [v1, v5], ownI (α := GSight) v5 39 s1]) ?_ ?_
        · skip
          refine W.block ?_
          have H := H.keep [0, 1, 2, 3, 4, 5, 8] [boxI b1 25 [va0_0, va0_1], boxI b2 25 [(.slice none 0 0), (.slice none 0 0)], ownI (α := Int) (.slice none 0 0) 3 ([] : List Int), ownI (α := GSight) (.slice none 0 0) 39 ([] : List GSight), ownI (α := Int) v1 3 t5, boxI b3 25 [v1, (.slice none 0 0)], ownI (α := GSight) (.slice none 0 0) 39 ([] : List GSight)] rfl (by decide)
          refine W.rangeL (i := 0) hm1 (fun rem ik1 s f w => ∃ z2 : (List GSight), ∃ v3 : Value, z2 = s ∧ a0.Sights.drop ik1 = rem ∧ f 37 = .int .i64 (ik1 : Int) ∧ f 36 = (.int .i64 ((a0.Sights.length : Nat) : Int)) ∧ f 1 = (.int .i64 a1) ∧ f 2 = (.int .i64 a2) ∧ f 3 = (.pointer (some ⟨b1, 0, none⟩)) ∧ f 6 = (.pointer (some ⟨b2, 0, none⟩)) ∧ f 8 = (.pointer (some ⟨b3, 0, none⟩)) ∧ f 35 = va0_1 ∧ Inv w0 w [boxI b1 25 [va0_0, va0_1], boxI b2 25 [(.slice none 0 0), (.slice none 0 0)], ownI (α := Int) (.slice none 0 0) 3 ([] : List Int), ownI (α := GSight) (.slice none 0 0) 39 ([] : List GSight), ownI (α := Int) v1 3 t5, boxI b3 25 [v1, v3], ownI (α := GSight) v3 39 z2]) ?_ ?_ ?_
          · skip
            exact ⟨_, (.slice none 0 0), rfl, List.drop_zero, rfl, rfl, rfl, rfl, rfl, rfl, rfl, rfl, H⟩
          · skip
            rintro yk1 xs ik1 _ st f w ⟨z2, v3, rfl, hdropk1, hf37, hf36, hf1, hf2, hf3, hf6, hf8, hf35, H⟩ hm2
            have hltk1 := drop_lt hdropk1; have hixk1 := drop_idx hdropk1
            obtain ⟨u1, rfl⟩ : ∃ u1, f = (upd (upd (upd (upd (upd (upd (upd (upd u1 37 (.int .i64 (ik1 : Int))) 36 (.int .i64 ((a0.Sights.length : Nat) : Int))) 1 (.int .i64 a1)) 2 (.int .i64 a2)) 3 (.pointer (some ⟨b1, 0, none⟩))) 6 (.pointer (some ⟨b2, 0, none⟩))) 8 (.pointer (some ⟨b3, 0, none⟩))) 35 va0_1) := ⟨f, by rw [upd_self hf37, upd_self hf36, upd_self hf1, upd_self hf2, upd_self hf3, upd_self hf6, upd_self hf8, upd_self hf35]⟩
            have hinck1 := addI_lt hltk1 (H.arg ha0_1).len_le
            refine W.seq ?_
            refine W.region ?_
            refine O.lss rfl rfl rfl rfl ?_
            refine WL.nil ?_
            refine W.seq ?_
            refine W.cond_true (congrArg Value.bool (decide_eq_true hltk1)) ?_
            refine W.skip ?_
            refine W.seq ?_
            obtain ⟨o2, hm3, hm2⟩ := bind_some hm2
            refine W.via (fun f w => ∃ s2 : (List GSight), ∃ v6 : Value, o2 = .next s2 ∧ f 1 = (.int .i64 a1) ∧ f 2 = (.int .i64 a2) ∧ f 3 = (.pointer (some ⟨b1, 0, none⟩)) ∧ f 6 = (.pointer (some ⟨b2, 0, none⟩)) ∧ f 8 = (.pointer (some ⟨b3, 0, none⟩)) ∧ f 35 = va0_1 ∧ f 36 = (.int .i64 ((a0.Sights.length : Nat) : Int)) ∧ f 37 = (.int .i64 (ik1 : Int)) ∧ Inv w0 w [boxI b1 25 [va0_0, va0_1], boxI b2 25 [(.slice none 0 0), (.slice none 0 0)], ownI (α := Int) (.slice none 0 0) 3 ([] : List Int), ownI (α := GSight) (.slice none 0 0) 39 ([] : List GSight), ownI (α := Int) v1 3 t5, boxI b3 25 [v1, v6], ownI (α := GSight) v6 39 s2]) ?_ ?_
            · skip
              refine W.block ?_
              refine W.seq ?_
              refine W.region ?_
              obtain ⟨p1, hp1, hrp1⟩ := fix_indexAddr Try.underlying23 sz39 ha0_1 hixk1
              refine hrp1 rfl rfl rfl rfl ?_
              refine O.loadA [(.int .i64 yk1.At), (.int .i64 yk1.A), (.int .i64 yk1.B), (.int .i64 yk1.Lo), (.int .i64 yk1.Hi)] ag39 rfl rfl rfl rfl ((hp1.mono H.base).flat) ?_
              refine O.alloc [(.int .i64 0), (.int .i64 0), (.int .i64 0), (.int .i64 0), (.int .i64 0)] ze39 H rfl rfl rfl ?_
              intro b4 w12 H hb8
              refine O.store 7 0 [(.int .i64 yk1.At), (.int .i64 yk1.A), (.int .i64 yk1.B), (.int .i64 yk1.Lo), (.int .i64 yk1.Hi)] [(.int .i64 yk1.At), (.int .i64 yk1.A), (.int .i64 yk1.B), (.int .i64 yk1.Lo), (.int .i64 yk1.Hi)] sz39 H rfl rfl rfl rfl rfl rfl ⟨⟨rfl, rfl⟩, rfl⟩ (one_cons rfl (one_cons rfl (one_cons rfl (one_cons rfl (one_cons rfl one_nil))))) ?_
              intro w13 H
              refine WL.nil ?_
              refine W.seq ?_
              refine W.seq ?_
              refine W.region ?_
              refine O.move (v := (.int .i64 a1)) rfl rfl rfl ?_
              refine WL.nil ?_
              obtain ⟨⟨s3, s4⟩, hm4, hm3⟩ := bind_some hm3
              refine W.via (fun f w => f 1 = (.int .i64 a1) ∧ f 2 = (.int .i64 a2) ∧ f 3 = (.pointer (some ⟨b1, 0, none⟩)) ∧ f 6 = (.pointer (some ⟨b2, 0, none⟩)) ∧ f 8 = (.pointer (some ⟨b3, 0, none⟩)) ∧ f 10 = (.pointer (some ⟨b4, 0, none⟩)) ∧ f 35 = va0_1 ∧ f 36 = (.int .i64 ((a0.Sights.length : Nat) : Int)) ∧ f 37 = (.int .i64 (ik1 : Int)) ∧ Inv w0 w [boxI b1 25 [va0_0, va0_1], boxI b2 25 [(.slice none 0 0), (.slice none 0 0)], ownI (α := Int) (.slice none 0 0) 3 ([] : List Int), ownI (α := GSight) (.slice none 0 0) 39 ([] : List GSight), ownI (α := Int) v1 3 t5, boxI b3 25 [v1, v3], ownI (α := GSight) v3 39 z2, boxI b4 39 [(.int .i64 yk1.At), (.int .i64 yk1.A), (.int .i64 yk1.B), (.int .i64 s3), (.int .i64 s4)]]) ?_ ?_
              · skip
                refine W.block ?_
                refine W.seq ?_
                refine W.region ?_
                refine O.fieldAddr fd39_1 rfl rfl rfl ?_
                refine O.load sc3 rfl rfl rfl (H.cell 7 rfl 1 _ rfl) ?_
                refine O.eql rfl rfl rfl rfl ?_
                refine O.assign (v := (.bool (a1 == yk1.A))) rfl rfl rfl ?_
                refine WL.nil ?_
                obtain ⟨⟨s5, s6⟩, hm5, hm4⟩ := bind_some hm4
                refine W.via (fun f w => f 1 = (.int .i64 a1) ∧ f 2 = (.int .i64 a2) ∧ f 3 = (.pointer (some ⟨b1, 0, none⟩)) ∧ f 6 = (.pointer (some ⟨b2, 0, none⟩)) ∧ f 8 = (.pointer (some ⟨b3, 0, none⟩)) ∧ f 10 = (.pointer (some ⟨b4, 0, none⟩)) ∧ f 35 = va0_1 ∧ f 36 = (.int .i64 ((a0.Sights.length : Nat) : Int)) ∧ f 37 = (.int .i64 (ik1 : Int)) ∧ Inv w0 w [boxI b1 25 [va0_0, va0_1], boxI b2 25 [(.slice none 0 0), (.slice none 0 0)], ownI (α := Int) (.slice none 0 0) 3 ([] : List Int), ownI (α := GSight) (.slice none 0 0) 39 ([] : List GSight), ownI (α := Int) v1 3 t5, boxI b3 25 [v1, v3], ownI (α := GSight) v3 39 z2, boxI b4 39 [(.int .i64 yk1.At), (.int .i64 yk1.A), (.int .i64 yk1.B), (.int .i64 s5), (.int .i64 s6)]]) ?_ ?_
                · skip
                  rcases ite_some hm5 with ⟨hc4, hm5⟩ | ⟨hc4, hm5⟩
                  · refine W.cond_true (congrArg Value.bool hc4) ?_
                    refine W.region ?_
                    refine O.fieldAddr fd39_3 rfl rfl rfl ?_
                    refine O.load sc3 rfl rfl rfl (H.cell 7 rfl 3 _ rfl) ?_
                    refine O.move (v := (.int .i64 a2)) rfl rfl rfl ?_
                    obtain ⟨t6, ht6, hm5⟩ := bind_some hm5
                    refine O.add rfl rfl rfl rfl ht6 ?_
                    refine O.fieldAddr fd39_4 rfl rfl rfl ?_
                    refine O.load sc3 rfl rfl rfl (H.cell 7 rfl 4 _ rfl) ?_
                    refine O.move (v := (.int .i64 a2)) rfl rfl rfl ?_
                    obtain ⟨t7, ht7, hm5⟩ := bind_some hm5
                    refine O.add rfl rfl rfl rfl ht7 ?_
                    refine O.fieldAddr fd39_3 rfl rfl rfl ?_
                    refine O.store 7 3 [(.int .i64 t6)] [(.int .i64 yk1.At), (.int .i64 yk1.A), (.int .i64 yk1.B), (.int .i64 t6), (.int .i64 yk1.Hi)] sz3 H rfl rfl rfl rfl rfl rfl ⟨⟨rfl, rfl⟩, rfl⟩ (one_cons rfl one_nil) ?_
                    intro w14 H
                    refine O.fieldAddr fd39_4 rfl rfl rfl ?_
                    refine O.store 7 4 [(.int .i64 t7)] [(.int .i64 yk1.At), (.int .i64 yk1.A), (.int .i64 yk1.B), (.int .i64 t6), (.int .i64 t7)] sz3 H rfl rfl rfl rfl rfl rfl ⟨⟨rfl, rfl⟩, rfl⟩ (one_cons rfl one_nil) ?_
                    intro w15 H
                    refine WL.nil ?_
                    have hq : (t6, t7) = (s5, s6) := Option.some.inj (show some (t6, t7) = some (s5, s6) from hm5)
                    obtain ⟨he0, hq0⟩ := Prod.mk.inj hq; clear hq; subst he0
                    subst hq0
                    exact ⟨rfl, rfl, rfl, rfl, rfl, rfl, rfl, rfl, rfl, H⟩
                  · refine W.cond_false (congrArg Value.bool hc4) ?_
                    refine W.seq ?_
                    refine W.region ?_
                    refine O.fieldAddr fd39_2 rfl rfl rfl ?_
                    refine O.load sc3 rfl rfl rfl (H.cell 7 rfl 2 _ rfl) ?_
                    refine O.eql rfl rfl rfl rfl ?_
                    refine O.assign (v := (.bool (a1 == yk1.B))) rfl rfl rfl ?_
                    refine WL.nil ?_
                    obtain ⟨⟨s7, s8⟩, hm6, hm5⟩ := bind_some hm5
                    refine W.via (fun f w => f 1 = (.int .i64 a1) ∧ f 2 = (.int .i64 a2) ∧ f 3 = (.pointer (some ⟨b1, 0, none⟩)) ∧ f 6 = (.pointer (some ⟨b2, 0, none⟩)) ∧ f 8 = (.pointer (some ⟨b3, 0, none⟩)) ∧ f 10 = (.pointer (some ⟨b4, 0, none⟩)) ∧ f 35 = va0_1 ∧ f 36 = (.int .i64 ((a0.Sights.length : Nat) : Int)) ∧ f 37 = (.int .i64 (ik1 : Int)) ∧ Inv w0 w [boxI b1 25 [va0_0, va0_1], boxI b2 25 [(.slice none 0 0), (.slice none 0 0)], ownI (α := Int) (.slice none 0 0) 3 ([] : List Int), ownI (α := GSight) (.slice none 0 0) 39 ([] : List GSight), ownI (α := Int) v1 3 t5, boxI b3 25 [v1, v3], ownI (α := GSight) v3 39 z2, boxI b4 39 [(.int .i64 yk1.At), (.int .i64 yk1.A), (.int .i64 yk1.B), (.int .i64 s7), (.int .i64 s8)]]) ?_ ?_
                    · skip
                      rcases ite_some hm6 with ⟨hc5, hm6⟩ | ⟨hc5, hm6⟩
                      · refine W.cond_true (congrArg Value.bool hc5) ?_
                        refine W.region ?_
                        refine O.fieldAddr fd39_3 rfl rfl rfl ?_
                        refine O.load sc3 rfl rfl rfl (H.cell 7 rfl 3 _ rfl) ?_
                        refine O.move (v := (.int .i64 a2)) rfl rfl rfl ?_
                        obtain ⟨t8, ht8, hm6⟩ := bind_some hm6
                        refine O.sub rfl rfl rfl rfl ht8 ?_
                        refine O.fieldAddr fd39_4 rfl rfl rfl ?_
                        refine O.load sc3 rfl rfl rfl (H.cell 7 rfl 4 _ rfl) ?_
                        refine O.move (v := (.int .i64 a2)) rfl rfl rfl ?_
                        obtain ⟨t9, ht9, hm6⟩ := bind_some hm6
                        refine O.sub rfl rfl rfl rfl ht9 ?_
                        refine O.fieldAddr fd39_3 rfl rfl rfl ?_
                        refine O.store 7 3 [(.int .i64 t8)] [(.int .i64 yk1.At), (.int .i64 yk1.A), (.int .i64 yk1.B), (.int .i64 t8), (.int .i64 yk1.Hi)] sz3 H rfl rfl rfl rfl rfl rfl ⟨⟨rfl, rfl⟩, rfl⟩ (one_cons rfl one_nil) ?_
                        intro w16 H
                        refine O.fieldAddr fd39_4 rfl rfl rfl ?_
                        refine O.store 7 4 [(.int .i64 t9)] [(.int .i64 yk1.At), (.int .i64 yk1.A), (.int .i64 yk1.B), (.int .i64 t8), (.int .i64 t9)] sz3 H rfl rfl rfl rfl rfl rfl ⟨⟨rfl, rfl⟩, rfl⟩ (one_cons rfl one_nil) ?_
                        intro w17 H
                        refine WL.nil ?_
                        have hq : (t8, t9) = (s7, s8) := Option.some.inj (show some (t8, t9) = some (s7, s8) from hm6)
                        obtain ⟨he0, hq0⟩ := Prod.mk.inj hq; clear hq; subst he0
                        subst hq0
                        exact ⟨rfl, rfl, rfl, rfl, rfl, rfl, rfl, rfl, rfl, H⟩
                      · refine W.cond_false (congrArg Value.bool hc5) ?_
                        refine W.skip ?_
                        have hq : (yk1.Lo, yk1.Hi) = (s7, s8) := Option.some.inj (show some (yk1.Lo, yk1.Hi) = some (s7, s8) from hm6)
                        obtain ⟨he0, hq0⟩ := Prod.mk.inj hq; clear hq; subst he0
                        subst hq0
                        exact ⟨rfl, rfl, rfl, rfl, rfl, rfl, rfl, rfl, rfl, H⟩
                    · skip
                      rintro f w ⟨hf1, hf2, hf3, hf6, hf8, hf10, hf35, hf36, hf37, H⟩
                      obtain ⟨u2, rfl⟩ : ∃ u2, f = (upd (upd (upd (upd (upd (upd (upd (upd (upd u2 1 (.int .i64 a1)) 2 (.int .i64 a2)) 3 (.pointer (some ⟨b1, 0, none⟩))) 6 (.pointer (some ⟨b2, 0, none⟩))) 8 (.pointer (some ⟨b3, 0, none⟩))) 10 (.pointer (some ⟨b4, 0, none⟩))) 35 va0_1) 36 (.int .i64 ((a0.Sights.length : Nat) : Int))) 37 (.int .i64 (ik1 : Int))) := ⟨f, by rw [upd_self hf1, upd_self hf2, upd_self hf3, upd_self hf6, upd_self hf8, upd_self hf10, upd_self hf35, upd_self hf36, upd_self hf37]⟩
                      have hq : (s7, s8) = (s5, s6) := Option.some.inj (show some (s7, s8) = some (s5, s6) from hm5)
                      obtain ⟨he0, hq0⟩ := Prod.mk.inj hq; clear hq; subst he0
                      subst hq0
                      exact ⟨rfl, rfl, rfl, rfl, rfl, rfl, rfl, rfl, rfl, H⟩
                · skip
                  rintro f w ⟨hf1, hf2, hf3, hf6, hf8, hf10, hf35, hf36, hf37, H⟩
                  obtain ⟨u3, rfl⟩ : ∃ u3, f = (upd (upd (upd (upd (upd (upd (upd (upd (upd u3 1 (.int .i64 a1)) 2 (.int .i64 a2)) 3 (.pointer (some ⟨b1, 0, none⟩))) 6 (.pointer (some ⟨b2, 0, none⟩))) 8 (.pointer (some ⟨b3, 0, none⟩))) 10 (.pointer (some ⟨b4, 0, none⟩))) 35 va0_1) 36 (.int .i64 ((a0.Sights.length : Nat) : Int))) 37 (.int .i64 (ik1 : Int))) := ⟨f, by rw [upd_self hf1, upd_self hf2, upd_self hf3, upd_self hf6, upd_self hf8, upd_self hf10, upd_self hf35, upd_self hf36, upd_self hf37]⟩
                  have hq : (s5, s6) = (s3, s4) := Option.some.inj (show some (s5, s6) = some (s3, s4) from hm4)
                  obtain ⟨he0, hq0⟩ := Prod.mk.inj hq; clear hq; subst he0
                  subst hq0
                  exact ⟨rfl, rfl, rfl, rfl, rfl, rfl, rfl, rfl, rfl, H⟩
              · skip
                rintro f w ⟨hf1, hf2, hf3, hf6, hf8, hf10, hf35, hf36, hf37, H⟩
                obtain ⟨u4, rfl⟩ : ∃ u4, f = (upd (upd (upd (upd (upd (upd (upd (upd (upd u4 1 (.int .i64 a1)) 2 (.int .i64 a2)) 3 (.pointer (some ⟨b1, 0, none⟩))) 6 (.pointer (some ⟨b2, 0, none⟩))) 8 (.pointer (some ⟨b3, 0, none⟩))) 10 (.pointer (some ⟨b4, 0, none⟩))) 35 va0_1) 36 (.int .i64 ((a0.Sights.length : Nat) : Int))) 37 (.int .i64 (ik1 : Int))) := ⟨f, by rw [upd_self hf1, upd_self hf2, upd_self hf3, upd_self hf6, upd_self hf8, upd_self hf10, upd_self hf35, upd_self hf36, upd_self hf37]⟩
                refine W.seq ?_
                refine W.seq ?_
                refine W.region ?_
                refine O.loadA [(.int .i64 yk1.At), (.int .i64 yk1.A), (.int .i64 yk1.B), (.int .i64 s3), (.int .i64 s4)] ag39 rfl rfl rfl rfl (H.cell 7 rfl) ?_
                refine O.fieldAddr fd25_0 rfl rfl rfl ?_
                refine O.load sc22 rfl rfl rfl (H.cell 0 rfl 0 _ rfl) ?_
                refine O.lenS Try.underlying22 (H.arg ha0_0) rfl rfl rfl ?_
                obtain ⟨t10, hy5, hm3⟩ := bind_some hm3
                refine O.call Try.call64 rfl rfl rfl (c_sight_validSight (GSight.mk yk1.At yk1.A yk1.B s3 s4) _ hy5) ?_
                rintro _ w18 hb9 rfl
                have H := H.ext hb9
                refine O.not rfl rfl rfl ?_
                refine WL.nil ?_
                rcases ite_some hm3 with ⟨hc6, hm3⟩ | ⟨hc6, hm3⟩
                · refine W.cond_true (congrArg Value.bool hc6) ?_
                  refine W.seq ?_
                  refine W.region ?_
                  refine O.build (v := (.agg #[(.slice none 0 0), (.slice none 0 0)])) (fun w => bd25_  w) rfl rfl rfl ?_
                  have H := H.addNil (α := Int) (E := 3)
                  have H := H.addNil (α := GSight) (E := 39)
                  refine O.store 1 0 [(.slice none 0 0), (.slice none 0 0)] [(.slice none 0 0), (.slice none 0 0)] sz25 H rfl rfl rfl rfl rfl rfl ⟨⟨rfl, rfl⟩, rfl⟩ (one_cons rfl (one_cons rfl one_nil)) ?_
                  intro w19 H
                  refine O.assign (v := (.int .i64 4)) rfl rfl rfl ?_
                  refine WL.nil ?_
                  refine W.ret ?_
                  obtain rfl := Option.some.inj hm3
                  obtain rfl := Option.some.inj hm2
                  refine ⟨_, rfl, ?_⟩
                  rintro rfl
                  have hq : ((GNet.mk ([] : List Int) ([] : List GSight)), 4) = (r0, r1) := Option.some.inj (show some ((GNet.mk ([] : List Int) ([] : List GSight)), 4) = some (r0, r1) from hm)
                  obtain ⟨he0, hq0⟩ := Prod.mk.inj hq; clear hq; subst he0
                  subst hq0
                  exact ends2 Try.results34 ⟨_, rfl, run_loadVar_agg ag25 rfl (H.cell 1 rfl)⟩ rfl ⟨_, rfl, H.base, ⟨_, _, rfl, H.pick [8, 9] [ownI (α := Int) (.slice none 0 0) 3 ([] : List Int), ownI (α := GSight) (.slice none 0 0) 39 ([] : List GSight)] rfl (by decide)⟩⟩
                · refine W.cond_false (congrArg Value.bool hc6) ?_
                  refine W.skip ?_
                  refine W.region ?_
                  refine O.fieldAddr fd25_1 rfl rfl rfl ?_
                  refine O.load sc23 rfl rfl rfl (H.cell 5 rfl 1 _ rfl) ?_
                  refine O.loadA [(.int .i64 yk1.At), (.int .i64 yk1.A), (.int .i64 yk1.B), (.int .i64 s3), (.int .i64 s4)] ag39 rfl rfl rfl rfl (H.cell 7 rfl) ?_
                  refine O.buildSlice (α := GSight) [(.agg (Flat.cells (GSight.mk yk1.At yk1.A yk1.B s3 s4)).toArray)] [(GSight.mk yk1.At yk1.A yk1.B s3 s4)] Try.underlying23 el39 H rfl rfl rfl rfl rfl rfl rfl ?_
                  intro v7 w20 H hb10
                  obtain ⟨t11, ht11, hm3⟩ := bind_some hm3
                  refine O.append 6 Try.underlying23 el39 rfl H rfl (H.own 8 rfl) ht11 rfl rfl rfl rfl ?_
                  intro v8 w21 H
                  refine O.fieldAddr fd25_1 rfl rfl rfl ?_
                  refine O.store 5 1 [v8] [v1, v8] sz23 H rfl rfl rfl rfl rfl (SliceR.cells1 (H.own 6 rfl)) ⟨⟨rfl, rfl⟩, rfl⟩ (one_cons (SliceR.one (H.own 6 rfl)) one_nil) ?_
                  intro w22 H
                  refine WL.nil ?_
                  have H := H.keep [0, 1, 2, 3, 4, 5, 6] [boxI b1 25 [va0_0, va0_1], boxI b2 25 [(.slice none 0 0), (.slice none 0 0)], ownI (α := Int) (.slice none 0 0) 3 ([] : List Int), ownI (α := GSight) (.slice none 0 0) 39 ([] : List GSight), ownI (α := Int) v1 3 t5, boxI b3 25 [v1, v8], ownI (α := GSight) v8 39 t11] rfl (by decide)
                  obtain rfl := Option.some.inj hm3
                  exact ⟨_, v8, rfl, rfl, rfl, rfl, rfl, rfl, rfl, rfl, rfl, H⟩
            · skip
              rintro f w ⟨s2, v6, rfl, hf1, hf2, hf3, hf6, hf8, hf35, hf36, hf37, H⟩
              obtain ⟨u5, rfl⟩ : ∃ u5, f = (upd (upd (upd (upd (upd (upd (upd (upd u5 1 (.int .i64 a1)) 2 (.int .i64 a2)) 3 (.pointer (some ⟨b1, 0, none⟩))) 6 (.pointer (some ⟨b2, 0, none⟩))) 8 (.pointer (some ⟨b3, 0, none⟩))) 35 va0_1) 36 (.int .i64 ((a0.Sights.length : Nat) : Int))) 37 (.int .i64 (ik1 : Int))) := ⟨f, by rw [upd_self hf1, upd_self hf2, upd_self hf3, upd_self hf6, upd_self hf8, upd_self hf35, upd_self hf36, upd_self hf37]⟩
              refine W.region ?_
              refine O.add rfl rfl rfl rfl hinck1 ?_
              refine O.move (v := .int .i64 ((ik1 : Int) + 1)) rfl rfl rfl ?_
              refine WL.nil ?_
              obtain rfl := Option.some.inj hm2
              exact ⟨_, rfl, _, v6, rfl, drop_next hdropk1, rfl, rfl, rfl, rfl, rfl, rfl, rfl, rfl, H⟩
          · skip
            rintro ik1 _ f w ⟨z2, v3, rfl, hdropk1, hf37, hf36, hf1, hf2, hf3, hf6, hf8, hf35, H⟩ hfin
            have hltk1 := drop_end hdropk1
            obtain ⟨u6, rfl⟩ : ∃ u6, f = (upd (upd (upd (upd (upd (upd (upd (upd u6 37 (.int .i64 (ik1 : Int))) 36 (.int .i64 ((a0.Sights.length : Nat) : Int))) 1 (.int .i64 a1)) 2 (.int .i64 a2)) 3 (.pointer (some ⟨b1, 0, none⟩))) 6 (.pointer (some ⟨b2, 0, none⟩))) 8 (.pointer (some ⟨b3, 0, none⟩))) 35 va0_1) := ⟨f, by rw [upd_self hf37, upd_self hf36, upd_self hf1, upd_self hf2, upd_self hf3, upd_self hf6, upd_self hf8, upd_self hf35]⟩
            refine W.seq ?_
            refine W.region ?_
            refine O.lss rfl rfl rfl rfl ?_
            refine WL.nil ?_
            refine W.seq ?_
            refine W.cond_false (congrArg Value.bool (decide_eq_false hltk1)) ?_
            refine W.exit ?_
            obtain rfl : Ctl.next z2 = o1 := hfin
            have H := H.keep [1, 2, 3, 4, 5, 6] [boxI b2 25 [(.slice none 0 0), (.slice none 0 0)], ownI (α := Int) (.slice none 0 0) 3 ([] : List Int), ownI (α := GSight) (.slice none 0 0) 39 ([] : List GSight), ownI (α := Int) v1 3 t5, boxI b3 25 [v1, v3], ownI (α := GSight) v3 39 z2] rfl (by decide)
            refine xT rfl ?_
            exact ⟨_, v3, rfl, rfl, rfl, H⟩
        · skip
          rintro f w ⟨s1, v5, rfl, hf6, hf8, H⟩
          obtain ⟨u7, rfl⟩ : ∃ u7, f = (upd (upd u7 6 (.pointer (some ⟨b2, 0, none⟩))) 8 (.pointer (some ⟨b3, 0, none⟩))) := ⟨f, by rw [upd_self hf6, upd_self hf8]⟩
          refine W.seq ?_
          refine W.region ?_
          refine O.loadA [v1, v5] ag25 rfl rfl rfl rfl (H.cell 4 rfl) ?_
          refine O.store 0 0 [v1, v5] [v1, v5] sz25 H rfl rfl rfl rfl rfl rfl ⟨⟨rfl, rfl⟩, rfl⟩ (one_cons (SliceR.one (H.own 3 rfl)) (one_cons (SliceR.one (H.own 5 rfl)) one_nil)) ?_
          intro w23 H
          refine O.assign (v := (.int .i64 0)) rfl rfl rfl ?_
          refine WL.nil ?_
          refine W.ret ?_
          have hq : ((GNet.mk t5 s1), 0) = (r0, r1) := Option.some.inj (show some ((GNet.mk t5 s1), 0) = some (r0, r1) from hm)
          obtain ⟨he0, hq0⟩ := Prod.mk.inj hq; clear hq; subst he0
          subst hq0
          exact ends2 Try.results34 ⟨_, rfl, run_loadVar_agg ag25 rfl (H.cell 0 rfl)⟩ rfl ⟨_, rfl, H.base, ⟨_, _, rfl, H.pick [3, 5] [ownI (α := Int) v1 3 t5, ownI (α := GSight) v5 39 s1] rfl (by decide)⟩⟩

set_option maxRecDepth 20000 in
theorem c_noongunlaw02_SightShifts {w0 : World} (va0_0 : Value) (va0_1 : Value) (a0 : GNet) (ha0_0 : SliceR w0 va0_0 a0.Rates) (ha0_1 : SliceR w0 va0_1 a0.Sights) (a1 : GArr2) (a2 : GArr2) {r0 : Bool} (hm : noongunlaw02_SightShifts a0 a1 a2 = some r0) :
    Calls Try.prog 9 #[(.agg #[va0_0, va0_1]), (.agg (Flat.cells a1).toArray), (.agg (Flat.cells a2).toArray)] w0 (Ret w0 fun _ v => v = (.bool r0)) := by
  unfold noongunlaw02_SightShifts at hm
  refine calls_of_W Try.func9 rfl Try.ntmps9 (Nat.le_of_ble_eq_true rfl) ?_
  have H := Inv.start (w := w0)
  refine W.seq ?_
  refine W.region ?_
  refine O.box [va0_0, va0_1] H rfl rfl rfl rfl ?_
  intro b1 w1 H hb1
  refine O.box [(.int .i64 a1.x0), (.int .i64 a1.x1)] H rfl rfl rfl rfl ?_
  intro b2 w2 H hb2
  refine O.box [(.int .i64 a2.x0), (.int .i64 a2.x1)] H rfl rfl rfl rfl ?_
  intro b3 w3 H hb3
  refine O.assign (v := (.bool false)) rfl rfl rfl ?_
  refine WL.nil ?_
  refine W.seq ?_
  refine W.seq ?_
  refine W.region ?_
  refine O.loadA [va0_0, va0_1] ag25 rfl rfl rfl rfl (H.cell 0 rfl) ?_
  obtain ⟨t1, hy1, hm⟩ := bind_some hm
  refine O.call Try.call14 rfl rfl rfl (c_noongunlaw02_Light _ _ (GNet.mk a0.Rates a0.Sights) (H.arg ha0_0) (H.arg ha0_1) hy1) ?_
  rintro _ w4 hb4 rfl
  have H := H.ext hb4
  refine O.not rfl rfl rfl ?_
  refine WL.nil ?_
  rcases ite_some hm with ⟨hc1, hm⟩ | ⟨hc1, hm⟩
  · refine W.cond_true (congrArg Value.bool hc1) ?_
    refine W.seq ?_
    refine W.region ?_
    obtain ⟨t2, hy2, hm⟩ := bind_some hm
    refine O.call Try.call15 rfl rfl rfl (c_noongunlaw02_awake  hy2) ?_
    rintro _ w5 hb5 rfl
    have H := H.ext hb5
    refine O.assign (v := (.bool t2)) rfl rfl rfl ?_
    refine WL.nil ?_
    refine W.ret ?_
    have hq : t2 = r0 := Option.some.inj (show some t2 = some r0 from hm)
    subst hq
    exact ends1 Try.results9 rfl ⟨_, rfl, H.base, rfl⟩
  · refine W.cond_false (congrArg Value.bool hc1) ?_
    refine W.skip ?_
    refine W.seq ?_
    refine W.region ?_
    refine O.loadA [va0_0, va0_1] ag25 rfl rfl rfl rfl (H.cell 0 rfl) ?_
    refine O.indexArr 0 Try.underlying45 sz3 rfl rfl rfl rfl rfl ?_
    refine O.load sc3 rfl rfl rfl (H.cell 1 rfl 0 _ rfl) ?_
    refine O.indexArr 0 Try.underlying45 sz3 rfl rfl rfl rfl rfl ?_
    refine O.load sc3 rfl rfl rfl (H.cell 2 rfl 0 _ rfl) ?_
    obtain ⟨⟨t3, t4⟩, hy3, hm⟩ := bind_some hm
    refine O.call Try.call34 rfl rfl rfl (c_sight_Shifted _ _ (GNet.mk a0.Rates a0.Sights) (H.arg ha0_0) (H.arg ha0_1) _ _ hy3) ?_
    rintro _ w6 hb6 ⟨v1, v2, rfl, ho1⟩
    have H := H.addAll hb6 ho1
    refine O.move (v := (.tuple #[(.agg #[v1, v2]), (.int .i64 t4)])) rfl rfl rfl ?_
    refine O.extract (v := (.agg #[v1, v2])) rfl rfl rfl rfl ?_
    refine O.extract (v := (.int .i64 t4)) rfl rfl rfl rfl ?_
    refine O.alloc [(.slice none 0 0), (.slice none 0 0)] ze25 H rfl rfl rfl ?_
    intro b4 w7 H hb7
    have H := H.addNil (α := Int) (E := 3)
    have H := H.addNil (α := GSight) (E := 39)
    refine O.store 5 0 [v1, v2] [v1, v2] sz25 H rfl rfl rfl rfl rfl rfl ⟨⟨rfl, rfl⟩, rfl⟩ (one_cons (SliceR.one (H.own 3 rfl)) (one_cons (SliceR.one (H.own 4 rfl)) one_nil)) ?_
    intro w8 H
    refine O.assign (v := (.int .i64 t4)) rfl rfl rfl ?_
    refine WL.nil ?_
    refine W.seq ?_
    refine W.seq ?_
    refine W.region ?_
    refine O.move (v := (.int .i64 t4)) rfl rfl rfl ?_
    refine O.neq rfl rfl rfl rfl ?_
    refine WL.nil ?_
    rcases ite_some hm with ⟨hc2, hm⟩ | ⟨hc2, hm⟩
    · refine W.cond_true (congrArg Value.bool hc2) ?_
      refine W.seq ?_
      refine W.region ?_
      obtain ⟨t5, hy4, hm⟩ := bind_some hm
      refine O.call Try.call15 rfl rfl rfl (c_noongunlaw02_awake  hy4) ?_
      rintro _ w9 hb8 rfl
      have H := H.ext hb8
      refine O.assign (v := (.bool t5)) rfl rfl rfl ?_
      refine WL.nil ?_
      refine W.ret ?_
      have hq : t5 = r0 := Option.some.inj (show some t5 = some r0 from hm)
      subst hq
      exact ends1 Try.results9 rfl ⟨_, rfl, H.base, rfl⟩
    · refine W.cond_false (congrArg Value.bool hc2) ?_
      refine W.skip ?_
      refine W.seq ?_
      refine W.region ?_
      refine O.loadA [va0_0, va0_1] ag25 rfl rfl rfl rfl (H.cell 0 rfl) ?_
      refine O.indexArr 0 Try.underlying45 sz3 rfl rfl rfl rfl rfl ?_
      refine O.load sc3 rfl rfl rfl (H.cell 1 rfl 0 _ rfl) ?_
      refine O.indexArr 1 Try.underlying45 sz3 rfl rfl rfl rfl rfl ?_
      refine O.load sc3 rfl rfl rfl (H.cell 2 rfl 1 _ rfl) ?_
      obtain ⟨⟨t6, t7⟩, hy5, hm⟩ := bind_some hm
      refine O.call Try.call21 rfl rfl rfl (c_sight_Error _ _ (GNet.mk a0.Rates a0.Sights) (H.arg ha0_0) (H.arg ha0_1) _ _ hy5) ?_
      rintro _ w10 hb9 rfl
      have H := H.ext hb9
      refine O.move (v := (.tuple #[(.agg (Flat.cells t6).toArray), (.int .i64 t7)])) rfl rfl rfl ?_
      refine O.extract (v := (.agg (Flat.cells t6).toArray)) rfl rfl rfl rfl ?_
      refine O.extract (v := (.int .i64 t7)) rfl rfl rfl rfl ?_
      refine O.alloc [(.int .i64 0), (.int .i64 0)] ze30 H rfl rfl rfl ?_
      intro b5 w11 H hb10
      refine O.store 8 0 [(.int .i64 t6.Lo), (.int .i64 t6.Hi)] [(.int .i64 t6.Lo), (.int .i64 t6.Hi)] sz30 H rfl rfl rfl rfl rfl rfl ⟨⟨rfl, rfl⟩, rfl⟩ (one_cons rfl (one_cons rfl one_nil)) ?_
      intro w12 H
      refine O.assign (v := (.int .i64 t7)) rfl rfl rfl ?_
      refine WL.nil ?_
      refine W.seq ?_
      refine W.region ?_
      refine O.loadA [v1, v2] ag25 rfl rfl rfl rfl (H.cell 5 rfl) ?_
      refine O.indexArr 0 Try.underlying45 sz3 rfl rfl rfl rfl rfl ?_
      refine O.load sc3 rfl rfl rfl (H.cell 1 rfl 0 _ rfl) ?_
      refine O.indexArr 1 Try.underlying45 sz3 rfl rfl rfl rfl rfl ?_
      refine O.load sc3 rfl rfl rfl (H.cell 2 rfl 1 _ rfl) ?_
      obtain ⟨⟨t8, t9⟩, hy6, hm⟩ := bind_some hm
      refine O.call Try.call21 rfl rfl rfl (c_sight_Error _ _ (GNet.mk t3.Rates t3.Sights) (H.own 3 rfl) (H.own 4 rfl) _ _ hy6) ?_
      rintro _ w13 hb11 rfl
      have H := H.ext hb11
      refine O.move (v := (.tuple #[(.agg (Flat.cells t8).toArray), (.int .i64 t9)])) rfl rfl rfl ?_
      refine O.extract (v := (.agg (Flat.cells t8).toArray)) rfl rfl rfl rfl ?_
      refine O.extract (v := (.int .i64 t9)) rfl rfl rfl rfl ?_
      refine O.alloc [(.int .i64 0), (.int .i64 0)] ze30 H rfl rfl rfl ?_
      intro b6 w14 H hb12
      refine O.store 9 0 [(.int .i64 t8.Lo), (.int .i64 t8.Hi)] [(.int .i64 t8.Lo), (.int .i64 t8.Hi)] sz30 H rfl rfl rfl rfl rfl rfl ⟨⟨rfl, rfl⟩, rfl⟩ (one_cons rfl (one_cons rfl one_nil)) ?_
      intro w15 H
      refine O.assign (v := (.int .i64 t9)) rfl rfl rfl ?_
      refine WL.nil ?_
      refine W.seq ?_
      refine W.seq ?_
      refine W.region ?_
      refine O.move (v := (.int .i64 t7)) rfl rfl rfl ?_
      refine O.move (v := (.int .i64 t9)) rfl rfl rfl ?_
      refine O.neq rfl rfl rfl rfl ?_
      refine O.move (v := (.bool (t7 != t9))) rfl rfl rfl ?_
      obtain ⟨b7, hm1, hm⟩ := bind_some hm
      refine WL.cut 18 (fun f w => f 3 = (.pointer (some ⟨b1, 0, none⟩)) ∧ f 4 = (.pointer (some ⟨b2, 0, none⟩)) ∧ f 5 = (.pointer (some ⟨b3, 0, none⟩)) ∧ f 7 = (.pointer (some ⟨b4, 0, none⟩)) ∧ f 9 = (.pointer (some ⟨b5, 0, none⟩)) ∧ f 11 = (.pointer (some ⟨b6, 0, none⟩)) ∧ f 68 = .bool b7 ∧ Inv w0 w [boxI b1 25 [va0_0, va0_1], boxI b2 45 [(.int .i64 a1.x0), (.int .i64 a1.x1)], boxI b3 45 [(.int .i64 a2.x0), (.int .i64 a2.x1)], ownI (α := Int) v1 3 t3.Rates, ownI (α := GSight) v2 39 t3.Sights, boxI b4 25 [v1, v2], ownI (α := Int) (.slice none 0 0) 3 ([] : List Int), ownI (α := GSight) (.slice none 0 0) 39 ([] : List GSight), boxI b5 30 [(.int .i64 t6.Lo), (.int .i64 t6.Hi)], boxI b6 30 [(.int .i64 t8.Lo), (.int .i64 t8.Hi)]]) ?_ ?_
      · skip
        rcases ite_some hm1 with ⟨hc3, hm1⟩ | ⟨hc3, hm1⟩
        · skip
          refine WL.reset (i := 50) (v := .bool true) (congrArg Value.bool hc3) ?_
          refine O.skip rfl rfl ?_
          refine O.skip rfl rfl ?_
          refine O.skip rfl rfl ?_
          refine O.skip rfl rfl ?_
          refine O.skip rfl rfl ?_
          refine O.skip rfl rfl ?_
          refine O.skip rfl rfl ?_
          refine O.skip rfl rfl ?_
          refine O.skip rfl rfl ?_
          refine O.skip rfl rfl ?_
          refine O.skip rfl rfl ?_
          refine O.skip rfl rfl ?_
          refine O.skip rfl rfl ?_
          refine O.skip rfl rfl ?_
          refine O.skip rfl rfl ?_
          refine O.skip rfl rfl ?_
          refine O.skip rfl rfl ?_
          refine O.pick_true (v := (.bool true)) rfl rfl rfl rfl ?_
          refine WL.nil ?_
          have hq : true = b7 := Option.some.inj (show some true = some b7 from hm1)
          subst hq
          exact ⟨rfl, rfl, rfl, rfl, rfl, rfl, rfl, H⟩
        · skip
          refine WL.reset (i := 50) (v := .bool false) (congrArg Value.bool hc3) ?_
          refine O.move (v := (.int .i64 t7)) rfl rfl rfl ?_
          refine O.eql rfl rfl rfl rfl ?_
          refine O.move (v := (.bool (t7 == 0))) rfl rfl rfl ?_
          obtain ⟨b8, hm2, hm1⟩ := bind_some hm1
          refine WL.cut 14 (fun f w => f 3 = (.pointer (some ⟨b1, 0, none⟩)) ∧ f 4 = (.pointer (some ⟨b2, 0, none⟩)) ∧ f 5 = (.pointer (some ⟨b3, 0, none⟩)) ∧ f 7 = (.pointer (some ⟨b4, 0, none⟩)) ∧ f 9 = (.pointer (some ⟨b5, 0, none⟩)) ∧ f 11 = (.pointer (some ⟨b6, 0, none⟩)) ∧ f 50 = (.bool false) ∧ f 67 = .bool b8 ∧ Inv w0 w [boxI b1 25 [va0_0, va0_1], boxI b2 45 [(.int .i64 a1.x0), (.int .i64 a1.x1)], boxI b3 45 [(.int .i64 a2.x0), (.int .i64 a2.x1)], ownI (α := Int) v1 3 t3.Rates, ownI (α := GSight) v2 39 t3.Sights, boxI b4 25 [v1, v2], ownI (α := Int) (.slice none 0 0) 3 ([] : List Int), ownI (α := GSight) (.slice none 0 0) 39 ([] : List GSight), boxI b5 30 [(.int .i64 t6.Lo), (.int .i64 t6.Hi)], boxI b6 30 [(.int .i64 t8.Lo), (.int .i64 t8.Hi)]]) ?_ ?_
          · skip
            rcases ite_some hm2 with ⟨hc4, hm2⟩ | ⟨hc4, hm2⟩
            · skip
              refine WL.reset (i := 53) (v := .bool true) (congrArg Value.bool hc4) ?_
              refine O.loadA [(.int .i64 t8.Lo), (.int .i64 t8.Hi)] ag30 rfl rfl rfl rfl (H.cell 9 rfl) ?_
              refine O.fieldAddr fd30_0 rfl rfl rfl ?_
              refine O.load sc3 rfl rfl rfl (H.cell 8 rfl 0 _ rfl) ?_
              refine O.indexArr 0 Try.underlying45 sz3 rfl rfl rfl rfl rfl ?_
              refine O.load sc3 rfl rfl rfl (H.cell 2 rfl 0 _ rfl) ?_
              obtain ⟨t10, ht10, hm2⟩ := bind_some hm2
              refine O.add rfl rfl rfl rfl ht10 ?_
              refine O.fieldAddr fd30_1 rfl rfl rfl ?_
              refine O.load sc3 rfl rfl rfl (H.cell 8 rfl 1 _ rfl) ?_
              refine O.indexArr 0 Try.underlying45 sz3 rfl rfl rfl rfl rfl ?_
              refine O.load sc3 rfl rfl rfl (H.cell 2 rfl 0 _ rfl) ?_
              obtain ⟨t11, ht11, hm2⟩ := bind_some hm2
              refine O.add rfl rfl rfl rfl ht11 ?_
              refine O.build (v := (.agg (Flat.cells (GSpan.mk t10 t11)).toArray)) (fun w => bd30_0_1 _ _ w) rfl rfl rfl ?_
              refine O.neqSt t8 (GSpan.mk t10 t11) eq30 rfl rfl rfl rfl ?_
              refine O.pick_true (v := (.bool (!(t8 == (GSpan.mk t10 t11))))) rfl rfl rfl rfl ?_
              refine WL.nil ?_
              have hq : (!(t8 == (GSpan.mk t10 t11))) = b8 := Option.some.inj (show some (!(t8 == (GSpan.mk t10 t11))) = some b8 from hm2)
              subst hq
              exact ⟨rfl, rfl, rfl, rfl, rfl, rfl, rfl, rfl, H⟩
            · skip
              refine WL.reset (i := 53) (v := .bool false) (congrArg Value.bool hc4) ?_
              refine O.skip rfl rfl ?_
              refine O.skip rfl rfl ?_
              refine O.skip rfl rfl ?_
              refine O.skip rfl rfl ?_
              refine O.skip rfl rfl ?_
              refine O.skip rfl rfl ?_
              refine O.skip rfl rfl ?_
              refine O.skip rfl rfl ?_
              refine O.skip rfl rfl ?_
              refine O.skip rfl rfl ?_
              refine O.skip rfl rfl ?_
              refine O.skip rfl rfl ?_
              refine O.skip rfl rfl ?_
              refine O.pick_false (v := (.bool false)) rfl rfl rfl rfl ?_
              refine WL.nil ?_
              have hq : false = b8 := Option.some.inj (show some false = some b8 from hm2)
              subst hq
              exact ⟨rfl, rfl, rfl, rfl, rfl, rfl, rfl, rfl, H⟩
          · skip
            rintro f w ⟨hf3, hf4, hf5, hf7, hf9, hf11, hf50, hf67, H⟩
            obtain ⟨u1, rfl⟩ : ∃ u1, f = (upd (upd (upd (upd (upd (upd (upd (upd u1 3 (.pointer (some ⟨b1, 0, none⟩))) 4 (.pointer (some ⟨b2, 0, none⟩))) 5 (.pointer (some ⟨b3, 0, none⟩))) 7 (.pointer (some ⟨b4, 0, none⟩))) 9 (.pointer (some ⟨b5, 0, none⟩))) 11 (.pointer (some ⟨b6, 0, none⟩))) 50 (.bool false)) 67 (.bool b8)) := ⟨f, by rw [upd_self hf3, upd_self hf4, upd_self hf5, upd_self hf7, upd_self hf9, upd_self hf11, upd_self hf50, upd_self hf67]⟩
            refine O.pick_false (v := (.bool b8)) rfl rfl rfl rfl ?_
            refine WL.nil ?_
            have hq : b8 = b7 := Option.some.inj (show some b8 = some b7 from hm1)
            subst hq
            exact ⟨rfl, rfl, rfl, rfl, rfl, rfl, rfl, H⟩
      · skip
        rintro f w ⟨hf3, hf4, hf5, hf7, hf9, hf11, hf68, H⟩
        obtain ⟨u2, rfl⟩ : ∃ u2, f = (upd (upd (upd (upd (upd (upd (upd u2 3 (.pointer (some ⟨b1, 0, none⟩))) 4 (.pointer (some ⟨b2, 0, none⟩))) 5 (.pointer (some ⟨b3, 0, none⟩))) 7 (.pointer (some ⟨b4, 0, none⟩))) 9 (.pointer (some ⟨b5, 0, none⟩))) 11 (.pointer (some ⟨b6, 0, none⟩))) 68 (.bool b7)) := ⟨f, by rw [upd_self hf3, upd_self hf4, upd_self hf5, upd_self hf7, upd_self hf9, upd_self hf11, upd_self hf68]⟩
        refine WL.nil ?_
        rcases ite_some hm with ⟨hc5, hm⟩ | ⟨hc5, hm⟩
        · refine W.cond_true (congrArg Value.bool hc5) ?_
          refine W.seq ?_
          refine W.region ?_
          refine O.assign (v := (.bool false)) rfl rfl rfl ?_
          refine WL.nil ?_
          refine W.ret ?_
          have hq : false = r0 := Option.some.inj (show some false = some r0 from hm)
          subst hq
          exact ends1 Try.results9 rfl ⟨_, rfl, H.base, rfl⟩
        · refine W.cond_false (congrArg Value.bool hc5) ?_
          refine W.skip ?_
          refine W.seq ?_
          refine W.region ?_
          refine O.loadA [va0_0, va0_1] ag25 rfl rfl rfl rfl (H.cell 0 rfl) ?_
          refine O.indexArr 1 Try.underlying45 sz3 rfl rfl rfl rfl rfl ?_
          refine O.load sc3 rfl rfl rfl (H.cell 1 rfl 1 _ rfl) ?_
          refine O.indexArr 1 Try.underlying45 sz3 rfl rfl rfl rfl rfl ?_
          refine O.load sc3 rfl rfl rfl (H.cell 2 rfl 1 _ rfl) ?_
          obtain ⟨⟨t12, t13⟩, hy7, hm⟩ := bind_some hm
          refine O.call Try.call21 rfl rfl rfl (c_sight_Error _ _ (GNet.mk a0.Rates a0.Sights) (H.arg ha0_0) (H.arg ha0_1) _ _ hy7) ?_
          rintro _ w16 hb13 rfl
          have H := H.ext hb13
          refine O.move (v := (.tuple #[(.agg (Flat.cells t12).toArray), (.int .i64 t13)])) rfl rfl rfl ?_
          refine O.extract (v := (.agg (Flat.cells t12).toArray)) rfl rfl rfl rfl ?_
          refine O.extract (v := (.int .i64 t13)) rfl rfl rfl rfl ?_
          refine O.store 8 0 [(.int .i64 t12.Lo), (.int .i64 t12.Hi)] [(.int .i64 t12.Lo), (.int .i64 t12.Hi)] sz30 H rfl rfl rfl rfl rfl rfl ⟨⟨rfl, rfl⟩, rfl⟩ (one_cons rfl (one_cons rfl one_nil)) ?_
          intro w17 H
          refine O.assign (v := (.int .i64 t13)) rfl rfl rfl ?_
          refine WL.nil ?_
          refine W.seq ?_
          refine W.region ?_
          refine O.loadA [v1, v2] ag25 rfl rfl rfl rfl (H.cell 5 rfl) ?_
          refine O.indexArr 1 Try.underlying45 sz3 rfl rfl rfl rfl rfl ?_
          refine O.load sc3 rfl rfl rfl (H.cell 1 rfl 1 _ rfl) ?_
          refine O.indexArr 1 Try.underlying45 sz3 rfl rfl rfl rfl rfl ?_
          refine O.load sc3 rfl rfl rfl (H.cell 2 rfl 1 _ rfl) ?_
          obtain ⟨⟨t14, t15⟩, hy8, hm⟩ := bind_some hm
          refine O.call Try.call21 rfl rfl rfl (c_sight_Error _ _ (GNet.mk t3.Rates t3.Sights) (H.own 3 rfl) (H.own 4 rfl) _ _ hy8) ?_
          rintro _ w18 hb14 rfl
          have H := H.ext hb14
          refine O.move (v := (.tuple #[(.agg (Flat.cells t14).toArray), (.int .i64 t15)])) rfl rfl rfl ?_
          refine O.extract (v := (.agg (Flat.cells t14).toArray)) rfl rfl rfl rfl ?_
          refine O.extract (v := (.int .i64 t15)) rfl rfl rfl rfl ?_
          refine O.store 9 0 [(.int .i64 t14.Lo), (.int .i64 t14.Hi)] [(.int .i64 t14.Lo), (.int .i64 t14.Hi)] sz30 H rfl rfl rfl rfl rfl rfl ⟨⟨rfl, rfl⟩, rfl⟩ (one_cons rfl (one_cons rfl one_nil)) ?_
          intro w19 H
          refine O.assign (v := (.int .i64 t15)) rfl rfl rfl ?_
          refine WL.nil ?_
          refine W.seq ?_
          refine W.region ?_
          refine O.indexArr 1 Try.underlying45 sz3 rfl rfl rfl rfl rfl ?_
          refine O.load sc3 rfl rfl rfl (H.cell 1 rfl 1 _ rfl) ?_
          refine O.indexArr 0 Try.underlying45 sz3 rfl rfl rfl rfl rfl ?_
          refine O.load sc3 rfl rfl rfl (H.cell 1 rfl 0 _ rfl) ?_
          refine O.eql rfl rfl rfl rfl ?_
          refine O.move (v := (.bool (a1.x1 == a1.x0))) rfl rfl rfl ?_
          refine WL.cut 9 (fun f w => f 101 = .bool ((a1.x1 == a1.x0) || ((t12 == t14) && (t13 == t15))) ∧ Inv w0 w [boxI b1 25 [va0_0, va0_1], boxI b2 45 [(.int .i64 a1.x0), (.int .i64 a1.x1)], boxI b3 45 [(.int .i64 a2.x0), (.int .i64 a2.x1)], ownI (α := Int) v1 3 t3.Rates, ownI (α := GSight) v2 39 t3.Sights, boxI b4 25 [v1, v2], ownI (α := Int) (.slice none 0 0) 3 ([] : List Int), ownI (α := GSight) (.slice none 0 0) 39 ([] : List GSight), boxI b5 30 [(.int .i64 t12.Lo), (.int .i64 t12.Hi)], boxI b6 30 [(.int .i64 t14.Lo), (.int .i64 t14.Hi)]]) ?_ ?_
          · skip
            rcases bool_ft (a1.x1 == a1.x0) with hc6 | hc6
            · skip
              refine WL.reset (i := 92) (v := .bool false) (congrArg Value.bool hc6) ?_
              refine O.loadA [(.int .i64 t12.Lo), (.int .i64 t12.Hi)] ag30 rfl rfl rfl rfl (H.cell 8 rfl) ?_
              refine O.loadA [(.int .i64 t14.Lo), (.int .i64 t14.Hi)] ag30 rfl rfl rfl rfl (H.cell 9 rfl) ?_
              refine O.eqlSt t12 t14 eq30 rfl rfl rfl rfl ?_
              refine O.move (v := (.bool (t12 == t14))) rfl rfl rfl ?_
              refine WL.cut 4 (fun f w => f 92 = (.bool false) ∧ f 100 = .bool ((t12 == t14) && (t13 == t15)) ∧ Inv w0 w [boxI b1 25 [va0_0, va0_1], boxI b2 45 [(.int .i64 a1.x0), (.int .i64 a1.x1)], boxI b3 45 [(.int .i64 a2.x0), (.int .i64 a2.x1)], ownI (α := Int) v1 3 t3.Rates, ownI (α := GSight) v2 39 t3.Sights, boxI b4 25 [v1, v2], ownI (α := Int) (.slice none 0 0) 3 ([] : List Int), ownI (α := GSight) (.slice none 0 0) 39 ([] : List GSight), boxI b5 30 [(.int .i64 t12.Lo), (.int .i64 t12.Hi)], boxI b6 30 [(.int .i64 t14.Lo), (.int .i64 t14.Hi)]]) ?_ ?_
              · skip
                rcases bool_ft (t12 == t14) with hc7 | hc7
                · skip
                  refine WL.reset (i := 96) (v := .bool false) (congrArg Value.bool hc7) ?_
                  refine O.skip rfl rfl ?_
                  refine O.skip rfl rfl ?_
                  refine O.skip rfl rfl ?_
                  refine O.pick_false (v := (.bool false)) rfl rfl rfl rfl ?_
                  refine WL.nil ?_
                  exact ⟨rfl, congrArg Value.bool (and_f hc7), H⟩
                · skip
                  refine WL.reset (i := 96) (v := .bool true) (congrArg Value.bool hc7) ?_
                  refine O.move (v := (.int .i64 t13)) rfl rfl rfl ?_
                  refine O.move (v := (.int .i64 t15)) rfl rfl rfl ?_
                  refine O.eql rfl rfl rfl rfl ?_
                  refine O.pick_true (v := (.bool (t13 == t15))) rfl rfl rfl rfl ?_
                  refine WL.nil ?_
                  exact ⟨rfl, congrArg Value.bool (and_t hc7), H⟩
              · skip
                rintro f w ⟨hf92, hf100, H⟩
                obtain ⟨u3, rfl⟩ : ∃ u3, f = (upd (upd u3 92 (.bool false)) 100 (.bool ((t12 == t14) && (t13 == t15)))) := ⟨f, by rw [upd_self hf92, upd_self hf100]⟩
                refine O.pick_false (v := (.bool ((t12 == t14) && (t13 == t15)))) rfl rfl rfl rfl ?_
                refine WL.nil ?_
                exact ⟨congrArg Value.bool (or_f hc6), H⟩
            · skip
              refine WL.reset (i := 92) (v := .bool true) (congrArg Value.bool hc6) ?_
              refine O.skip rfl rfl ?_
              refine O.skip rfl rfl ?_
              refine O.skip rfl rfl ?_
              refine O.skip rfl rfl ?_
              refine O.skip rfl rfl ?_
              refine O.skip rfl rfl ?_
              refine O.skip rfl rfl ?_
              refine O.skip rfl rfl ?_
              refine O.pick_true (v := (.bool true)) rfl rfl rfl rfl ?_
              refine WL.nil ?_
              exact ⟨congrArg Value.bool (or_t hc6), H⟩
          · skip
            rintro f w ⟨hf101, H⟩
            obtain ⟨u4, rfl⟩ : ∃ u4, f = (upd u4 101 (.bool ((a1.x1 == a1.x0) || ((t12 == t14) && (t13 == t15))))) := ⟨f, by rw [upd_self hf101]⟩
            refine O.move (v := (.bool ((a1.x1 == a1.x0) || ((t12 == t14) && (t13 == t15))))) rfl rfl rfl ?_
            obtain ⟨b9, hm3, hm⟩ := bind_some hm
            refine WL.cut 2 (fun f w => f 104 = .bool b9 ∧ Inv w0 w [boxI b1 25 [va0_0, va0_1], boxI b2 45 [(.int .i64 a1.x0), (.int .i64 a1.x1)], boxI b3 45 [(.int .i64 a2.x0), (.int .i64 a2.x1)], ownI (α := Int) v1 3 t3.Rates, ownI (α := GSight) v2 39 t3.Sights, boxI b4 25 [v1, v2], ownI (α := Int) (.slice none 0 0) 3 ([] : List Int), ownI (α := GSight) (.slice none 0 0) 39 ([] : List GSight), boxI b5 30 [(.int .i64 t12.Lo), (.int .i64 t12.Hi)], boxI b6 30 [(.int .i64 t14.Lo), (.int .i64 t14.Hi)]]) ?_ ?_
            · skip
              rcases ite_some hm3 with ⟨hc8, hm3⟩ | ⟨hc8, hm3⟩
              · skip
                refine WL.reset (i := 102) (v := .bool true) (congrArg Value.bool hc8) ?_
                obtain ⟨t16, hy9, hm3⟩ := bind_some hm3
                refine O.call Try.call15 rfl rfl rfl (c_noongunlaw02_awake  hy9) ?_
                rintro _ w20 hb15 rfl
                have H := H.ext hb15
                refine O.pick_true (v := (.bool t16)) rfl rfl rfl rfl ?_
                refine WL.nil ?_
                have hq : t16 = b9 := Option.some.inj (show some t16 = some b9 from hm3)
                subst hq
                exact ⟨rfl, H⟩
              · skip
                refine WL.reset (i := 102) (v := .bool false) (congrArg Value.bool hc8) ?_
                refine O.skip rfl rfl ?_
                refine O.pick_false (v := (.bool false)) rfl rfl rfl rfl ?_
                refine WL.nil ?_
                have hq : false = b9 := Option.some.inj (show some false = some b9 from hm3)
                subst hq
                exact ⟨rfl, H⟩
            · skip
              rintro f w ⟨hf104, H⟩
              obtain ⟨u5, rfl⟩ : ∃ u5, f = (upd u5 104 (.bool b9)) := ⟨f, by rw [upd_self hf104]⟩
              refine O.assign (v := (.bool b9)) rfl rfl rfl ?_
              refine WL.nil ?_
              refine W.ret ?_
              have hq : b9 = r0 := Option.some.inj (show some b9 = some r0 from hm)
              subst hq
              exact ends1 Try.results9 rfl ⟨_, rfl, H.base, rfl⟩

end Go.Proofs
