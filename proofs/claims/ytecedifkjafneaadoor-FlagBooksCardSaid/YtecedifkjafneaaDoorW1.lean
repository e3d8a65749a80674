/-
  The walks: each function does what its model says, where the model has a value. No other condition.
-/
import Derived.Test.YtecedifkjafneaaDoorW0
namespace Go.Proofs
open Go.Fw Go.RowKit Go.Shelf
set_option maxRecDepth 20000 in
theorem c_noongunref07_meaning {w0 : World} (a0 : GMeaning) {r0 : Bool} (hm : noongunref07_meaning a0 = some r0) :
    Calls Tryd.prog 60 #[(.agg (Flat.cells a0).toArray)] w0 (Ret w0 fun _ v => v = (.bool r0)) := by
  unfold noongunref07_meaning at hm
  refine calls_of_W Tryd.func60 rfl Tryd.ntmps60 (Nat.le_of_ble_eq_true rfl) ?_
  have H := Inv.start (w := w0)
  refine W.seq ?_
  refine W.region ?_
  refine O.box [(.int .i64 a0.Number), (.string a0.Text)] H rfl rfl rfl rfl ?_
  intro b1 w1 H hb1
  refine O.assign (v := (.bool false)) rfl rfl rfl ?_
  refine WL.nil ?_
  refine W.seq ?_
  refine W.seq ?_
  refine W.region ?_
  refine O.fieldAddr fd39_1 rfl rfl rfl ?_
  refine O.load sc9 rfl rfl rfl (H.cell 0 rfl 1 _ rfl) ?_
  refine O.lenStr Tryd.underlying9 rfl rfl rfl ?_
  refine O.move (v := (.int .i64 0)) rfl rfl rfl ?_
  refine WL.nil ?_
  obtain ⟨o1, hm1, hm⟩ := bind_some hm
  refine W.via (fun f w => o1 = .next () ∧ f 1 = (.pointer (some ⟨b1, 0, none⟩)) ∧ Inv w0 w [boxI b1 39 [(.int .i64 a0.Number), (.string a0.Text)]]) ?_ ?_
  · skip
    refine W.block ?_
    obtain ⟨hbdik1, hm1⟩ := chk_some hm1
    refine W.rangeN (i := 0) hm1 (fun rem ik1 s f w => () = s ∧ (ik1 : Int) + rem = max 0 ((a0.Text.size : Nat) : Int) ∧ f 7 = .int .i64 (ik1 : Int) ∧ f 6 = (.int .i64 ((a0.Text.size : Nat) : Int)) ∧ f 1 = (.pointer (some ⟨b1, 0, none⟩)) ∧ Inv w0 w [boxI b1 39 [(.int .i64 a0.Number), (.string a0.Text)]]) ?_ ?_ ?_
    · skip
      exact ⟨rfl, rangeN_start, rfl, rfl, rfl, H⟩
    · skip
      rintro k ik1 _ st f w ⟨rfl, hdropk1, hf7, hf6, hf1, H⟩ hm2
      have hltk1 := rangeN_lt hdropk1
      obtain ⟨u1, rfl⟩ : ∃ u1, f = (upd (upd (upd u1 7 (.int .i64 (ik1 : Int))) 6 (.int .i64 ((a0.Text.size : Nat) : Int))) 1 (.pointer (some ⟨b1, 0, none⟩))) := ⟨f, by rw [upd_self hf7, upd_self hf6, upd_self hf1]⟩
      have hinck1 := addI_lt hltk1 (inI_iff.1 hbdik1).2
      refine W.seq ?_
      refine W.region ?_
      refine O.lss rfl rfl rfl rfl ?_
      refine WL.nil ?_
      refine W.seq ?_
      refine W.cond_true (congrArg Value.bool (decide_eq_true hltk1)) ?_
      refine W.skip ?_
      refine W.seq ?_
      refine W.block ?_
      refine W.seq ?_
      refine W.region ?_
      refine O.move (v := (.int .i64 (ik1 : Int))) rfl rfl rfl ?_
      refine O.assign (v := (.int .i64 (ik1 : Int))) rfl rfl rfl ?_
      refine WL.nil ?_
      refine W.seq ?_
      refine W.region ?_
      refine O.fieldAddr fd39_1 rfl rfl rfl ?_
      refine O.load sc9 rfl rfl rfl (H.cell 0 rfl 1 _ rfl) ?_
      refine O.move (v := (.int .i64 (ik1 : Int))) rfl rfl rfl ?_
      obtain ⟨x1, hx1, hm2⟩ := bind_some hm2
      refine O.indexStr Tryd.underlying9 hx1 rfl rfl rfl rfl ?_
      refine O.lss rfl rfl rfl rfl ?_
      refine O.move (v := (.bool (decide ((x1.toNat : Int) < 32)))) rfl rfl rfl ?_
      obtain ⟨b2, hm3, hm2⟩ := bind_some hm2
      refine WL.cut 6 (fun f w => f 1 = (.pointer (some ⟨b1, 0, none⟩)) ∧ f 6 = (.int .i64 ((a0.Text.size : Nat) : Int)) ∧ f 7 = (.int .i64 (ik1 : Int)) ∧ f 21 = .bool b2 ∧ Inv w0 w [boxI b1 39 [(.int .i64 a0.Number), (.string a0.Text)]]) ?_ ?_
      · skip
        rcases ite_some hm3 with ⟨hc1, hm3⟩ | ⟨hc1, hm3⟩
        · skip
          refine WL.reset (i := 15) (v := .bool true) (congrArg Value.bool hc1) ?_
          refine O.skip rfl rfl ?_
          refine O.skip rfl rfl ?_
          refine O.skip rfl rfl ?_
          refine O.skip rfl rfl ?_
          refine O.skip rfl rfl ?_
          refine O.pick_true (v := (.bool true)) rfl rfl rfl rfl ?_
          refine WL.nil ?_
          have hq : true = b2 := Option.some.inj (show some true = some b2 from hm3)
          subst hq
          exact ⟨rfl, rfl, rfl, rfl, H⟩
        · skip
          refine WL.reset (i := 15) (v := .bool false) (congrArg Value.bool hc1) ?_
          refine O.fieldAddr fd39_1 rfl rfl rfl ?_
          refine O.load sc9 rfl rfl rfl (H.cell 0 rfl 1 _ rfl) ?_
          refine O.move (v := (.int .i64 (ik1 : Int))) rfl rfl rfl ?_
          obtain ⟨x2, hx2, hm3⟩ := bind_some hm3
          refine O.indexStr Tryd.underlying9 hx2 rfl rfl rfl rfl ?_
          refine O.gtr rfl rfl rfl rfl ?_
          refine O.pick_false (v := (.bool (decide (126 < (x2.toNat : Int))))) rfl rfl rfl rfl ?_
          refine WL.nil ?_
          have hq : (decide (126 < (x2.toNat : Int))) = b2 := Option.some.inj (show some (decide (126 < (x2.toNat : Int))) = some b2 from hm3)
          subst hq
          exact ⟨rfl, rfl, rfl, rfl, H⟩
      · skip
        rintro f w ⟨hf1, hf6, hf7, hf21, H⟩
        obtain ⟨u2, rfl⟩ : ∃ u2, f = (upd (upd (upd (upd u2 1 (.pointer (some ⟨b1, 0, none⟩))) 6 (.int .i64 ((a0.Text.size : Nat) : Int))) 7 (.int .i64 (ik1 : Int))) 21 (.bool b2)) := ⟨f, by rw [upd_self hf1, upd_self hf6, upd_self hf7, upd_self hf21]⟩
        refine WL.nil ?_
        rcases ite_some hm2 with ⟨hc2, hm2⟩ | ⟨hc2, hm2⟩
        · refine W.cond_true (congrArg Value.bool hc2) ?_
          refine W.seq ?_
          refine W.region ?_
          refine O.assign (v := (.bool false)) rfl rfl rfl ?_
          refine WL.nil ?_
          refine W.ret ?_
          obtain rfl := Option.some.inj hm2
          refine ⟨_, rfl, ?_⟩
          rintro rfl
          have hq : false = r0 := Option.some.inj (show some false = some r0 from hm)
          subst hq
          exact ends1 Tryd.results60 rfl ⟨_, rfl, H.base, rfl⟩
        · refine W.cond_false (congrArg Value.bool hc2) ?_
          refine W.skip ?_
          refine W.region ?_
          refine O.add rfl rfl rfl rfl hinck1 ?_
          refine O.move (v := .int .i64 ((ik1 : Int) + 1)) rfl rfl rfl ?_
          refine WL.nil ?_
          obtain rfl := Option.some.inj hm2
          exact ⟨_, rfl, rfl, rangeN_next hdropk1, rfl, rfl, rfl, H⟩
    · skip
      rintro ik1 _ f w ⟨rfl, hdropk1, hf7, hf6, hf1, H⟩ hfin
      have hltk1 := rangeN_end hdropk1
      obtain ⟨u3, rfl⟩ : ∃ u3, f = (upd (upd (upd u3 7 (.int .i64 (ik1 : Int))) 6 (.int .i64 ((a0.Text.size : Nat) : Int))) 1 (.pointer (some ⟨b1, 0, none⟩))) := ⟨f, by rw [upd_self hf7, upd_self hf6, upd_self hf1]⟩
      refine W.seq ?_
      refine W.region ?_
      refine O.lss rfl rfl rfl rfl ?_
      refine WL.nil ?_
      refine W.seq ?_
      refine W.cond_false (congrArg Value.bool (decide_eq_false hltk1)) ?_
      refine W.exit ?_
      obtain rfl : Ctl.next () = o1 := hfin
      refine xT rfl ?_
      exact ⟨rfl, rfl, H⟩
  · skip
    rintro f w ⟨rfl, hf1, H⟩
    obtain ⟨u4, rfl⟩ : ∃ u4, f = (upd u4 1 (.pointer (some ⟨b1, 0, none⟩))) := ⟨f, by rw [upd_self hf1]⟩
    refine W.seq ?_
    refine W.region ?_
    refine O.fieldAddr fd39_0 rfl rfl rfl ?_
    refine O.load sc3 rfl rfl rfl (H.cell 0 rfl 0 _ rfl) ?_
    refine O.geq rfl rfl rfl rfl ?_
    refine O.move (v := (.bool (decide (0 ≤ a0.Number)))) rfl rfl rfl ?_
    refine WL.cut 4 (fun f w => f 1 = (.pointer (some ⟨b1, 0, none⟩)) ∧ f 30 = .bool ((decide (0 ≤ a0.Number)) && (decide (a0.Number ≤ 9999))) ∧ Inv w0 w [boxI b1 39 [(.int .i64 a0.Number), (.string a0.Text)]]) ?_ ?_
    · skip
      rcases bool_ft (decide (0 ≤ a0.Number)) with hc3 | hc3
      · skip
        refine WL.reset (i := 26) (v := .bool false) (congrArg Value.bool hc3) ?_
        refine O.skip rfl rfl ?_
        refine O.skip rfl rfl ?_
        refine O.skip rfl rfl ?_
        refine O.pick_false (v := (.bool false)) rfl rfl rfl rfl ?_
        refine WL.nil ?_
        exact ⟨rfl, congrArg Value.bool (and_f hc3), H⟩
      · skip
        refine WL.reset (i := 26) (v := .bool true) (congrArg Value.bool hc3) ?_
        refine O.fieldAddr fd39_0 rfl rfl rfl ?_
        refine O.load sc3 rfl rfl rfl (H.cell 0 rfl 0 _ rfl) ?_
        refine O.leq rfl rfl rfl rfl ?_
        refine O.pick_true (v := (.bool (decide (a0.Number ≤ 9999)))) rfl rfl rfl rfl ?_
        refine WL.nil ?_
        exact ⟨rfl, congrArg Value.bool (and_t hc3), H⟩
    · skip
      rintro f w ⟨hf1, hf30, H⟩
      obtain ⟨u5, rfl⟩ : ∃ u5, f = (upd (upd u5 1 (.pointer (some ⟨b1, 0, none⟩))) 30 (.bool ((decide (0 ≤ a0.Number)) && (decide (a0.Number ≤ 9999))))) := ⟨f, by rw [upd_self hf1, upd_self hf30]⟩
      refine O.move (v := (.bool ((decide (0 ≤ a0.Number)) && (decide (a0.Number ≤ 9999))))) rfl rfl rfl ?_
      refine WL.cut 5 (fun f w => f 1 = (.pointer (some ⟨b1, 0, none⟩)) ∧ f 36 = .bool (((decide (0 ≤ a0.Number)) && (decide (a0.Number ≤ 9999))) && (decide (1 ≤ ((a0.Text.size : Nat) : Int)))) ∧ Inv w0 w [boxI b1 39 [(.int .i64 a0.Number), (.string a0.Text)]]) ?_ ?_
      · skip
        rcases bool_ft ((decide (0 ≤ a0.Number)) && (decide (a0.Number ≤ 9999))) with hc4 | hc4
        · skip
          refine WL.reset (i := 31) (v := .bool false) (congrArg Value.bool hc4) ?_
          refine O.skip rfl rfl ?_
          refine O.skip rfl rfl ?_
          refine O.skip rfl rfl ?_
          refine O.skip rfl rfl ?_
          refine O.pick_false (v := (.bool false)) rfl rfl rfl rfl ?_
          refine WL.nil ?_
          exact ⟨rfl, congrArg Value.bool (and_f hc4), H⟩
        · skip
          refine WL.reset (i := 31) (v := .bool true) (congrArg Value.bool hc4) ?_
          refine O.fieldAddr fd39_1 rfl rfl rfl ?_
          refine O.load sc9 rfl rfl rfl (H.cell 0 rfl 1 _ rfl) ?_
          refine O.lenStr Tryd.underlying9 rfl rfl rfl ?_
          refine O.geq rfl rfl rfl rfl ?_
          refine O.pick_true (v := (.bool (decide (1 ≤ ((a0.Text.size : Nat) : Int))))) rfl rfl rfl rfl ?_
          refine WL.nil ?_
          exact ⟨rfl, congrArg Value.bool (and_t hc4), H⟩
      · skip
        rintro f w ⟨hf1, hf36, H⟩
        obtain ⟨u6, rfl⟩ : ∃ u6, f = (upd (upd u6 1 (.pointer (some ⟨b1, 0, none⟩))) 36 (.bool (((decide (0 ≤ a0.Number)) && (decide (a0.Number ≤ 9999))) && (decide (1 ≤ ((a0.Text.size : Nat) : Int)))))) := ⟨f, by rw [upd_self hf1, upd_self hf36]⟩
        refine O.move (v := (.bool (((decide (0 ≤ a0.Number)) && (decide (a0.Number ≤ 9999))) && (decide (1 ≤ ((a0.Text.size : Nat) : Int)))))) rfl rfl rfl ?_
        refine WL.cut 5 (fun f w => f 42 = .bool ((((decide (0 ≤ a0.Number)) && (decide (a0.Number ≤ 9999))) && (decide (1 ≤ ((a0.Text.size : Nat) : Int)))) && (decide (((a0.Text.size : Nat) : Int) ≤ 60))) ∧ Inv w0 w [boxI b1 39 [(.int .i64 a0.Number), (.string a0.Text)]]) ?_ ?_
        · skip
          rcases bool_ft (((decide (0 ≤ a0.Number)) && (decide (a0.Number ≤ 9999))) && (decide (1 ≤ ((a0.Text.size : Nat) : Int)))) with hc5 | hc5
          · skip
            refine WL.reset (i := 37) (v := .bool false) (congrArg Value.bool hc5) ?_
            refine O.skip rfl rfl ?_
            refine O.skip rfl rfl ?_
            refine O.skip rfl rfl ?_
            refine O.skip rfl rfl ?_
            refine O.pick_false (v := (.bool false)) rfl rfl rfl rfl ?_
            refine WL.nil ?_
            exact ⟨congrArg Value.bool (and_f hc5), H⟩
          · skip
            refine WL.reset (i := 37) (v := .bool true) (congrArg Value.bool hc5) ?_
            refine O.fieldAddr fd39_1 rfl rfl rfl ?_
            refine O.load sc9 rfl rfl rfl (H.cell 0 rfl 1 _ rfl) ?_
            refine O.lenStr Tryd.underlying9 rfl rfl rfl ?_
            refine O.leq rfl rfl rfl rfl ?_
            refine O.pick_true (v := (.bool (decide (((a0.Text.size : Nat) : Int) ≤ 60)))) rfl rfl rfl rfl ?_
            refine WL.nil ?_
            exact ⟨congrArg Value.bool (and_t hc5), H⟩
        · skip
          rintro f w ⟨hf42, H⟩
          obtain ⟨u7, rfl⟩ : ∃ u7, f = (upd u7 42 (.bool ((((decide (0 ≤ a0.Number)) && (decide (a0.Number ≤ 9999))) && (decide (1 ≤ ((a0.Text.size : Nat) : Int)))) && (decide (((a0.Text.size : Nat) : Int) ≤ 60))))) := ⟨f, by rw [upd_self hf42]⟩
          refine O.assign (v := (.bool ((((decide (0 ≤ a0.Number)) && (decide (a0.Number ≤ 9999))) && (decide (1 ≤ ((a0.Text.size : Nat) : Int)))) && (decide (((a0.Text.size : Nat) : Int) ≤ 60))))) rfl rfl rfl ?_
          refine WL.nil ?_
          refine W.ret ?_
          have hq : ((((decide (0 ≤ a0.Number)) && (decide (a0.Number ≤ 9999))) && (decide (1 ≤ ((a0.Text.size : Nat) : Int)))) && (decide (((a0.Text.size : Nat) : Int) ≤ 60))) = r0 := Option.some.inj (show some ((((decide (0 ≤ a0.Number)) && (decide (a0.Number ≤ 9999))) && (decide (1 ≤ ((a0.Text.size : Nat) : Int)))) && (decide (((a0.Text.size : Nat) : Int) ≤ 60))) = some r0 from hm)
          subst hq
          exact ends1 Tryd.results60 rfl ⟨_, rfl, H.base, rfl⟩

set_option maxRecDepth 20000 in
theorem c_noongunref07_ValidBook {w0 : World} (va0 : Value) (a0 : (List GMeaning)) (ha0 : SliceR w0 va0 a0) {r0 : Bool} (hm : noongunref07_ValidBook a0 = some r0) :
    Calls Tryd.prog 23 #[va0] w0 (Ret w0 fun _ v => v = (.bool r0)) := by
  unfold noongunref07_ValidBook at hm
  refine calls_of_W Tryd.func23 rfl Tryd.ntmps23 (Nat.le_of_ble_eq_true rfl) ?_
  have H := Inv.start (w := w0)
  refine W.seq ?_
  refine W.region ?_
  refine O.assign (v := (.bool false)) rfl rfl rfl ?_
  refine WL.nil ?_
  refine W.seq ?_
  refine W.seq ?_
  refine W.region ?_
  refine O.move (v := va0) rfl rfl rfl ?_
  refine O.lenS Tryd.underlying33 (H.arg ha0) rfl rfl rfl ?_
  refine O.move (v := (.int .i64 0)) rfl rfl rfl ?_
  refine WL.nil ?_
  obtain ⟨o1, hm1, hm⟩ := bind_some hm
  refine W.via (fun f w => o1 = .next () ∧ f 0 = va0 ∧ Inv w0 w []) ?_ ?_
  · skip
    refine W.block ?_
    have hbdik1 := (H.arg ha0).len_le
    refine W.rangeN (i := 0) hm1 (fun rem ik1 s f w => () = s ∧ (ik1 : Int) + rem = max 0 ((a0.length : Nat) : Int) ∧ f 7 = .int .i64 (ik1 : Int) ∧ f 6 = (.int .i64 ((a0.length : Nat) : Int)) ∧ f 0 = va0 ∧ f 5 = va0 ∧ Inv w0 w []) ?_ ?_ ?_
    · skip
      exact ⟨rfl, rangeN_start, rfl, rfl, rfl, rfl, H⟩
    · skip
      rintro k ik1 _ st f w ⟨rfl, hdropk1, hf7, hf6, hf0, hf5, H⟩ hm2
      have hltk1 := rangeN_lt hdropk1
      obtain ⟨u1, rfl⟩ : ∃ u1, f = (upd (upd (upd (upd u1 7 (.int .i64 (ik1 : Int))) 6 (.int .i64 ((a0.length : Nat) : Int))) 0 va0) 5 va0) := ⟨f, by rw [upd_self hf7, upd_self hf6, upd_self hf0, upd_self hf5]⟩
      have hinck1 := addI_lt hltk1 hbdik1
      refine W.seq ?_
      refine W.region ?_
      refine O.lss rfl rfl rfl rfl ?_
      refine WL.nil ?_
      refine W.seq ?_
      refine W.cond_true (congrArg Value.bool (decide_eq_true hltk1)) ?_
      refine W.skip ?_
      refine W.seq ?_
      refine W.block ?_
      refine W.seq ?_
      refine W.region ?_
      refine O.move (v := (.int .i64 (ik1 : Int))) rfl rfl rfl ?_
      obtain ⟨x1, hx1, hm2⟩ := bind_some hm2
      obtain ⟨p1, hp1, hrp1⟩ := fix_indexAddr Tryd.underlying33 sz39 ha0 hx1
      refine hrp1 rfl rfl rfl rfl ?_
      refine O.loadA [(.int .i64 x1.Number), (.string x1.Text)] ag39 rfl rfl rfl rfl ((hp1.mono H.base).flat) ?_
      refine O.alloc [(.int .i64 0), (.string ByteArray.empty)] ze39 H rfl rfl rfl ?_
      intro b1 w1 H hb1
      refine O.assign (v := (.int .i64 (ik1 : Int))) rfl rfl rfl ?_
      refine O.store 0 0 [(.int .i64 x1.Number), (.string x1.Text)] [(.int .i64 x1.Number), (.string x1.Text)] sz39 H rfl rfl rfl rfl rfl rfl ⟨⟨rfl, rfl⟩, rfl⟩ (one_cons rfl (one_cons rfl one_nil)) ?_
      intro w2 H
      refine WL.nil ?_
      refine W.seq ?_
      obtain ⟨t1, hy1, hm2⟩ := bind_some hm2
      obtain ⟨b2, hm3, hm2⟩ := bind_some hm2
      refine W.drawN 18 (fun f => f 0 = va0 ∧ f 5 = va0 ∧ f 6 = (.int .i64 ((a0.length : Nat) : Int)) ∧ f 7 = (.int .i64 (ik1 : Int)) ∧ f 29 = (.bool b2)) fol (by kernel_rfl) ?_ ?_
      · skip
        refine PL.of (fun _ w8 _ hx => by have H := H.ext hx; exact O.loadA [(.int .i64 x1.Number), (.string x1.Text)] ag39 rfl rfl rfl rfl (H.cell 0 rfl) (WL.nil ⟨rfl, hx⟩)) ?_
        refine PL.of (fun _ w8 _ hx => O.call Tryd.call60 rfl rfl rfl (c_noongunref07_meaning x1 hy1) (by rintro _ _ hb rfl; exact WL.nil ⟨rfl, hx.trans (hb.mono hx.size)⟩)) ?_
        refine PL.of (fun _ w8 _ hx => O.not rfl rfl rfl (WL.nil ⟨rfl, hx⟩)) ?_
        refine PL.of (fun _ w8 _ hx => O.move (v := (.bool (!t1))) rfl rfl rfl (WL.nil ⟨rfl, hx⟩)) ?_
        refine PL.cut 14 (fun f => f 0 = va0 ∧ f 5 = va0 ∧ f 6 = (.int .i64 ((a0.length : Nat) : Int)) ∧ f 7 = (.int .i64 (ik1 : Int)) ∧ f 29 = .bool b2) ?_ ?_
        · skip
          rcases ite_some hm3 with ⟨hc1, hm3⟩ | ⟨hc1, hm3⟩
          · skip
            refine PL.reset (i := 15) (v := .bool true) (congrArg Value.bool hc1) ?_
            refine PL.of (fun _ w8 _ hx => O.skip rfl rfl (WL.nil ⟨rfl, hx⟩)) ?_
            refine PL.of (fun _ w8 _ hx => O.skip rfl rfl (WL.nil ⟨rfl, hx⟩)) ?_
            refine PL.of (fun _ w8 _ hx => O.skip rfl rfl (WL.nil ⟨rfl, hx⟩)) ?_
            refine PL.of (fun _ w8 _ hx => O.skip rfl rfl (WL.nil ⟨rfl, hx⟩)) ?_
            refine PL.of (fun _ w8 _ hx => O.skip rfl rfl (WL.nil ⟨rfl, hx⟩)) ?_
            refine PL.of (fun _ w8 _ hx => O.skip rfl rfl (WL.nil ⟨rfl, hx⟩)) ?_
            refine PL.of (fun _ w8 _ hx => O.skip rfl rfl (WL.nil ⟨rfl, hx⟩)) ?_
            refine PL.of (fun _ w8 _ hx => O.skip rfl rfl (WL.nil ⟨rfl, hx⟩)) ?_
            refine PL.of (fun _ w8 _ hx => O.skip rfl rfl (WL.nil ⟨rfl, hx⟩)) ?_
            refine PL.of (fun _ w8 _ hx => O.skip rfl rfl (WL.nil ⟨rfl, hx⟩)) ?_
            refine PL.of (fun _ w8 _ hx => O.skip rfl rfl (WL.nil ⟨rfl, hx⟩)) ?_
            refine PL.of (fun _ w8 _ hx => O.skip rfl rfl (WL.nil ⟨rfl, hx⟩)) ?_
            refine PL.of (fun _ w8 _ hx => O.skip rfl rfl (WL.nil ⟨rfl, hx⟩)) ?_
            refine PL.of (fun _ w8 _ hx => O.pick_true (v := (.bool true)) rfl rfl rfl rfl (WL.nil ⟨rfl, hx⟩)) ?_
            refine PL.nil ?_
            have hq : true = b2 := Option.some.inj (show some true = some b2 from hm3)
            subst hq
            exact ⟨rfl, rfl, rfl, rfl, rfl⟩
          · skip
            refine PL.reset (i := 15) (v := .bool false) (congrArg Value.bool hc1) ?_
            refine PL.of (fun _ w8 _ hx => O.move (v := (.int .i64 (ik1 : Int))) rfl rfl rfl (WL.nil ⟨rfl, hx⟩)) ?_
            refine PL.of (fun _ w8 _ hx => O.gtr rfl rfl rfl rfl (WL.nil ⟨rfl, hx⟩)) ?_
            refine PL.of (fun _ w8 _ hx => O.move (v := (.bool (decide (0 < (ik1 : Int))))) rfl rfl rfl (WL.nil ⟨rfl, hx⟩)) ?_
            obtain ⟨b3, hm4, hm3⟩ := bind_some hm3
            refine PL.cut 10 (fun f => f 0 = va0 ∧ f 5 = va0 ∧ f 6 = (.int .i64 ((a0.length : Nat) : Int)) ∧ f 7 = (.int .i64 (ik1 : Int)) ∧ f 15 = (.bool false) ∧ f 16 = (.int .i64 (ik1 : Int)) ∧ f 17 = (.bool (decide (0 < (ik1 : Int)))) ∧ f 18 = (.bool (decide (0 < (ik1 : Int)))) ∧ f 28 = .bool b3) ?_ ?_
            · skip
              rcases ite_some hm4 with ⟨hc2, hm4⟩ | ⟨hc2, hm4⟩
              · skip
                refine PL.reset (i := 18) (v := .bool true) (congrArg Value.bool hc2) ?_
                refine PL.of (fun _ w8 _ hx => O.fieldAddr fd39_0 rfl rfl rfl (WL.nil ⟨rfl, hx⟩)) ?_
                refine PL.of (fun _ w8 _ hx => by have H := H.ext hx; exact O.load sc3 rfl rfl rfl (H.cell 0 rfl 0 _ rfl) (WL.nil ⟨rfl, hx⟩)) ?_
                refine PL.of (fun _ w8 _ hx => O.move (v := va0) rfl rfl rfl (WL.nil ⟨rfl, hx⟩)) ?_
                refine PL.of (fun _ w8 _ hx => O.move (v := (.int .i64 (ik1 : Int))) rfl rfl rfl (WL.nil ⟨rfl, hx⟩)) ?_
                obtain ⟨t2, ht2, hm4⟩ := bind_some hm4
                refine PL.of (fun _ w8 _ hx => O.sub rfl rfl rfl rfl ht2 (WL.nil ⟨rfl, hx⟩)) ?_
                obtain ⟨x2, hx2, hm4⟩ := bind_some hm4
                obtain ⟨p2, hp2, hrp2⟩ := fix_indexAddr Tryd.underlying33 sz39 (H.arg ha0) hx2
                refine PL.of (fun _ w8 _ hx => hrp2 rfl rfl rfl rfl (WL.nil ⟨rfl, hx⟩)) ?_
                refine PL.of (fun _ w8 _ hx => O.fieldAddr fd39_0 rfl rfl rfl (WL.nil ⟨rfl, hx⟩)) ?_
                refine PL.of (fun _ w8 _ hx => by have hp2 := hp2.mono hx; exact O.load sc3 rfl rfl rfl (hp2.flat 0 _ rfl) (WL.nil ⟨rfl, hx⟩)) ?_
                refine PL.of (fun _ w8 _ hx => O.leq rfl rfl rfl rfl (WL.nil ⟨rfl, hx⟩)) ?_
                refine PL.of (fun _ w8 _ hx => O.pick_true (v := (.bool (decide (x1.Number ≤ x2.Number)))) rfl rfl rfl rfl (WL.nil ⟨rfl, hx⟩)) ?_
                refine PL.nil ?_
                have hq : (decide (x1.Number ≤ x2.Number)) = b3 := Option.some.inj (show some (decide (x1.Number ≤ x2.Number)) = some b3 from hm4)
                subst hq
                exact ⟨rfl, rfl, rfl, rfl, rfl, rfl, rfl, (congrArg Value.bool hc2).symm, rfl⟩
              · skip
                refine PL.reset (i := 18) (v := .bool false) (congrArg Value.bool hc2) ?_
                refine PL.of (fun _ w8 _ hx => O.skip rfl rfl (WL.nil ⟨rfl, hx⟩)) ?_
                refine PL.of (fun _ w8 _ hx => O.skip rfl rfl (WL.nil ⟨rfl, hx⟩)) ?_
                refine PL.of (fun _ w8 _ hx => O.skip rfl rfl (WL.nil ⟨rfl, hx⟩)) ?_
                refine PL.of (fun _ w8 _ hx => O.skip rfl rfl (WL.nil ⟨rfl, hx⟩)) ?_
                refine PL.of (fun _ w8 _ hx => O.skip rfl rfl (WL.nil ⟨rfl, hx⟩)) ?_
                refine PL.of (fun _ w8 _ hx => O.skip rfl rfl (WL.nil ⟨rfl, hx⟩)) ?_
                refine PL.of (fun _ w8 _ hx => O.skip rfl rfl (WL.nil ⟨rfl, hx⟩)) ?_
                refine PL.of (fun _ w8 _ hx => O.skip rfl rfl (WL.nil ⟨rfl, hx⟩)) ?_
                refine PL.of (fun _ w8 _ hx => O.skip rfl rfl (WL.nil ⟨rfl, hx⟩)) ?_
                refine PL.of (fun _ w8 _ hx => O.pick_false (v := (.bool false)) rfl rfl rfl rfl (WL.nil ⟨rfl, hx⟩)) ?_
                refine PL.nil ?_
                have hq : false = b3 := Option.some.inj (show some false = some b3 from hm4)
                subst hq
                exact ⟨rfl, rfl, rfl, rfl, rfl, rfl, rfl, (congrArg Value.bool hc2).symm, rfl⟩
            · skip
              rintro f ⟨hf0, hf5, hf6, hf7, hf15, hf16, hf17, hf18, hf28⟩
              obtain ⟨u2, rfl⟩ : ∃ u2, f = (upd (upd (upd (upd (upd (upd (upd (upd (upd u2 0 va0) 5 va0) 6 (.int .i64 ((a0.length : Nat) : Int))) 7 (.int .i64 (ik1 : Int))) 15 (.bool false)) 16 (.int .i64 (ik1 : Int))) 17 (.bool (decide (0 < (ik1 : Int))))) 18 (.bool (decide (0 < (ik1 : Int))))) 28 (.bool b3)) := ⟨f, by rw [upd_self hf0, upd_self hf5, upd_self hf6, upd_self hf7, upd_self hf15, upd_self hf16, upd_self hf17, upd_self hf18, upd_self hf28]⟩
              refine PL.of (fun _ w8 _ hx => O.pick_false (v := (.bool b3)) rfl rfl rfl rfl (WL.nil ⟨rfl, hx⟩)) ?_
              refine PL.nil ?_
              have hq : b3 = b2 := Option.some.inj (show some b3 = some b2 from hm3)
              subst hq
              exact ⟨rfl, rfl, rfl, rfl, rfl⟩
        · skip
          rintro f ⟨hf0, hf5, hf6, hf7, hf29⟩
          obtain ⟨u3, rfl⟩ : ∃ u3, f = (upd (upd (upd (upd (upd u3 0 va0) 5 va0) 6 (.int .i64 ((a0.length : Nat) : Int))) 7 (.int .i64 (ik1 : Int))) 29 (.bool b2)) := ⟨f, by rw [upd_self hf0, upd_self hf5, upd_self hf6, upd_self hf7, upd_self hf29]⟩
          refine PL.nil ?_
          exact ⟨rfl, rfl, rfl, rfl, rfl⟩
      · skip
        rintro f w ⟨hf0, hf5, hf6, hf7, hf29⟩ hmd hx
        have H := H.ext hx
        obtain ⟨u4, rfl⟩ : ∃ u4, f = (upd (upd (upd (upd (upd u4 0 va0) 5 va0) 6 (.int .i64 ((a0.length : Nat) : Int))) 7 (.int .i64 (ik1 : Int))) 29 (.bool b2)) := ⟨f, by rw [upd_self hf0, upd_self hf5, upd_self hf6, upd_self hf7, upd_self hf29]⟩
        refine WL.nil ?_
        rcases ite_some hm2 with ⟨hc3, hm2⟩ | ⟨hc3, hm2⟩
        · refine W.cond_true (congrArg Value.bool hc3) ?_
          refine W.seq ?_
          refine W.region ?_
          refine O.assign (v := (.bool false)) rfl rfl rfl ?_
          refine WL.nil ?_
          refine W.ret ?_
          obtain rfl := Option.some.inj hm2
          refine ⟨_, rfl, ?_⟩
          rintro rfl
          have hq : false = r0 := Option.some.inj (show some false = some r0 from hm)
          subst hq
          exact ends1 Tryd.results23 rfl ⟨_, rfl, H.base, rfl⟩
        · refine W.cond_false (congrArg Value.bool hc3) ?_
          refine W.skip ?_
          refine W.region ?_
          refine O.add rfl rfl rfl rfl hinck1 ?_
          refine O.move (v := .int .i64 ((ik1 : Int) + 1)) rfl rfl rfl ?_
          refine WL.nil ?_
          have H := H.keep [] [] rfl (by decide)
          obtain rfl := Option.some.inj hm2
          exact ⟨_, rfl, rfl, rangeN_next hdropk1, rfl, rfl, rfl, rfl, H⟩
    · skip
      rintro ik1 _ f w ⟨rfl, hdropk1, hf7, hf6, hf0, hf5, H⟩ hfin
      have hltk1 := rangeN_end hdropk1
      obtain ⟨u5, rfl⟩ : ∃ u5, f = (upd (upd (upd (upd u5 7 (.int .i64 (ik1 : Int))) 6 (.int .i64 ((a0.length : Nat) : Int))) 0 va0) 5 va0) := ⟨f, by rw [upd_self hf7, upd_self hf6, upd_self hf0, upd_self hf5]⟩
      refine W.seq ?_
      refine W.region ?_
      refine O.lss rfl rfl rfl rfl ?_
      refine WL.nil ?_
      refine W.seq ?_
      refine W.cond_false (congrArg Value.bool (decide_eq_false hltk1)) ?_
      refine W.exit ?_
      obtain rfl : Ctl.next () = o1 := hfin
      refine xT rfl ?_
      exact ⟨rfl, rfl, H⟩
  · skip
    rintro f w ⟨rfl, hf0, H⟩
    obtain ⟨u6, rfl⟩ : ∃ u6, f = (upd u6 0 va0) := ⟨f, by rw [upd_self hf0]⟩
    refine W.seq ?_
    refine W.region ?_
    refine O.move (v := va0) rfl rfl rfl ?_
    refine O.lenS Tryd.underlying33 (H.arg ha0) rfl rfl rfl ?_
    refine O.leq rfl rfl rfl rfl ?_
    refine O.assign (v := (.bool (decide (((a0.length : Nat) : Int) ≤ 200)))) rfl rfl rfl ?_
    refine WL.nil ?_
    refine W.ret ?_
    have hq : (decide (((a0.length : Nat) : Int) ≤ 200)) = r0 := Option.some.inj (show some (decide (((a0.length : Nat) : Int) ≤ 200)) = some r0 from hm)
    subst hq
    exact ends1 Tryd.results23 rfl ⟨_, rfl, H.base, rfl⟩

set_option maxRecDepth 20000 in
theorem c_noongunref07_ValidHoist {w0 : World} (va0 : Value) (a0 : (List Int)) (ha0 : SliceR w0 va0 a0) {r0 : Bool} (hm : noongunref07_ValidHoist a0 = some r0) :
    Calls Tryd.prog 53 #[va0] w0 (Ret w0 fun _ v => v = (.bool r0)) := by
  unfold noongunref07_ValidHoist at hm
  refine calls_of_W Tryd.func53 rfl Tryd.ntmps53 (Nat.le_of_ble_eq_true rfl) ?_
  have H := Inv.start (w := w0)
  refine W.seq ?_
  refine W.region ?_
  refine O.assign (v := (.bool false)) rfl rfl rfl ?_
  refine WL.nil ?_
  refine W.seq ?_
  refine W.seq ?_
  refine W.region ?_
  refine O.move (v := va0) rfl rfl rfl ?_
  refine O.lenS Tryd.underlying22 (H.arg ha0) rfl rfl rfl ?_
  refine O.move (v := (.int .i64 0)) rfl rfl rfl ?_
  refine WL.nil ?_
  obtain ⟨o1, hm1, hm⟩ := bind_some hm
  refine W.via (fun f w => o1 = .next () ∧ f 0 = va0 ∧ Inv w0 w []) ?_ ?_
  · skip
    refine W.block ?_
    have hbdik1 := (H.arg ha0).len_le
    refine W.rangeN (i := 0) hm1 (fun rem ik1 s f w => () = s ∧ (ik1 : Int) + rem = max 0 ((a0.length : Nat) : Int) ∧ f 9 = .int .i64 (ik1 : Int) ∧ f 8 = (.int .i64 ((a0.length : Nat) : Int)) ∧ f 0 = va0 ∧ f 7 = va0 ∧ Inv w0 w []) ?_ ?_ ?_
    · skip
      exact ⟨rfl, rangeN_start, rfl, rfl, rfl, rfl, H⟩
    · skip
      rintro k ik1 _ st f w ⟨rfl, hdropk1, hf9, hf8, hf0, hf7, H⟩ hm2
      have hltk1 := rangeN_lt hdropk1
      obtain ⟨u1, rfl⟩ : ∃ u1, f = (upd (upd (upd (upd u1 9 (.int .i64 (ik1 : Int))) 8 (.int .i64 ((a0.length : Nat) : Int))) 0 va0) 7 va0) := ⟨f, by rw [upd_self hf9, upd_self hf8, upd_self hf0, upd_self hf7]⟩
      have hinck1 := addI_lt hltk1 hbdik1
      refine W.seq ?_
      refine W.region ?_
      refine O.lss rfl rfl rfl rfl ?_
      refine WL.nil ?_
      refine W.seq ?_
      refine W.cond_true (congrArg Value.bool (decide_eq_true hltk1)) ?_
      refine W.skip ?_
      refine W.seq ?_
      obtain ⟨o2, hm3, hm2⟩ := bind_some hm2
      refine W.via (fun f w => o2 = .next () ∧ f 0 = va0 ∧ f 7 = va0 ∧ f 8 = (.int .i64 ((a0.length : Nat) : Int)) ∧ f 9 = (.int .i64 (ik1 : Int)) ∧ Inv w0 w []) ?_ ?_
      · skip
        refine W.block ?_
        refine W.seq ?_
        refine W.region ?_
        refine O.move (v := (.int .i64 (ik1 : Int))) rfl rfl rfl ?_
        obtain ⟨x1, hx1, hm3⟩ := bind_some hm3
        obtain ⟨p1, hp1, hrp1⟩ := fix_indexAddr Tryd.underlying22 sz3 ha0 hx1
        refine hrp1 rfl rfl rfl rfl ?_
        refine O.load sc3 rfl rfl rfl ((hp1.mono H.base).flat 0 _ rfl) ?_
        refine O.assign (v := (.int .i64 (ik1 : Int))) rfl rfl rfl ?_
        refine O.assign (v := (.int .i64 x1)) rfl rfl rfl ?_
        refine WL.nil ?_
        refine W.seq ?_
        refine W.seq ?_
        refine W.region ?_
        refine O.move (v := (.int .i64 x1)) rfl rfl rfl ?_
        refine O.lss rfl rfl rfl rfl ?_
        refine O.move (v := (.bool (decide (x1 < 0)))) rfl rfl rfl ?_
        refine WL.cut 3 (fun f w => f 0 = va0 ∧ f 3 = (.int .i64 (ik1 : Int)) ∧ f 4 = (.int .i64 x1) ∧ f 7 = va0 ∧ f 8 = (.int .i64 ((a0.length : Nat) : Int)) ∧ f 9 = (.int .i64 (ik1 : Int)) ∧ f 19 = .bool ((decide (x1 < 0)) || (decide (13 ≤ x1))) ∧ Inv w0 w []) ?_ ?_
        · skip
          rcases bool_ft (decide (x1 < 0)) with hc1 | hc1
          · skip
            refine WL.reset (i := 16) (v := .bool false) (congrArg Value.bool hc1) ?_
            refine O.move (v := (.int .i64 x1)) rfl rfl rfl ?_
            refine O.geq rfl rfl rfl rfl ?_
            refine O.pick_false (v := (.bool (decide (13 ≤ x1)))) rfl rfl rfl rfl ?_
            refine WL.nil ?_
            exact ⟨rfl, rfl, rfl, rfl, rfl, rfl, congrArg Value.bool (or_f hc1), H⟩
          · skip
            refine WL.reset (i := 16) (v := .bool true) (congrArg Value.bool hc1) ?_
            refine O.skip rfl rfl ?_
            refine O.skip rfl rfl ?_
            refine O.pick_true (v := (.bool true)) rfl rfl rfl rfl ?_
            refine WL.nil ?_
            exact ⟨rfl, rfl, rfl, rfl, rfl, rfl, congrArg Value.bool (or_t hc1), H⟩
        · skip
          rintro f w ⟨hf0, hf3, hf4, hf7, hf8, hf9, hf19, H⟩
          obtain ⟨u2, rfl⟩ : ∃ u2, f = (upd (upd (upd (upd (upd (upd (upd u2 0 va0) 3 (.int .i64 (ik1 : Int))) 4 (.int .i64 x1)) 7 va0) 8 (.int .i64 ((a0.length : Nat) : Int))) 9 (.int .i64 (ik1 : Int))) 19 (.bool ((decide (x1 < 0)) || (decide (13 ≤ x1))))) := ⟨f, by rw [upd_self hf0, upd_self hf3, upd_self hf4, upd_self hf7, upd_self hf8, upd_self hf9, upd_self hf19]⟩
          refine O.move (v := (.bool ((decide (x1 < 0)) || (decide (13 ≤ x1))))) rfl rfl rfl ?_
          obtain ⟨b1, hm4, hm3⟩ := bind_some hm3
          refine WL.cut 5 (fun f w => f 0 = va0 ∧ f 3 = (.int .i64 (ik1 : Int)) ∧ f 4 = (.int .i64 x1) ∧ f 7 = va0 ∧ f 8 = (.int .i64 ((a0.length : Nat) : Int)) ∧ f 9 = (.int .i64 (ik1 : Int)) ∧ f 25 = .bool b1 ∧ Inv w0 w []) ?_ ?_
          · skip
            rcases ite_some hm4 with ⟨hc2, hm4⟩ | ⟨hc2, hm4⟩
            · skip
              refine WL.reset (i := 20) (v := .bool true) (congrArg Value.bool hc2) ?_
              refine O.skip rfl rfl ?_
              refine O.skip rfl rfl ?_
              refine O.skip rfl rfl ?_
              refine O.skip rfl rfl ?_
              refine O.pick_true (v := (.bool true)) rfl rfl rfl rfl ?_
              refine WL.nil ?_
              have hq : true = b1 := Option.some.inj (show some true = some b1 from hm4)
              subst hq
              exact ⟨rfl, rfl, rfl, rfl, rfl, rfl, rfl, H⟩
            · skip
              refine WL.reset (i := 20) (v := .bool false) (congrArg Value.bool hc2) ?_
              refine O.move (v := (.int .i64 x1)) rfl rfl rfl ?_
              obtain ⟨t1, ht1, hm4⟩ := bind_some hm4
              refine O.sub rfl rfl rfl rfl ht1 ?_
              refine O.move (v := (.int .i64 (ik1 : Int))) rfl rfl rfl ?_
              refine O.geq rfl rfl rfl rfl ?_
              refine O.pick_false (v := (.bool (decide ((ik1 : Int) ≤ t1)))) rfl rfl rfl rfl ?_
              refine WL.nil ?_
              have hq : (decide ((ik1 : Int) ≤ t1)) = b1 := Option.some.inj (show some (decide ((ik1 : Int) ≤ t1)) = some b1 from hm4)
              subst hq
              exact ⟨rfl, rfl, rfl, rfl, rfl, rfl, rfl, H⟩
          · skip
            rintro f w ⟨hf0, hf3, hf4, hf7, hf8, hf9, hf25, H⟩
            obtain ⟨u3, rfl⟩ : ∃ u3, f = (upd (upd (upd (upd (upd (upd (upd u3 0 va0) 3 (.int .i64 (ik1 : Int))) 4 (.int .i64 x1)) 7 va0) 8 (.int .i64 ((a0.length : Nat) : Int))) 9 (.int .i64 (ik1 : Int))) 25 (.bool b1)) := ⟨f, by rw [upd_self hf0, upd_self hf3, upd_self hf4, upd_self hf7, upd_self hf8, upd_self hf9, upd_self hf25]⟩
            refine WL.nil ?_
            rcases ite_some hm3 with ⟨hc3, hm3⟩ | ⟨hc3, hm3⟩
            · refine W.cond_true (congrArg Value.bool hc3) ?_
              refine W.seq ?_
              refine W.region ?_
              refine O.assign (v := (.bool false)) rfl rfl rfl ?_
              refine WL.nil ?_
              refine W.ret ?_
              obtain rfl := Option.some.inj hm3
              obtain rfl := Option.some.inj hm2
              refine ⟨_, rfl, ?_⟩
              rintro rfl
              have hq : false = r0 := Option.some.inj (show some false = some r0 from hm)
              subst hq
              exact ends1 Tryd.results53 rfl ⟨_, rfl, H.base, rfl⟩
            · refine W.cond_false (congrArg Value.bool hc3) ?_
              refine W.skip ?_
              refine W.seq ?_
              refine W.region ?_
              refine O.move (v := va0) rfl rfl rfl ?_
              refine O.move (v := (.int .i64 (ik1 : Int))) rfl rfl rfl ?_
              obtain ⟨t2, ht2, hm3⟩ := bind_some hm3
              obtain ⟨v1, hs1, hrv1⟩ := fix_sliceH Tryd.underlying22 sz3 ha0 ht2
              refine hrv1 rfl rfl rfl rfl ?_
              refine O.lenS Tryd.underlying22 (H.arg hs1) rfl rfl rfl ?_
              refine O.move (v := (.int .i64 0)) rfl rfl rfl ?_
              refine WL.nil ?_
              obtain ⟨o3, hm5, hm3⟩ := bind_some hm3
              refine W.via (fun f w => o3 = .next () ∧ f 0 = va0 ∧ f 7 = va0 ∧ f 8 = (.int .i64 ((a0.length : Nat) : Int)) ∧ f 9 = (.int .i64 (ik1 : Int)) ∧ Inv w0 w []) ?_ ?_
              · skip
                refine W.block ?_
                refine W.rangeL (i := 0) hm5 (fun rem ik2 s f w => () = s ∧ t2.drop ik2 = rem ∧ f 30 = .int .i64 (ik2 : Int) ∧ f 29 = (.int .i64 ((t2.length : Nat) : Int)) ∧ f 0 = va0 ∧ f 4 = (.int .i64 x1) ∧ f 7 = va0 ∧ f 8 = (.int .i64 ((a0.length : Nat) : Int)) ∧ f 9 = (.int .i64 (ik1 : Int)) ∧ f 28 = v1 ∧ Inv w0 w []) ?_ ?_ ?_
                · skip
                  exact ⟨rfl, List.drop_zero, rfl, rfl, rfl, rfl, rfl, rfl, rfl, rfl, H⟩
                · skip
                  rintro yk2 xs ik2 _ st f w ⟨rfl, hdropk2, hf30, hf29, hf0, hf4, hf7, hf8, hf9, hf28, H⟩ hm6
                  have hltk2 := drop_lt hdropk2; have hixk2 := drop_idx hdropk2
                  obtain ⟨u4, rfl⟩ : ∃ u4, f = (upd (upd (upd (upd (upd (upd (upd (upd u4 30 (.int .i64 (ik2 : Int))) 29 (.int .i64 ((t2.length : Nat) : Int))) 0 va0) 4 (.int .i64 x1)) 7 va0) 8 (.int .i64 ((a0.length : Nat) : Int))) 9 (.int .i64 (ik1 : Int))) 28 v1) := ⟨f, by rw [upd_self hf30, upd_self hf29, upd_self hf0, upd_self hf4, upd_self hf7, upd_self hf8, upd_self hf9, upd_self hf28]⟩
                  have hinck2 := addI_lt hltk2 (H.arg hs1).len_le
                  refine W.seq ?_
                  refine W.region ?_
                  refine O.lss rfl rfl rfl rfl ?_
                  refine WL.nil ?_
                  refine W.seq ?_
                  refine W.cond_true (congrArg Value.bool (decide_eq_true hltk2)) ?_
                  refine W.skip ?_
                  refine W.seq ?_
                  refine W.block ?_
                  refine W.seq ?_
                  refine W.region ?_
                  obtain ⟨p2, hp2, hrp2⟩ := fix_indexAddr Tryd.underlying22 sz3 hs1 hixk2
                  refine hrp2 rfl rfl rfl rfl ?_
                  refine O.load sc3 rfl rfl rfl ((hp2.mono H.base).flat 0 _ rfl) ?_
                  refine O.assign (v := (.int .i64 yk2)) rfl rfl rfl ?_
                  refine WL.nil ?_
                  refine W.seq ?_
                  refine W.region ?_
                  refine O.move (v := (.int .i64 x1)) rfl rfl rfl ?_
                  refine O.move (v := (.int .i64 yk2)) rfl rfl rfl ?_
                  refine O.eql rfl rfl rfl rfl ?_
                  refine WL.nil ?_
                  rcases ite_some hm6 with ⟨hc4, hm6⟩ | ⟨hc4, hm6⟩
                  · refine W.cond_true (congrArg Value.bool hc4) ?_
                    refine W.seq ?_
                    refine W.region ?_
                    refine O.assign (v := (.bool false)) rfl rfl rfl ?_
                    refine WL.nil ?_
                    refine W.ret ?_
                    obtain rfl := Option.some.inj hm6
                    refine ⟨_, rfl, ?_⟩
                    rintro rfl
                    obtain rfl := Option.some.inj hm3
                    obtain rfl := Option.some.inj hm2
                    refine ⟨_, rfl, ?_⟩
                    rintro rfl
                    have hq : false = r0 := Option.some.inj (show some false = some r0 from hm)
                    subst hq
                    exact ends1 Tryd.results53 rfl ⟨_, rfl, H.base, rfl⟩
                  · refine W.cond_false (congrArg Value.bool hc4) ?_
                    refine W.skip ?_
                    refine W.region ?_
                    refine O.add rfl rfl rfl rfl hinck2 ?_
                    refine O.move (v := .int .i64 ((ik2 : Int) + 1)) rfl rfl rfl ?_
                    refine WL.nil ?_
                    obtain rfl := Option.some.inj hm6
                    exact ⟨_, rfl, rfl, drop_next hdropk2, rfl, rfl, rfl, rfl, rfl, rfl, rfl, rfl, H⟩
                · skip
                  rintro ik2 _ f w ⟨rfl, hdropk2, hf30, hf29, hf0, hf4, hf7, hf8, hf9, hf28, H⟩ hfin
                  have hltk2 := drop_end hdropk2
                  obtain ⟨u5, rfl⟩ : ∃ u5, f = (upd (upd (upd (upd (upd (upd (upd (upd u5 30 (.int .i64 (ik2 : Int))) 29 (.int .i64 ((t2.length : Nat) : Int))) 0 va0) 4 (.int .i64 x1)) 7 va0) 8 (.int .i64 ((a0.length : Nat) : Int))) 9 (.int .i64 (ik1 : Int))) 28 v1) := ⟨f, by rw [upd_self hf30, upd_self hf29, upd_self hf0, upd_self hf4, upd_self hf7, upd_self hf8, upd_self hf9, upd_self hf28]⟩
                  refine W.seq ?_
                  refine W.region ?_
                  refine O.lss rfl rfl rfl rfl ?_
                  refine WL.nil ?_
                  refine W.seq ?_
                  refine W.cond_false (congrArg Value.bool (decide_eq_false hltk2)) ?_
                  refine W.exit ?_
                  obtain rfl : Ctl.next () = o3 := hfin
                  refine xT rfl ?_
                  exact ⟨rfl, rfl, rfl, rfl, rfl, H⟩
              · skip
                rintro f w ⟨rfl, hf0, hf7, hf8, hf9, H⟩
                obtain ⟨u6, rfl⟩ : ∃ u6, f = (upd (upd (upd (upd u6 0 va0) 7 va0) 8 (.int .i64 ((a0.length : Nat) : Int))) 9 (.int .i64 (ik1 : Int))) := ⟨f, by rw [upd_self hf0, upd_self hf7, upd_self hf8, upd_self hf9]⟩
                obtain rfl := Option.some.inj hm3
                exact ⟨rfl, rfl, rfl, rfl, rfl, H⟩
      · skip
        rintro f w ⟨rfl, hf0, hf7, hf8, hf9, H⟩
        obtain ⟨u7, rfl⟩ : ∃ u7, f = (upd (upd (upd (upd u7 0 va0) 7 va0) 8 (.int .i64 ((a0.length : Nat) : Int))) 9 (.int .i64 (ik1 : Int))) := ⟨f, by rw [upd_self hf0, upd_self hf7, upd_self hf8, upd_self hf9]⟩
        refine W.region ?_
        refine O.add rfl rfl rfl rfl hinck1 ?_
        refine O.move (v := .int .i64 ((ik1 : Int) + 1)) rfl rfl rfl ?_
        refine WL.nil ?_
        obtain rfl := Option.some.inj hm2
        exact ⟨_, rfl, rfl, rangeN_next hdropk1, rfl, rfl, rfl, rfl, H⟩
    · skip
      rintro ik1 _ f w ⟨rfl, hdropk1, hf9, hf8, hf0, hf7, H⟩ hfin
      have hltk1 := rangeN_end hdropk1
      obtain ⟨u8, rfl⟩ : ∃ u8, f = (upd (upd (upd (upd u8 9 (.int .i64 (ik1 : Int))) 8 (.int .i64 ((a0.length : Nat) : Int))) 0 va0) 7 va0) := ⟨f, by rw [upd_self hf9, upd_self hf8, upd_self hf0, upd_self hf7]⟩
      refine W.seq ?_
      refine W.region ?_
      refine O.lss rfl rfl rfl rfl ?_
      refine WL.nil ?_
      refine W.seq ?_
      refine W.cond_false (congrArg Value.bool (decide_eq_false hltk1)) ?_
      refine W.exit ?_
      obtain rfl : Ctl.next () = o1 := hfin
      refine xT rfl ?_
      exact ⟨rfl, rfl, H⟩
  · skip
    rintro f w ⟨rfl, hf0, H⟩
    obtain ⟨u9, rfl⟩ : ∃ u9, f = (upd u9 0 va0) := ⟨f, by rw [upd_self hf0]⟩
    refine W.seq ?_
    refine W.region ?_
    refine O.move (v := va0) rfl rfl rfl ?_
    refine O.lenS Tryd.underlying22 (H.arg ha0) rfl rfl rfl ?_
    refine O.geq rfl rfl rfl rfl ?_
    refine O.move (v := (.bool (decide (1 ≤ ((a0.length : Nat) : Int))))) rfl rfl rfl ?_
    refine WL.cut 4 (fun f w => f 46 = .bool ((decide (1 ≤ ((a0.length : Nat) : Int))) && (decide (((a0.length : Nat) : Int) ≤ 4))) ∧ Inv w0 w []) ?_ ?_
    · skip
      rcases bool_ft (decide (1 ≤ ((a0.length : Nat) : Int))) with hc5 | hc5
      · skip
        refine WL.reset (i := 42) (v := .bool false) (congrArg Value.bool hc5) ?_
        refine O.skip rfl rfl ?_
        refine O.skip rfl rfl ?_
        refine O.skip rfl rfl ?_
        refine O.pick_false (v := (.bool false)) rfl rfl rfl rfl ?_
        refine WL.nil ?_
        exact ⟨congrArg Value.bool (and_f hc5), H⟩
      · skip
        refine WL.reset (i := 42) (v := .bool true) (congrArg Value.bool hc5) ?_
        refine O.move (v := va0) rfl rfl rfl ?_
        refine O.lenS Tryd.underlying22 (H.arg ha0) rfl rfl rfl ?_
        refine O.leq rfl rfl rfl rfl ?_
        refine O.pick_true (v := (.bool (decide (((a0.length : Nat) : Int) ≤ 4)))) rfl rfl rfl rfl ?_
        refine WL.nil ?_
        exact ⟨congrArg Value.bool (and_t hc5), H⟩
    · skip
      rintro f w ⟨hf46, H⟩
      obtain ⟨u10, rfl⟩ : ∃ u10, f = (upd u10 46 (.bool ((decide (1 ≤ ((a0.length : Nat) : Int))) && (decide (((a0.length : Nat) : Int) ≤ 4))))) := ⟨f, by rw [upd_self hf46]⟩
      refine O.assign (v := (.bool ((decide (1 ≤ ((a0.length : Nat) : Int))) && (decide (((a0.length : Nat) : Int) ≤ 4))))) rfl rfl rfl ?_
      refine WL.nil ?_
      refine W.ret ?_
      have hq : ((decide (1 ≤ ((a0.length : Nat) : Int))) && (decide (((a0.length : Nat) : Int) ≤ 4))) = r0 := Option.some.inj (show some ((decide (1 ≤ ((a0.length : Nat) : Int))) && (decide (((a0.length : Nat) : Int) ≤ 4))) = some r0 from hm)
      subst hq
      exact ends1 Tryd.results53 rfl ⟨_, rfl, H.base, rfl⟩

set_option maxRecDepth 20000 in
theorem c_noongunref07_means {w0 : World} (va0 : Value) (a0 : (List Int)) (ha0 : SliceR w0 va0 a0) {r0 : (List Int)} (hm : noongunref07_means a0 = some r0) :
    Calls Tryd.prog 54 #[va0] w0 (Ret w0 fun w v => OwnR w0 w v 3 r0) := by
  unfold noongunref07_means at hm
  refine calls_of_W Tryd.func54 rfl Tryd.ntmps54 (Nat.le_of_ble_eq_true rfl) ?_
  have H := Inv.start (w := w0)
  refine W.seq ?_
  refine W.region ?_
  have H := H.addNil (α := Int) (E := 3)
  refine O.assign (v := (.slice none 0 0)) rfl rfl rfl ?_
  refine WL.nil ?_
  refine W.seq ?_
  refine W.region ?_
  have H := H.addNil (α := Int) (E := 3)
  refine O.assign (v := (.slice none 0 0)) rfl rfl rfl ?_
  refine WL.nil ?_
  refine W.seq ?_
  refine W.seq ?_
  refine W.region ?_
  refine O.move (v := va0) rfl rfl rfl ?_
  refine O.lenS Tryd.underlying22 (H.arg ha0) rfl rfl rfl ?_
  refine O.move (v := (.int .i64 0)) rfl rfl rfl ?_
  refine WL.nil ?_
  obtain ⟨s1, hm1, hm⟩ := bind_some hm
  refine W.via (fun f w => ∃ v4 : Value, f 3 = v4 ∧ Inv w0 w [ownI (α := Int) v4 3 s1]) ?_ ?_
  · skip
    refine W.block ?_
    have H := H.keep [1] [ownI (α := Int) (.slice none 0 0) 3 ([] : List Int)] rfl (by decide)
    refine W.rangeL (i := 0) hm1 (fun rem ik1 s f w => ∃ z2 : (List Int), ∃ v2 : Value, z2 = s ∧ a0.drop ik1 = rem ∧ f 8 = .int .i64 (ik1 : Int) ∧ f 7 = (.int .i64 ((a0.length : Nat) : Int)) ∧ f 3 = v2 ∧ f 6 = va0 ∧ Inv w0 w [ownI (α := Int) v2 3 z2]) ?_ ?_ ?_
    · skip
      exact ⟨_, (.slice none 0 0), rfl, List.drop_zero, rfl, rfl, rfl, rfl, H⟩
    · skip
      rintro yk1 xs ik1 _ st f w ⟨z2, v2, rfl, hdropk1, hf8, hf7, hf3, hf6, H⟩ hm2
      have hltk1 := drop_lt hdropk1; have hixk1 := drop_idx hdropk1
      obtain ⟨u1, rfl⟩ : ∃ u1, f = (upd (upd (upd (upd u1 8 (.int .i64 (ik1 : Int))) 7 (.int .i64 ((a0.length : Nat) : Int))) 3 v2) 6 va0) := ⟨f, by rw [upd_self hf8, upd_self hf7, upd_self hf3, upd_self hf6]⟩
      have hinck1 := addI_lt hltk1 (H.arg ha0).len_le
      refine W.seq ?_
      refine W.region ?_
      refine O.lss rfl rfl rfl rfl ?_
      refine WL.nil ?_
      refine W.seq ?_
      refine W.cond_true (congrArg Value.bool (decide_eq_true hltk1)) ?_
      refine W.skip ?_
      refine W.seq ?_
      obtain ⟨s2, hm3, hm2⟩ := bind_some hm2
      refine W.via (fun f w => ∃ v5 : Value, f 3 = v5 ∧ f 6 = va0 ∧ f 7 = (.int .i64 ((a0.length : Nat) : Int)) ∧ f 8 = (.int .i64 (ik1 : Int)) ∧ Inv w0 w [ownI (α := Int) v5 3 s2]) ?_ ?_
      · skip
        refine W.block ?_
        refine W.seq ?_
        refine W.region ?_
        obtain ⟨p1, hp1, hrp1⟩ := fix_indexAddr Tryd.underlying22 sz3 ha0 hixk1
        refine hrp1 rfl rfl rfl rfl ?_
        refine O.load sc3 rfl rfl rfl ((hp1.mono H.base).flat 0 _ rfl) ?_
        refine O.assign (v := (.int .i64 yk1)) rfl rfl rfl ?_
        refine WL.nil ?_
        refine W.seq ?_
        refine W.seq ?_
        refine W.region ?_
        refine O.move (v := (.int .i64 yk1)) rfl rfl rfl ?_
        refine O.geq rfl rfl rfl rfl ?_
        refine WL.nil ?_
        obtain ⟨s3, hm4, hm3⟩ := bind_some hm3
        refine W.via (fun f w => f 3 = v2 ∧ f 5 = (.int .i64 s3) ∧ f 6 = va0 ∧ f 7 = (.int .i64 ((a0.length : Nat) : Int)) ∧ f 8 = (.int .i64 (ik1 : Int)) ∧ Inv w0 w [ownI (α := Int) v2 3 z2]) ?_ ?_
        · skip
          rcases ite_some hm4 with ⟨hc1, hm4⟩ | ⟨hc1, hm4⟩
          · refine W.cond_true (congrArg Value.bool hc1) ?_
            refine W.region ?_
            refine O.move (v := v2) rfl rfl rfl ?_
            refine O.move (v := (.int .i64 yk1)) rfl rfl rfl ?_
            obtain ⟨t1, ht1, hm4⟩ := bind_some hm4
            refine O.sub rfl rfl rfl rfl ht1 ?_
            obtain ⟨x1, hx1, hm4⟩ := bind_some hm4
            refine O.indexAddr Tryd.underlying22 sz3 (H.own 0 rfl) hx1 rfl rfl rfl rfl ?_
            intro p2 hp2
            refine O.load sc3 rfl rfl rfl (hp2.flat 0 _ rfl) ?_
            refine O.assign (v := (.int .i64 x1)) rfl rfl rfl ?_
            refine WL.nil ?_
            have hq : x1 = s3 := Option.some.inj (show some x1 = some s3 from hm4)
            subst hq
            exact ⟨rfl, rfl, rfl, rfl, rfl, H⟩
          · refine W.cond_false (congrArg Value.bool hc1) ?_
            refine W.skip ?_
            have hq : yk1 = s3 := Option.some.inj (show some yk1 = some s3 from hm4)
            subst hq
            exact ⟨rfl, rfl, rfl, rfl, rfl, H⟩
        · skip
          rintro f w ⟨hf3, hf5, hf6, hf7, hf8, H⟩
          obtain ⟨u2, rfl⟩ : ∃ u2, f = (upd (upd (upd (upd (upd u2 3 v2) 5 (.int .i64 s3)) 6 va0) 7 (.int .i64 ((a0.length : Nat) : Int))) 8 (.int .i64 (ik1 : Int))) := ⟨f, by rw [upd_self hf3, upd_self hf5, upd_self hf6, upd_self hf7, upd_self hf8]⟩
          refine W.region ?_
          refine O.move (v := v2) rfl rfl rfl ?_
          refine O.move (v := (.int .i64 s3)) rfl rfl rfl ?_
          refine O.buildSlice (α := Int) [(.int .i64 s3)] [s3] Tryd.underlying22 el3 H rfl rfl rfl rfl rfl rfl rfl ?_
          intro v6 w1 H hb1
          obtain ⟨t2, ht2, hm3⟩ := bind_some hm3
          refine O.append 0 Tryd.underlying22 el3 rfl H rfl (H.own 1 rfl) ht2 rfl rfl rfl rfl ?_
          intro v7 w2 H
          refine O.assign (v := v7) rfl rfl rfl ?_
          refine WL.nil ?_
          have H := H.keep [0] [ownI (α := Int) v7 3 t2] rfl (by decide)
          have hq : t2 = s2 := Option.some.inj (show some t2 = some s2 from hm3)
          subst hq
          exact ⟨v7, rfl, rfl, rfl, rfl, H⟩
      · skip
        rintro f w ⟨v5, hf3, hf6, hf7, hf8, H⟩
        obtain ⟨u3, rfl⟩ : ∃ u3, f = (upd (upd (upd (upd u3 3 v5) 6 va0) 7 (.int .i64 ((a0.length : Nat) : Int))) 8 (.int .i64 (ik1 : Int))) := ⟨f, by rw [upd_self hf3, upd_self hf6, upd_self hf7, upd_self hf8]⟩
        refine W.region ?_
        refine O.add rfl rfl rfl rfl hinck1 ?_
        refine O.move (v := .int .i64 ((ik1 : Int) + 1)) rfl rfl rfl ?_
        refine WL.nil ?_
        obtain rfl := Option.some.inj hm2
        exact ⟨_, rfl, _, v5, rfl, drop_next hdropk1, rfl, rfl, rfl, rfl, H⟩
    · skip
      rintro ik1 _ f w ⟨z2, v2, rfl, hdropk1, hf8, hf7, hf3, hf6, H⟩ hfin
      have hltk1 := drop_end hdropk1
      obtain ⟨u4, rfl⟩ : ∃ u4, f = (upd (upd (upd (upd u4 8 (.int .i64 (ik1 : Int))) 7 (.int .i64 ((a0.length : Nat) : Int))) 3 v2) 6 va0) := ⟨f, by rw [upd_self hf8, upd_self hf7, upd_self hf3, upd_self hf6]⟩
      refine W.seq ?_
      refine W.region ?_
      refine O.lss rfl rfl rfl rfl ?_
      refine WL.nil ?_
      refine W.seq ?_
      refine W.cond_false (congrArg Value.bool (decide_eq_false hltk1)) ?_
      refine W.exit ?_
      have hq : z2 = s1 := hfin
      subst hq
      refine xT rfl ?_
      exact ⟨v2, rfl, H⟩
  · skip
    rintro f w ⟨v4, hf3, H⟩
    obtain ⟨u5, rfl⟩ : ∃ u5, f = (upd u5 3 v4) := ⟨f, by rw [upd_self hf3]⟩
    refine W.seq ?_
    refine W.region ?_
    refine O.move (v := v4) rfl rfl rfl ?_
    refine O.assign (v := v4) rfl rfl rfl ?_
    refine WL.nil ?_
    refine W.ret ?_
    have hq : s1 = r0 := Option.some.inj (show some s1 = some r0 from hm)
    subst hq
    exact ends1 Tryd.results54 rfl ⟨_, rfl, H.base, H.ownR 0 rfl⟩

set_option maxRecDepth 20000 in
theorem c_noongunref07_Look {w0 : World} (hT : TabH Tryd.prog w0) (va0 : Value) (a0 : (List GMeaning)) (ha0 : SliceR w0 va0 a0) (va1 : Value) (a1 : (List Int)) (ha1 : SliceR w0 va1 a1) {r0 : ByteArray} {r1 : Int} (hm : noongunref07_Look a0 a1 = some (r0, r1)) :
    Calls Tryd.prog 19 #[va0, va1] w0 (Ret w0 fun _ v => v = .tuple #[(.string r0), (.int .i64 r1)]) := by
  unfold noongunref07_Look at hm
  refine calls_of_W Tryd.func19 rfl Tryd.ntmps19 (Nat.le_of_ble_eq_true rfl) ?_
  have H := Inv.start (w := w0)
  refine W.seq ?_
  refine W.region ?_
  refine O.assign (v := (.string (bs []))) rfl rfl rfl ?_
  refine O.assign (v := (.int .i64 0)) rfl rfl rfl ?_
  refine WL.nil ?_
  refine W.seq ?_
  refine W.seq ?_
  refine W.region ?_
  refine O.move (v := va0) rfl rfl rfl ?_
  obtain ⟨t1, hy1, hm⟩ := bind_some hm
  refine O.call Tryd.call23 rfl rfl rfl (c_noongunref07_ValidBook _ _ (H.arg ha0) hy1) ?_
  rintro _ w1 hb1 rfl
  have H := H.ext hb1
  refine O.not rfl rfl rfl ?_
  refine O.move (v := (.bool (!t1))) rfl rfl rfl ?_
  obtain ⟨b1, hm1, hm⟩ := bind_some hm
  refine WL.cut 4 (fun f w => f 0 = va0 ∧ f 1 = va1 ∧ f 15 = .bool b1 ∧ Inv w0 w []) ?_ ?_
  · skip
    rcases ite_some hm1 with ⟨hc1, hm1⟩ | ⟨hc1, hm1⟩
    · skip
      refine WL.reset (i := 11) (v := .bool true) (congrArg Value.bool hc1) ?_
      refine O.skip rfl rfl ?_
      refine O.skip rfl rfl ?_
      refine O.skip rfl rfl ?_
      refine O.pick_true (v := (.bool true)) rfl rfl rfl rfl ?_
      refine WL.nil ?_
      have hq : true = b1 := Option.some.inj (show some true = some b1 from hm1)
      subst hq
      exact ⟨rfl, rfl, rfl, H⟩
    · skip
      refine WL.reset (i := 11) (v := .bool false) (congrArg Value.bool hc1) ?_
      refine O.move (v := va1) rfl rfl rfl ?_
      obtain ⟨t2, hy2, hm1⟩ := bind_some hm1
      refine O.call Tryd.call53 rfl rfl rfl (c_noongunref07_ValidHoist _ _ (H.arg ha1) hy2) ?_
      rintro _ w2 hb2 rfl
      have H := H.ext hb2
      refine O.not rfl rfl rfl ?_
      refine O.pick_false (v := (.bool (!t2))) rfl rfl rfl rfl ?_
      refine WL.nil ?_
      have hq : (!t2) = b1 := Option.some.inj (show some (!t2) = some b1 from hm1)
      subst hq
      exact ⟨rfl, rfl, rfl, H⟩
  · skip
    rintro f w ⟨hf0, hf1, hf15, H⟩
    obtain ⟨u1, rfl⟩ : ∃ u1, f = (upd (upd (upd u1 0 va0) 1 va1) 15 (.bool b1)) := ⟨f, by rw [upd_self hf0, upd_self hf1, upd_self hf15]⟩
    refine WL.nil ?_
    rcases ite_some hm with ⟨hc2, hm⟩ | ⟨hc2, hm⟩
    · refine W.cond_true (congrArg Value.bool hc2) ?_
      refine W.seq ?_
      refine W.region ?_
      refine O.assign (v := (.string (bs []))) rfl rfl rfl ?_
      refine O.assign (v := (.int .i64 1)) rfl rfl rfl ?_
      refine WL.nil ?_
      refine W.ret ?_
      have hq : ((bs []), 1) = (r0, r1) := Option.some.inj (show some ((bs []), 1) = some (r0, r1) from hm)
      obtain ⟨he0, hq0⟩ := Prod.mk.inj hq; clear hq; subst he0
      subst hq0
      exact ends2 Tryd.results19 rfl rfl ⟨_, rfl, H.base, rfl⟩
    · refine W.cond_false (congrArg Value.bool hc2) ?_
      refine W.skip ?_
      refine W.seq ?_
      refine W.seq ?_
      refine W.region ?_
      refine O.move (v := va0) rfl rfl rfl ?_
      refine O.lenS Tryd.underlying33 (H.arg ha0) rfl rfl rfl ?_
      refine O.move (v := (.int .i64 0)) rfl rfl rfl ?_
      refine WL.nil ?_
      obtain ⟨o1, hm2, hm⟩ := bind_some hm
      refine W.via (fun f w => o1 = .next () ∧ Inv w0 w []) ?_ ?_
      · skip
        refine W.block ?_
        refine W.rangeL (i := 0) hm2 (fun rem ik1 s f w => () = s ∧ a0.drop ik1 = rem ∧ f 18 = .int .i64 (ik1 : Int) ∧ f 17 = (.int .i64 ((a0.length : Nat) : Int)) ∧ f 1 = va1 ∧ f 16 = va0 ∧ Inv w0 w []) ?_ ?_ ?_
        · skip
          exact ⟨rfl, List.drop_zero, rfl, rfl, rfl, rfl, H⟩
        · skip
          rintro yk1 xs ik1 _ st f w ⟨rfl, hdropk1, hf18, hf17, hf1, hf16, H⟩ hm3
          have hltk1 := drop_lt hdropk1; have hixk1 := drop_idx hdropk1
          obtain ⟨u2, rfl⟩ : ∃ u2, f = (upd (upd (upd (upd u2 18 (.int .i64 (ik1 : Int))) 17 (.int .i64 ((a0.length : Nat) : Int))) 1 va1) 16 va0) := ⟨f, by rw [upd_self hf18, upd_self hf17, upd_self hf1, upd_self hf16]⟩
          have hinck1 := addI_lt hltk1 (H.arg ha0).len_le
          refine W.seq ?_
          refine W.region ?_
          refine O.lss rfl rfl rfl rfl ?_
          refine WL.nil ?_
          refine W.seq ?_
          refine W.cond_true (congrArg Value.bool (decide_eq_true hltk1)) ?_
          refine W.skip ?_
          refine W.seq ?_
          refine W.block ?_
          refine W.seq ?_
          refine W.region ?_
          obtain ⟨p1, hp1, hrp1⟩ := fix_indexAddr Tryd.underlying33 sz39 ha0 hixk1
          refine hrp1 rfl rfl rfl rfl ?_
          refine O.loadA [(.int .i64 yk1.Number), (.string yk1.Text)] ag39 rfl rfl rfl rfl ((hp1.mono H.base).flat) ?_
          refine O.alloc [(.int .i64 0), (.string ByteArray.empty)] ze39 H rfl rfl rfl ?_
          intro b2 w3 H hb3
          refine O.store 0 0 [(.int .i64 yk1.Number), (.string yk1.Text)] [(.int .i64 yk1.Number), (.string yk1.Text)] sz39 H rfl rfl rfl rfl rfl rfl ⟨⟨rfl, rfl⟩, rfl⟩ (one_cons rfl (one_cons rfl one_nil)) ?_
          intro w4 H
          refine WL.nil ?_
          refine W.seq ?_
          refine W.region ?_
          refine O.fieldAddr fd39_0 rfl rfl rfl ?_
          refine O.load sc3 rfl rfl rfl (H.cell 0 rfl 0 _ rfl) ?_
          obtain ⟨t3, hy3, hm3⟩ := bind_some hm3
          refine O.call Tryd.call40 rfl rfl rfl (c_noongunref07_digitsOf (hT.mono H.base) _ hy3) ?_
          rintro v1 w5 hb4 ho1
          have H := H.addOwn hb4 ho1
          refine O.move (v := va1) rfl rfl rfl ?_
          obtain ⟨t4, hy4, hm3⟩ := bind_some hm3
          refine O.call Tryd.call54 rfl rfl rfl (c_noongunref07_means _ _ (H.arg ha1) hy4) ?_
          rintro v2 w6 hb5 ho2
          have H := H.addOwn hb5 ho2
          obtain ⟨t5, hy5, hm3⟩ := bind_some hm3
          refine O.call Tryd.call16 rfl rfl rfl (c_noongunref07_SameInts _ _ (H.own 1 rfl) _ _ (H.own 2 rfl) hy5) ?_
          rintro _ w7 hb6 rfl
          have H := H.ext hb6
          refine WL.nil ?_
          rcases ite_some hm3 with ⟨hc3, hm3⟩ | ⟨hc3, hm3⟩
          · refine W.cond_true (congrArg Value.bool hc3) ?_
            refine W.seq ?_
            refine W.region ?_
            refine O.fieldAddr fd39_1 rfl rfl rfl ?_
            refine O.load sc9 rfl rfl rfl (H.cell 0 rfl 1 _ rfl) ?_
            refine O.assign (v := (.string yk1.Text)) rfl rfl rfl ?_
            refine O.assign (v := (.int .i64 0)) rfl rfl rfl ?_
            refine WL.nil ?_
            refine W.ret ?_
            obtain rfl := Option.some.inj hm3
            refine ⟨_, rfl, ?_⟩
            rintro rfl
            have hq : (yk1.Text, 0) = (r0, r1) := Option.some.inj (show some (yk1.Text, 0) = some (r0, r1) from hm)
            obtain ⟨he0, hq0⟩ := Prod.mk.inj hq; clear hq; subst he0
            subst hq0
            exact ends2 Tryd.results19 rfl rfl ⟨_, rfl, H.base, rfl⟩
          · refine W.cond_false (congrArg Value.bool hc3) ?_
            refine W.skip ?_
            refine W.region ?_
            refine O.add rfl rfl rfl rfl hinck1 ?_
            refine O.move (v := .int .i64 ((ik1 : Int) + 1)) rfl rfl rfl ?_
            refine WL.nil ?_
            have H := H.keep [] [] rfl (by decide)
            obtain rfl := Option.some.inj hm3
            exact ⟨_, rfl, rfl, drop_next hdropk1, rfl, rfl, rfl, rfl, H⟩
        · skip
          rintro ik1 _ f w ⟨rfl, hdropk1, hf18, hf17, hf1, hf16, H⟩ hfin
          have hltk1 := drop_end hdropk1
          obtain ⟨u3, rfl⟩ : ∃ u3, f = (upd (upd (upd (upd u3 18 (.int .i64 (ik1 : Int))) 17 (.int .i64 ((a0.length : Nat) : Int))) 1 va1) 16 va0) := ⟨f, by rw [upd_self hf18, upd_self hf17, upd_self hf1, upd_self hf16]⟩
          refine W.seq ?_
          refine W.region ?_
          refine O.lss rfl rfl rfl rfl ?_
          refine WL.nil ?_
          refine W.seq ?_
          refine W.cond_false (congrArg Value.bool (decide_eq_false hltk1)) ?_
          refine W.exit ?_
          obtain rfl : Ctl.next () = o1 := hfin
          refine xT rfl ?_
          exact ⟨rfl, H⟩
      · skip
        rintro f w ⟨rfl, H⟩
        refine W.seq ?_
        refine W.region ?_
        refine O.assign (v := (.string (bs []))) rfl rfl rfl ?_
        refine O.assign (v := (.int .i64 8)) rfl rfl rfl ?_
        refine WL.nil ?_
        refine W.ret ?_
        have hq : ((bs []), 8) = (r0, r1) := Option.some.inj (show some ((bs []), 8) = some (r0, r1) from hm)
        obtain ⟨he0, hq0⟩ := Prod.mk.inj hq; clear hq; subst he0
        subst hq0
        exact ends2 Tryd.results19 rfl rfl ⟨_, rfl, H.base, rfl⟩

theorem c_flag_Find_c1 {w0 : World} (a0 : GMeaning) (pc0 : Addr) (c0 : ByteArray) (hc0 : ∀ j c, (Flat.cells c0)[j]? = some c → w0.cell? (pc0.add j) = some c) {r0 : Bool} (hm : flag_Find_c1 a0 c0 = some r0) :
    Calls Tryd.prog 56 #[(.agg (Flat.cells a0).toArray), (.pointer (some pc0))] w0 (Ret w0 fun _ v => v = (.bool r0)) := by
  unfold flag_Find_c1 at hm
  refine calls_of_W Tryd.func56 rfl Tryd.ntmps56 (Nat.le_of_ble_eq_true rfl) ?_
  have H := Inv.start (w := w0)
  refine W.seq ?_
  refine W.region ?_
  refine O.box [(.int .i64 a0.Number), (.string a0.Text)] H rfl rfl rfl rfl ?_
  intro b1 w1 H hb1
  refine O.assign (v := (.bool false)) rfl rfl rfl ?_
  refine WL.nil ?_
  refine W.seq ?_
  refine W.region ?_
  refine O.fieldAddr fd39_1 rfl rfl rfl ?_
  refine O.load sc9 rfl rfl rfl (H.cell 0 rfl 1 _ rfl) ?_
  refine O.load sc9 rfl rfl rfl (cells_mono hc0 H.base 0 _ rfl) ?_
  refine O.eqlS rfl rfl rfl rfl ?_
  refine O.assign (v := (.bool (decide (a0.Text = c0)))) rfl rfl rfl ?_
  refine WL.nil ?_
  refine W.ret ?_
  have hq : (decide (a0.Text = c0)) = r0 := Option.some.inj (show some (decide (a0.Text = c0)) = some r0 from hm)
  subst hq
  exact ends1 Tryd.results56 rfl ⟨_, rfl, H.base, rfl⟩

theorem c_slices_IndexFunc_Meaning {w0 : World} (va0 : Value) (a0 : (List GMeaning)) (ha0 : SliceR w0 va0 a0) (va1 : Value) (a1 : GMeaning → Option (Bool)) (ha1 : ∀ (w : World), Below w0.heap.size w0 w → ∀ (x0 : GMeaning) (y0 : Bool), a1 x0 = some y0 → CallsV Tryd.prog va1 #[(.agg (Flat.cells x0).toArray)] w (Ret w fun _ v => v = (.bool y0))) {r0 : Int} (hm : slices_IndexFunc_Meaning a0 a1 = some r0) :
    Calls Tryd.prog 55 #[va0, va1] w0 (Ret w0 fun _ v => v = (.int .i64 r0)) := by
  unfold slices_IndexFunc_Meaning at hm
  refine calls_of_W Tryd.func55 rfl Tryd.ntmps55 (Nat.le_of_ble_eq_true rfl) ?_
  have H := Inv.start (w := w0)
  refine W.seq ?_
  refine W.region ?_
  refine O.assign (v := (.int .i64 0)) rfl rfl rfl ?_
  refine WL.nil ?_
  refine W.seq ?_
  refine W.seq ?_
  refine W.region ?_
  refine O.move (v := va0) rfl rfl rfl ?_
  refine O.lenS Tryd.underlying33 (H.arg ha0) rfl rfl rfl ?_
  refine O.move (v := (.int .i64 0)) rfl rfl rfl ?_
  refine WL.nil ?_
  obtain ⟨o1, hm1, hm⟩ := bind_some hm
  refine W.via (fun f w => o1 = .next () ∧ Inv w0 w []) ?_ ?_
  · skip
    refine W.block ?_
    have hbdik1 := (H.arg ha0).len_le
    refine W.rangeN (i := 0) hm1 (fun rem ik1 s f w => () = s ∧ (ik1 : Int) + rem = max 0 ((a0.length : Nat) : Int) ∧ f 8 = .int .i64 (ik1 : Int) ∧ f 7 = (.int .i64 ((a0.length : Nat) : Int)) ∧ f 0 = va0 ∧ f 1 = va1 ∧ Inv w0 w []) ?_ ?_ ?_
    · skip
      exact ⟨rfl, rangeN_start, rfl, rfl, rfl, rfl, H⟩
    · skip
      rintro k ik1 _ st f w ⟨rfl, hdropk1, hf8, hf7, hf0, hf1, H⟩ hm2
      have hltk1 := rangeN_lt hdropk1
      obtain ⟨u1, rfl⟩ : ∃ u1, f = (upd (upd (upd (upd u1 8 (.int .i64 (ik1 : Int))) 7 (.int .i64 ((a0.length : Nat) : Int))) 0 va0) 1 va1) := ⟨f, by rw [upd_self hf8, upd_self hf7, upd_self hf0, upd_self hf1]⟩
      have hinck1 := addI_lt hltk1 hbdik1
      refine W.seq ?_
      refine W.region ?_
      refine O.lss rfl rfl rfl rfl ?_
      refine WL.nil ?_
      refine W.seq ?_
      refine W.cond_true (congrArg Value.bool (decide_eq_true hltk1)) ?_
      refine W.skip ?_
      refine W.seq ?_
      refine W.block ?_
      refine W.seq ?_
      refine W.region ?_
      refine O.move (v := (.int .i64 (ik1 : Int))) rfl rfl rfl ?_
      refine O.assign (v := (.int .i64 (ik1 : Int))) rfl rfl rfl ?_
      refine WL.nil ?_
      refine W.seq ?_
      refine W.region ?_
      refine O.move (v := va1) rfl rfl rfl ?_
      refine O.move (v := va0) rfl rfl rfl ?_
      refine O.move (v := (.int .i64 (ik1 : Int))) rfl rfl rfl ?_
      obtain ⟨x1, hx1, hm2⟩ := bind_some hm2
      obtain ⟨p1, hp1, hrp1⟩ := fix_indexAddr Tryd.underlying33 sz39 ha0 hx1
      refine hrp1 rfl rfl rfl rfl ?_
      refine O.loadA [(.int .i64 x1.Number), (.string x1.Text)] ag39 rfl rfl rfl rfl ((hp1.mono H.base).flat) ?_
      obtain ⟨t1, hy1, hm2⟩ := bind_some hm2
      refine O.callV rfl rfl rfl rfl (ha1 _ H.base x1 _ hy1) ?_
      rintro _ w1 hb1 rfl
      have H := H.ext hb1
      refine WL.nil ?_
      rcases ite_some hm2 with ⟨hc1, hm2⟩ | ⟨hc1, hm2⟩
      · refine W.cond_true (congrArg Value.bool hc1) ?_
        refine W.seq ?_
        refine W.region ?_
        refine O.move (v := (.int .i64 (ik1 : Int))) rfl rfl rfl ?_
        refine O.assign (v := (.int .i64 (ik1 : Int))) rfl rfl rfl ?_
        refine WL.nil ?_
        refine W.ret ?_
        obtain rfl := Option.some.inj hm2
        refine ⟨_, rfl, ?_⟩
        rintro rfl
        have hq : (ik1 : Int) = r0 := Option.some.inj (show some (ik1 : Int) = some r0 from hm)
        subst hq
        exact ends1 Tryd.results55 rfl ⟨_, rfl, H.base, rfl⟩
      · refine W.cond_false (congrArg Value.bool hc1) ?_
        refine W.skip ?_
        refine W.region ?_
        refine O.add rfl rfl rfl rfl hinck1 ?_
        refine O.move (v := .int .i64 ((ik1 : Int) + 1)) rfl rfl rfl ?_
        refine WL.nil ?_
        obtain rfl := Option.some.inj hm2
        exact ⟨_, rfl, rfl, rangeN_next hdropk1, rfl, rfl, rfl, rfl, H⟩
    · skip
      rintro ik1 _ f w ⟨rfl, hdropk1, hf8, hf7, hf0, hf1, H⟩ hfin
      have hltk1 := rangeN_end hdropk1
      obtain ⟨u2, rfl⟩ : ∃ u2, f = (upd (upd (upd (upd u2 8 (.int .i64 (ik1 : Int))) 7 (.int .i64 ((a0.length : Nat) : Int))) 0 va0) 1 va1) := ⟨f, by rw [upd_self hf8, upd_self hf7, upd_self hf0, upd_self hf1]⟩
      refine W.seq ?_
      refine W.region ?_
      refine O.lss rfl rfl rfl rfl ?_
      refine WL.nil ?_
      refine W.seq ?_
      refine W.cond_false (congrArg Value.bool (decide_eq_false hltk1)) ?_
      refine W.exit ?_
      obtain rfl : Ctl.next () = o1 := hfin
      refine xT rfl ?_
      exact ⟨rfl, H⟩
  · skip
    rintro f w ⟨rfl, H⟩
    refine W.seq ?_
    refine W.region ?_
    refine O.assign (v := (.int .i64 (-1))) rfl rfl rfl ?_
    refine WL.nil ?_
    refine W.ret ?_
    have hq : (-1) = r0 := Option.some.inj (show some (-1) = some r0 from hm)
    subst hq
    exact ends1 Tryd.results55 rfl ⟨_, rfl, H.base, rfl⟩

theorem c_flag_Find {w0 : World} (va0 : Value) (a0 : (List GMeaning)) (ha0 : SliceR w0 va0 a0) (a1 : ByteArray) {r0 : Int} {r1 : Int} (hm : flag_Find a0 a1 = some (r0, r1)) :
    Calls Tryd.prog 20 #[va0, (.string a1)] w0 (Ret w0 fun _ v => v = .tuple #[(.int .i64 r0), (.int .i64 r1)]) := by
  unfold flag_Find at hm
  refine calls_of_W Tryd.func20 rfl Tryd.ntmps20 (Nat.le_of_ble_eq_true rfl) ?_
  have H := Inv.start (w := w0)
  refine W.seq ?_
  refine W.region ?_
  refine O.box [(.string a1)] H rfl rfl rfl rfl ?_
  intro b1 w1 H hb1
  refine O.assign (v := (.int .i64 0)) rfl rfl rfl ?_
  refine O.assign (v := (.int .i64 0)) rfl rfl rfl ?_
  refine WL.nil ?_
  refine W.seq ?_
  refine W.seq ?_
  refine W.region ?_
  refine O.move (v := va0) rfl rfl rfl ?_
  obtain ⟨t1, hy1, hm⟩ := bind_some hm
  refine O.call Tryd.call22 rfl rfl rfl (c_flag_ValidBook _ _ (H.arg ha0) hy1) ?_
  rintro _ w2 hb2 rfl
  have H := H.ext hb2
  refine O.not rfl rfl rfl ?_
  refine WL.nil ?_
  rcases ite_some hm with ⟨hc1, hm⟩ | ⟨hc1, hm⟩
  · refine W.cond_true (congrArg Value.bool hc1) ?_
    refine W.seq ?_
    refine W.region ?_
    refine O.assign (v := (.int .i64 0)) rfl rfl rfl ?_
    refine O.assign (v := (.int .i64 1)) rfl rfl rfl ?_
    refine WL.nil ?_
    refine W.ret ?_
    have hq : (0, 1) = (r0, r1) := Option.some.inj (show some (0, 1) = some (r0, r1) from hm)
    obtain ⟨he0, hq0⟩ := Prod.mk.inj hq; clear hq; subst he0
    subst hq0
    exact ends2 Tryd.results20 rfl rfl ⟨_, rfl, H.base, rfl⟩
  · refine W.cond_false (congrArg Value.bool hc1) ?_
    refine W.skip ?_
    refine W.seq ?_
    refine W.region ?_
    refine O.move (v := va0) rfl rfl rfl ?_
    refine O.makeFunc rfl rfl rfl rfl ?_
    obtain ⟨t2, hy2, hm⟩ := bind_some hm
    refine O.call Tryd.call55 rfl rfl rfl (c_slices_IndexFunc_Meaning _ _ (H.arg ha0) _ (fun x0 => flag_Find_c1 x0 a1) (fun w hw x0 _ hy => callsV_mk Tryd.call56 (c_flag_Find_c1 x0 _ a1 (cells_mono (H.cell 0 rfl) hw) hy)) hy2) ?_
    rintro _ w3 hb3 rfl
    have H := H.ext hb3
    refine O.assign (v := (.int .i64 t2)) rfl rfl rfl ?_
    refine WL.nil ?_
    refine W.seq ?_
    refine W.seq ?_
    refine W.region ?_
    refine O.move (v := (.int .i64 t2)) rfl rfl rfl ?_
    refine O.lss rfl rfl rfl rfl ?_
    refine WL.nil ?_
    rcases ite_some hm with ⟨hc2, hm⟩ | ⟨hc2, hm⟩
    · refine W.cond_true (congrArg Value.bool hc2) ?_
      refine W.seq ?_
      refine W.region ?_
      refine O.assign (v := (.int .i64 0)) rfl rfl rfl ?_
      refine O.assign (v := (.int .i64 8)) rfl rfl rfl ?_
      refine WL.nil ?_
      refine W.ret ?_
      have hq : (0, 8) = (r0, r1) := Option.some.inj (show some (0, 8) = some (r0, r1) from hm)
      obtain ⟨he0, hq0⟩ := Prod.mk.inj hq; clear hq; subst he0
      subst hq0
      exact ends2 Tryd.results20 rfl rfl ⟨_, rfl, H.base, rfl⟩
    · refine W.cond_false (congrArg Value.bool hc2) ?_
      refine W.skip ?_
      refine W.seq ?_
      refine W.region ?_
      refine O.move (v := va0) rfl rfl rfl ?_
      refine O.move (v := (.int .i64 t2)) rfl rfl rfl ?_
      obtain ⟨x1, hx1, hm⟩ := bind_some hm
      obtain ⟨p1, hp1, hrp1⟩ := fix_indexAddr Tryd.underlying33 sz39 ha0 hx1
      refine hrp1 rfl rfl rfl rfl ?_
      refine O.fieldAddr fd39_0 rfl rfl rfl ?_
      refine O.load sc3 rfl rfl rfl ((hp1.mono H.base).flat 0 _ rfl) ?_
      refine O.assign (v := (.int .i64 x1.Number)) rfl rfl rfl ?_
      refine O.assign (v := (.int .i64 0)) rfl rfl rfl ?_
      refine WL.nil ?_
      refine W.ret ?_
      have hq : (x1.Number, 0) = (r0, r1) := Option.some.inj (show some (x1.Number, 0) = some (r0, r1) from hm)
      obtain ⟨he0, hq0⟩ := Prod.mk.inj hq; clear hq; subst he0
      subst hq0
      exact ends2 Tryd.results20 rfl rfl ⟨_, rfl, H.base, rfl⟩

set_option maxRecDepth 20000 in
theorem c_noongunref07_Find {w0 : World} (va0 : Value) (a0 : (List GMeaning)) (ha0 : SliceR w0 va0 a0) (a1 : ByteArray) {r0 : Int} {r1 : Int} (hm : noongunref07_Find a0 a1 = some (r0, r1)) :
    Calls Tryd.prog 21 #[va0, (.string a1)] w0 (Ret w0 fun _ v => v = .tuple #[(.int .i64 r0), (.int .i64 r1)]) := by
  unfold noongunref07_Find at hm
  refine calls_of_W Tryd.func21 rfl Tryd.ntmps21 (Nat.le_of_ble_eq_true rfl) ?_
  have H := Inv.start (w := w0)
  refine W.seq ?_
  refine W.region ?_
  refine O.assign (v := (.int .i64 0)) rfl rfl rfl ?_
  refine O.assign (v := (.int .i64 0)) rfl rfl rfl ?_
  refine WL.nil ?_
  refine W.seq ?_
  refine W.seq ?_
  refine W.region ?_
  refine O.move (v := va0) rfl rfl rfl ?_
  obtain ⟨t1, hy1, hm⟩ := bind_some hm
  refine O.call Tryd.call23 rfl rfl rfl (c_noongunref07_ValidBook _ _ (H.arg ha0) hy1) ?_
  rintro _ w1 hb1 rfl
  have H := H.ext hb1
  refine O.not rfl rfl rfl ?_
  refine WL.nil ?_
  rcases ite_some hm with ⟨hc1, hm⟩ | ⟨hc1, hm⟩
  · refine W.cond_true (congrArg Value.bool hc1) ?_
    refine W.seq ?_
    refine W.region ?_
    refine O.assign (v := (.int .i64 0)) rfl rfl rfl ?_
    refine O.assign (v := (.int .i64 1)) rfl rfl rfl ?_
    refine WL.nil ?_
    refine W.ret ?_
    have hq : (0, 1) = (r0, r1) := Option.some.inj (show some (0, 1) = some (r0, r1) from hm)
    obtain ⟨he0, hq0⟩ := Prod.mk.inj hq; clear hq; subst he0
    subst hq0
    exact ends2 Tryd.results21 rfl rfl ⟨_, rfl, H.base, rfl⟩
  · refine W.cond_false (congrArg Value.bool hc1) ?_
    refine W.skip ?_
    refine W.seq ?_
    refine W.seq ?_
    refine W.region ?_
    refine O.move (v := va0) rfl rfl rfl ?_
    refine O.lenS Tryd.underlying33 (H.arg ha0) rfl rfl rfl ?_
    refine O.move (v := (.int .i64 0)) rfl rfl rfl ?_
    refine WL.nil ?_
    obtain ⟨o1, hm1, hm⟩ := bind_some hm
    refine W.via (fun f w => o1 = .next () ∧ Inv w0 w []) ?_ ?_
    · skip
      refine W.block ?_
      refine W.rangeL (i := 0) hm1 (fun rem ik1 s f w => () = s ∧ a0.drop ik1 = rem ∧ f 13 = .int .i64 (ik1 : Int) ∧ f 12 = (.int .i64 ((a0.length : Nat) : Int)) ∧ f 1 = (.string a1) ∧ f 11 = va0 ∧ Inv w0 w []) ?_ ?_ ?_
      · skip
        exact ⟨rfl, List.drop_zero, rfl, rfl, rfl, rfl, H⟩
      · skip
        rintro yk1 xs ik1 _ st f w ⟨rfl, hdropk1, hf13, hf12, hf1, hf11, H⟩ hm2
        have hltk1 := drop_lt hdropk1; have hixk1 := drop_idx hdropk1
        obtain ⟨u1, rfl⟩ : ∃ u1, f = (upd (upd (upd (upd u1 13 (.int .i64 (ik1 : Int))) 12 (.int .i64 ((a0.length : Nat) : Int))) 1 (.string a1)) 11 va0) := ⟨f, by rw [upd_self hf13, upd_self hf12, upd_self hf1, upd_self hf11]⟩
        have hinck1 := addI_lt hltk1 (H.arg ha0).len_le
        refine W.seq ?_
        refine W.region ?_
        refine O.lss rfl rfl rfl rfl ?_
        refine WL.nil ?_
        refine W.seq ?_
        refine W.cond_true (congrArg Value.bool (decide_eq_true hltk1)) ?_
        refine W.skip ?_
        refine W.seq ?_
        refine W.block ?_
        refine W.seq ?_
        refine W.region ?_
        obtain ⟨p1, hp1, hrp1⟩ := fix_indexAddr Tryd.underlying33 sz39 ha0 hixk1
        refine hrp1 rfl rfl rfl rfl ?_
        refine O.loadA [(.int .i64 yk1.Number), (.string yk1.Text)] ag39 rfl rfl rfl rfl ((hp1.mono H.base).flat) ?_
        refine O.alloc [(.int .i64 0), (.string ByteArray.empty)] ze39 H rfl rfl rfl ?_
        intro b1 w2 H hb2
        refine O.store 0 0 [(.int .i64 yk1.Number), (.string yk1.Text)] [(.int .i64 yk1.Number), (.string yk1.Text)] sz39 H rfl rfl rfl rfl rfl rfl ⟨⟨rfl, rfl⟩, rfl⟩ (one_cons rfl (one_cons rfl one_nil)) ?_
        intro w3 H
        refine WL.nil ?_
        refine W.seq ?_
        refine W.region ?_
        refine O.fieldAddr fd39_1 rfl rfl rfl ?_
        refine O.load sc9 rfl rfl rfl (H.cell 0 rfl 1 _ rfl) ?_
        refine O.move (v := (.string a1)) rfl rfl rfl ?_
        refine O.eqlS rfl rfl rfl rfl ?_
        refine WL.nil ?_
        rcases ite_some hm2 with ⟨hc2, hm2⟩ | ⟨hc2, hm2⟩
        · refine W.cond_true (congrArg Value.bool hc2) ?_
          refine W.seq ?_
          refine W.region ?_
          refine O.fieldAddr fd39_0 rfl rfl rfl ?_
          refine O.load sc3 rfl rfl rfl (H.cell 0 rfl 0 _ rfl) ?_
          refine O.assign (v := (.int .i64 yk1.Number)) rfl rfl rfl ?_
          refine O.assign (v := (.int .i64 0)) rfl rfl rfl ?_
          refine WL.nil ?_
          refine W.ret ?_
          obtain rfl := Option.some.inj hm2
          refine ⟨_, rfl, ?_⟩
          rintro rfl
          have hq : (yk1.Number, 0) = (r0, r1) := Option.some.inj (show some (yk1.Number, 0) = some (r0, r1) from hm)
          obtain ⟨he0, hq0⟩ := Prod.mk.inj hq; clear hq; subst he0
          subst hq0
          exact ends2 Tryd.results21 rfl rfl ⟨_, rfl, H.base, rfl⟩
        · refine W.cond_false (congrArg Value.bool hc2) ?_
          refine W.skip ?_
          refine W.region ?_
          refine O.add rfl rfl rfl rfl hinck1 ?_
          refine O.move (v := .int .i64 ((ik1 : Int) + 1)) rfl rfl rfl ?_
          refine WL.nil ?_
          have H := H.keep [] [] rfl (by decide)
          obtain rfl := Option.some.inj hm2
          exact ⟨_, rfl, rfl, drop_next hdropk1, rfl, rfl, rfl, rfl, H⟩
      · skip
        rintro ik1 _ f w ⟨rfl, hdropk1, hf13, hf12, hf1, hf11, H⟩ hfin
        have hltk1 := drop_end hdropk1
        obtain ⟨u2, rfl⟩ : ∃ u2, f = (upd (upd (upd (upd u2 13 (.int .i64 (ik1 : Int))) 12 (.int .i64 ((a0.length : Nat) : Int))) 1 (.string a1)) 11 va0) := ⟨f, by rw [upd_self hf13, upd_self hf12, upd_self hf1, upd_self hf11]⟩
        refine W.seq ?_
        refine W.region ?_
        refine O.lss rfl rfl rfl rfl ?_
        refine WL.nil ?_
        refine W.seq ?_
        refine W.cond_false (congrArg Value.bool (decide_eq_false hltk1)) ?_
        refine W.exit ?_
        obtain rfl : Ctl.next () = o1 := hfin
        refine xT rfl ?_
        exact ⟨rfl, H⟩
    · skip
      rintro f w ⟨rfl, H⟩
      refine W.seq ?_
      refine W.region ?_
      refine O.assign (v := (.int .i64 0)) rfl rfl rfl ?_
      refine O.assign (v := (.int .i64 8)) rfl rfl rfl ?_
      refine WL.nil ?_
      refine W.ret ?_
      have hq : (0, 8) = (r0, r1) := Option.some.inj (show some (0, 8) = some (r0, r1) from hm)
      obtain ⟨he0, hq0⟩ := Prod.mk.inj hq; clear hq; subst he0
      subst hq0
      exact ends2 Tryd.results21 rfl rfl ⟨_, rfl, H.base, rfl⟩

set_option maxRecDepth 20000 in
theorem c_noongunlaw07_FlagBooks {w0 : World} (hT : TabH Tryd.prog w0) (va0 : Value) (a0 : (List GMeaning)) (ha0 : SliceR w0 va0 a0) (va1 : Value) (a1 : (List Int)) (ha1 : SliceR w0 va1 a1) (a2 : ByteArray) {r0 : Bool} (hm : noongunlaw07_FlagBooks a0 a1 a2 = some r0) :
    Calls Tryd.prog 4 #[va0, va1, (.string a2)] w0 (Ret w0 fun _ v => v = (.bool r0)) := by
  unfold noongunlaw07_FlagBooks at hm
  refine calls_of_W Tryd.func4 rfl Tryd.ntmps4 (Nat.le_of_ble_eq_true rfl) ?_
  have H := Inv.start (w := w0)
  refine W.seq ?_
  refine W.region ?_
  refine O.assign (v := (.bool false)) rfl rfl rfl ?_
  refine WL.nil ?_
  refine W.seq ?_
  refine W.seq ?_
  refine W.region ?_
  refine O.move (v := va0) rfl rfl rfl ?_
  obtain ⟨t1, hy1, hm⟩ := bind_some hm
  refine O.call Tryd.call17 rfl rfl rfl (c_noongunlaw07_fit _ _ (H.arg ha0) hy1) ?_
  rintro _ w1 hb1 rfl
  have H := H.ext hb1
  refine O.not rfl rfl rfl ?_
  refine O.move (v := (.bool (!t1))) rfl rfl rfl ?_
  refine WL.cut 4 (fun f w => f 0 = va0 ∧ f 1 = va1 ∧ f 2 = (.string a2) ∧ f 30 = .bool ((!t1) || (decide (100 < ((a1.length : Nat) : Int)))) ∧ Inv w0 w []) ?_ ?_
  · skip
    rcases bool_ft (!t1) with hc1 | hc1
    · skip
      refine WL.reset (i := 26) (v := .bool false) (congrArg Value.bool hc1) ?_
      refine O.move (v := va1) rfl rfl rfl ?_
      refine O.lenS Tryd.underlying22 (H.arg ha1) rfl rfl rfl ?_
      refine O.gtr rfl rfl rfl rfl ?_
      refine O.pick_false (v := (.bool (decide (100 < ((a1.length : Nat) : Int))))) rfl rfl rfl rfl ?_
      refine WL.nil ?_
      exact ⟨rfl, rfl, rfl, congrArg Value.bool (or_f hc1), H⟩
    · skip
      refine WL.reset (i := 26) (v := .bool true) (congrArg Value.bool hc1) ?_
      refine O.skip rfl rfl ?_
      refine O.skip rfl rfl ?_
      refine O.skip rfl rfl ?_
      refine O.pick_true (v := (.bool true)) rfl rfl rfl rfl ?_
      refine WL.nil ?_
      exact ⟨rfl, rfl, rfl, congrArg Value.bool (or_t hc1), H⟩
  · skip
    rintro f w ⟨hf0, hf1, hf2, hf30, H⟩
    obtain ⟨u1, rfl⟩ : ∃ u1, f = (upd (upd (upd (upd u1 0 va0) 1 va1) 2 (.string a2)) 30 (.bool ((!t1) || (decide (100 < ((a1.length : Nat) : Int)))))) := ⟨f, by rw [upd_self hf0, upd_self hf1, upd_self hf2, upd_self hf30]⟩
    refine O.move (v := (.bool ((!t1) || (decide (100 < ((a1.length : Nat) : Int)))))) rfl rfl rfl ?_
    refine WL.cut 4 (fun f w => f 0 = va0 ∧ f 1 = va1 ∧ f 2 = (.string a2) ∧ f 35 = .bool (((!t1) || (decide (100 < ((a1.length : Nat) : Int)))) || (decide (1000 < ((a2.size : Nat) : Int)))) ∧ Inv w0 w []) ?_ ?_
    · skip
      rcases bool_ft ((!t1) || (decide (100 < ((a1.length : Nat) : Int)))) with hc2 | hc2
      · skip
        refine WL.reset (i := 31) (v := .bool false) (congrArg Value.bool hc2) ?_
        refine O.move (v := (.string a2)) rfl rfl rfl ?_
        refine O.lenStr Tryd.underlying9 rfl rfl rfl ?_
        refine O.gtr rfl rfl rfl rfl ?_
        refine O.pick_false (v := (.bool (decide (1000 < ((a2.size : Nat) : Int))))) rfl rfl rfl rfl ?_
        refine WL.nil ?_
        exact ⟨rfl, rfl, rfl, congrArg Value.bool (or_f hc2), H⟩
      · skip
        refine WL.reset (i := 31) (v := .bool true) (congrArg Value.bool hc2) ?_
        refine O.skip rfl rfl ?_
        refine O.skip rfl rfl ?_
        refine O.skip rfl rfl ?_
        refine O.pick_true (v := (.bool true)) rfl rfl rfl rfl ?_
        refine WL.nil ?_
        exact ⟨rfl, rfl, rfl, congrArg Value.bool (or_t hc2), H⟩
    · skip
      rintro f w ⟨hf0, hf1, hf2, hf35, H⟩
      obtain ⟨u2, rfl⟩ : ∃ u2, f = (upd (upd (upd (upd u2 0 va0) 1 va1) 2 (.string a2)) 35 (.bool (((!t1) || (decide (100 < ((a1.length : Nat) : Int)))) || (decide (1000 < ((a2.size : Nat) : Int)))))) := ⟨f, by rw [upd_self hf0, upd_self hf1, upd_self hf2, upd_self hf35]⟩
      refine WL.nil ?_
      rcases ite_some hm with ⟨hc3, hm⟩ | ⟨hc3, hm⟩
      · refine W.cond_true (congrArg Value.bool hc3) ?_
        refine W.seq ?_
        refine W.region ?_
        obtain ⟨t2, hy2, hm⟩ := bind_some hm
        refine O.call Tryd.call7 rfl rfl rfl (c_noongunlaw07_awake  hy2) ?_
        rintro _ w2 hb2 rfl
        have H := H.ext hb2
        refine O.assign (v := (.bool t2)) rfl rfl rfl ?_
        refine WL.nil ?_
        refine W.ret ?_
        have hq : t2 = r0 := Option.some.inj (show some t2 = some r0 from hm)
        subst hq
        exact ends1 Tryd.results4 rfl ⟨_, rfl, H.base, rfl⟩
      · refine W.cond_false (congrArg Value.bool hc3) ?_
        refine W.skip ?_
        refine W.seq ?_
        refine W.region ?_
        refine O.move (v := va0) rfl rfl rfl ?_
        refine O.move (v := va1) rfl rfl rfl ?_
        obtain ⟨⟨t3, t4⟩, hy3, hm⟩ := bind_some hm
        refine O.call Tryd.call18 rfl rfl rfl (c_flag_Look (hT.mono H.base) _ _ (H.arg ha0) _ _ (H.arg ha1) hy3) ?_
        rintro _ w3 hb3 rfl
        have H := H.ext hb3
        refine O.move (v := (.tuple #[(.string t3), (.int .i64 t4)])) rfl rfl rfl ?_
        refine O.extract (v := (.string t3)) rfl rfl rfl rfl ?_
        refine O.extract (v := (.int .i64 t4)) rfl rfl rfl rfl ?_
        refine O.assign (v := (.string t3)) rfl rfl rfl ?_
        refine O.assign (v := (.int .i64 t4)) rfl rfl rfl ?_
        refine WL.nil ?_
        refine W.seq ?_
        refine W.region ?_
        refine O.move (v := va0) rfl rfl rfl ?_
        refine O.move (v := va1) rfl rfl rfl ?_
        obtain ⟨⟨t5, t6⟩, hy4, hm⟩ := bind_some hm
        refine O.call Tryd.call19 rfl rfl rfl (c_noongunref07_Look (hT.mono H.base) _ _ (H.arg ha0) _ _ (H.arg ha1) hy4) ?_
        rintro _ w4 hb4 rfl
        have H := H.ext hb4
        refine O.move (v := (.tuple #[(.string t5), (.int .i64 t6)])) rfl rfl rfl ?_
        refine O.extract (v := (.string t5)) rfl rfl rfl rfl ?_
        refine O.extract (v := (.int .i64 t6)) rfl rfl rfl rfl ?_
        refine O.assign (v := (.string t5)) rfl rfl rfl ?_
        refine O.assign (v := (.int .i64 t6)) rfl rfl rfl ?_
        refine WL.nil ?_
        refine W.seq ?_
        refine W.region ?_
        refine O.move (v := va0) rfl rfl rfl ?_
        refine O.move (v := (.string a2)) rfl rfl rfl ?_
        obtain ⟨⟨t7, t8⟩, hy5, hm⟩ := bind_some hm
        refine O.call Tryd.call20 rfl rfl rfl (c_flag_Find _ _ (H.arg ha0) _ hy5) ?_
        rintro _ w5 hb5 rfl
        have H := H.ext hb5
        refine O.move (v := (.tuple #[(.int .i64 t7), (.int .i64 t8)])) rfl rfl rfl ?_
        refine O.extract (v := (.int .i64 t7)) rfl rfl rfl rfl ?_
        refine O.extract (v := (.int .i64 t8)) rfl rfl rfl rfl ?_
        refine O.assign (v := (.int .i64 t7)) rfl rfl rfl ?_
        refine O.assign (v := (.int .i64 t8)) rfl rfl rfl ?_
        refine WL.nil ?_
        refine W.seq ?_
        refine W.region ?_
        refine O.move (v := va0) rfl rfl rfl ?_
        refine O.move (v := (.string a2)) rfl rfl rfl ?_
        obtain ⟨⟨t9, t10⟩, hy6, hm⟩ := bind_some hm
        refine O.call Tryd.call21 rfl rfl rfl (c_noongunref07_Find _ _ (H.arg ha0) _ hy6) ?_
        rintro _ w6 hb6 rfl
        have H := H.ext hb6
        refine O.move (v := (.tuple #[(.int .i64 t9), (.int .i64 t10)])) rfl rfl rfl ?_
        refine O.extract (v := (.int .i64 t9)) rfl rfl rfl rfl ?_
        refine O.extract (v := (.int .i64 t10)) rfl rfl rfl rfl ?_
        refine O.assign (v := (.int .i64 t9)) rfl rfl rfl ?_
        refine O.assign (v := (.int .i64 t10)) rfl rfl rfl ?_
        refine WL.nil ?_
        refine W.seq ?_
        refine W.seq ?_
        refine W.region ?_
        refine O.move (v := va0) rfl rfl rfl ?_
        obtain ⟨t11, hy7, hm⟩ := bind_some hm
        refine O.call Tryd.call22 rfl rfl rfl (c_flag_ValidBook _ _ (H.arg ha0) hy7) ?_
        rintro _ w7 hb7 rfl
        have H := H.ext hb7
        refine O.move (v := va0) rfl rfl rfl ?_
        obtain ⟨t12, hy8, hm⟩ := bind_some hm
        refine O.call Tryd.call23 rfl rfl rfl (c_noongunref07_ValidBook _ _ (H.arg ha0) hy8) ?_
        rintro _ w8 hb8 rfl
        have H := H.ext hb8
        refine O.neqB Tryd.underlying4 rfl rfl rfl rfl ?_
        refine O.move (v := (.bool (t11 != t12))) rfl rfl rfl ?_
        refine WL.cut 4 (fun f w => f 0 = va0 ∧ f 8 = (.int .i64 t4) ∧ f 10 = (.int .i64 t6) ∧ f 11 = (.int .i64 t7) ∧ f 12 = (.int .i64 t8) ∧ f 13 = (.int .i64 t9) ∧ f 14 = (.int .i64 t10) ∧ f 70 = .bool ((t11 != t12) || (!(decide (t3 = t5)))) ∧ Inv w0 w []) ?_ ?_
        · skip
          rcases bool_ft (t11 != t12) with hc4 | hc4
          · skip
            refine WL.reset (i := 66) (v := .bool false) (congrArg Value.bool hc4) ?_
            refine O.move (v := (.string t3)) rfl rfl rfl ?_
            refine O.move (v := (.string t5)) rfl rfl rfl ?_
            refine O.neqS rfl rfl rfl rfl ?_
            refine O.pick_false (v := (.bool (!(decide (t3 = t5))))) rfl rfl rfl rfl ?_
            refine WL.nil ?_
            exact ⟨rfl, rfl, rfl, rfl, rfl, rfl, rfl, congrArg Value.bool (or_f hc4), H⟩
          · skip
            refine WL.reset (i := 66) (v := .bool true) (congrArg Value.bool hc4) ?_
            refine O.skip rfl rfl ?_
            refine O.skip rfl rfl ?_
            refine O.skip rfl rfl ?_
            refine O.pick_true (v := (.bool true)) rfl rfl rfl rfl ?_
            refine WL.nil ?_
            exact ⟨rfl, rfl, rfl, rfl, rfl, rfl, rfl, congrArg Value.bool (or_t hc4), H⟩
        · skip
          rintro f w ⟨hf0, hf8, hf10, hf11, hf12, hf13, hf14, hf70, H⟩
          obtain ⟨u3, rfl⟩ : ∃ u3, f = (upd (upd (upd (upd (upd (upd (upd (upd u3 0 va0) 8 (.int .i64 t4)) 10 (.int .i64 t6)) 11 (.int .i64 t7)) 12 (.int .i64 t8)) 13 (.int .i64 t9)) 14 (.int .i64 t10)) 70 (.bool ((t11 != t12) || (!(decide (t3 = t5)))))) := ⟨f, by rw [upd_self hf0, upd_self hf8, upd_self hf10, upd_self hf11, upd_self hf12, upd_self hf13, upd_self hf14, upd_self hf70]⟩
          refine O.move (v := (.bool ((t11 != t12) || (!(decide (t3 = t5)))))) rfl rfl rfl ?_
          refine WL.cut 4 (fun f w => f 0 = va0 ∧ f 11 = (.int .i64 t7) ∧ f 12 = (.int .i64 t8) ∧ f 13 = (.int .i64 t9) ∧ f 14 = (.int .i64 t10) ∧ f 75 = .bool (((t11 != t12) || (!(decide (t3 = t5)))) || (t4 != t6)) ∧ Inv w0 w []) ?_ ?_
          · skip
            rcases bool_ft ((t11 != t12) || (!(decide (t3 = t5)))) with hc5 | hc5
            · skip
              refine WL.reset (i := 71) (v := .bool false) (congrArg Value.bool hc5) ?_
              refine O.move (v := (.int .i64 t4)) rfl rfl rfl ?_
              refine O.move (v := (.int .i64 t6)) rfl rfl rfl ?_
              refine O.neq rfl rfl rfl rfl ?_
              refine O.pick_false (v := (.bool (t4 != t6))) rfl rfl rfl rfl ?_
              refine WL.nil ?_
              exact ⟨rfl, rfl, rfl, rfl, rfl, congrArg Value.bool (or_f hc5), H⟩
            · skip
              refine WL.reset (i := 71) (v := .bool true) (congrArg Value.bool hc5) ?_
              refine O.skip rfl rfl ?_
              refine O.skip rfl rfl ?_
              refine O.skip rfl rfl ?_
              refine O.pick_true (v := (.bool true)) rfl rfl rfl rfl ?_
              refine WL.nil ?_
              exact ⟨rfl, rfl, rfl, rfl, rfl, congrArg Value.bool (or_t hc5), H⟩
          · skip
            rintro f w ⟨hf0, hf11, hf12, hf13, hf14, hf75, H⟩
            obtain ⟨u4, rfl⟩ : ∃ u4, f = (upd (upd (upd (upd (upd (upd u4 0 va0) 11 (.int .i64 t7)) 12 (.int .i64 t8)) 13 (.int .i64 t9)) 14 (.int .i64 t10)) 75 (.bool (((t11 != t12) || (!(decide (t3 = t5)))) || (t4 != t6)))) := ⟨f, by rw [upd_self hf0, upd_self hf11, upd_self hf12, upd_self hf13, upd_self hf14, upd_self hf75]⟩
            refine O.move (v := (.bool (((t11 != t12) || (!(decide (t3 = t5)))) || (t4 != t6)))) rfl rfl rfl ?_
            refine WL.cut 4 (fun f w => f 0 = va0 ∧ f 12 = (.int .i64 t8) ∧ f 14 = (.int .i64 t10) ∧ f 80 = .bool ((((t11 != t12) || (!(decide (t3 = t5)))) || (t4 != t6)) || (t7 != t9)) ∧ Inv w0 w []) ?_ ?_
            · skip
              rcases bool_ft (((t11 != t12) || (!(decide (t3 = t5)))) || (t4 != t6)) with hc6 | hc6
              · skip
                refine WL.reset (i := 76) (v := .bool false) (congrArg Value.bool hc6) ?_
                refine O.move (v := (.int .i64 t7)) rfl rfl rfl ?_
                refine O.move (v := (.int .i64 t9)) rfl rfl rfl ?_
                refine O.neq rfl rfl rfl rfl ?_
                refine O.pick_false (v := (.bool (t7 != t9))) rfl rfl rfl rfl ?_
                refine WL.nil ?_
                exact ⟨rfl, rfl, rfl, congrArg Value.bool (or_f hc6), H⟩
              · skip
                refine WL.reset (i := 76) (v := .bool true) (congrArg Value.bool hc6) ?_
                refine O.skip rfl rfl ?_
                refine O.skip rfl rfl ?_
                refine O.skip rfl rfl ?_
                refine O.pick_true (v := (.bool true)) rfl rfl rfl rfl ?_
                refine WL.nil ?_
                exact ⟨rfl, rfl, rfl, congrArg Value.bool (or_t hc6), H⟩
            · skip
              rintro f w ⟨hf0, hf12, hf14, hf80, H⟩
              obtain ⟨u5, rfl⟩ : ∃ u5, f = (upd (upd (upd (upd u5 0 va0) 12 (.int .i64 t8)) 14 (.int .i64 t10)) 80 (.bool ((((t11 != t12) || (!(decide (t3 = t5)))) || (t4 != t6)) || (t7 != t9)))) := ⟨f, by rw [upd_self hf0, upd_self hf12, upd_self hf14, upd_self hf80]⟩
              refine O.move (v := (.bool ((((t11 != t12) || (!(decide (t3 = t5)))) || (t4 != t6)) || (t7 != t9)))) rfl rfl rfl ?_
              refine WL.cut 4 (fun f w => f 0 = va0 ∧ f 85 = .bool (((((t11 != t12) || (!(decide (t3 = t5)))) || (t4 != t6)) || (t7 != t9)) || (t8 != t10)) ∧ Inv w0 w []) ?_ ?_
              · skip
                rcases bool_ft ((((t11 != t12) || (!(decide (t3 = t5)))) || (t4 != t6)) || (t7 != t9)) with hc7 | hc7
                · skip
                  refine WL.reset (i := 81) (v := .bool false) (congrArg Value.bool hc7) ?_
                  refine O.move (v := (.int .i64 t8)) rfl rfl rfl ?_
                  refine O.move (v := (.int .i64 t10)) rfl rfl rfl ?_
                  refine O.neq rfl rfl rfl rfl ?_
                  refine O.pick_false (v := (.bool (t8 != t10))) rfl rfl rfl rfl ?_
                  refine WL.nil ?_
                  exact ⟨rfl, congrArg Value.bool (or_f hc7), H⟩
                · skip
                  refine WL.reset (i := 81) (v := .bool true) (congrArg Value.bool hc7) ?_
                  refine O.skip rfl rfl ?_
                  refine O.skip rfl rfl ?_
                  refine O.skip rfl rfl ?_
                  refine O.pick_true (v := (.bool true)) rfl rfl rfl rfl ?_
                  refine WL.nil ?_
                  exact ⟨rfl, congrArg Value.bool (or_t hc7), H⟩
              · skip
                rintro f w ⟨hf0, hf85, H⟩
                obtain ⟨u6, rfl⟩ : ∃ u6, f = (upd (upd u6 0 va0) 85 (.bool (((((t11 != t12) || (!(decide (t3 = t5)))) || (t4 != t6)) || (t7 != t9)) || (t8 != t10)))) := ⟨f, by rw [upd_self hf0, upd_self hf85]⟩
                refine WL.nil ?_
                rcases ite_some hm with ⟨hc8, hm⟩ | ⟨hc8, hm⟩
                · refine W.cond_true (congrArg Value.bool hc8) ?_
                  refine W.seq ?_
                  refine W.region ?_
                  refine O.assign (v := (.bool false)) rfl rfl rfl ?_
                  refine WL.nil ?_
                  refine W.ret ?_
                  have hq : false = r0 := Option.some.inj (show some false = some r0 from hm)
                  subst hq
                  exact ends1 Tryd.results4 rfl ⟨_, rfl, H.base, rfl⟩
                · refine W.cond_false (congrArg Value.bool hc8) ?_
                  refine W.skip ?_
                  refine W.seq ?_
                  refine W.seq ?_
                  refine W.region ?_
                  refine O.move (v := va0) rfl rfl rfl ?_
                  obtain ⟨t13, hy9, hm⟩ := bind_some hm
                  refine O.call Tryd.call22 rfl rfl rfl (c_flag_ValidBook _ _ (H.arg ha0) hy9) ?_
                  rintro _ w9 hb9 rfl
                  have H := H.ext hb9
                  refine O.not rfl rfl rfl ?_
                  refine O.move (v := (.bool (!t13))) rfl rfl rfl ?_
                  refine WL.cut 4 (fun f w => f 0 = va0 ∧ f 93 = .bool ((!t13) || (decide (40 < ((a0.length : Nat) : Int)))) ∧ Inv w0 w []) ?_ ?_
                  · skip
                    rcases bool_ft (!t13) with hc9 | hc9
                    · skip
                      refine WL.reset (i := 89) (v := .bool false) (congrArg Value.bool hc9) ?_
                      refine O.move (v := va0) rfl rfl rfl ?_
                      refine O.lenS Tryd.underlying33 (H.arg ha0) rfl rfl rfl ?_
                      refine O.gtr rfl rfl rfl rfl ?_
                      refine O.pick_false (v := (.bool (decide (40 < ((a0.length : Nat) : Int))))) rfl rfl rfl rfl ?_
                      refine WL.nil ?_
                      exact ⟨rfl, congrArg Value.bool (or_f hc9), H⟩
                    · skip
                      refine WL.reset (i := 89) (v := .bool true) (congrArg Value.bool hc9) ?_
                      refine O.skip rfl rfl ?_
                      refine O.skip rfl rfl ?_
                      refine O.skip rfl rfl ?_
                      refine O.pick_true (v := (.bool true)) rfl rfl rfl rfl ?_
                      refine WL.nil ?_
                      exact ⟨rfl, congrArg Value.bool (or_t hc9), H⟩
                  · skip
                    rintro f w ⟨hf0, hf93, H⟩
                    obtain ⟨u7, rfl⟩ : ∃ u7, f = (upd (upd u7 0 va0) 93 (.bool ((!t13) || (decide (40 < ((a0.length : Nat) : Int)))))) := ⟨f, by rw [upd_self hf0, upd_self hf93]⟩
                    refine WL.nil ?_
                    rcases ite_some hm with ⟨hc10, hm⟩ | ⟨hc10, hm⟩
                    · refine W.cond_true (congrArg Value.bool hc10) ?_
                      refine W.seq ?_
                      refine W.region ?_
                      obtain ⟨t14, hy10, hm⟩ := bind_some hm
                      refine O.call Tryd.call7 rfl rfl rfl (c_noongunlaw07_awake  hy10) ?_
                      rintro _ w10 hb10 rfl
                      have H := H.ext hb10
                      refine O.assign (v := (.bool t14)) rfl rfl rfl ?_
                      refine WL.nil ?_
                      refine W.ret ?_
                      have hq : t14 = r0 := Option.some.inj (show some t14 = some r0 from hm)
                      subst hq
                      exact ends1 Tryd.results4 rfl ⟨_, rfl, H.base, rfl⟩
                    · refine W.cond_false (congrArg Value.bool hc10) ?_
                      refine W.skip ?_
                      refine W.seq ?_
                      refine W.seq ?_
                      refine W.region ?_
                      refine O.move (v := va0) rfl rfl rfl ?_
                      refine O.lenS Tryd.underlying33 (H.arg ha0) rfl rfl rfl ?_
                      refine O.move (v := (.int .i64 0)) rfl rfl rfl ?_
                      refine WL.nil ?_
                      obtain ⟨o1, hm1, hm⟩ := bind_some hm
                      refine W.via (fun f w => o1 = .next () ∧ Inv w0 w []) ?_ ?_
                      · skip
                        refine W.block ?_
                        refine W.rangeL (i := 0) hm1 (fun rem ik1 s f w => () = s ∧ a0.drop ik1 = rem ∧ f 97 = .int .i64 (ik1 : Int) ∧ f 96 = (.int .i64 ((a0.length : Nat) : Int)) ∧ f 0 = va0 ∧ f 95 = va0 ∧ Inv w0 w []) ?_ ?_ ?_
                        · skip
                          exact ⟨rfl, List.drop_zero, rfl, rfl, rfl, rfl, H⟩
                        · skip
                          rintro yk1 xs ik1 _ st f w ⟨rfl, hdropk1, hf97, hf96, hf0, hf95, H⟩ hm2
                          have hltk1 := drop_lt hdropk1; have hixk1 := drop_idx hdropk1
                          obtain ⟨u8, rfl⟩ : ∃ u8, f = (upd (upd (upd (upd u8 97 (.int .i64 (ik1 : Int))) 96 (.int .i64 ((a0.length : Nat) : Int))) 0 va0) 95 va0) := ⟨f, by rw [upd_self hf97, upd_self hf96, upd_self hf0, upd_self hf95]⟩
                          have hinck1 := addI_lt hltk1 (H.arg ha0).len_le
                          refine W.seq ?_
                          refine W.region ?_
                          refine O.lss rfl rfl rfl rfl ?_
                          refine WL.nil ?_
                          refine W.seq ?_
                          refine W.cond_true (congrArg Value.bool (decide_eq_true hltk1)) ?_
                          refine W.skip ?_
                          refine W.seq ?_
                          refine W.block ?_
                          refine W.seq ?_
                          refine W.region ?_
                          obtain ⟨p1, hp1, hrp1⟩ := fix_indexAddr Tryd.underlying33 sz39 ha0 hixk1
                          refine hrp1 rfl rfl rfl rfl ?_
                          refine O.loadA [(.int .i64 yk1.Number), (.string yk1.Text)] ag39 rfl rfl rfl rfl ((hp1.mono H.base).flat) ?_
                          refine O.alloc [(.int .i64 0), (.string ByteArray.empty)] ze39 H rfl rfl rfl ?_
                          intro b1 w11 H hb11
                          refine O.store 0 0 [(.int .i64 yk1.Number), (.string yk1.Text)] [(.int .i64 yk1.Number), (.string yk1.Text)] sz39 H rfl rfl rfl rfl rfl rfl ⟨⟨rfl, rfl⟩, rfl⟩ (one_cons rfl (one_cons rfl one_nil)) ?_
                          intro w12 H
                          refine WL.nil ?_
                          refine W.seq ?_
                          refine W.region ?_
                          refine O.fieldAddr fd39_0 rfl rfl rfl ?_
                          refine O.load sc3 rfl rfl rfl (H.cell 0 rfl 0 _ rfl) ?_
                          obtain ⟨⟨t15, t16⟩, hy11, hm2⟩ := bind_some hm2
                          refine O.call Tryd.call8 rfl rfl rfl (c_flag_Digits (hT.mono H.base) _ hy11) ?_
                          rintro _ w13 hb12 ⟨v1, rfl, ho1⟩
                          have H := H.addOwn hb12 ho1
                          refine O.move (v := (.tuple #[v1, (.int .i64 t16)])) rfl rfl rfl ?_
                          refine O.extract (v := v1) rfl rfl rfl rfl ?_
                          refine O.extract (v := (.int .i64 t16)) rfl rfl rfl rfl ?_
                          refine O.assign (v := v1) rfl rfl rfl ?_
                          refine O.assign (v := (.int .i64 t16)) rfl rfl rfl ?_
                          refine WL.nil ?_
                          refine W.seq ?_
                          refine W.region ?_
                          refine O.move (v := v1) rfl rfl rfl ?_
                          obtain ⟨⟨t17, t18⟩, hy12, hm2⟩ := bind_some hm2
                          refine O.call Tryd.call24 rfl rfl rfl (c_flag_Hoist _ _ (H.own 1 rfl) hy12) ?_
                          rintro _ w14 hb13 ⟨v2, rfl, ho2⟩
                          have H := H.addOwn hb13 ho2
                          refine O.move (v := (.tuple #[v2, (.int .i64 t18)])) rfl rfl rfl ?_
                          refine O.extract (v := v2) rfl rfl rfl rfl ?_
                          refine O.extract (v := (.int .i64 t18)) rfl rfl rfl rfl ?_
                          refine O.assign (v := v2) rfl rfl rfl ?_
                          refine O.assign (v := (.int .i64 t18)) rfl rfl rfl ?_
                          refine WL.nil ?_
                          refine W.seq ?_
                          refine W.region ?_
                          refine O.move (v := va0) rfl rfl rfl ?_
                          refine O.move (v := v2) rfl rfl rfl ?_
                          obtain ⟨⟨t19, t20⟩, hy13, hm2⟩ := bind_some hm2
                          refine O.call Tryd.call18 rfl rfl rfl (c_flag_Look (hT.mono H.base) _ _ (H.arg ha0) _ _ (H.own 2 rfl) hy13) ?_
                          rintro _ w15 hb14 rfl
                          have H := H.ext hb14
                          refine O.move (v := (.tuple #[(.string t19), (.int .i64 t20)])) rfl rfl rfl ?_
                          refine O.extract (v := (.string t19)) rfl rfl rfl rfl ?_
                          refine O.extract (v := (.int .i64 t20)) rfl rfl rfl rfl ?_
                          refine O.assign (v := (.string t19)) rfl rfl rfl ?_
                          refine O.assign (v := (.int .i64 t20)) rfl rfl rfl ?_
                          refine WL.nil ?_
                          refine W.seq ?_
                          refine W.region ?_
                          refine O.move (v := (.int .i64 t16)) rfl rfl rfl ?_
                          refine O.neq rfl rfl rfl rfl ?_
                          refine O.move (v := (.bool (t16 != 0))) rfl rfl rfl ?_
                          refine WL.cut 3 (fun f w => f 0 = va0 ∧ f 16 = (.pointer (some ⟨b1, 0, none⟩)) ∧ f 21 = (.string t19) ∧ f 22 = (.int .i64 t20) ∧ f 95 = va0 ∧ f 96 = (.int .i64 ((a0.length : Nat) : Int)) ∧ f 97 = (.int .i64 (ik1 : Int)) ∧ f 123 = .bool ((t16 != 0) || (t18 != 0)) ∧ Inv w0 w [boxI b1 39 [(.int .i64 yk1.Number), (.string yk1.Text)], ownI (α := Int) v1 3 t15, ownI (α := Int) v2 3 t17]) ?_ ?_
                          · skip
                            rcases bool_ft (t16 != 0) with hc11 | hc11
                            · skip
                              refine WL.reset (i := 120) (v := .bool false) (congrArg Value.bool hc11) ?_
                              refine O.move (v := (.int .i64 t18)) rfl rfl rfl ?_
                              refine O.neq rfl rfl rfl rfl ?_
                              refine O.pick_false (v := (.bool (t18 != 0))) rfl rfl rfl rfl ?_
                              refine WL.nil ?_
                              exact ⟨rfl, rfl, rfl, rfl, rfl, rfl, rfl, congrArg Value.bool (or_f hc11), H⟩
                            · skip
                              refine WL.reset (i := 120) (v := .bool true) (congrArg Value.bool hc11) ?_
                              refine O.skip rfl rfl ?_
                              refine O.skip rfl rfl ?_
                              refine O.pick_true (v := (.bool true)) rfl rfl rfl rfl ?_
                              refine WL.nil ?_
                              exact ⟨rfl, rfl, rfl, rfl, rfl, rfl, rfl, congrArg Value.bool (or_t hc11), H⟩
                          · skip
                            rintro f w ⟨hf0, hf16, hf21, hf22, hf95, hf96, hf97, hf123, H⟩
                            obtain ⟨u9, rfl⟩ : ∃ u9, f = (upd (upd (upd (upd (upd (upd (upd (upd u9 0 va0) 16 (.pointer (some ⟨b1, 0, none⟩))) 21 (.string t19)) 22 (.int .i64 t20)) 95 va0) 96 (.int .i64 ((a0.length : Nat) : Int))) 97 (.int .i64 (ik1 : Int))) 123 (.bool ((t16 != 0) || (t18 != 0)))) := ⟨f, by rw [upd_self hf0, upd_self hf16, upd_self hf21, upd_self hf22, upd_self hf95, upd_self hf96, upd_self hf97, upd_self hf123]⟩
                            refine O.move (v := (.bool ((t16 != 0) || (t18 != 0)))) rfl rfl rfl ?_
                            refine WL.cut 3 (fun f w => f 0 = va0 ∧ f 16 = (.pointer (some ⟨b1, 0, none⟩)) ∧ f 21 = (.string t19) ∧ f 95 = va0 ∧ f 96 = (.int .i64 ((a0.length : Nat) : Int)) ∧ f 97 = (.int .i64 (ik1 : Int)) ∧ f 127 = .bool (((t16 != 0) || (t18 != 0)) || (t20 != 0)) ∧ Inv w0 w [boxI b1 39 [(.int .i64 yk1.Number), (.string yk1.Text)], ownI (α := Int) v1 3 t15, ownI (α := Int) v2 3 t17]) ?_ ?_
                            · skip
                              rcases bool_ft ((t16 != 0) || (t18 != 0)) with hc12 | hc12
                              · skip
                                refine WL.reset (i := 124) (v := .bool false) (congrArg Value.bool hc12) ?_
                                refine O.move (v := (.int .i64 t20)) rfl rfl rfl ?_
                                refine O.neq rfl rfl rfl rfl ?_
                                refine O.pick_false (v := (.bool (t20 != 0))) rfl rfl rfl rfl ?_
                                refine WL.nil ?_
                                exact ⟨rfl, rfl, rfl, rfl, rfl, rfl, congrArg Value.bool (or_f hc12), H⟩
                              · skip
                                refine WL.reset (i := 124) (v := .bool true) (congrArg Value.bool hc12) ?_
                                refine O.skip rfl rfl ?_
                                refine O.skip rfl rfl ?_
                                refine O.pick_true (v := (.bool true)) rfl rfl rfl rfl ?_
                                refine WL.nil ?_
                                exact ⟨rfl, rfl, rfl, rfl, rfl, rfl, congrArg Value.bool (or_t hc12), H⟩
                            · skip
                              rintro f w ⟨hf0, hf16, hf21, hf95, hf96, hf97, hf127, H⟩
                              obtain ⟨u10, rfl⟩ : ∃ u10, f = (upd (upd (upd (upd (upd (upd (upd u10 0 va0) 16 (.pointer (some ⟨b1, 0, none⟩))) 21 (.string t19)) 95 va0) 96 (.int .i64 ((a0.length : Nat) : Int))) 97 (.int .i64 (ik1 : Int))) 127 (.bool (((t16 != 0) || (t18 != 0)) || (t20 != 0)))) := ⟨f, by rw [upd_self hf0, upd_self hf16, upd_self hf21, upd_self hf95, upd_self hf96, upd_self hf97, upd_self hf127]⟩
                              refine O.move (v := (.bool (((t16 != 0) || (t18 != 0)) || (t20 != 0)))) rfl rfl rfl ?_
                              refine WL.cut 5 (fun f w => f 0 = va0 ∧ f 95 = va0 ∧ f 96 = (.int .i64 ((a0.length : Nat) : Int)) ∧ f 97 = (.int .i64 (ik1 : Int)) ∧ f 133 = .bool ((((t16 != 0) || (t18 != 0)) || (t20 != 0)) || (!(decide (t19 = yk1.Text)))) ∧ Inv w0 w [boxI b1 39 [(.int .i64 yk1.Number), (.string yk1.Text)], ownI (α := Int) v1 3 t15, ownI (α := Int) v2 3 t17]) ?_ ?_
                              · skip
                                rcases bool_ft (((t16 != 0) || (t18 != 0)) || (t20 != 0)) with hc13 | hc13
                                · skip
                                  refine WL.reset (i := 128) (v := .bool false) (congrArg Value.bool hc13) ?_
                                  refine O.move (v := (.string t19)) rfl rfl rfl ?_
                                  refine O.fieldAddr fd39_1 rfl rfl rfl ?_
                                  refine O.load sc9 rfl rfl rfl (H.cell 0 rfl 1 _ rfl) ?_
                                  refine O.neqS rfl rfl rfl rfl ?_
                                  refine O.pick_false (v := (.bool (!(decide (t19 = yk1.Text))))) rfl rfl rfl rfl ?_
                                  refine WL.nil ?_
                                  exact ⟨rfl, rfl, rfl, rfl, congrArg Value.bool (or_f hc13), H⟩
                                · skip
                                  refine WL.reset (i := 128) (v := .bool true) (congrArg Value.bool hc13) ?_
                                  refine O.skip rfl rfl ?_
                                  refine O.skip rfl rfl ?_
                                  refine O.skip rfl rfl ?_
                                  refine O.skip rfl rfl ?_
                                  refine O.pick_true (v := (.bool true)) rfl rfl rfl rfl ?_
                                  refine WL.nil ?_
                                  exact ⟨rfl, rfl, rfl, rfl, congrArg Value.bool (or_t hc13), H⟩
                              · skip
                                rintro f w ⟨hf0, hf95, hf96, hf97, hf133, H⟩
                                obtain ⟨u11, rfl⟩ : ∃ u11, f = (upd (upd (upd (upd (upd u11 0 va0) 95 va0) 96 (.int .i64 ((a0.length : Nat) : Int))) 97 (.int .i64 (ik1 : Int))) 133 (.bool ((((t16 != 0) || (t18 != 0)) || (t20 != 0)) || (!(decide (t19 = yk1.Text)))))) := ⟨f, by rw [upd_self hf0, upd_self hf95, upd_self hf96, upd_self hf97, upd_self hf133]⟩
                                refine WL.nil ?_
                                rcases ite_some hm2 with ⟨hc14, hm2⟩ | ⟨hc14, hm2⟩
                                · refine W.cond_true (congrArg Value.bool hc14) ?_
                                  refine W.seq ?_
                                  refine W.region ?_
                                  refine O.assign (v := (.bool false)) rfl rfl rfl ?_
                                  refine WL.nil ?_
                                  refine W.ret ?_
                                  obtain rfl := Option.some.inj hm2
                                  refine ⟨_, rfl, ?_⟩
                                  rintro rfl
                                  have hq : false = r0 := Option.some.inj (show some false = some r0 from hm)
                                  subst hq
                                  exact ends1 Tryd.results4 rfl ⟨_, rfl, H.base, rfl⟩
                                · refine W.cond_false (congrArg Value.bool hc14) ?_
                                  refine W.skip ?_
                                  refine W.region ?_
                                  refine O.add rfl rfl rfl rfl hinck1 ?_
                                  refine O.move (v := .int .i64 ((ik1 : Int) + 1)) rfl rfl rfl ?_
                                  refine WL.nil ?_
                                  have H := H.keep [] [] rfl (by decide)
                                  obtain rfl := Option.some.inj hm2
                                  exact ⟨_, rfl, rfl, drop_next hdropk1, rfl, rfl, rfl, rfl, H⟩
                        · skip
                          rintro ik1 _ f w ⟨rfl, hdropk1, hf97, hf96, hf0, hf95, H⟩ hfin
                          have hltk1 := drop_end hdropk1
                          obtain ⟨u12, rfl⟩ : ∃ u12, f = (upd (upd (upd (upd u12 97 (.int .i64 (ik1 : Int))) 96 (.int .i64 ((a0.length : Nat) : Int))) 0 va0) 95 va0) := ⟨f, by rw [upd_self hf97, upd_self hf96, upd_self hf0, upd_self hf95]⟩
                          refine W.seq ?_
                          refine W.region ?_
                          refine O.lss rfl rfl rfl rfl ?_
                          refine WL.nil ?_
                          refine W.seq ?_
                          refine W.cond_false (congrArg Value.bool (decide_eq_false hltk1)) ?_
                          refine W.exit ?_
                          obtain rfl : Ctl.next () = o1 := hfin
                          refine xT rfl ?_
                          exact ⟨rfl, H⟩
                      · skip
                        rintro f w ⟨rfl, H⟩
                        refine W.seq ?_
                        refine W.region ?_
                        obtain ⟨t21, hy14, hm⟩ := bind_some hm
                        refine O.call Tryd.call7 rfl rfl rfl (c_noongunlaw07_awake  hy14) ?_
                        rintro _ w16 hb15 rfl
                        have H := H.ext hb15
                        refine O.assign (v := (.bool t21)) rfl rfl rfl ?_
                        refine WL.nil ?_
                        refine W.ret ?_
                        have hq : t21 = r0 := Option.some.inj (show some t21 = some r0 from hm)
                        subst hq
                        exact ends1 Tryd.results4 rfl ⟨_, rfl, H.base, rfl⟩

end Go.Proofs
