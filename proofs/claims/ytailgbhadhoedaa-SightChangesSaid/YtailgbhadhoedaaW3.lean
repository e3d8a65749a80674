/-
  The walks: each function does what its model says, where the model has a value. No other condition.
-/
import Derived.Test.YtailgbhadhoedaaW2
namespace Go.Proofs
open Go.Fw Go.RowKit Go.Shelf
set_option maxRecDepth 20000 in
theorem c_sight_Shifted {w0 : World} (va0_0 : Value) (va0_1 : Value) (a0 : GNet) (ha0_0 : SliceR w0 va0_0 a0.Rates) (ha0_1 : SliceR w0 va0_1 a0.Sights) (a1 : Int) (a2 : Int) {r0 : GNet} {r1 : Int} (hm : sight_Shifted a0 a1 a2 = some (r0, r1)) :
  Calls Try.prog 34 #[(.agg #[va0_0, va0_1]), (.int .i64 a1), (.int .i64 a2)] w0 (Ret w0 fun w v => ∃ vr0_0 : Value, ∃ vr0_1 : Value, v = .tuple #[(.agg #[vr0_0, vr0_1]), (.int .i64 r1)] ∧ Inv w0 w [ownI (α := Int) vr0_0 3 r0.Rates, ownI (α := GSight) vr0_1 39 r0.Sights]) := by
 unfold sight_Shifted at hm
 refine calls_of_W Try.func34 rfl Try.ntmps34 (Nat.le_of_ble_eq_true rfl) ?_
 have H := Inv.start (w := w0)
 refine W.seq ?_
 refine W.region ?_
 refine O.box [va0_0, va0_1] H rfl rfl rfl rfl ?_
 intro b1 w1 H hb1
 refine O.alloc [(.slice none 0 0), (.slice none 0 0)] ze25 H rfl rfl rfl ?_
 intro b2 w2 H hb2
 have H := H.addNil (α := Int) (E := 3)
 have H := H.addNil (α := GSight) (E := 39)
 refine O.assign (v := (.int .i64 0)) rfl rfl rfl ?_
 refine WL.nil ?_
 refine W.seq ?_
 refine W.block ?_
 refine W.seq ?_
 refine W.region ?_
 refine O.loadA [va0_0, va0_1] ag25 rfl rfl rfl rfl (H.cell 0 rfl) ?_
 obtain ⟨t1, hy1, hm⟩ := bind_some hm
 refine O.call Try.call33 rfl rfl rfl (c_sight_Valid _ _ (GNet.mk a0.Rates a0.Sights) (H.arg ha0_0) (H.arg ha0_1) hy1) ?_
 rintro _ w3 hb3 rfl
 have H := H.ext hb3
 refine O.not rfl rfl rfl ?_
 refine O.assign (v := (.bool (!t1))) rfl rfl rfl ?_
 refine WL.nil ?_
 rcases ite_some hm with ⟨hc1, hm⟩ | ⟨hc1, hm⟩
 ·
  refine W.cond_true (congrArg Value.bool hc1) ?_
  refine W.seq ?_
  refine W.region ?_
  refine O.build (v := (.agg #[(.slice none 0 0), (.slice none 0 0)])) (fun w => bd25_  w) rfl rfl rfl ?_
  have H := H.addNil (α := Int) (E := 3)
  have H := H.addNil (α := GSight) (E := 39)
  refine O.store 1 0 [(.slice none 0 0), (.slice none 0 0)] [(.slice none 0 0), (.slice none 0 0)] sz25 H rfl rfl rfl rfl rfl rfl ⟨⟨rfl, rfl⟩, rfl⟩ (one_cons rfl (one_cons rfl one_nil)) ?_
  intro w4 H
  refine O.assign (v := (.int .i64 1)) rfl rfl rfl ?_
  refine WL.nil ?_
  refine W.ret ?_
  have hq : ((GNet.mk ([] : List Int) ([] : List GSight)), 1) = (r0, r1) := Option.some.inj (show some ((GNet.mk ([] : List Int) ([] : List GSight)), 1) = some (r0, r1) from hm)
  obtain ⟨he0, hq0⟩ := Prod.mk.inj hq; clear hq; subst he0
  subst hq0
  exact ends2 Try.results34 ⟨_, rfl, run_loadVar_agg ag25 rfl (H.cell 1 rfl)⟩ rfl ⟨_, rfl, H.base, ⟨_, _, rfl, H.pick [4, 5] [ownI (α := Int) (.slice none 0 0) 3 ([] : List Int), ownI (α := GSight) (.slice none 0 0) 39 ([] : List GSight)] rfl (by decide)⟩⟩
 ·
  refine W.cond_false (congrArg Value.bool hc1) ?_
  refine W.seq ?_
  refine W.region ?_
  refine O.move (v := (.int .i64 a1)) rfl rfl rfl ?_
  refine O.fieldAddr fd25_0 rfl rfl rfl ?_
  refine O.load sc22 rfl rfl rfl (H.cell 0 rfl 0 _ rfl) ?_
  refine O.lenS Try.underlying22 (H.arg ha0_0) rfl rfl rfl ?_
  obtain ⟨t2, ht2, hm⟩ := bind_some hm
  refine O.sub rfl rfl rfl rfl ht2 ?_
  obtain ⟨t3, hy2, hm⟩ := bind_some hm
  refine O.call Try.call55 rfl rfl rfl (c_sight_within _ _ _ hy2) ?_
  rintro _ w5 hb4 rfl
  have H := H.ext hb4
  refine O.not rfl rfl rfl ?_
  refine O.assign (v := (.bool (!t3))) rfl rfl rfl ?_
  refine WL.nil ?_
  rcases ite_some hm with ⟨hc2, hm⟩ | ⟨hc2, hm⟩
  ·
   refine W.cond_true (congrArg Value.bool hc2) ?_
   refine W.seq ?_
   refine W.region ?_
   refine O.build (v := (.agg #[(.slice none 0 0), (.slice none 0 0)])) (fun w => bd25_  w) rfl rfl rfl ?_
   have H := H.addNil (α := Int) (E := 3)
   have H := H.addNil (α := GSight) (E := 39)
   refine O.store 1 0 [(.slice none 0 0), (.slice none 0 0)] [(.slice none 0 0), (.slice none 0 0)] sz25 H rfl rfl rfl rfl rfl rfl ⟨⟨rfl, rfl⟩, rfl⟩ (one_cons rfl (one_cons rfl one_nil)) ?_
   intro w6 H
   refine O.assign (v := (.int .i64 5)) rfl rfl rfl ?_
   refine WL.nil ?_
   refine W.ret ?_
   have hq : ((GNet.mk ([] : List Int) ([] : List GSight)), 5) = (r0, r1) := Option.some.inj (show some ((GNet.mk ([] : List Int) ([] : List GSight)), 5) = some (r0, r1) from hm)
   obtain ⟨he0, hq0⟩ := Prod.mk.inj hq; clear hq; subst he0
   subst hq0
   exact ends2 Try.results34 ⟨_, rfl, run_loadVar_agg ag25 rfl (H.cell 1 rfl)⟩ rfl ⟨_, rfl, H.base, ⟨_, _, rfl, H.pick [4, 5] [ownI (α := Int) (.slice none 0 0) 3 ([] : List Int), ownI (α := GSight) (.slice none 0 0) 39 ([] : List GSight)] rfl (by decide)⟩⟩
  ·
   refine W.cond_false (congrArg Value.bool hc2) ?_
   refine W.seq ?_
   refine W.region ?_
   refine O.move (v := (.int .i64 a2)) rfl rfl rfl ?_
   obtain ⟨t4, hy3, hm⟩ := bind_some hm
   refine O.call Try.call55 rfl rfl rfl (c_sight_within _ _ _ hy3) ?_
   rintro _ w7 hb5 rfl
   have H := H.ext hb5
   refine O.not rfl rfl rfl ?_
   refine O.assign (v := (.bool (!t4))) rfl rfl rfl ?_
   refine WL.nil ?_
   rcases ite_some hm with ⟨hc3, hm⟩ | ⟨hc3, hm⟩
   ·
    refine W.cond_true (congrArg Value.bool hc3) ?_
    refine W.seq ?_
    refine W.region ?_
    refine O.build (v := (.agg #[(.slice none 0 0), (.slice none 0 0)])) (fun w => bd25_  w) rfl rfl rfl ?_
    have H := H.addNil (α := Int) (E := 3)
    have H := H.addNil (α := GSight) (E := 39)
    refine O.store 1 0 [(.slice none 0 0), (.slice none 0 0)] [(.slice none 0 0), (.slice none 0 0)] sz25 H rfl rfl rfl rfl rfl rfl ⟨⟨rfl, rfl⟩, rfl⟩ (one_cons rfl (one_cons rfl one_nil)) ?_
    intro w8 H
    refine O.assign (v := (.int .i64 7)) rfl rfl rfl ?_
    refine WL.nil ?_
    refine W.ret ?_
    have hq : ((GNet.mk ([] : List Int) ([] : List GSight)), 7) = (r0, r1) := Option.some.inj (show some ((GNet.mk ([] : List Int) ([] : List GSight)), 7) = some (r0, r1) from hm)
    obtain ⟨he0, hq0⟩ := Prod.mk.inj hq; clear hq; subst he0
    subst hq0
    exact ends2 Try.results34 ⟨_, rfl, run_loadVar_agg ag25 rfl (H.cell 1 rfl)⟩ rfl ⟨_, rfl, H.base, ⟨_, _, rfl, H.pick [4, 5] [ownI (α := Int) (.slice none 0 0) 3 ([] : List Int), ownI (α := GSight) (.slice none 0 0) 39 ([] : List GSight)] rfl (by decide)⟩⟩
   ·
    refine W.cond_false (congrArg Value.bool hc3) ?_
    refine W.skip ?_
    refine W.seq ?_
    refine W.region ?_
    refine O.fieldAddr fd25_0 rfl rfl rfl ?_
    refine O.load sc22 rfl rfl rfl (H.cell 0 rfl 0 _ rfl) ?_
    obtain ⟨t5, hy4, hm⟩ := bind_some hm
    refine O.call Try.call65 rfl rfl rfl (c_slices_Clone_int _ _ (H.arg ha0_0) hy4) ?_
    rintro v1 w9 hb6 ho1
    have H := H.addOwn hb6 ho1
    obtain ⟨ad1, cap1, hvad1, _⟩ := (H.own 4 rfl).shape
    refine O.build (v := (.agg #[v1, (.slice none 0 0)])) (fun w => by rw [hvad1]; exact bd25_0 _ _ _ w) rfl rfl rfl ?_
    refine O.alloc [(.slice none 0 0), (.slice none 0 0)] ze25 H rfl rfl rfl ?_
    intro b3 w10 H hb7
    have H := H.addNil (α := Int) (E := 3)
    have H := H.addNil (α := GSight) (E := 39)
    have H := H.addNil (α := GSight) (E := 39)
    refine O.store 5 0 [v1, (.slice none 0 0)] [v1, (.slice none 0 0)] sz25 H rfl rfl rfl rfl rfl rfl ⟨⟨rfl, rfl⟩, rfl⟩ (one_cons (SliceR.one (H.own 4 rfl)) (one_cons rfl one_nil)) ?_
    intro w11 H
    refine WL.nil ?_
    refine W.seq ?_
    refine W.seq ?_
    refine W.region ?_
    refine O.fieldAddr fd25_1 rfl rfl rfl ?_
    refine O.load sc23 rfl rfl rfl (H.cell 0 rfl 1 _ rfl) ?_
    refine O.lenS Try.underlying23 (H.arg ha0_1) rfl rfl rfl ?_
    refine O.move (v := (.int .i64 0)) rfl rfl rfl ?_
    refine WL.nil ?_
    obtain ⟨o1, hm1, hm⟩ := bind_some hm
    refine W.via (fun f w => ∃ s1 : (List GSight), ∃ v5 : Value, o1 = .next s1 ∧ f 6 = (.pointer (some ⟨b2, 0, none⟩)) ∧ f 8 = (.pointer (some ⟨b3, 0, none⟩)) ∧ Inv w0 w [boxI b2 25 [(.slice none 0 0), (.slice none 0 0)], ownI (α := Int) (.slice none 0 0) 3 ([] : List Int), ownI (α := GSight) (.slice none 0 0) 39 ([] : List GSight), ownI (α := Int) v1 3 t5, boxI b3 25 [v1, v5], ownI (α := GSight) v5 39 s1]) ?_ ?_
    ·
     refine W.block ?_
     have H := H.keep [0, 1, 2, 3, 4, 5, 8] [boxI b1 25 [va0_0, va0_1], boxI b2 25 [(.slice none 0 0), (.slice none 0 0)], ownI (α := Int) (.slice none 0 0) 3 ([] : List Int), ownI (α := GSight) (.slice none 0 0) 39 ([] : List GSight), ownI (α := Int) v1 3 t5, boxI b3 25 [v1, (.slice none 0 0)], ownI (α := GSight) (.slice none 0 0) 39 ([] : List GSight)] rfl (by decide)
     refine W.rangeL (i := 0) hm1 (fun rem ik1 s f w => ∃ z2 : (List GSight), ∃ v3 : Value, z2 = s ∧ a0.Sights.drop ik1 = rem ∧ f 37 = .int .i64 (ik1 : Int) ∧ f 36 = (.int .i64 ((a0.Sights.length : Nat) : Int)) ∧ f 1 = (.int .i64 a1) ∧ f 2 = (.int .i64 a2) ∧ f 3 = (.pointer (some ⟨b1, 0, none⟩)) ∧ f 6 = (.pointer (some ⟨b2, 0, none⟩)) ∧ f 8 = (.pointer (some ⟨b3, 0, none⟩)) ∧ f 35 = va0_1 ∧ Inv w0 w [boxI b1 25 [va0_0, va0_1], boxI b2 25 [(.slice none 0 0), (.slice none 0 0)], ownI (α := Int) (.slice none 0 0) 3 ([] : List Int), ownI (α := GSight) (.slice none 0 0) 39 ([] : List GSight), ownI (α := Int) v1 3 t5, boxI b3 25 [v1, v3], ownI (α := GSight) v3 39 z2]) ?_ ?_ ?_
     ·
      exact ⟨_, (.slice none 0 0), rfl, List.drop_zero, rfl, rfl, rfl, rfl, rfl, rfl, rfl, rfl, H⟩
     ·
      rintro yk1 xs ik1 _ st f w ⟨z2, v3, rfl, hdropk1, hf37, hf36, hf1, hf2, hf3, hf6, hf8, hf35, H⟩ hm2
      have hltk1 := drop_lt hdropk1; have hixk1 := drop_idx hdropk1
      obtain ⟨u1, rfl⟩ := up8 hf37 hf36 hf1 hf2 hf3 hf6 hf8 hf35
      have hinck1 := addI_lt hltk1 (H.arg ha0_1).len_le
      refine W.seq ?_
      refine W.region ?_
      refine O.lss rfl rfl rfl rfl ?_
      refine WL.nil ?_
      refine W.seq ?_
      refine W.cond_true (congrArg Value.bool (decide_eq_true hltk1)) ?_
      refine W.skip ?_
      refine W.seq ?_
      obtain ⟨o2, hm3, hm2⟩ := bind_some hm2
      refine W.via (fun f w => ∃ s2 : (List GSight), ∃ v6 : Value, o2 = .next s2 ∧ f 1 = (.int .i64 a1) ∧ f 2 = (.int .i64 a2) ∧ f 3 = (.pointer (some ⟨b1, 0, none⟩)) ∧ f 6 = (.pointer (some ⟨b2, 0, none⟩)) ∧ f 8 = (.pointer (some ⟨b3, 0, none⟩)) ∧ f 35 = va0_1 ∧ f 36 = (.int .i64 ((a0.Sights.length : Nat) : Int)) ∧ f 37 = (.int .i64 (ik1 : Int)) ∧ Inv w0 w [boxI b1 25 [va0_0, va0_1], boxI b2 25 [(.slice none 0 0), (.slice none 0 0)], ownI (α := Int) (.slice none 0 0) 3 ([] : List Int), ownI (α := GSight) (.slice none 0 0) 39 ([] : List GSight), ownI (α := Int) v1 3 t5, boxI b3 25 [v1, v6], ownI (α := GSight) v6 39 s2]) ?_ ?_
      ·
       refine W.block ?_
       refine W.seq ?_
       refine W.region ?_
       obtain ⟨p1, hp1, hrp1⟩ := fix_indexAddr Try.underlying23 sz39 ha0_1 hixk1
       refine hrp1 rfl rfl rfl rfl ?_
       refine O.loadA [(.int .i64 yk1.At), (.int .i64 yk1.A), (.int .i64 yk1.B), (.int .i64 yk1.Lo), (.int .i64 yk1.Hi)] ag39 rfl rfl rfl rfl ((hp1.mono H.base).flat) ?_
       refine O.alloc [(.int .i64 0), (.int .i64 0), (.int .i64 0), (.int .i64 0), (.int .i64 0)] ze39 H rfl rfl rfl ?_
       intro b4 w12 H hb8
       refine O.store 7 0 [(.int .i64 yk1.At), (.int .i64 yk1.A), (.int .i64 yk1.B), (.int .i64 yk1.Lo), (.int .i64 yk1.Hi)] [(.int .i64 yk1.At), (.int .i64 yk1.A), (.int .i64 yk1.B), (.int .i64 yk1.Lo), (.int .i64 yk1.Hi)] sz39 H rfl rfl rfl rfl rfl rfl ⟨⟨rfl, rfl⟩, rfl⟩ (one_cons rfl (one_cons rfl (one_cons rfl (one_cons rfl (one_cons rfl one_nil))))) ?_
       intro w13 H
       refine WL.nil ?_
       refine W.seq ?_
       refine W.seq ?_
       refine W.region ?_
       refine O.move (v := (.int .i64 a1)) rfl rfl rfl ?_
       refine WL.nil ?_
       obtain ⟨⟨s3, s4⟩, hm4, hm3⟩ := bind_some hm3
       refine W.via (fun f w => f 1 = (.int .i64 a1) ∧ f 2 = (.int .i64 a2) ∧ f 3 = (.pointer (some ⟨b1, 0, none⟩)) ∧ f 6 = (.pointer (some ⟨b2, 0, none⟩)) ∧ f 8 = (.pointer (some ⟨b3, 0, none⟩)) ∧ f 10 = (.pointer (some ⟨b4, 0, none⟩)) ∧ f 35 = va0_1 ∧ f 36 = (.int .i64 ((a0.Sights.length : Nat) : Int)) ∧ f 37 = (.int .i64 (ik1 : Int)) ∧ Inv w0 w [boxI b1 25 [va0_0, va0_1], boxI b2 25 [(.slice none 0 0), (.slice none 0 0)], ownI (α := Int) (.slice none 0 0) 3 ([] : List Int), ownI (α := GSight) (.slice none 0 0) 39 ([] : List GSight), ownI (α := Int) v1 3 t5, boxI b3 25 [v1, v3], ownI (α := GSight) v3 39 z2, boxI b4 39 [(.int .i64 yk1.At), (.int .i64 yk1.A), (.int .i64 yk1.B), (.int .i64 s3), (.int .i64 s4)]]) ?_ ?_
       ·
        refine W.block ?_
        refine W.seq ?_
        refine W.region ?_
        refine O.fieldAddr fd39_1 rfl rfl rfl ?_
        refine O.load sc3 rfl rfl rfl (H.cell 7 rfl 1 _ rfl) ?_
        refine O.eql rfl rfl rfl rfl ?_
        refine O.assign (v := (.bool (a1 == yk1.A))) rfl rfl rfl ?_
        refine WL.nil ?_
        obtain ⟨⟨s5, s6⟩, hm5, hm4⟩ := bind_some hm4
        refine W.via (fun f w => f 1 = (.int .i64 a1) ∧ f 2 = (.int .i64 a2) ∧ f 3 = (.pointer (some ⟨b1, 0, none⟩)) ∧ f 6 = (.pointer (some ⟨b2, 0, none⟩)) ∧ f 8 = (.pointer (some ⟨b3, 0, none⟩)) ∧ f 10 = (.pointer (some ⟨b4, 0, none⟩)) ∧ f 35 = va0_1 ∧ f 36 = (.int .i64 ((a0.Sights.length : Nat) : Int)) ∧ f 37 = (.int .i64 (ik1 : Int)) ∧ Inv w0 w [boxI b1 25 [va0_0, va0_1], boxI b2 25 [(.slice none 0 0), (.slice none 0 0)], ownI (α := Int) (.slice none 0 0) 3 ([] : List Int), ownI (α := GSight) (.slice none 0 0) 39 ([] : List GSight), ownI (α := Int) v1 3 t5, boxI b3 25 [v1, v3], ownI (α := GSight) v3 39 z2, boxI b4 39 [(.int .i64 yk1.At), (.int .i64 yk1.A), (.int .i64 yk1.B), (.int .i64 s5), (.int .i64 s6)]]) ?_ ?_
        ·
         rcases ite_some hm5 with ⟨hc4, hm5⟩ | ⟨hc4, hm5⟩
         ·
          refine W.cond_true (congrArg Value.bool hc4) ?_
          refine W.region ?_
          refine O.fieldAddr fd39_3 rfl rfl rfl ?_
          refine O.load sc3 rfl rfl rfl (H.cell 7 rfl 3 _ rfl) ?_
          refine O.move (v := (.int .i64 a2)) rfl rfl rfl ?_
          obtain ⟨t6, ht6, hm5⟩ := bind_some hm5
          refine O.add rfl rfl rfl rfl ht6 ?_
          refine O.fieldAddr fd39_4 rfl rfl rfl ?_
          refine O.load sc3 rfl rfl rfl (H.cell 7 rfl 4 _ rfl) ?_
          refine O.move (v := (.int .i64 a2)) rfl rfl rfl ?_
          obtain ⟨t7, ht7, hm5⟩ := bind_some hm5
          refine O.add rfl rfl rfl rfl ht7 ?_
          refine O.fieldAddr fd39_3 rfl rfl rfl ?_
          refine O.store 7 3 [(.int .i64 t6)] [(.int .i64 yk1.At), (.int .i64 yk1.A), (.int .i64 yk1.B), (.int .i64 t6), (.int .i64 yk1.Hi)] sz3 H rfl rfl rfl rfl rfl rfl ⟨⟨rfl, rfl⟩, rfl⟩ (one_cons rfl one_nil) ?_
          intro w14 H
          refine O.fieldAddr fd39_4 rfl rfl rfl ?_
          refine O.store 7 4 [(.int .i64 t7)] [(.int .i64 yk1.At), (.int .i64 yk1.A), (.int .i64 yk1.B), (.int .i64 t6), (.int .i64 t7)] sz3 H rfl rfl rfl rfl rfl rfl ⟨⟨rfl, rfl⟩, rfl⟩ (one_cons rfl one_nil) ?_
          intro w15 H
          refine WL.nil ?_
          have hq : (t6, t7) = (s5, s6) := Option.some.inj (show some (t6, t7) = some (s5, s6) from hm5)
          obtain ⟨he0, hq0⟩ := Prod.mk.inj hq; clear hq; subst he0
          subst hq0
          exact ⟨rfl, rfl, rfl, rfl, rfl, rfl, rfl, rfl, rfl, H⟩
         ·
          refine W.cond_false (congrArg Value.bool hc4) ?_
          refine W.seq ?_
          refine W.region ?_
          refine O.fieldAddr fd39_2 rfl rfl rfl ?_
          refine O.load sc3 rfl rfl rfl (H.cell 7 rfl 2 _ rfl) ?_
          refine O.eql rfl rfl rfl rfl ?_
          refine O.assign (v := (.bool (a1 == yk1.B))) rfl rfl rfl ?_
          refine WL.nil ?_
          obtain ⟨⟨s7, s8⟩, hm6, hm5⟩ := bind_some hm5
          refine W.via (fun f w => f 1 = (.int .i64 a1) ∧ f 2 = (.int .i64 a2) ∧ f 3 = (.pointer (some ⟨b1, 0, none⟩)) ∧ f 6 = (.pointer (some ⟨b2, 0, none⟩)) ∧ f 8 = (.pointer (some ⟨b3, 0, none⟩)) ∧ f 10 = (.pointer (some ⟨b4, 0, none⟩)) ∧ f 35 = va0_1 ∧ f 36 = (.int .i64 ((a0.Sights.length : Nat) : Int)) ∧ f 37 = (.int .i64 (ik1 : Int)) ∧ Inv w0 w [boxI b1 25 [va0_0, va0_1], boxI b2 25 [(.slice none 0 0), (.slice none 0 0)], ownI (α := Int) (.slice none 0 0) 3 ([] : List Int), ownI (α := GSight) (.slice none 0 0) 39 ([] : List GSight), ownI (α := Int) v1 3 t5, boxI b3 25 [v1, v3], ownI (α := GSight) v3 39 z2, boxI b4 39 [(.int .i64 yk1.At), (.int .i64 yk1.A), (.int .i64 yk1.B), (.int .i64 s7), (.int .i64 s8)]]) ?_ ?_
          ·
           rcases ite_some hm6 with ⟨hc5, hm6⟩ | ⟨hc5, hm6⟩
           ·
            refine W.cond_true (congrArg Value.bool hc5) ?_
            refine W.region ?_
            refine O.fieldAddr fd39_3 rfl rfl rfl ?_
            refine O.load sc3 rfl rfl rfl (H.cell 7 rfl 3 _ rfl) ?_
            refine O.move (v := (.int .i64 a2)) rfl rfl rfl ?_
            obtain ⟨t8, ht8, hm6⟩ := bind_some hm6
            refine O.sub rfl rfl rfl rfl ht8 ?_
            refine O.fieldAddr fd39_4 rfl rfl rfl ?_
            refine O.load sc3 rfl rfl rfl (H.cell 7 rfl 4 _ rfl) ?_
            refine O.move (v := (.int .i64 a2)) rfl rfl rfl ?_
            obtain ⟨t9, ht9, hm6⟩ := bind_some hm6
            refine O.sub rfl rfl rfl rfl ht9 ?_
            refine O.fieldAddr fd39_3 rfl rfl rfl ?_
            refine O.store 7 3 [(.int .i64 t8)] [(.int .i64 yk1.At), (.int .i64 yk1.A), (.int .i64 yk1.B), (.int .i64 t8), (.int .i64 yk1.Hi)] sz3 H rfl rfl rfl rfl rfl rfl ⟨⟨rfl, rfl⟩, rfl⟩ (one_cons rfl one_nil) ?_
            intro w16 H
            refine O.fieldAddr fd39_4 rfl rfl rfl ?_
            refine O.store 7 4 [(.int .i64 t9)] [(.int .i64 yk1.At), (.int .i64 yk1.A), (.int .i64 yk1.B), (.int .i64 t8), (.int .i64 t9)] sz3 H rfl rfl rfl rfl rfl rfl ⟨⟨rfl, rfl⟩, rfl⟩ (one_cons rfl one_nil) ?_
            intro w17 H
            refine WL.nil ?_
            have hq : (t8, t9) = (s7, s8) := Option.some.inj (show some (t8, t9) = some (s7, s8) from hm6)
            obtain ⟨he0, hq0⟩ := Prod.mk.inj hq; clear hq; subst he0
            subst hq0
            exact ⟨rfl, rfl, rfl, rfl, rfl, rfl, rfl, rfl, rfl, H⟩
           ·
            refine W.cond_false (congrArg Value.bool hc5) ?_
            refine W.skip ?_
            have hq : (yk1.Lo, yk1.Hi) = (s7, s8) := Option.some.inj (show some (yk1.Lo, yk1.Hi) = some (s7, s8) from hm6)
            obtain ⟨he0, hq0⟩ := Prod.mk.inj hq; clear hq; subst he0
            subst hq0
            exact ⟨rfl, rfl, rfl, rfl, rfl, rfl, rfl, rfl, rfl, H⟩
          ·
           rintro f w ⟨hf1, hf2, hf3, hf6, hf8, hf10, hf35, hf36, hf37, H⟩
           obtain ⟨u2, rfl⟩ := up9 hf1 hf2 hf3 hf6 hf8 hf10 hf35 hf36 hf37
           have hq : (s7, s8) = (s5, s6) := Option.some.inj (show some (s7, s8) = some (s5, s6) from hm5)
           obtain ⟨he0, hq0⟩ := Prod.mk.inj hq; clear hq; subst he0
           subst hq0
           exact ⟨rfl, rfl, rfl, rfl, rfl, rfl, rfl, rfl, rfl, H⟩
        ·
         rintro f w ⟨hf1, hf2, hf3, hf6, hf8, hf10, hf35, hf36, hf37, H⟩
         obtain ⟨u3, rfl⟩ := up9 hf1 hf2 hf3 hf6 hf8 hf10 hf35 hf36 hf37
         have hq : (s5, s6) = (s3, s4) := Option.some.inj (show some (s5, s6) = some (s3, s4) from hm4)
         obtain ⟨he0, hq0⟩ := Prod.mk.inj hq; clear hq; subst he0
         subst hq0
         exact ⟨rfl, rfl, rfl, rfl, rfl, rfl, rfl, rfl, rfl, H⟩
       ·
        rintro f w ⟨hf1, hf2, hf3, hf6, hf8, hf10, hf35, hf36, hf37, H⟩
        obtain ⟨u4, rfl⟩ := up9 hf1 hf2 hf3 hf6 hf8 hf10 hf35 hf36 hf37
        refine W.seq ?_
        refine W.seq ?_
        refine W.region ?_
        refine O.loadA [(.int .i64 yk1.At), (.int .i64 yk1.A), (.int .i64 yk1.B), (.int .i64 s3), (.int .i64 s4)] ag39 rfl rfl rfl rfl (H.cell 7 rfl) ?_
        refine O.fieldAddr fd25_0 rfl rfl rfl ?_
        refine O.load sc22 rfl rfl rfl (H.cell 0 rfl 0 _ rfl) ?_
        refine O.lenS Try.underlying22 (H.arg ha0_0) rfl rfl rfl ?_
        obtain ⟨t10, hy5, hm3⟩ := bind_some hm3
        refine O.call Try.call64 rfl rfl rfl (c_sight_validSight (GSight.mk yk1.At yk1.A yk1.B s3 s4) _ hy5) ?_
        rintro _ w18 hb9 rfl
        have H := H.ext hb9
        refine O.not rfl rfl rfl ?_
        refine WL.nil ?_
        rcases ite_some hm3 with ⟨hc6, hm3⟩ | ⟨hc6, hm3⟩
        ·
         refine W.cond_true (congrArg Value.bool hc6) ?_
         refine W.seq ?_
         refine W.region ?_
         refine O.build (v := (.agg #[(.slice none 0 0), (.slice none 0 0)])) (fun w => bd25_  w) rfl rfl rfl ?_
         have H := H.addNil (α := Int) (E := 3)
         have H := H.addNil (α := GSight) (E := 39)
         refine O.store 1 0 [(.slice none 0 0), (.slice none 0 0)] [(.slice none 0 0), (.slice none 0 0)] sz25 H rfl rfl rfl rfl rfl rfl ⟨⟨rfl, rfl⟩, rfl⟩ (one_cons rfl (one_cons rfl one_nil)) ?_
         intro w19 H
         refine O.assign (v := (.int .i64 4)) rfl rfl rfl ?_
         refine WL.nil ?_
         refine W.ret ?_
         obtain rfl := Option.some.inj hm3
         obtain rfl := Option.some.inj hm2
         refine ⟨_, rfl, ?_⟩
         rintro rfl
         have hq : ((GNet.mk ([] : List Int) ([] : List GSight)), 4) = (r0, r1) := Option.some.inj (show some ((GNet.mk ([] : List Int) ([] : List GSight)), 4) = some (r0, r1) from hm)
         obtain ⟨he0, hq0⟩ := Prod.mk.inj hq; clear hq; subst he0
         subst hq0
         exact ends2 Try.results34 ⟨_, rfl, run_loadVar_agg ag25 rfl (H.cell 1 rfl)⟩ rfl ⟨_, rfl, H.base, ⟨_, _, rfl, H.pick [8, 9] [ownI (α := Int) (.slice none 0 0) 3 ([] : List Int), ownI (α := GSight) (.slice none 0 0) 39 ([] : List GSight)] rfl (by decide)⟩⟩
        ·
         refine W.cond_false (congrArg Value.bool hc6) ?_
         refine W.skip ?_
         refine W.region ?_
         refine O.fieldAddr fd25_1 rfl rfl rfl ?_
         refine O.load sc23 rfl rfl rfl (H.cell 5 rfl 1 _ rfl) ?_
         refine O.loadA [(.int .i64 yk1.At), (.int .i64 yk1.A), (.int .i64 yk1.B), (.int .i64 s3), (.int .i64 s4)] ag39 rfl rfl rfl rfl (H.cell 7 rfl) ?_
         refine O.buildSlice (α := GSight) [(.agg (Flat.cells (GSight.mk yk1.At yk1.A yk1.B s3 s4)).toArray)] [(GSight.mk yk1.At yk1.A yk1.B s3 s4)] Try.underlying23 el39 H rfl rfl rfl rfl rfl rfl rfl ?_
         intro v7 w20 H hb10
         obtain ⟨t11, ht11, hm3⟩ := bind_some hm3
         refine O.append 6 Try.underlying23 el39 rfl H rfl (H.own 8 rfl) ht11 rfl rfl rfl rfl ?_
         intro v8 w21 H
         refine O.fieldAddr fd25_1 rfl rfl rfl ?_
         refine O.store 5 1 [v8] [v1, v8] sz23 H rfl rfl rfl rfl rfl (SliceR.cells1 (H.own 6 rfl)) ⟨⟨rfl, rfl⟩, rfl⟩ (one_cons (SliceR.one (H.own 6 rfl)) one_nil) ?_
         intro w22 H
         refine WL.nil ?_
         have H := H.keep [0, 1, 2, 3, 4, 5, 6] [boxI b1 25 [va0_0, va0_1], boxI b2 25 [(.slice none 0 0), (.slice none 0 0)], ownI (α := Int) (.slice none 0 0) 3 ([] : List Int), ownI (α := GSight) (.slice none 0 0) 39 ([] : List GSight), ownI (α := Int) v1 3 t5, boxI b3 25 [v1, v8], ownI (α := GSight) v8 39 t11] rfl (by decide)
         obtain rfl := Option.some.inj hm3
         exact ⟨_, v8, rfl, rfl, rfl, rfl, rfl, rfl, rfl, rfl, rfl, H⟩
      ·
       rintro f w ⟨s2, v6, rfl, hf1, hf2, hf3, hf6, hf8, hf35, hf36, hf37, H⟩
       obtain ⟨u5, rfl⟩ := up8 hf1 hf2 hf3 hf6 hf8 hf35 hf36 hf37
       refine W.region ?_
       refine O.add rfl rfl rfl rfl hinck1 ?_
       refine O.move (v := .int .i64 ((ik1 : Int) + 1)) rfl rfl rfl ?_
       refine WL.nil ?_
       obtain rfl := Option.some.inj hm2
       exact ⟨_, rfl, _, v6, rfl, drop_next hdropk1, rfl, rfl, rfl, rfl, rfl, rfl, rfl, rfl, H⟩
     ·
      rintro ik1 _ f w ⟨z2, v3, rfl, hdropk1, hf37, hf36, hf1, hf2, hf3, hf6, hf8, hf35, H⟩ hfin
      have hltk1 := drop_end hdropk1
      obtain ⟨u6, rfl⟩ := up8 hf37 hf36 hf1 hf2 hf3 hf6 hf8 hf35
      refine W.seq ?_
      refine W.region ?_
      refine O.lss rfl rfl rfl rfl ?_
      refine WL.nil ?_
      refine W.seq ?_
      refine W.cond_false (congrArg Value.bool (decide_eq_false hltk1)) ?_
      refine W.exit ?_
      obtain rfl : Ctl.next z2 = o1 := hfin
      have H := H.keep [1, 2, 3, 4, 5, 6] [boxI b2 25 [(.slice none 0 0), (.slice none 0 0)], ownI (α := Int) (.slice none 0 0) 3 ([] : List Int), ownI (α := GSight) (.slice none 0 0) 39 ([] : List GSight), ownI (α := Int) v1 3 t5, boxI b3 25 [v1, v3], ownI (α := GSight) v3 39 z2] rfl (by decide)
      refine xT rfl ?_
      exact ⟨_, v3, rfl, rfl, rfl, H⟩
    ·
     rintro f w ⟨s1, v5, rfl, hf6, hf8, H⟩
     obtain ⟨u7, rfl⟩ := up2 hf6 hf8
     refine W.seq ?_
     refine W.region ?_
     refine O.loadA [v1, v5] ag25 rfl rfl rfl rfl (H.cell 4 rfl) ?_
     refine O.store 0 0 [v1, v5] [v1, v5] sz25 H rfl rfl rfl rfl rfl rfl ⟨⟨rfl, rfl⟩, rfl⟩ (one_cons (SliceR.one (H.own 3 rfl)) (one_cons (SliceR.one (H.own 5 rfl)) one_nil)) ?_
     intro w23 H
     refine O.assign (v := (.int .i64 0)) rfl rfl rfl ?_
     refine WL.nil ?_
     refine W.ret ?_
     have hq : ((GNet.mk t5 s1), 0) = (r0, r1) := Option.some.inj (show some ((GNet.mk t5 s1), 0) = some (r0, r1) from hm)
     obtain ⟨he0, hq0⟩ := Prod.mk.inj hq; clear hq; subst he0
     subst hq0
     exact ends2 Try.results34 ⟨_, rfl, run_loadVar_agg ag25 rfl (H.cell 0 rfl)⟩ rfl ⟨_, rfl, H.base, ⟨_, _, rfl, H.pick [3, 5] [ownI (α := Int) v1 3 t5, ownI (α := GSight) v5 39 s1] rfl (by decide)⟩⟩

theorem c_noongunref02_named {w0 : World} (va0_0 : Value) (va0_1 : Value) (a0 : GNet) (ha0_0 : SliceR w0 va0_0 a0.Rates) (ha0_1 : SliceR w0 va0_1 a0.Sights) (a1 : Int) {r0 : Bool} (hm : noongunref02_named a0 a1 = some r0) :
  Calls Try.prog 74 #[(.agg #[va0_0, va0_1]), (.int .i64 a1)] w0 (Ret w0 fun _ v => v = (.bool r0)) := by
 unfold noongunref02_named at hm
 refine calls_of_W Try.func74 rfl Try.ntmps74 (Nat.le_of_ble_eq_true rfl) ?_
 have H := Inv.start (w := w0)
 refine W.seq ?_
 refine W.region ?_
 refine O.box [va0_0, va0_1] H rfl rfl rfl rfl ?_
 intro b1 w1 H hb1
 refine O.assign (v := (.bool false)) rfl rfl rfl ?_
 refine WL.nil ?_
 refine W.seq ?_
 refine W.region ?_
 refine O.move (v := (.int .i64 a1)) rfl rfl rfl ?_
 refine O.geq rfl rfl rfl rfl ?_
 refine O.move (v := (.bool (decide (0 ≤ a1)))) rfl rfl rfl ?_
 refine WL.cut 6 (fun f w => f 13 = .bool ((decide (0 ≤ a1)) && (decide (a1 < ((a0.Rates.length : Nat) : Int)))) ∧ Inv w0 w [boxI b1 25 [va0_0, va0_1]]) ?_ ?_
 ·
  rcases bool_ft (decide (0 ≤ a1)) with hc1 | hc1
  ·
   refine WL.reset (i := 7) (v := .bool false) (congrArg Value.bool hc1) ?_
   refine O.skip rfl rfl ?_
   refine O.skip rfl rfl ?_
   refine O.skip rfl rfl ?_
   refine O.skip rfl rfl ?_
   refine O.skip rfl rfl ?_
   refine O.pick_false (v := (.bool false)) rfl rfl rfl rfl ?_
   exact WL.nil ⟨congrArg Value.bool (and_f hc1), H⟩
  ·
   refine WL.reset (i := 7) (v := .bool true) (congrArg Value.bool hc1) ?_
   refine O.move (v := (.int .i64 a1)) rfl rfl rfl ?_
   refine O.fieldAddr fd25_0 rfl rfl rfl ?_
   refine O.load sc22 rfl rfl rfl (H.cell 0 rfl 0 _ rfl) ?_
   refine O.lenS Try.underlying22 (H.arg ha0_0) rfl rfl rfl ?_
   refine O.lss rfl rfl rfl rfl ?_
   refine O.pick_true (v := (.bool (decide (a1 < ((a0.Rates.length : Nat) : Int))))) rfl rfl rfl rfl ?_
   exact WL.nil ⟨congrArg Value.bool (and_t hc1), H⟩
 ·
  rintro f w ⟨hf13, H⟩
  obtain ⟨u1, rfl⟩ := up1 hf13
  refine O.assign (v := (.bool ((decide (0 ≤ a1)) && (decide (a1 < ((a0.Rates.length : Nat) : Int)))))) rfl rfl rfl ?_
  refine WL.nil ?_
  refine W.ret ?_
  have hq : ((decide (0 ≤ a1)) && (decide (a1 < ((a0.Rates.length : Nat) : Int)))) = r0 := Option.some.inj (show some ((decide (0 ≤ a1)) && (decide (a1 < ((a0.Rates.length : Nat) : Int)))) = some r0 from hm)
  subst hq
  exact ends1 Try.results74 rfl ⟨_, rfl, H.base, rfl⟩

set_option maxRecDepth 20000 in
theorem c_noongunref02_Shifted {w0 : World} (va0_0 : Value) (va0_1 : Value) (a0 : GNet) (ha0_0 : SliceR w0 va0_0 a0.Rates) (ha0_1 : SliceR w0 va0_1 a0.Sights) (a1 : Int) (a2 : Int) {r0 : GNet} {r1 : Int} (hm : noongunref02_Shifted a0 a1 a2 = some (r0, r1)) :
  Calls Try.prog 48 #[(.agg #[va0_0, va0_1]), (.int .i64 a1), (.int .i64 a2)] w0 (Ret w0 fun w v => ∃ vr0_0 : Value, ∃ vr0_1 : Value, v = .tuple #[(.agg #[vr0_0, vr0_1]), (.int .i64 r1)] ∧ Inv w0 w [ownI (α := Int) vr0_0 3 r0.Rates, ownI (α := GSight) vr0_1 39 r0.Sights]) := by
 unfold noongunref02_Shifted at hm
 refine calls_of_W Try.func48 rfl Try.ntmps48 (Nat.le_of_ble_eq_true rfl) ?_
 have H := Inv.start (w := w0)
 refine W.seq ?_
 refine W.region ?_
 refine O.box [va0_0, va0_1] H rfl rfl rfl rfl ?_
 intro b1 w1 H hb1
 refine O.alloc [(.slice none 0 0), (.slice none 0 0)] ze25 H rfl rfl rfl ?_
 intro b2 w2 H hb2
 have H := H.addNil (α := Int) (E := 3)
 have H := H.addNil (α := GSight) (E := 39)
 refine O.assign (v := (.int .i64 0)) rfl rfl rfl ?_
 refine WL.nil ?_
 refine W.seq ?_
 refine W.seq ?_
 refine W.region ?_
 refine O.loadA [va0_0, va0_1] ag25 rfl rfl rfl rfl (H.cell 0 rfl) ?_
 obtain ⟨t1, hy1, hm⟩ := bind_some hm
 refine O.call Try.call18 rfl rfl rfl (c_noongunref02_Valid _ _ (GNet.mk a0.Rates a0.Sights) (H.arg ha0_0) (H.arg ha0_1) hy1) ?_
 rintro _ w3 hb3 rfl
 have H := H.ext hb3
 refine O.not rfl rfl rfl ?_
 refine WL.nil ?_
 rcases ite_some hm with ⟨hc1, hm⟩ | ⟨hc1, hm⟩
 ·
  refine W.cond_true (congrArg Value.bool hc1) ?_
  refine W.seq ?_
  refine W.region ?_
  refine O.build (v := (.agg #[(.slice none 0 0), (.slice none 0 0)])) (fun w => bd25_  w) rfl rfl rfl ?_
  have H := H.addNil (α := Int) (E := 3)
  have H := H.addNil (α := GSight) (E := 39)
  refine O.store 1 0 [(.slice none 0 0), (.slice none 0 0)] [(.slice none 0 0), (.slice none 0 0)] sz25 H rfl rfl rfl rfl rfl rfl ⟨⟨rfl, rfl⟩, rfl⟩ (one_cons rfl (one_cons rfl one_nil)) ?_
  intro w4 H
  refine O.assign (v := (.int .i64 1)) rfl rfl rfl ?_
  refine WL.nil ?_
  refine W.ret ?_
  have hq : ((GNet.mk ([] : List Int) ([] : List GSight)), 1) = (r0, r1) := Option.some.inj (show some ((GNet.mk ([] : List Int) ([] : List GSight)), 1) = some (r0, r1) from hm)
  obtain ⟨he0, hq0⟩ := Prod.mk.inj hq; clear hq; subst he0
  subst hq0
  exact ends2 Try.results48 ⟨_, rfl, run_loadVar_agg ag25 rfl (H.cell 1 rfl)⟩ rfl ⟨_, rfl, H.base, ⟨_, _, rfl, H.pick [4, 5] [ownI (α := Int) (.slice none 0 0) 3 ([] : List Int), ownI (α := GSight) (.slice none 0 0) 39 ([] : List GSight)] rfl (by decide)⟩⟩
 ·
  refine W.cond_false (congrArg Value.bool hc1) ?_
  refine W.skip ?_
  refine W.seq ?_
  refine W.seq ?_
  refine W.region ?_
  refine O.loadA [va0_0, va0_1] ag25 rfl rfl rfl rfl (H.cell 0 rfl) ?_
  refine O.move (v := (.int .i64 a1)) rfl rfl rfl ?_
  obtain ⟨t2, hy2, hm⟩ := bind_some hm
  refine O.call Try.call74 rfl rfl rfl (c_noongunref02_named _ _ (GNet.mk a0.Rates a0.Sights) (H.arg ha0_0) (H.arg ha0_1) _ hy2) ?_
  rintro _ w5 hb4 rfl
  have H := H.ext hb4
  refine O.not rfl rfl rfl ?_
  refine O.move (v := (.bool (!t2))) rfl rfl rfl ?_
  refine WL.cut 3 (fun f w => f 1 = (.int .i64 a1) ∧ f 2 = (.int .i64 a2) ∧ f 3 = (.pointer (some ⟨b1, 0, none⟩)) ∧ f 6 = (.pointer (some ⟨b2, 0, none⟩)) ∧ f 23 = .bool ((!t2) || (a1 == 0)) ∧ Inv w0 w [boxI b1 25 [va0_0, va0_1], boxI b2 25 [(.slice none 0 0), (.slice none 0 0)], ownI (α := Int) (.slice none 0 0) 3 ([] : List Int), ownI (α := GSight) (.slice none 0 0) 39 ([] : List GSight)]) ?_ ?_
  ·
   rcases bool_ft (!t2) with hc2 | hc2
   ·
    refine WL.reset (i := 20) (v := .bool false) (congrArg Value.bool hc2) ?_
    refine O.move (v := (.int .i64 a1)) rfl rfl rfl ?_
    refine O.eql rfl rfl rfl rfl ?_
    refine O.pick_false (v := (.bool (a1 == 0))) rfl rfl rfl rfl ?_
    exact WL.nil ⟨rfl, rfl, rfl, rfl, congrArg Value.bool (or_f hc2), H⟩
   ·
    refine WL.reset (i := 20) (v := .bool true) (congrArg Value.bool hc2) ?_
    refine O.skip rfl rfl ?_
    refine O.skip rfl rfl ?_
    refine O.pick_true (v := (.bool true)) rfl rfl rfl rfl ?_
    exact WL.nil ⟨rfl, rfl, rfl, rfl, congrArg Value.bool (or_t hc2), H⟩
  ·
   rintro f w ⟨hf1, hf2, hf3, hf6, hf23, H⟩
   obtain ⟨u1, rfl⟩ := up5 hf1 hf2 hf3 hf6 hf23
   refine WL.nil ?_
   rcases ite_some hm with ⟨hc3, hm⟩ | ⟨hc3, hm⟩
   ·
    refine W.cond_true (congrArg Value.bool hc3) ?_
    refine W.seq ?_
    refine W.region ?_
    refine O.build (v := (.agg #[(.slice none 0 0), (.slice none 0 0)])) (fun w => bd25_  w) rfl rfl rfl ?_
    have H := H.addNil (α := Int) (E := 3)
    have H := H.addNil (α := GSight) (E := 39)
    refine O.store 1 0 [(.slice none 0 0), (.slice none 0 0)] [(.slice none 0 0), (.slice none 0 0)] sz25 H rfl rfl rfl rfl rfl rfl ⟨⟨rfl, rfl⟩, rfl⟩ (one_cons rfl (one_cons rfl one_nil)) ?_
    intro w6 H
    refine O.assign (v := (.int .i64 5)) rfl rfl rfl ?_
    refine WL.nil ?_
    refine W.ret ?_
    have hq : ((GNet.mk ([] : List Int) ([] : List GSight)), 5) = (r0, r1) := Option.some.inj (show some ((GNet.mk ([] : List Int) ([] : List GSight)), 5) = some (r0, r1) from hm)
    obtain ⟨he0, hq0⟩ := Prod.mk.inj hq; clear hq; subst he0
    subst hq0
    exact ends2 Try.results48 ⟨_, rfl, run_loadVar_agg ag25 rfl (H.cell 1 rfl)⟩ rfl ⟨_, rfl, H.base, ⟨_, _, rfl, H.pick [4, 5] [ownI (α := Int) (.slice none 0 0) 3 ([] : List Int), ownI (α := GSight) (.slice none 0 0) 39 ([] : List GSight)] rfl (by decide)⟩⟩
   ·
    refine W.cond_false (congrArg Value.bool hc3) ?_
    refine W.skip ?_
    refine W.seq ?_
    refine W.seq ?_
    refine W.region ?_
    refine O.move (v := (.int .i64 a2)) rfl rfl rfl ?_
    obtain ⟨t3, hy3, hm⟩ := bind_some hm
    refine O.call Try.call59 rfl rfl rfl (c_noongunref02_within _ _ _ hy3) ?_
    rintro _ w7 hb5 rfl
    have H := H.ext hb5
    refine O.not rfl rfl rfl ?_
    refine WL.nil ?_
    rcases ite_some hm with ⟨hc4, hm⟩ | ⟨hc4, hm⟩
    ·
     refine W.cond_true (congrArg Value.bool hc4) ?_
     refine W.seq ?_
     refine W.region ?_
     refine O.build (v := (.agg #[(.slice none 0 0), (.slice none 0 0)])) (fun w => bd25_  w) rfl rfl rfl ?_
     have H := H.addNil (α := Int) (E := 3)
     have H := H.addNil (α := GSight) (E := 39)
     refine O.store 1 0 [(.slice none 0 0), (.slice none 0 0)] [(.slice none 0 0), (.slice none 0 0)] sz25 H rfl rfl rfl rfl rfl rfl ⟨⟨rfl, rfl⟩, rfl⟩ (one_cons rfl (one_cons rfl one_nil)) ?_
     intro w8 H
     refine O.assign (v := (.int .i64 7)) rfl rfl rfl ?_
     refine WL.nil ?_
     refine W.ret ?_
     have hq : ((GNet.mk ([] : List Int) ([] : List GSight)), 7) = (r0, r1) := Option.some.inj (show some ((GNet.mk ([] : List Int) ([] : List GSight)), 7) = some (r0, r1) from hm)
     obtain ⟨he0, hq0⟩ := Prod.mk.inj hq; clear hq; subst he0
     subst hq0
     exact ends2 Try.results48 ⟨_, rfl, run_loadVar_agg ag25 rfl (H.cell 1 rfl)⟩ rfl ⟨_, rfl, H.base, ⟨_, _, rfl, H.pick [4, 5] [ownI (α := Int) (.slice none 0 0) 3 ([] : List Int), ownI (α := GSight) (.slice none 0 0) 39 ([] : List GSight)] rfl (by decide)⟩⟩
    ·
     refine W.cond_false (congrArg Value.bool hc4) ?_
     refine W.skip ?_
     refine W.seq ?_
     refine W.region ?_
     refine O.loadA [va0_0, va0_1] ag25 rfl rfl rfl rfl (H.cell 0 rfl) ?_
     obtain ⟨t4, hy4, hm⟩ := bind_some hm
     refine O.call Try.call82 rfl rfl rfl (c_noongunref02_without _ _ (GNet.mk a0.Rates a0.Sights) (H.arg ha0_0) (H.arg ha0_1) _ hy4) ?_
     rintro _ w9 hb6 ⟨v1, v2, rfl, ho1⟩
     have H := H.addAll hb6 ho1
     refine O.alloc [(.slice none 0 0), (.slice none 0 0)] ze25 H rfl rfl rfl ?_
     intro b3 w10 H hb7
     have H := H.addNil (α := Int) (E := 3)
     have H := H.addNil (α := GSight) (E := 39)
     refine O.store 6 0 [v1, v2] [v1, v2] sz25 H rfl rfl rfl rfl rfl rfl ⟨⟨rfl, rfl⟩, rfl⟩ (one_cons (SliceR.one (H.own 4 rfl)) (one_cons (SliceR.one (H.own 5 rfl)) one_nil)) ?_
     intro w11 H
     refine WL.nil ?_
     refine W.seq ?_
     refine W.seq ?_
     refine W.region ?_
     refine O.fieldAddr fd25_1 rfl rfl rfl ?_
     refine O.load sc23 rfl rfl rfl (H.cell 6 rfl 1 _ rfl) ?_
     refine O.lenS Try.underlying23 (H.own 5 rfl) rfl rfl rfl ?_
     refine O.move (v := (.int .i64 0)) rfl rfl rfl ?_
     refine WL.nil ?_
     obtain ⟨o1, hm1, hm⟩ := bind_some hm
     refine W.via (fun f w => ∃ s1 : (List GSight), ∃ v6 : Value, o1 = .next s1 ∧ f 6 = (.pointer (some ⟨b2, 0, none⟩)) ∧ f 8 = (.pointer (some ⟨b3, 0, none⟩)) ∧ Inv w0 w [boxI b2 25 [(.slice none 0 0), (.slice none 0 0)], ownI (α := Int) (.slice none 0 0) 3 ([] : List Int), ownI (α := GSight) (.slice none 0 0) 39 ([] : List GSight), ownI (α := Int) v1 3 t4.Rates, ownI (α := GSight) v6 39 s1, boxI b3 25 [v1, v6]]) ?_ ?_
     ·
      refine W.block ?_
      have hbdik1 := (H.own 5 rfl).len_le
      have H := H.keep [0, 1, 2, 3, 4, 5, 6] [boxI b1 25 [va0_0, va0_1], boxI b2 25 [(.slice none 0 0), (.slice none 0 0)], ownI (α := Int) (.slice none 0 0) 3 ([] : List Int), ownI (α := GSight) (.slice none 0 0) 39 ([] : List GSight), ownI (α := Int) v1 3 t4.Rates, ownI (α := GSight) v2 39 t4.Sights, boxI b3 25 [v1, v2]] rfl (by decide)
      refine W.rangeN (i := 0) hm1 (fun rem ik1 s f w => ∃ z2 : (List GSight), ∃ v4 : Value, z2 = s ∧ (ik1 : Int) + rem = max 0 ((t4.Sights.length : Nat) : Int) ∧ f 34 = .int .i64 (ik1 : Int) ∧ f 33 = (.int .i64 ((t4.Sights.length : Nat) : Int)) ∧ f 1 = (.int .i64 a1) ∧ f 2 = (.int .i64 a2) ∧ f 3 = (.pointer (some ⟨b1, 0, none⟩)) ∧ f 6 = (.pointer (some ⟨b2, 0, none⟩)) ∧ f 8 = (.pointer (some ⟨b3, 0, none⟩)) ∧ f 32 = v4 ∧ Inv w0 w [boxI b1 25 [va0_0, va0_1], boxI b2 25 [(.slice none 0 0), (.slice none 0 0)], ownI (α := Int) (.slice none 0 0) 3 ([] : List Int), ownI (α := GSight) (.slice none 0 0) 39 ([] : List GSight), ownI (α := Int) v1 3 t4.Rates, ownI (α := GSight) v4 39 z2, boxI b3 25 [v1, v4]]) ?_ ?_ ?_
      ·
       exact ⟨_, v2, rfl, rangeN_start, rfl, rfl, rfl, rfl, rfl, rfl, rfl, rfl, H⟩
      ·
       rintro k ik1 _ st f w ⟨z2, v4, rfl, hdropk1, hf34, hf33, hf1, hf2, hf3, hf6, hf8, hf32, H⟩ hm2
       have hltk1 := rangeN_lt hdropk1
       obtain ⟨u2, rfl⟩ := up8 hf34 hf33 hf1 hf2 hf3 hf6 hf8 hf32
       have hinck1 := addI_lt hltk1 hbdik1
       refine W.seq ?_
       refine W.region ?_
       refine O.lss rfl rfl rfl rfl ?_
       refine WL.nil ?_
       refine W.seq ?_
       refine W.cond_true (congrArg Value.bool (decide_eq_true hltk1)) ?_
       refine W.skip ?_
       refine W.seq ?_
       obtain ⟨o2, hm3, hm2⟩ := bind_some hm2
       refine W.via (fun f w => ∃ s2 : (List GSight), ∃ v7 : Value, o2 = .next s2 ∧ f 1 = (.int .i64 a1) ∧ f 2 = (.int .i64 a2) ∧ f 3 = (.pointer (some ⟨b1, 0, none⟩)) ∧ f 6 = (.pointer (some ⟨b2, 0, none⟩)) ∧ f 8 = (.pointer (some ⟨b3, 0, none⟩)) ∧ f 32 = v7 ∧ f 33 = (.int .i64 ((t4.Sights.length : Nat) : Int)) ∧ f 34 = (.int .i64 (ik1 : Int)) ∧ Inv w0 w [boxI b1 25 [va0_0, va0_1], boxI b2 25 [(.slice none 0 0), (.slice none 0 0)], ownI (α := Int) (.slice none 0 0) 3 ([] : List Int), ownI (α := GSight) (.slice none 0 0) 39 ([] : List GSight), ownI (α := Int) v1 3 t4.Rates, ownI (α := GSight) v7 39 s2, boxI b3 25 [v1, v7]]) ?_ ?_
       ·
        refine W.block ?_
        refine W.seq ?_
        refine W.region ?_
        refine O.move (v := (.int .i64 (ik1 : Int))) rfl rfl rfl ?_
        obtain ⟨x1, hx1, hm3⟩ := bind_some hm3
        refine O.indexAddr Try.underlying23 sz39 (H.own 5 rfl) hx1 rfl rfl rfl rfl ?_
        intro p1 hp1
        refine O.loadA [(.int .i64 x1.At), (.int .i64 x1.A), (.int .i64 x1.B), (.int .i64 x1.Lo), (.int .i64 x1.Hi)] ag39 rfl rfl rfl rfl (hp1.flat) ?_
        refine O.alloc [(.int .i64 0), (.int .i64 0), (.int .i64 0), (.int .i64 0), (.int .i64 0)] ze39 H rfl rfl rfl ?_
        intro b4 w12 H hb8
        have hp1 := hp1.mono hb8
        refine O.assign (v := (.int .i64 (ik1 : Int))) rfl rfl rfl ?_
        refine O.store 7 0 [(.int .i64 x1.At), (.int .i64 x1.A), (.int .i64 x1.B), (.int .i64 x1.Lo), (.int .i64 x1.Hi)] [(.int .i64 x1.At), (.int .i64 x1.A), (.int .i64 x1.B), (.int .i64 x1.Lo), (.int .i64 x1.Hi)] sz39 H rfl rfl rfl rfl rfl rfl ⟨⟨rfl, rfl⟩, rfl⟩ (one_cons rfl (one_cons rfl (one_cons rfl (one_cons rfl (one_cons rfl one_nil))))) ?_
        intro w13 H
        clear hp1
        refine WL.nil ?_
        refine W.seq ?_
        refine W.region ?_
        refine O.assign (v := (.int .i64 0)) rfl rfl rfl ?_
        refine WL.nil ?_
        refine W.seq ?_
        refine W.seq ?_
        refine W.region ?_
        refine O.fieldAddr fd39_1 rfl rfl rfl ?_
        refine O.load sc3 rfl rfl rfl (H.cell 7 rfl 1 _ rfl) ?_
        refine O.move (v := (.int .i64 a1)) rfl rfl rfl ?_
        refine O.eql rfl rfl rfl rfl ?_
        refine WL.nil ?_
        obtain ⟨s3, hm4, hm3⟩ := bind_some hm3
        refine W.via (fun f w => f 1 = (.int .i64 a1) ∧ f 2 = (.int .i64 a2) ∧ f 3 = (.pointer (some ⟨b1, 0, none⟩)) ∧ f 6 = (.pointer (some ⟨b2, 0, none⟩)) ∧ f 8 = (.pointer (some ⟨b3, 0, none⟩)) ∧ f 9 = (.int .i64 (ik1 : Int)) ∧ f 10 = (.pointer (some ⟨b4, 0, none⟩)) ∧ f 11 = (.int .i64 s3) ∧ f 32 = v4 ∧ f 33 = (.int .i64 ((t4.Sights.length : Nat) : Int)) ∧ f 34 = (.int .i64 (ik1 : Int)) ∧ Inv w0 w [boxI b1 25 [va0_0, va0_1], boxI b2 25 [(.slice none 0 0), (.slice none 0 0)], ownI (α := Int) (.slice none 0 0) 3 ([] : List Int), ownI (α := GSight) (.slice none 0 0) 39 ([] : List GSight), ownI (α := Int) v1 3 t4.Rates, ownI (α := GSight) v4 39 z2, boxI b3 25 [v1, v4], boxI b4 39 [(.int .i64 x1.At), (.int .i64 x1.A), (.int .i64 x1.B), (.int .i64 x1.Lo), (.int .i64 x1.Hi)]]) ?_ ?_
        ·
         rcases ite_some hm4 with ⟨hc5, hm4⟩ | ⟨hc5, hm4⟩
         ·
          refine W.cond_true (congrArg Value.bool hc5) ?_
          refine W.region ?_
          refine O.move (v := (.int .i64 a2)) rfl rfl rfl ?_
          refine O.assign (v := (.int .i64 a2)) rfl rfl rfl ?_
          refine WL.nil ?_
          have hq : a2 = s3 := Option.some.inj (show some a2 = some s3 from hm4)
          subst hq
          exact ⟨rfl, rfl, rfl, rfl, rfl, rfl, rfl, rfl, rfl, rfl, rfl, H⟩
         ·
          refine W.cond_false (congrArg Value.bool hc5) ?_
          refine W.skip ?_
          have hq : 0 = s3 := Option.some.inj (show some 0 = some s3 from hm4)
          subst hq
          exact ⟨rfl, rfl, rfl, rfl, rfl, rfl, rfl, rfl, rfl, rfl, rfl, H⟩
        ·
         rintro f w ⟨hf1, hf2, hf3, hf6, hf8, hf9, hf10, hf11, hf32, hf33, hf34, H⟩
         obtain ⟨u3, rfl⟩ : ∃ u3, f = (upd (upd (upd (upd (upd (upd (upd (upd (upd (upd (upd u3 1 (.int .i64 a1)) 2 (.int .i64 a2)) 3 (.pointer (some ⟨b1, 0, none⟩))) 6 (.pointer (some ⟨b2, 0, none⟩))) 8 (.pointer (some ⟨b3, 0, none⟩))) 9 (.int .i64 (ik1 : Int))) 10 (.pointer (some ⟨b4, 0, none⟩))) 11 (.int .i64 s3)) 32 v4) 33 (.int .i64 ((t4.Sights.length : Nat) : Int))) 34 (.int .i64 (ik1 : Int))) := ⟨f, by rw [upd_self hf1, upd_self hf2, upd_self hf3, upd_self hf6, upd_self hf8, upd_self hf9, upd_self hf10, upd_self hf11, upd_self hf32, upd_self hf33, upd_self hf34]⟩
         refine W.seq ?_
         refine W.seq ?_
         refine W.region ?_
         refine O.fieldAddr fd39_2 rfl rfl rfl ?_
         refine O.load sc3 rfl rfl rfl (H.cell 7 rfl 2 _ rfl) ?_
         refine O.move (v := (.int .i64 a1)) rfl rfl rfl ?_
         refine O.eql rfl rfl rfl rfl ?_
         refine WL.nil ?_
         obtain ⟨s4, hm5, hm3⟩ := bind_some hm3
         refine W.via (fun f w => f 1 = (.int .i64 a1) ∧ f 2 = (.int .i64 a2) ∧ f 3 = (.pointer (some ⟨b1, 0, none⟩)) ∧ f 6 = (.pointer (some ⟨b2, 0, none⟩)) ∧ f 8 = (.pointer (some ⟨b3, 0, none⟩)) ∧ f 9 = (.int .i64 (ik1 : Int)) ∧ f 10 = (.pointer (some ⟨b4, 0, none⟩)) ∧ f 11 = (.int .i64 s4) ∧ f 32 = v4 ∧ f 33 = (.int .i64 ((t4.Sights.length : Nat) : Int)) ∧ f 34 = (.int .i64 (ik1 : Int)) ∧ Inv w0 w [boxI b1 25 [va0_0, va0_1], boxI b2 25 [(.slice none 0 0), (.slice none 0 0)], ownI (α := Int) (.slice none 0 0) 3 ([] : List Int), ownI (α := GSight) (.slice none 0 0) 39 ([] : List GSight), ownI (α := Int) v1 3 t4.Rates, ownI (α := GSight) v4 39 z2, boxI b3 25 [v1, v4], boxI b4 39 [(.int .i64 x1.At), (.int .i64 x1.A), (.int .i64 x1.B), (.int .i64 x1.Lo), (.int .i64 x1.Hi)]]) ?_ ?_
         ·
          rcases ite_some hm5 with ⟨hc6, hm5⟩ | ⟨hc6, hm5⟩
          ·
           refine W.cond_true (congrArg Value.bool hc6) ?_
           refine W.region ?_
           refine O.move (v := (.int .i64 a2)) rfl rfl rfl ?_
           obtain ⟨t5, ht5, hm5⟩ := bind_some hm5
           refine O.neg rfl rfl rfl ht5 ?_
           refine O.assign (v := (.int .i64 t5)) rfl rfl rfl ?_
           refine WL.nil ?_
           have hq : t5 = s4 := Option.some.inj (show some t5 = some s4 from hm5)
           subst hq
           exact ⟨rfl, rfl, rfl, rfl, rfl, rfl, rfl, rfl, rfl, rfl, rfl, H⟩
          ·
           refine W.cond_false (congrArg Value.bool hc6) ?_
           refine W.skip ?_
           have hq : s3 = s4 := Option.some.inj (show some s3 = some s4 from hm5)
           subst hq
           exact ⟨rfl, rfl, rfl, rfl, rfl, rfl, rfl, rfl, rfl, rfl, rfl, H⟩
         ·
          rintro f w ⟨hf1, hf2, hf3, hf6, hf8, hf9, hf10, hf11, hf32, hf33, hf34, H⟩
          obtain ⟨u4, rfl⟩ : ∃ u4, f = (upd (upd (upd (upd (upd (upd (upd (upd (upd (upd (upd u4 1 (.int .i64 a1)) 2 (.int .i64 a2)) 3 (.pointer (some ⟨b1, 0, none⟩))) 6 (.pointer (some ⟨b2, 0, none⟩))) 8 (.pointer (some ⟨b3, 0, none⟩))) 9 (.int .i64 (ik1 : Int))) 10 (.pointer (some ⟨b4, 0, none⟩))) 11 (.int .i64 s4)) 32 v4) 33 (.int .i64 ((t4.Sights.length : Nat) : Int))) 34 (.int .i64 (ik1 : Int))) := ⟨f, by rw [upd_self hf1, upd_self hf2, upd_self hf3, upd_self hf6, upd_self hf8, upd_self hf9, upd_self hf10, upd_self hf11, upd_self hf32, upd_self hf33, upd_self hf34]⟩
          refine W.seq ?_
          refine W.region ?_
          refine O.fieldAddr fd39_3 rfl rfl rfl ?_
          refine O.load sc3 rfl rfl rfl (H.cell 7 rfl 3 _ rfl) ?_
          refine O.move (v := (.int .i64 s4)) rfl rfl rfl ?_
          obtain ⟨t6, ht6, hm3⟩ := bind_some hm3
          refine O.add rfl rfl rfl rfl ht6 ?_
          refine O.fieldAddr fd39_4 rfl rfl rfl ?_
          refine O.load sc3 rfl rfl rfl (H.cell 7 rfl 4 _ rfl) ?_
          refine O.move (v := (.int .i64 s4)) rfl rfl rfl ?_
          obtain ⟨t7, ht7, hm3⟩ := bind_some hm3
          refine O.add rfl rfl rfl rfl ht7 ?_
          refine O.fieldAddr fd39_3 rfl rfl rfl ?_
          refine O.store 7 3 [(.int .i64 t6)] [(.int .i64 x1.At), (.int .i64 x1.A), (.int .i64 x1.B), (.int .i64 t6), (.int .i64 x1.Hi)] sz3 H rfl rfl rfl rfl rfl rfl ⟨⟨rfl, rfl⟩, rfl⟩ (one_cons rfl one_nil) ?_
          intro w14 H
          refine O.fieldAddr fd39_4 rfl rfl rfl ?_
          refine O.store 7 4 [(.int .i64 t7)] [(.int .i64 x1.At), (.int .i64 x1.A), (.int .i64 x1.B), (.int .i64 t6), (.int .i64 t7)] sz3 H rfl rfl rfl rfl rfl rfl ⟨⟨rfl, rfl⟩, rfl⟩ (one_cons rfl one_nil) ?_
          intro w15 H
          refine WL.nil ?_
          refine W.seq ?_
          refine W.seq ?_
          refine W.region ?_
          refine O.loadA [(.int .i64 x1.At), (.int .i64 x1.A), (.int .i64 x1.B), (.int .i64 t6), (.int .i64 t7)] ag39 rfl rfl rfl rfl (H.cell 7 rfl) ?_
          refine O.fieldAddr fd25_0 rfl rfl rfl ?_
          refine O.load sc22 rfl rfl rfl (H.cell 0 rfl 0 _ rfl) ?_
          refine O.lenS Try.underlying22 (H.arg ha0_0) rfl rfl rfl ?_
          obtain ⟨t8, hy5, hm3⟩ := bind_some hm3
          refine O.call Try.call60 rfl rfl rfl (c_noongunref02_ValidSight (GSight.mk x1.At x1.A x1.B t6 t7) _ hy5) ?_
          rintro _ w16 hb9 rfl
          have H := H.ext hb9
          refine O.not rfl rfl rfl ?_
          refine WL.nil ?_
          rcases ite_some hm3 with ⟨hc7, hm3⟩ | ⟨hc7, hm3⟩
          ·
           refine W.cond_true (congrArg Value.bool hc7) ?_
           refine W.seq ?_
           refine W.region ?_
           refine O.build (v := (.agg #[(.slice none 0 0), (.slice none 0 0)])) (fun w => bd25_  w) rfl rfl rfl ?_
           have H := H.addNil (α := Int) (E := 3)
           have H := H.addNil (α := GSight) (E := 39)
           refine O.store 1 0 [(.slice none 0 0), (.slice none 0 0)] [(.slice none 0 0), (.slice none 0 0)] sz25 H rfl rfl rfl rfl rfl rfl ⟨⟨rfl, rfl⟩, rfl⟩ (one_cons rfl (one_cons rfl one_nil)) ?_
           intro w17 H
           refine O.assign (v := (.int .i64 4)) rfl rfl rfl ?_
           refine WL.nil ?_
           refine W.ret ?_
           obtain rfl := Option.some.inj hm3
           obtain rfl := Option.some.inj hm2
           refine ⟨_, rfl, ?_⟩
           rintro rfl
           have hq : ((GNet.mk ([] : List Int) ([] : List GSight)), 4) = (r0, r1) := Option.some.inj (show some ((GNet.mk ([] : List Int) ([] : List GSight)), 4) = some (r0, r1) from hm)
           obtain ⟨he0, hq0⟩ := Prod.mk.inj hq; clear hq; subst he0
           subst hq0
           exact ends2 Try.results48 ⟨_, rfl, run_loadVar_agg ag25 rfl (H.cell 1 rfl)⟩ rfl ⟨_, rfl, H.base, ⟨_, _, rfl, H.pick [8, 9] [ownI (α := Int) (.slice none 0 0) 3 ([] : List Int), ownI (α := GSight) (.slice none 0 0) 39 ([] : List GSight)] rfl (by decide)⟩⟩
          ·
           refine W.cond_false (congrArg Value.bool hc7) ?_
           refine W.skip ?_
           refine W.region ?_
           refine O.fieldAddr fd25_1 rfl rfl rfl ?_
           refine O.load sc23 rfl rfl rfl (H.cell 6 rfl 1 _ rfl) ?_
           refine O.move (v := (.int .i64 (ik1 : Int))) rfl rfl rfl ?_
           refine O.loadA [(.int .i64 x1.At), (.int .i64 x1.A), (.int .i64 x1.B), (.int .i64 t6), (.int .i64 t7)] ag39 rfl rfl rfl rfl (H.cell 7 rfl) ?_
           obtain ⟨x2, hx2, hm3⟩ := bind_some hm3
           refine O.indexOwn 5 Try.underlying23 sz39 H rfl hx2 rfl rfl rfl rfl ?_
           intro b5 hob1 hp2
           refine O.storeOwn (α := GSight) (i0 := (ik1 : Int)) (x0 := x2) 5 0 (GSight.mk x1.At x1.A x1.B t6 t7) [(.int .i64 x1.At), (.int .i64 x1.A), (.int .i64 x1.B), (.int .i64 t6), (.int .i64 t7)] sz39 H rfl hob1 hx2 rfl rfl rfl rfl rfl rfl rfl rfl (one_cons rfl (one_cons rfl (one_cons rfl (one_cons rfl (one_cons rfl one_nil))))) ?_
           intro w18 H
           clear hp2
           refine WL.nil ?_
           have H := H.keep [0, 1, 2, 3, 4, 5, 6] [boxI b1 25 [va0_0, va0_1], boxI b2 25 [(.slice none 0 0), (.slice none 0 0)], ownI (α := Int) (.slice none 0 0) 3 ([] : List Int), ownI (α := GSight) (.slice none 0 0) 39 ([] : List GSight), ownI (α := Int) v1 3 t4.Rates, ownI (α := GSight) v4 39 (z2.set (Int.toNat (ik1 : Int)) (GSight.mk x1.At x1.A x1.B t6 t7)), boxI b3 25 [v1, v4]] rfl (by decide)
           obtain rfl := Option.some.inj hm3
           exact ⟨_, v4, rfl, rfl, rfl, rfl, rfl, rfl, rfl, rfl, rfl, H⟩
       ·
        rintro f w ⟨s2, v7, rfl, hf1, hf2, hf3, hf6, hf8, hf32, hf33, hf34, H⟩
        obtain ⟨u5, rfl⟩ := up8 hf1 hf2 hf3 hf6 hf8 hf32 hf33 hf34
        refine W.region ?_
        refine O.add rfl rfl rfl rfl hinck1 ?_
        refine O.move (v := .int .i64 ((ik1 : Int) + 1)) rfl rfl rfl ?_
        refine WL.nil ?_
        obtain rfl := Option.some.inj hm2
        exact ⟨_, rfl, _, v7, rfl, rangeN_next hdropk1, rfl, rfl, rfl, rfl, rfl, rfl, rfl, rfl, H⟩
      ·
       rintro ik1 _ f w ⟨z2, v4, rfl, hdropk1, hf34, hf33, hf1, hf2, hf3, hf6, hf8, hf32, H⟩ hfin
       have hltk1 := rangeN_end hdropk1
       obtain ⟨u6, rfl⟩ := up8 hf34 hf33 hf1 hf2 hf3 hf6 hf8 hf32
       refine W.seq ?_
       refine W.region ?_
       refine O.lss rfl rfl rfl rfl ?_
       refine WL.nil ?_
       refine W.seq ?_
       refine W.cond_false (congrArg Value.bool (decide_eq_false hltk1)) ?_
       refine W.exit ?_
       obtain rfl : Ctl.next z2 = o1 := hfin
       have H := H.keep [1, 2, 3, 4, 5, 6] [boxI b2 25 [(.slice none 0 0), (.slice none 0 0)], ownI (α := Int) (.slice none 0 0) 3 ([] : List Int), ownI (α := GSight) (.slice none 0 0) 39 ([] : List GSight), ownI (α := Int) v1 3 t4.Rates, ownI (α := GSight) v4 39 z2, boxI b3 25 [v1, v4]] rfl (by decide)
       refine xT rfl ?_
       exact ⟨_, v4, rfl, rfl, rfl, H⟩
     ·
      rintro f w ⟨s1, v6, rfl, hf6, hf8, H⟩
      obtain ⟨u7, rfl⟩ := up2 hf6 hf8
      refine W.seq ?_
      refine W.region ?_
      refine O.loadA [v1, v6] ag25 rfl rfl rfl rfl (H.cell 5 rfl) ?_
      refine O.store 0 0 [v1, v6] [v1, v6] sz25 H rfl rfl rfl rfl rfl rfl ⟨⟨rfl, rfl⟩, rfl⟩ (one_cons (SliceR.one (H.own 3 rfl)) (one_cons (SliceR.one (H.own 4 rfl)) one_nil)) ?_
      intro w19 H
      refine O.assign (v := (.int .i64 0)) rfl rfl rfl ?_
      refine WL.nil ?_
      refine W.ret ?_
      have hq : ((GNet.mk t4.Rates s1), 0) = (r0, r1) := Option.some.inj (show some ((GNet.mk t4.Rates s1), 0) = some (r0, r1) from hm)
      obtain ⟨he0, hq0⟩ := Prod.mk.inj hq; clear hq; subst he0
      subst hq0
      exact ends2 Try.results48 ⟨_, rfl, run_loadVar_agg ag25 rfl (H.cell 0 rfl)⟩ rfl ⟨_, rfl, H.base, ⟨_, _, rfl, H.pick [3, 4] [ownI (α := Int) v1 3 t4.Rates, ownI (α := GSight) v6 39 s1] rfl (by decide)⟩⟩

set_option maxRecDepth 20000 in
theorem c_noongunlaw02_SightChanges {w0 : World} (va0_0 : Value) (va0_1 : Value) (a0 : GNet) (ha0_0 : SliceR w0 va0_0 a0.Rates) (ha0_1 : SliceR w0 va0_1 a0.Sights) (a1 : GSight) (a2 : GArr3) {r0 : Bool} (hm : noongunlaw02_SightChanges a0 a1 a2 = some r0) :
  Calls Try.prog 12 #[(.agg #[va0_0, va0_1]), (.agg (Flat.cells a1).toArray), (.agg (Flat.cells a2).toArray)] w0 (Ret w0 fun _ v => v = (.bool r0)) := by
 unfold noongunlaw02_SightChanges at hm
 refine calls_of_W Try.func12 rfl Try.ntmps12 (Nat.le_of_ble_eq_true rfl) ?_
 have H := Inv.start (w := w0)
 refine W.seq ?_
 refine W.region ?_
 refine O.box [va0_0, va0_1] H rfl rfl rfl rfl ?_
 intro b1 w1 H hb1
 refine O.box [(.int .i64 a1.At), (.int .i64 a1.A), (.int .i64 a1.B), (.int .i64 a1.Lo), (.int .i64 a1.Hi)] H rfl rfl rfl rfl ?_
 intro b2 w2 H hb2
 refine O.box [(.int .i64 a2.x0), (.int .i64 a2.x1), (.int .i64 a2.x2)] H rfl rfl rfl rfl ?_
 intro b3 w3 H hb3
 refine O.assign (v := (.bool false)) rfl rfl rfl ?_
 refine WL.nil ?_
 refine W.seq ?_
 refine W.seq ?_
 refine W.region ?_
 refine O.fieldAddr fd25_0 rfl rfl rfl ?_
 refine O.load sc22 rfl rfl rfl (H.cell 0 rfl 0 _ rfl) ?_
 refine O.lenS Try.underlying22 (H.arg ha0_0) rfl rfl rfl ?_
 refine O.gtr rfl rfl rfl rfl ?_
 refine O.move (v := (.bool (decide (100 < ((a0.Rates.length : Nat) : Int))))) rfl rfl rfl ?_
 refine WL.cut 5 (fun f w => f 3 = (.pointer (some ⟨b1, 0, none⟩)) ∧ f 4 = (.pointer (some ⟨b2, 0, none⟩)) ∧ f 5 = (.pointer (some ⟨b3, 0, none⟩)) ∧ f 20 = .bool ((decide (100 < ((a0.Rates.length : Nat) : Int))) || (decide (100 < ((a0.Sights.length : Nat) : Int)))) ∧ Inv w0 w [boxI b1 25 [va0_0, va0_1], boxI b2 39 [(.int .i64 a1.At), (.int .i64 a1.A), (.int .i64 a1.B), (.int .i64 a1.Lo), (.int .i64 a1.Hi)], boxI b3 26 [(.int .i64 a2.x0), (.int .i64 a2.x1), (.int .i64 a2.x2)]]) ?_ ?_
 ·
  rcases bool_ft (decide (100 < ((a0.Rates.length : Nat) : Int))) with hc1 | hc1
  ·
   refine WL.reset (i := 15) (v := .bool false) (congrArg Value.bool hc1) ?_
   refine O.fieldAddr fd25_1 rfl rfl rfl ?_
   refine O.load sc23 rfl rfl rfl (H.cell 0 rfl 1 _ rfl) ?_
   refine O.lenS Try.underlying23 (H.arg ha0_1) rfl rfl rfl ?_
   refine O.gtr rfl rfl rfl rfl ?_
   refine O.pick_false (v := (.bool (decide (100 < ((a0.Sights.length : Nat) : Int))))) rfl rfl rfl rfl ?_
   exact WL.nil ⟨rfl, rfl, rfl, congrArg Value.bool (or_f hc1), H⟩
  ·
   refine WL.reset (i := 15) (v := .bool true) (congrArg Value.bool hc1) ?_
   refine O.skip rfl rfl ?_
   refine O.skip rfl rfl ?_
   refine O.skip rfl rfl ?_
   refine O.skip rfl rfl ?_
   refine O.pick_true (v := (.bool true)) rfl rfl rfl rfl ?_
   exact WL.nil ⟨rfl, rfl, rfl, congrArg Value.bool (or_t hc1), H⟩
 ·
  rintro f w ⟨hf3, hf4, hf5, hf20, H⟩
  obtain ⟨u1, rfl⟩ := up4 hf3 hf4 hf5 hf20
  refine WL.nil ?_
  rcases ite_some hm with ⟨hc2, hm⟩ | ⟨hc2, hm⟩
  ·
   refine W.cond_true (congrArg Value.bool hc2) ?_
   refine W.seq ?_
   refine W.region ?_
   obtain ⟨t1, hy1, hm⟩ := bind_some hm
   refine O.call Try.call15 rfl rfl rfl (c_noongunlaw02_awake  hy1) ?_
   rintro _ w4 hb4 rfl
   have H := H.ext hb4
   refine O.assign (v := (.bool t1)) rfl rfl rfl ?_
   refine WL.nil ?_
   refine W.ret ?_
   have hq : t1 = r0 := Option.some.inj (show some t1 = some r0 from hm)
   subst hq
   exact ends1 Try.results12 rfl ⟨_, rfl, H.base, rfl⟩
  ·
   refine W.cond_false (congrArg Value.bool hc2) ?_
   refine W.skip ?_
   refine W.seq ?_
   refine W.region ?_
   refine O.loadA [va0_0, va0_1] ag25 rfl rfl rfl rfl (H.cell 0 rfl) ?_
   refine O.loadA [(.int .i64 a1.At), (.int .i64 a1.A), (.int .i64 a1.B), (.int .i64 a1.Lo), (.int .i64 a1.Hi)] ag39 rfl rfl rfl rfl (H.cell 1 rfl) ?_
   obtain ⟨⟨t2, t3⟩, hy2, hm⟩ := bind_some hm
   refine O.call Try.call26 rfl rfl rfl (c_sight_Added _ _ (GNet.mk a0.Rates a0.Sights) (H.arg ha0_0) (H.arg ha0_1) a1 hy2) ?_
   rintro _ w5 hb5 ⟨v1, v2, rfl, ho1⟩
   have H := H.addAll hb5 ho1
   refine O.move (v := (.tuple #[(.agg #[v1, v2]), (.int .i64 t3)])) rfl rfl rfl ?_
   refine O.extract (v := (.agg #[v1, v2])) rfl rfl rfl rfl ?_
   refine O.extract (v := (.int .i64 t3)) rfl rfl rfl rfl ?_
   refine O.alloc [(.slice none 0 0), (.slice none 0 0)] ze25 H rfl rfl rfl ?_
   intro b4 w6 H hb6
   have H := H.addNil (α := Int) (E := 3)
   have H := H.addNil (α := GSight) (E := 39)
   refine O.store 5 0 [v1, v2] [v1, v2] sz25 H rfl rfl rfl rfl rfl rfl ⟨⟨rfl, rfl⟩, rfl⟩ (one_cons (SliceR.one (H.own 3 rfl)) (one_cons (SliceR.one (H.own 4 rfl)) one_nil)) ?_
   intro w7 H
   refine O.assign (v := (.int .i64 t3)) rfl rfl rfl ?_
   refine WL.nil ?_
   refine W.seq ?_
   refine W.region ?_
   refine O.loadA [va0_0, va0_1] ag25 rfl rfl rfl rfl (H.cell 0 rfl) ?_
   refine O.loadA [(.int .i64 a1.At), (.int .i64 a1.A), (.int .i64 a1.B), (.int .i64 a1.Lo), (.int .i64 a1.Hi)] ag39 rfl rfl rfl rfl (H.cell 1 rfl) ?_
   obtain ⟨⟨t4, t5⟩, hy3, hm⟩ := bind_some hm
   refine O.call Try.call45 rfl rfl rfl (c_noongunref02_Added _ _ (GNet.mk a0.Rates a0.Sights) (H.arg ha0_0) (H.arg ha0_1) a1 hy3) ?_
   rintro _ w8 hb7 ⟨v3, v4, rfl, ho2⟩
   have H := H.addAll hb7 ho2
   refine O.move (v := (.tuple #[(.agg #[v3, v4]), (.int .i64 t5)])) rfl rfl rfl ?_
   refine O.extract (v := (.agg #[v3, v4])) rfl rfl rfl rfl ?_
   refine O.extract (v := (.int .i64 t5)) rfl rfl rfl rfl ?_
   refine O.alloc [(.slice none 0 0), (.slice none 0 0)] ze25 H rfl rfl rfl ?_
   intro b5 w9 H hb8
   have H := H.addNil (α := Int) (E := 3)
   have H := H.addNil (α := GSight) (E := 39)
   refine O.store 10 0 [v3, v4] [v3, v4] sz25 H rfl rfl rfl rfl rfl rfl ⟨⟨rfl, rfl⟩, rfl⟩ (one_cons (SliceR.one (H.own 8 rfl)) (one_cons (SliceR.one (H.own 9 rfl)) one_nil)) ?_
   intro w10 H
   refine O.assign (v := (.int .i64 t5)) rfl rfl rfl ?_
   refine WL.nil ?_
   refine W.seq ?_
   refine W.seq ?_
   refine W.region ?_
   refine O.move (v := (.int .i64 t3)) rfl rfl rfl ?_
   refine O.move (v := (.int .i64 t5)) rfl rfl rfl ?_
   refine O.neq rfl rfl rfl rfl ?_
   refine O.move (v := (.bool (t3 != t5))) rfl rfl rfl ?_
   obtain ⟨b6, hm1, hm⟩ := bind_some hm
   refine WL.cut 5 (fun f w => f 3 = (.pointer (some ⟨b1, 0, none⟩)) ∧ f 5 = (.pointer (some ⟨b3, 0, none⟩)) ∧ f 7 = (.pointer (some ⟨b4, 0, none⟩)) ∧ f 9 = (.pointer (some ⟨b5, 0, none⟩)) ∧ f 42 = .bool b6 ∧ Inv w0 w [boxI b1 25 [va0_0, va0_1], boxI b2 39 [(.int .i64 a1.At), (.int .i64 a1.A), (.int .i64 a1.B), (.int .i64 a1.Lo), (.int .i64 a1.Hi)], boxI b3 26 [(.int .i64 a2.x0), (.int .i64 a2.x1), (.int .i64 a2.x2)], ownI (α := Int) v1 3 t2.Rates, ownI (α := GSight) v2 39 t2.Sights, boxI b4 25 [v1, v2], ownI (α := Int) (.slice none 0 0) 3 ([] : List Int), ownI (α := GSight) (.slice none 0 0) 39 ([] : List GSight), ownI (α := Int) v3 3 t4.Rates, ownI (α := GSight) v4 39 t4.Sights, boxI b5 25 [v3, v4], ownI (α := Int) (.slice none 0 0) 3 ([] : List Int), ownI (α := GSight) (.slice none 0 0) 39 ([] : List GSight)]) ?_ ?_
   ·
    rcases ite_some hm1 with ⟨hc3, hm1⟩ | ⟨hc3, hm1⟩
    ·
     refine WL.reset (i := 37) (v := .bool true) (congrArg Value.bool hc3) ?_
     refine O.skip rfl rfl ?_
     refine O.skip rfl rfl ?_
     refine O.skip rfl rfl ?_
     refine O.skip rfl rfl ?_
     refine O.pick_true (v := (.bool true)) rfl rfl rfl rfl ?_
     refine WL.nil ?_
     have hq : true = b6 := Option.some.inj (show some true = some b6 from hm1)
     subst hq
     exact ⟨rfl, rfl, rfl, rfl, rfl, H⟩
    ·
     refine WL.reset (i := 37) (v := .bool false) (congrArg Value.bool hc3) ?_
     refine O.loadA [v1, v2] ag25 rfl rfl rfl rfl (H.cell 5 rfl) ?_
     refine O.loadA [v3, v4] ag25 rfl rfl rfl rfl (H.cell 10 rfl) ?_
     obtain ⟨t6, hy4, hm1⟩ := bind_some hm1
     refine O.call Try.call44 rfl rfl rfl (c_noongunref02_Same _ _ (GNet.mk t2.Rates t2.Sights) (H.own 3 rfl) (H.own 4 rfl) _ _ (GNet.mk t4.Rates t4.Sights) (H.own 8 rfl) (H.own 9 rfl) hy4) ?_
     rintro _ w11 hb9 rfl
     have H := H.ext hb9
     refine O.not rfl rfl rfl ?_
     refine O.pick_false (v := (.bool (!t6))) rfl rfl rfl rfl ?_
     refine WL.nil ?_
     have hq : (!t6) = b6 := Option.some.inj (show some (!t6) = some b6 from hm1)
     subst hq
     exact ⟨rfl, rfl, rfl, rfl, rfl, H⟩
   ·
    rintro f w ⟨hf3, hf5, hf7, hf9, hf42, H⟩
    obtain ⟨u2, rfl⟩ := up5 hf3 hf5 hf7 hf9 hf42
    refine WL.nil ?_
    rcases ite_some hm with ⟨hc4, hm⟩ | ⟨hc4, hm⟩
    ·
     refine W.cond_true (congrArg Value.bool hc4) ?_
     refine W.seq ?_
     refine W.region ?_
     refine O.assign (v := (.bool false)) rfl rfl rfl ?_
     refine WL.nil ?_
     refine W.ret ?_
     have hq : false = r0 := Option.some.inj (show some false = some r0 from hm)
     subst hq
     exact ends1 Try.results12 rfl ⟨_, rfl, H.base, rfl⟩
    ·
     refine W.cond_false (congrArg Value.bool hc4) ?_
     refine W.skip ?_
     refine W.seq ?_
     refine W.region ?_
     refine O.loadA [va0_0, va0_1] ag25 rfl rfl rfl rfl (H.cell 0 rfl) ?_
     refine O.indexArr 0 Try.underlying26 sz3 rfl rfl rfl rfl rfl ?_
     refine O.load sc3 rfl rfl rfl (H.cell 2 rfl 0 _ rfl) ?_
     obtain ⟨⟨t7, t8⟩, hy5, hm⟩ := bind_some hm
     refine O.call Try.call46 rfl rfl rfl (c_sight_Without _ _ (GNet.mk a0.Rates a0.Sights) (H.arg ha0_0) (H.arg ha0_1) _ hy5) ?_
     rintro _ w12 hb10 ⟨v5, v6, rfl, ho3⟩
     have H := H.addAll hb10 ho3
     refine O.move (v := (.tuple #[(.agg #[v5, v6]), (.int .i64 t8)])) rfl rfl rfl ?_
     refine O.extract (v := (.agg #[v5, v6])) rfl rfl rfl rfl ?_
     refine O.extract (v := (.int .i64 t8)) rfl rfl rfl rfl ?_
     refine O.store 5 0 [v5, v6] [v5, v6] sz25 H rfl rfl rfl rfl rfl rfl ⟨⟨rfl, rfl⟩, rfl⟩ (one_cons (SliceR.one (H.own 13 rfl)) (one_cons (SliceR.one (H.own 14 rfl)) one_nil)) ?_
     intro w13 H
     refine O.assign (v := (.int .i64 t8)) rfl rfl rfl ?_
     refine WL.nil ?_
     refine W.seq ?_
     refine W.region ?_
     refine O.loadA [va0_0, va0_1] ag25 rfl rfl rfl rfl (H.cell 0 rfl) ?_
     refine O.indexArr 0 Try.underlying26 sz3 rfl rfl rfl rfl rfl ?_
     refine O.load sc3 rfl rfl rfl (H.cell 2 rfl 0 _ rfl) ?_
     obtain ⟨⟨t9, t10⟩, hy6, hm⟩ := bind_some hm
     refine O.call Try.call47 rfl rfl rfl (c_noongunref02_Without _ _ (GNet.mk a0.Rates a0.Sights) (H.arg ha0_0) (H.arg ha0_1) _ hy6) ?_
     rintro _ w14 hb11 ⟨v7, v8, rfl, ho4⟩
     have H := H.addAll hb11 ho4
     refine O.move (v := (.tuple #[(.agg #[v7, v8]), (.int .i64 t10)])) rfl rfl rfl ?_
     refine O.extract (v := (.agg #[v7, v8])) rfl rfl rfl rfl ?_
     refine O.extract (v := (.int .i64 t10)) rfl rfl rfl rfl ?_
     refine O.store 10 0 [v7, v8] [v7, v8] sz25 H rfl rfl rfl rfl rfl rfl ⟨⟨rfl, rfl⟩, rfl⟩ (one_cons (SliceR.one (H.own 15 rfl)) (one_cons (SliceR.one (H.own 16 rfl)) one_nil)) ?_
     intro w15 H
     refine O.assign (v := (.int .i64 t10)) rfl rfl rfl ?_
     refine WL.nil ?_
     refine W.seq ?_
     refine W.seq ?_
     refine W.region ?_
     refine O.move (v := (.int .i64 t8)) rfl rfl rfl ?_
     refine O.move (v := (.int .i64 t10)) rfl rfl rfl ?_
     refine O.neq rfl rfl rfl rfl ?_
     refine O.move (v := (.bool (t8 != t10))) rfl rfl rfl ?_
     obtain ⟨b7, hm2, hm⟩ := bind_some hm
     refine WL.cut 5 (fun f w => f 3 = (.pointer (some ⟨b1, 0, none⟩)) ∧ f 5 = (.pointer (some ⟨b3, 0, none⟩)) ∧ f 7 = (.pointer (some ⟨b4, 0, none⟩)) ∧ f 9 = (.pointer (some ⟨b5, 0, none⟩)) ∧ f 65 = .bool b7 ∧ Inv w0 w [boxI b1 25 [va0_0, va0_1], boxI b2 39 [(.int .i64 a1.At), (.int .i64 a1.A), (.int .i64 a1.B), (.int .i64 a1.Lo), (.int .i64 a1.Hi)], boxI b3 26 [(.int .i64 a2.x0), (.int .i64 a2.x1), (.int .i64 a2.x2)], ownI (α := Int) v1 3 t2.Rates, ownI (α := GSight) v2 39 t2.Sights, boxI b4 25 [v5, v6], ownI (α := Int) (.slice none 0 0) 3 ([] : List Int), ownI (α := GSight) (.slice none 0 0) 39 ([] : List GSight), ownI (α := Int) v3 3 t4.Rates, ownI (α := GSight) v4 39 t4.Sights, boxI b5 25 [v7, v8], ownI (α := Int) (.slice none 0 0) 3 ([] : List Int), ownI (α := GSight) (.slice none 0 0) 39 ([] : List GSight), ownI (α := Int) v5 3 t7.Rates, ownI (α := GSight) v6 39 t7.Sights, ownI (α := Int) v7 3 t9.Rates, ownI (α := GSight) v8 39 t9.Sights]) ?_ ?_
     ·
      rcases ite_some hm2 with ⟨hc5, hm2⟩ | ⟨hc5, hm2⟩
      ·
       refine WL.reset (i := 60) (v := .bool true) (congrArg Value.bool hc5) ?_
       refine O.skip rfl rfl ?_
       refine O.skip rfl rfl ?_
       refine O.skip rfl rfl ?_
       refine O.skip rfl rfl ?_
       refine O.pick_true (v := (.bool true)) rfl rfl rfl rfl ?_
       refine WL.nil ?_
       have hq : true = b7 := Option.some.inj (show some true = some b7 from hm2)
       subst hq
       exact ⟨rfl, rfl, rfl, rfl, rfl, H⟩
      ·
       refine WL.reset (i := 60) (v := .bool false) (congrArg Value.bool hc5) ?_
       refine O.loadA [v5, v6] ag25 rfl rfl rfl rfl (H.cell 5 rfl) ?_
       refine O.loadA [v7, v8] ag25 rfl rfl rfl rfl (H.cell 10 rfl) ?_
       obtain ⟨t11, hy7, hm2⟩ := bind_some hm2
       refine O.call Try.call44 rfl rfl rfl (c_noongunref02_Same _ _ (GNet.mk t7.Rates t7.Sights) (H.own 13 rfl) (H.own 14 rfl) _ _ (GNet.mk t9.Rates t9.Sights) (H.own 15 rfl) (H.own 16 rfl) hy7) ?_
       rintro _ w16 hb12 rfl
       have H := H.ext hb12
       refine O.not rfl rfl rfl ?_
       refine O.pick_false (v := (.bool (!t11))) rfl rfl rfl rfl ?_
       refine WL.nil ?_
       have hq : (!t11) = b7 := Option.some.inj (show some (!t11) = some b7 from hm2)
       subst hq
       exact ⟨rfl, rfl, rfl, rfl, rfl, H⟩
     ·
      rintro f w ⟨hf3, hf5, hf7, hf9, hf65, H⟩
      obtain ⟨u3, rfl⟩ := up5 hf3 hf5 hf7 hf9 hf65
      refine WL.nil ?_
      rcases ite_some hm with ⟨hc6, hm⟩ | ⟨hc6, hm⟩
      ·
       refine W.cond_true (congrArg Value.bool hc6) ?_
       refine W.seq ?_
       refine W.region ?_
       refine O.assign (v := (.bool false)) rfl rfl rfl ?_
       refine WL.nil ?_
       refine W.ret ?_
       have hq : false = r0 := Option.some.inj (show some false = some r0 from hm)
       subst hq
       exact ends1 Try.results12 rfl ⟨_, rfl, H.base, rfl⟩
      ·
       refine W.cond_false (congrArg Value.bool hc6) ?_
       refine W.skip ?_
       refine W.seq ?_
       refine W.region ?_
       refine O.loadA [va0_0, va0_1] ag25 rfl rfl rfl rfl (H.cell 0 rfl) ?_
       refine O.indexArr 1 Try.underlying26 sz3 rfl rfl rfl rfl rfl ?_
       refine O.load sc3 rfl rfl rfl (H.cell 2 rfl 1 _ rfl) ?_
       refine O.indexArr 2 Try.underlying26 sz3 rfl rfl rfl rfl rfl ?_
       refine O.load sc3 rfl rfl rfl (H.cell 2 rfl 2 _ rfl) ?_
       obtain ⟨⟨t12, t13⟩, hy8, hm⟩ := bind_some hm
       refine O.call Try.call34 rfl rfl rfl (c_sight_Shifted _ _ (GNet.mk a0.Rates a0.Sights) (H.arg ha0_0) (H.arg ha0_1) _ _ hy8) ?_
       rintro _ w17 hb13 ⟨v9, v10, rfl, ho5⟩
       have H := H.addAll hb13 ho5
       refine O.move (v := (.tuple #[(.agg #[v9, v10]), (.int .i64 t13)])) rfl rfl rfl ?_
       refine O.extract (v := (.agg #[v9, v10])) rfl rfl rfl rfl ?_
       refine O.extract (v := (.int .i64 t13)) rfl rfl rfl rfl ?_
       refine O.store 5 0 [v9, v10] [v9, v10] sz25 H rfl rfl rfl rfl rfl rfl ⟨⟨rfl, rfl⟩, rfl⟩ (one_cons (SliceR.one (H.own 17 rfl)) (one_cons (SliceR.one (H.own 18 rfl)) one_nil)) ?_
       intro w18 H
       refine O.assign (v := (.int .i64 t13)) rfl rfl rfl ?_
       refine WL.nil ?_
       refine W.seq ?_
       refine W.region ?_
       refine O.loadA [va0_0, va0_1] ag25 rfl rfl rfl rfl (H.cell 0 rfl) ?_
       refine O.indexArr 1 Try.underlying26 sz3 rfl rfl rfl rfl rfl ?_
       refine O.load sc3 rfl rfl rfl (H.cell 2 rfl 1 _ rfl) ?_
       refine O.indexArr 2 Try.underlying26 sz3 rfl rfl rfl rfl rfl ?_
       refine O.load sc3 rfl rfl rfl (H.cell 2 rfl 2 _ rfl) ?_
       obtain ⟨⟨t14, t15⟩, hy9, hm⟩ := bind_some hm
       refine O.call Try.call48 rfl rfl rfl (c_noongunref02_Shifted _ _ (GNet.mk a0.Rates a0.Sights) (H.arg ha0_0) (H.arg ha0_1) _ _ hy9) ?_
       rintro _ w19 hb14 ⟨v11, v12, rfl, ho6⟩
       have H := H.addAll hb14 ho6
       refine O.move (v := (.tuple #[(.agg #[v11, v12]), (.int .i64 t15)])) rfl rfl rfl ?_
       refine O.extract (v := (.agg #[v11, v12])) rfl rfl rfl rfl ?_
       refine O.extract (v := (.int .i64 t15)) rfl rfl rfl rfl ?_
       refine O.store 10 0 [v11, v12] [v11, v12] sz25 H rfl rfl rfl rfl rfl rfl ⟨⟨rfl, rfl⟩, rfl⟩ (one_cons (SliceR.one (H.own 19 rfl)) (one_cons (SliceR.one (H.own 20 rfl)) one_nil)) ?_
       intro w20 H
       refine O.assign (v := (.int .i64 t15)) rfl rfl rfl ?_
       refine WL.nil ?_
       refine W.seq ?_
       refine W.region ?_
       refine O.move (v := (.int .i64 t13)) rfl rfl rfl ?_
       refine O.move (v := (.int .i64 t15)) rfl rfl rfl ?_
       refine O.eql rfl rfl rfl rfl ?_
       refine O.move (v := (.bool (t13 == t15))) rfl rfl rfl ?_
       obtain ⟨b8, hm3, hm⟩ := bind_some hm
       refine WL.cut 4 (fun f w => f 91 = .bool b8 ∧ Inv w0 w [boxI b1 25 [va0_0, va0_1], boxI b2 39 [(.int .i64 a1.At), (.int .i64 a1.A), (.int .i64 a1.B), (.int .i64 a1.Lo), (.int .i64 a1.Hi)], boxI b3 26 [(.int .i64 a2.x0), (.int .i64 a2.x1), (.int .i64 a2.x2)], ownI (α := Int) v1 3 t2.Rates, ownI (α := GSight) v2 39 t2.Sights, boxI b4 25 [v9, v10], ownI (α := Int) (.slice none 0 0) 3 ([] : List Int), ownI (α := GSight) (.slice none 0 0) 39 ([] : List GSight), ownI (α := Int) v3 3 t4.Rates, ownI (α := GSight) v4 39 t4.Sights, boxI b5 25 [v11, v12], ownI (α := Int) (.slice none 0 0) 3 ([] : List Int), ownI (α := GSight) (.slice none 0 0) 39 ([] : List GSight), ownI (α := Int) v5 3 t7.Rates, ownI (α := GSight) v6 39 t7.Sights, ownI (α := Int) v7 3 t9.Rates, ownI (α := GSight) v8 39 t9.Sights, ownI (α := Int) v9 3 t12.Rates, ownI (α := GSight) v10 39 t12.Sights, ownI (α := Int) v11 3 t14.Rates, ownI (α := GSight) v12 39 t14.Sights]) ?_ ?_
       ·
        rcases ite_some hm3 with ⟨hc7, hm3⟩ | ⟨hc7, hm3⟩
        ·
         refine WL.reset (i := 87) (v := .bool true) (congrArg Value.bool hc7) ?_
         refine O.loadA [v9, v10] ag25 rfl rfl rfl rfl (H.cell 5 rfl) ?_
         refine O.loadA [v11, v12] ag25 rfl rfl rfl rfl (H.cell 10 rfl) ?_
         obtain ⟨t16, hy10, hm3⟩ := bind_some hm3
         refine O.call Try.call44 rfl rfl rfl (c_noongunref02_Same _ _ (GNet.mk t12.Rates t12.Sights) (H.own 17 rfl) (H.own 18 rfl) _ _ (GNet.mk t14.Rates t14.Sights) (H.own 19 rfl) (H.own 20 rfl) hy10) ?_
         rintro _ w21 hb15 rfl
         have H := H.ext hb15
         refine O.pick_true (v := (.bool t16)) rfl rfl rfl rfl ?_
         refine WL.nil ?_
         have hq : t16 = b8 := Option.some.inj (show some t16 = some b8 from hm3)
         subst hq
         exact ⟨rfl, H⟩
        ·
         refine WL.reset (i := 87) (v := .bool false) (congrArg Value.bool hc7) ?_
         refine O.skip rfl rfl ?_
         refine O.skip rfl rfl ?_
         refine O.skip rfl rfl ?_
         refine O.pick_false (v := (.bool false)) rfl rfl rfl rfl ?_
         refine WL.nil ?_
         have hq : false = b8 := Option.some.inj (show some false = some b8 from hm3)
         subst hq
         exact ⟨rfl, H⟩
       ·
        rintro f w ⟨hf91, H⟩
        obtain ⟨u4, rfl⟩ := up1 hf91
        refine O.move (v := (.bool b8)) rfl rfl rfl ?_
        obtain ⟨b9, hm4, hm⟩ := bind_some hm
        refine WL.cut 2 (fun f w => f 94 = .bool b9 ∧ Inv w0 w [boxI b1 25 [va0_0, va0_1], boxI b2 39 [(.int .i64 a1.At), (.int .i64 a1.A), (.int .i64 a1.B), (.int .i64 a1.Lo), (.int .i64 a1.Hi)], boxI b3 26 [(.int .i64 a2.x0), (.int .i64 a2.x1), (.int .i64 a2.x2)], ownI (α := Int) v1 3 t2.Rates, ownI (α := GSight) v2 39 t2.Sights, boxI b4 25 [v9, v10], ownI (α := Int) (.slice none 0 0) 3 ([] : List Int), ownI (α := GSight) (.slice none 0 0) 39 ([] : List GSight), ownI (α := Int) v3 3 t4.Rates, ownI (α := GSight) v4 39 t4.Sights, boxI b5 25 [v11, v12], ownI (α := Int) (.slice none 0 0) 3 ([] : List Int), ownI (α := GSight) (.slice none 0 0) 39 ([] : List GSight), ownI (α := Int) v5 3 t7.Rates, ownI (α := GSight) v6 39 t7.Sights, ownI (α := Int) v7 3 t9.Rates, ownI (α := GSight) v8 39 t9.Sights, ownI (α := Int) v9 3 t12.Rates, ownI (α := GSight) v10 39 t12.Sights, ownI (α := Int) v11 3 t14.Rates, ownI (α := GSight) v12 39 t14.Sights]) ?_ ?_
        ·
         rcases ite_some hm4 with ⟨hc8, hm4⟩ | ⟨hc8, hm4⟩
         ·
          refine WL.reset (i := 92) (v := .bool true) (congrArg Value.bool hc8) ?_
          obtain ⟨t17, hy11, hm4⟩ := bind_some hm4
          refine O.call Try.call15 rfl rfl rfl (c_noongunlaw02_awake  hy11) ?_
          rintro _ w22 hb16 rfl
          have H := H.ext hb16
          refine O.pick_true (v := (.bool t17)) rfl rfl rfl rfl ?_
          refine WL.nil ?_
          have hq : t17 = b9 := Option.some.inj (show some t17 = some b9 from hm4)
          subst hq
          exact ⟨rfl, H⟩
         ·
          refine WL.reset (i := 92) (v := .bool false) (congrArg Value.bool hc8) ?_
          refine O.skip rfl rfl ?_
          refine O.pick_false (v := (.bool false)) rfl rfl rfl rfl ?_
          refine WL.nil ?_
          have hq : false = b9 := Option.some.inj (show some false = some b9 from hm4)
          subst hq
          exact ⟨rfl, H⟩
        ·
         rintro f w ⟨hf94, H⟩
         obtain ⟨u5, rfl⟩ := up1 hf94
         refine O.assign (v := (.bool b9)) rfl rfl rfl ?_
         refine WL.nil ?_
         refine W.ret ?_
         have hq : b9 = r0 := Option.some.inj (show some b9 = some r0 from hm)
         subst hq
         exact ends1 Try.results12 rfl ⟨_, rfl, H.base, rfl⟩

end Go.Proofs
