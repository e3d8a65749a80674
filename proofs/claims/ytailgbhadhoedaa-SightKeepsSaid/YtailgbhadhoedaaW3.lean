/-
  The walks: each function does what its model says, where the model has a value. No other condition.
-/
import Derived.Test.YtailgbhadhoedaaW2
namespace Go.Proofs
open Go.Fw Go.RowKit Go.Shelf
set_option maxRecDepth 20000 in
theorem c_noongunlaw02_SightKeeps {w0 : World} (va0_0 : Value) (va0_1 : Value) (a0 : GNet) (ha0_0 : SliceR w0 va0_0 a0.Rates) (ha0_1 : SliceR w0 va0_1 a0.Sights) (a1 : GArr3) {r0 : Bool} (hm : noongunlaw02_SightKeeps a0 a1 = some r0) :
  Calls Try.prog 11 #[(.agg #[va0_0, va0_1]), (.agg (Flat.cells a1).toArray)] w0 (Ret w0 fun _ v => v = (.bool r0)) := by
 unfold noongunlaw02_SightKeeps at hm
 refine calls_of_W Try.func11 rfl Try.ntmps11 (Nat.le_of_ble_eq_true rfl) ?_
 have H := Inv.start (w := w0)
 refine W.seq ?_
 refine W.region ?_
 refine O.box [va0_0, va0_1] H rfl rfl rfl rfl ?_
 intro b1 w1 H hb1
 refine O.box [(.int .i64 a1.x0), (.int .i64 a1.x1), (.int .i64 a1.x2)] H rfl rfl rfl rfl ?_
 intro b2 w2 H hb2
 refine O.assign (v := (.bool false)) rfl rfl rfl ?_
 refine WL.nil ?_
 refine W.seq ?_
 refine W.seq ?_
 refine W.region ?_
 refine O.loadA [va0_0, va0_1] ag25 rfl rfl rfl rfl (H.cell 0 rfl) ?_
 obtain ⟨t1, hy1, hm⟩ := bind_some hm
 refine O.call Try.call14 rfl rfl rfl (c_noongunlaw02_Light _ _ (GNet.mk a0.Rates a0.Sights) (H.arg ha0_0) (H.arg ha0_1) hy1) ?_
 rintro _ w3 hb3 rfl
 have H := H.ext hb3
 refine O.not rfl rfl rfl ?_
 refine WL.nil ?_
 rcases ite_some hm with ⟨hc1, hm⟩ | ⟨hc1, hm⟩
 ·
  refine W.cond_true (congrArg Value.bool hc1) ?_
  refine W.seq ?_
  refine W.region ?_
  obtain ⟨t2, hy2, hm⟩ := bind_some hm
  refine O.call Try.call15 rfl rfl rfl (c_noongunlaw02_awake  hy2) ?_
  rintro _ w4 hb4 rfl
  have H := H.ext hb4
  refine O.assign (v := (.bool t2)) rfl rfl rfl ?_
  refine WL.nil ?_
  refine W.ret ?_
  have hq : t2 = r0 := Option.some.inj (show some t2 = some r0 from hm)
  subst hq
  exact ends1 Try.results11 rfl ⟨_, rfl, H.base, rfl⟩
 ·
  refine W.cond_false (congrArg Value.bool hc1) ?_
  refine W.skip ?_
  refine W.seq ?_
  refine W.region ?_
  refine O.loadA [va0_0, va0_1] ag25 rfl rfl rfl rfl (H.cell 0 rfl) ?_
  refine O.indexArr 0 Try.underlying26 sz3 rfl rfl rfl rfl rfl ?_
  refine O.load sc3 rfl rfl rfl (H.cell 1 rfl 0 _ rfl) ?_
  refine O.indexArr 1 Try.underlying26 sz3 rfl rfl rfl rfl rfl ?_
  refine O.load sc3 rfl rfl rfl (H.cell 1 rfl 1 _ rfl) ?_
  refine O.indexArr 2 Try.underlying26 sz3 rfl rfl rfl rfl rfl ?_
  refine O.load sc3 rfl rfl rfl (H.cell 1 rfl 2 _ rfl) ?_
  obtain ⟨⟨t3, t4⟩, hy3, hm⟩ := bind_some hm
  refine O.call Try.call16 rfl rfl rfl (c_sight_Between _ _ (GNet.mk a0.Rates a0.Sights) (H.arg ha0_0) (H.arg ha0_1) _ _ _ hy3) ?_
  rintro _ w5 hb5 rfl
  have H := H.ext hb5
  refine O.move (v := (.tuple #[(.agg (Flat.cells t3).toArray), (.int .i64 t4)])) rfl rfl rfl ?_
  refine O.extract (v := (.agg (Flat.cells t3).toArray)) rfl rfl rfl rfl ?_
  refine O.extract (v := (.int .i64 t4)) rfl rfl rfl rfl ?_
  refine O.alloc [(.int .i64 0), (.int .i64 0)] ze30 H rfl rfl rfl ?_
  intro b3 w6 H hb6
  refine O.store 2 0 [(.int .i64 t3.Lo), (.int .i64 t3.Hi)] [(.int .i64 t3.Lo), (.int .i64 t3.Hi)] sz30 H rfl rfl rfl rfl rfl rfl ⟨⟨rfl, rfl⟩, rfl⟩ (one_cons rfl (one_cons rfl one_nil)) ?_
  intro w7 H
  refine O.assign (v := (.int .i64 t4)) rfl rfl rfl ?_
  refine WL.nil ?_
  refine W.seq ?_
  refine W.seq ?_
  refine W.region ?_
  refine O.move (v := (.int .i64 t4)) rfl rfl rfl ?_
  refine O.neq rfl rfl rfl rfl ?_
  refine O.move (v := (.bool (t4 != 0))) rfl rfl rfl ?_
  refine WL.cut 3 (fun f w => f 2 = (.pointer (some ⟨b1, 0, none⟩)) ∧ f 3 = (.pointer (some ⟨b2, 0, none⟩)) ∧ f 5 = (.pointer (some ⟨b3, 0, none⟩)) ∧ f 6 = (.int .i64 t4) ∧ f 40 = .bool ((t4 != 0) && (t4 != 8)) ∧ Inv w0 w [boxI b1 25 [va0_0, va0_1], boxI b2 26 [(.int .i64 a1.x0), (.int .i64 a1.x1), (.int .i64 a1.x2)], boxI b3 30 [(.int .i64 t3.Lo), (.int .i64 t3.Hi)]]) ?_ ?_
  ·
   rcases bool_ft (t4 != 0) with hc2 | hc2
   ·
    refine WL.reset (i := 37) (v := .bool false) (congrArg Value.bool hc2) ?_
    refine O.skip rfl rfl ?_
    refine O.skip rfl rfl ?_
    refine O.pick_false (v := (.bool false)) rfl rfl rfl rfl ?_
    exact WL.nil ⟨rfl, rfl, rfl, rfl, congrArg Value.bool (and_f hc2), H⟩
   ·
    refine WL.reset (i := 37) (v := .bool true) (congrArg Value.bool hc2) ?_
    refine O.move (v := (.int .i64 t4)) rfl rfl rfl ?_
    refine O.neq rfl rfl rfl rfl ?_
    refine O.pick_true (v := (.bool (t4 != 8))) rfl rfl rfl rfl ?_
    exact WL.nil ⟨rfl, rfl, rfl, rfl, congrArg Value.bool (and_t hc2), H⟩
  ·
   rintro f w ⟨hf2, hf3, hf5, hf6, hf40, H⟩
   obtain ⟨u1, rfl⟩ := up5 hf2 hf3 hf5 hf6 hf40
   refine WL.nil ?_
   rcases ite_some hm with ⟨hc3, hm⟩ | ⟨hc3, hm⟩
   ·
    refine W.cond_true (congrArg Value.bool hc3) ?_
    refine W.seq ?_
    refine W.region ?_
    obtain ⟨t5, hy4, hm⟩ := bind_some hm
    refine O.call Try.call15 rfl rfl rfl (c_noongunlaw02_awake  hy4) ?_
    rintro _ w8 hb7 rfl
    have H := H.ext hb7
    refine O.assign (v := (.bool t5)) rfl rfl rfl ?_
    refine WL.nil ?_
    refine W.ret ?_
    have hq : t5 = r0 := Option.some.inj (show some t5 = some r0 from hm)
    subst hq
    exact ends1 Try.results11 rfl ⟨_, rfl, H.base, rfl⟩
   ·
    refine W.cond_false (congrArg Value.bool hc3) ?_
    refine W.skip ?_
    refine W.seq ?_
    refine W.region ?_
    refine O.loadA [va0_0, va0_1] ag25 rfl rfl rfl rfl (H.cell 0 rfl) ?_
    obtain ⟨⟨t6, t7⟩, hy5, hm⟩ := bind_some hm
    refine O.call Try.call42 rfl rfl rfl (c_sight_Tight _ _ (GNet.mk a0.Rates a0.Sights) (H.arg ha0_0) (H.arg ha0_1) hy5) ?_
    rintro _ w9 hb8 ⟨v1, v2, rfl, ho1⟩
    have H := H.addAll hb8 ho1
    refine O.move (v := (.tuple #[(.agg #[v1, v2]), (.int .i64 t7)])) rfl rfl rfl ?_
    refine O.extract (v := (.agg #[v1, v2])) rfl rfl rfl rfl ?_
    refine O.extract (v := (.int .i64 t7)) rfl rfl rfl rfl ?_
    refine O.alloc [(.slice none 0 0), (.slice none 0 0)] ze25 H rfl rfl rfl ?_
    intro b4 w10 H hb9
    have H := H.addNil (α := Int) (E := 3)
    have H := H.addNil (α := GSight) (E := 39)
    refine O.store 5 0 [v1, v2] [v1, v2] sz25 H rfl rfl rfl rfl rfl rfl ⟨⟨rfl, rfl⟩, rfl⟩ (one_cons (SliceR.one (H.own 3 rfl)) (one_cons (SliceR.one (H.own 4 rfl)) one_nil)) ?_
    intro w11 H
    refine O.assign (v := (.int .i64 t7)) rfl rfl rfl ?_
    refine WL.nil ?_
    refine W.seq ?_
    refine W.region ?_
    refine O.loadA [v1, v2] ag25 rfl rfl rfl rfl (H.cell 5 rfl) ?_
    obtain ⟨⟨t8, t9⟩, hy6, hm⟩ := bind_some hm
    refine O.call Try.call42 rfl rfl rfl (c_sight_Tight _ _ (GNet.mk t6.Rates t6.Sights) (H.own 3 rfl) (H.own 4 rfl) hy6) ?_
    rintro _ w12 hb10 ⟨v3, v4, rfl, ho2⟩
    have H := H.addAll hb10 ho2
    refine O.move (v := (.tuple #[(.agg #[v3, v4]), (.int .i64 t9)])) rfl rfl rfl ?_
    refine O.extract (v := (.agg #[v3, v4])) rfl rfl rfl rfl ?_
    refine O.extract (v := (.int .i64 t9)) rfl rfl rfl rfl ?_
    refine O.alloc [(.slice none 0 0), (.slice none 0 0)] ze25 H rfl rfl rfl ?_
    intro b5 w13 H hb11
    have H := H.addNil (α := Int) (E := 3)
    have H := H.addNil (α := GSight) (E := 39)
    refine O.store 10 0 [v3, v4] [v3, v4] sz25 H rfl rfl rfl rfl rfl rfl ⟨⟨rfl, rfl⟩, rfl⟩ (one_cons (SliceR.one (H.own 8 rfl)) (one_cons (SliceR.one (H.own 9 rfl)) one_nil)) ?_
    intro w14 H
    refine O.assign (v := (.int .i64 t9)) rfl rfl rfl ?_
    refine WL.nil ?_
    refine W.seq ?_
    refine W.region ?_
    refine O.loadA [va0_0, va0_1] ag25 rfl rfl rfl rfl (H.cell 0 rfl) ?_
    obtain ⟨⟨t10, t11⟩, hy7, hm⟩ := bind_some hm
    refine O.call Try.call43 rfl rfl rfl (c_sight_Needed _ _ (GNet.mk a0.Rates a0.Sights) (H.arg ha0_0) (H.arg ha0_1) hy7) ?_
    rintro _ w15 hb12 ⟨v5, rfl, ho3⟩
    have H := H.addOwn hb12 ho3
    refine O.move (v := (.tuple #[v5, (.int .i64 t11)])) rfl rfl rfl ?_
    refine O.extract (v := v5) rfl rfl rfl rfl ?_
    refine O.extract (v := (.int .i64 t11)) rfl rfl rfl rfl ?_
    refine O.assign (v := v5) rfl rfl rfl ?_
    refine O.assign (v := (.int .i64 t11)) rfl rfl rfl ?_
    refine WL.nil ?_
    refine W.seq ?_
    refine W.seq ?_
    refine W.region ?_
    refine O.move (v := (.int .i64 t7)) rfl rfl rfl ?_
    refine O.neq rfl rfl rfl rfl ?_
    refine O.move (v := (.bool (t7 != 0))) rfl rfl rfl ?_
    refine WL.cut 3 (fun f w => f 2 = (.pointer (some ⟨b1, 0, none⟩)) ∧ f 3 = (.pointer (some ⟨b2, 0, none⟩)) ∧ f 5 = (.pointer (some ⟨b3, 0, none⟩)) ∧ f 6 = (.int .i64 t4) ∧ f 7 = (.pointer (some ⟨b4, 0, none⟩)) ∧ f 9 = (.pointer (some ⟨b5, 0, none⟩)) ∧ f 11 = v5 ∧ f 12 = (.int .i64 t11) ∧ f 62 = .bool ((t7 != 0) || (t9 != 0)) ∧ Inv w0 w [boxI b1 25 [va0_0, va0_1], boxI b2 26 [(.int .i64 a1.x0), (.int .i64 a1.x1), (.int .i64 a1.x2)], boxI b3 30 [(.int .i64 t3.Lo), (.int .i64 t3.Hi)], ownI (α := Int) v1 3 t6.Rates, ownI (α := GSight) v2 39 t6.Sights, boxI b4 25 [v1, v2], ownI (α := Int) (.slice none 0 0) 3 ([] : List Int), ownI (α := GSight) (.slice none 0 0) 39 ([] : List GSight), ownI (α := Int) v3 3 t8.Rates, ownI (α := GSight) v4 39 t8.Sights, boxI b5 25 [v3, v4], ownI (α := Int) (.slice none 0 0) 3 ([] : List Int), ownI (α := GSight) (.slice none 0 0) 39 ([] : List GSight), ownI (α := Int) v5 3 t10]) ?_ ?_
    ·
     rcases bool_ft (t7 != 0) with hc4 | hc4
     ·
      refine WL.reset (i := 59) (v := .bool false) (congrArg Value.bool hc4) ?_
      refine O.move (v := (.int .i64 t9)) rfl rfl rfl ?_
      refine O.neq rfl rfl rfl rfl ?_
      refine O.pick_false (v := (.bool (t9 != 0))) rfl rfl rfl rfl ?_
      exact WL.nil ⟨rfl, rfl, rfl, rfl, rfl, rfl, rfl, rfl, congrArg Value.bool (or_f hc4), H⟩
     ·
      refine WL.reset (i := 59) (v := .bool true) (congrArg Value.bool hc4) ?_
      refine O.skip rfl rfl ?_
      refine O.skip rfl rfl ?_
      refine O.pick_true (v := (.bool true)) rfl rfl rfl rfl ?_
      exact WL.nil ⟨rfl, rfl, rfl, rfl, rfl, rfl, rfl, rfl, congrArg Value.bool (or_t hc4), H⟩
    ·
     rintro f w ⟨hf2, hf3, hf5, hf6, hf7, hf9, hf11, hf12, hf62, H⟩
     obtain ⟨u2, rfl⟩ := up9 hf2 hf3 hf5 hf6 hf7 hf9 hf11 hf12 hf62
     refine O.move (v := (.bool ((t7 != 0) || (t9 != 0)))) rfl rfl rfl ?_
     refine WL.cut 3 (fun f w => f 2 = (.pointer (some ⟨b1, 0, none⟩)) ∧ f 3 = (.pointer (some ⟨b2, 0, none⟩)) ∧ f 5 = (.pointer (some ⟨b3, 0, none⟩)) ∧ f 6 = (.int .i64 t4) ∧ f 7 = (.pointer (some ⟨b4, 0, none⟩)) ∧ f 9 = (.pointer (some ⟨b5, 0, none⟩)) ∧ f 11 = v5 ∧ f 66 = .bool (((t7 != 0) || (t9 != 0)) || (t11 != 0)) ∧ Inv w0 w [boxI b1 25 [va0_0, va0_1], boxI b2 26 [(.int .i64 a1.x0), (.int .i64 a1.x1), (.int .i64 a1.x2)], boxI b3 30 [(.int .i64 t3.Lo), (.int .i64 t3.Hi)], ownI (α := Int) v1 3 t6.Rates, ownI (α := GSight) v2 39 t6.Sights, boxI b4 25 [v1, v2], ownI (α := Int) (.slice none 0 0) 3 ([] : List Int), ownI (α := GSight) (.slice none 0 0) 39 ([] : List GSight), ownI (α := Int) v3 3 t8.Rates, ownI (α := GSight) v4 39 t8.Sights, boxI b5 25 [v3, v4], ownI (α := Int) (.slice none 0 0) 3 ([] : List Int), ownI (α := GSight) (.slice none 0 0) 39 ([] : List GSight), ownI (α := Int) v5 3 t10]) ?_ ?_
     ·
      rcases bool_ft ((t7 != 0) || (t9 != 0)) with hc5 | hc5
      ·
       refine WL.reset (i := 63) (v := .bool false) (congrArg Value.bool hc5) ?_
       refine O.move (v := (.int .i64 t11)) rfl rfl rfl ?_
       refine O.neq rfl rfl rfl rfl ?_
       refine O.pick_false (v := (.bool (t11 != 0))) rfl rfl rfl rfl ?_
       exact WL.nil ⟨rfl, rfl, rfl, rfl, rfl, rfl, rfl, congrArg Value.bool (or_f hc5), H⟩
      ·
       refine WL.reset (i := 63) (v := .bool true) (congrArg Value.bool hc5) ?_
       refine O.skip rfl rfl ?_
       refine O.skip rfl rfl ?_
       refine O.pick_true (v := (.bool true)) rfl rfl rfl rfl ?_
       exact WL.nil ⟨rfl, rfl, rfl, rfl, rfl, rfl, rfl, congrArg Value.bool (or_t hc5), H⟩
     ·
      rintro f w ⟨hf2, hf3, hf5, hf6, hf7, hf9, hf11, hf66, H⟩
      obtain ⟨u3, rfl⟩ := up8 hf2 hf3 hf5 hf6 hf7 hf9 hf11 hf66
      refine O.move (v := (.bool (((t7 != 0) || (t9 != 0)) || (t11 != 0)))) rfl rfl rfl ?_
      obtain ⟨b6, hm1, hm⟩ := bind_some hm
      refine WL.cut 5 (fun f w => f 2 = (.pointer (some ⟨b1, 0, none⟩)) ∧ f 3 = (.pointer (some ⟨b2, 0, none⟩)) ∧ f 5 = (.pointer (some ⟨b3, 0, none⟩)) ∧ f 6 = (.int .i64 t4) ∧ f 7 = (.pointer (some ⟨b4, 0, none⟩)) ∧ f 11 = v5 ∧ f 72 = .bool b6 ∧ Inv w0 w [boxI b1 25 [va0_0, va0_1], boxI b2 26 [(.int .i64 a1.x0), (.int .i64 a1.x1), (.int .i64 a1.x2)], boxI b3 30 [(.int .i64 t3.Lo), (.int .i64 t3.Hi)], ownI (α := Int) v1 3 t6.Rates, ownI (α := GSight) v2 39 t6.Sights, boxI b4 25 [v1, v2], ownI (α := Int) (.slice none 0 0) 3 ([] : List Int), ownI (α := GSight) (.slice none 0 0) 39 ([] : List GSight), ownI (α := Int) v3 3 t8.Rates, ownI (α := GSight) v4 39 t8.Sights, boxI b5 25 [v3, v4], ownI (α := Int) (.slice none 0 0) 3 ([] : List Int), ownI (α := GSight) (.slice none 0 0) 39 ([] : List GSight), ownI (α := Int) v5 3 t10]) ?_ ?_
      ·
       rcases ite_some hm1 with ⟨hc6, hm1⟩ | ⟨hc6, hm1⟩
       ·
        refine WL.reset (i := 67) (v := .bool true) (congrArg Value.bool hc6) ?_
        refine O.skip rfl rfl ?_
        refine O.skip rfl rfl ?_
        refine O.skip rfl rfl ?_
        refine O.skip rfl rfl ?_
        refine O.pick_true (v := (.bool true)) rfl rfl rfl rfl ?_
        refine WL.nil ?_
        have hq : true = b6 := Option.some.inj (show some true = some b6 from hm1)
        subst hq
        exact ⟨rfl, rfl, rfl, rfl, rfl, rfl, rfl, H⟩
       ·
        refine WL.reset (i := 67) (v := .bool false) (congrArg Value.bool hc6) ?_
        refine O.loadA [v1, v2] ag25 rfl rfl rfl rfl (H.cell 5 rfl) ?_
        refine O.loadA [v3, v4] ag25 rfl rfl rfl rfl (H.cell 10 rfl) ?_
        obtain ⟨t12, hy8, hm1⟩ := bind_some hm1
        refine O.call Try.call44 rfl rfl rfl (c_noongunref02_Same _ _ (GNet.mk t6.Rates t6.Sights) (H.own 3 rfl) (H.own 4 rfl) _ _ (GNet.mk t8.Rates t8.Sights) (H.own 8 rfl) (H.own 9 rfl) hy8) ?_
        rintro _ w16 hb13 rfl
        have H := H.ext hb13
        refine O.not rfl rfl rfl ?_
        refine O.pick_false (v := (.bool (!t12))) rfl rfl rfl rfl ?_
        refine WL.nil ?_
        have hq : (!t12) = b6 := Option.some.inj (show some (!t12) = some b6 from hm1)
        subst hq
        exact ⟨rfl, rfl, rfl, rfl, rfl, rfl, rfl, H⟩
      ·
       rintro f w ⟨hf2, hf3, hf5, hf6, hf7, hf11, hf72, H⟩
       obtain ⟨u4, rfl⟩ := up7 hf2 hf3 hf5 hf6 hf7 hf11 hf72
       refine WL.nil ?_
       rcases ite_some hm with ⟨hc7, hm⟩ | ⟨hc7, hm⟩
       ·
        refine W.cond_true (congrArg Value.bool hc7) ?_
        refine W.seq ?_
        refine W.region ?_
        refine O.assign (v := (.bool false)) rfl rfl rfl ?_
        refine WL.nil ?_
        refine W.ret ?_
        have hq : false = r0 := Option.some.inj (show some false = some r0 from hm)
        subst hq
        exact ends1 Try.results11 rfl ⟨_, rfl, H.base, rfl⟩
       ·
        refine W.cond_false (congrArg Value.bool hc7) ?_
        refine W.skip ?_
        refine W.seq ?_
        refine W.region ?_
        refine O.loadA [v1, v2] ag25 rfl rfl rfl rfl (H.cell 5 rfl) ?_
        refine O.indexArr 0 Try.underlying26 sz3 rfl rfl rfl rfl rfl ?_
        refine O.load sc3 rfl rfl rfl (H.cell 1 rfl 0 _ rfl) ?_
        refine O.indexArr 1 Try.underlying26 sz3 rfl rfl rfl rfl rfl ?_
        refine O.load sc3 rfl rfl rfl (H.cell 1 rfl 1 _ rfl) ?_
        refine O.indexArr 2 Try.underlying26 sz3 rfl rfl rfl rfl rfl ?_
        refine O.load sc3 rfl rfl rfl (H.cell 1 rfl 2 _ rfl) ?_
        obtain ⟨⟨t13, t14⟩, hy9, hm⟩ := bind_some hm
        refine O.call Try.call16 rfl rfl rfl (c_sight_Between _ _ (GNet.mk t6.Rates t6.Sights) (H.own 3 rfl) (H.own 4 rfl) _ _ _ hy9) ?_
        rintro _ w17 hb14 rfl
        have H := H.ext hb14
        refine O.move (v := (.tuple #[(.agg (Flat.cells t13).toArray), (.int .i64 t14)])) rfl rfl rfl ?_
        refine O.extract (v := (.agg (Flat.cells t13).toArray)) rfl rfl rfl rfl ?_
        refine O.extract (v := (.int .i64 t14)) rfl rfl rfl rfl ?_
        refine O.alloc [(.int .i64 0), (.int .i64 0)] ze30 H rfl rfl rfl ?_
        intro b7 w18 H hb15
        refine O.store 14 0 [(.int .i64 t13.Lo), (.int .i64 t13.Hi)] [(.int .i64 t13.Lo), (.int .i64 t13.Hi)] sz30 H rfl rfl rfl rfl rfl rfl ⟨⟨rfl, rfl⟩, rfl⟩ (one_cons rfl (one_cons rfl one_nil)) ?_
        intro w19 H
        refine O.assign (v := (.int .i64 t14)) rfl rfl rfl ?_
        refine WL.nil ?_
        refine W.seq ?_
        refine W.seq ?_
        refine W.region ?_
        refine O.loadA [(.int .i64 t13.Lo), (.int .i64 t13.Hi)] ag30 rfl rfl rfl rfl (H.cell 14 rfl) ?_
        refine O.loadA [(.int .i64 t3.Lo), (.int .i64 t3.Hi)] ag30 rfl rfl rfl rfl (H.cell 2 rfl) ?_
        refine O.neqSt t13 t3 eq30 rfl rfl rfl rfl ?_
        refine O.move (v := (.bool (!(t13 == t3)))) rfl rfl rfl ?_
        refine WL.cut 4 (fun f w => f 2 = (.pointer (some ⟨b1, 0, none⟩)) ∧ f 3 = (.pointer (some ⟨b2, 0, none⟩)) ∧ f 5 = (.pointer (some ⟨b3, 0, none⟩)) ∧ f 6 = (.int .i64 t4) ∧ f 11 = v5 ∧ f 91 = .bool ((!(t13 == t3)) || (t14 != t4)) ∧ Inv w0 w [boxI b1 25 [va0_0, va0_1], boxI b2 26 [(.int .i64 a1.x0), (.int .i64 a1.x1), (.int .i64 a1.x2)], boxI b3 30 [(.int .i64 t3.Lo), (.int .i64 t3.Hi)], ownI (α := Int) v1 3 t6.Rates, ownI (α := GSight) v2 39 t6.Sights, boxI b4 25 [v1, v2], ownI (α := Int) (.slice none 0 0) 3 ([] : List Int), ownI (α := GSight) (.slice none 0 0) 39 ([] : List GSight), ownI (α := Int) v3 3 t8.Rates, ownI (α := GSight) v4 39 t8.Sights, boxI b5 25 [v3, v4], ownI (α := Int) (.slice none 0 0) 3 ([] : List Int), ownI (α := GSight) (.slice none 0 0) 39 ([] : List GSight), ownI (α := Int) v5 3 t10, boxI b7 30 [(.int .i64 t13.Lo), (.int .i64 t13.Hi)]]) ?_ ?_
        ·
         rcases bool_ft (!(t13 == t3)) with hc8 | hc8
         ·
          refine WL.reset (i := 87) (v := .bool false) (congrArg Value.bool hc8) ?_
          refine O.move (v := (.int .i64 t14)) rfl rfl rfl ?_
          refine O.move (v := (.int .i64 t4)) rfl rfl rfl ?_
          refine O.neq rfl rfl rfl rfl ?_
          refine O.pick_false (v := (.bool (t14 != t4))) rfl rfl rfl rfl ?_
          exact WL.nil ⟨rfl, rfl, rfl, rfl, rfl, congrArg Value.bool (or_f hc8), H⟩
         ·
          refine WL.reset (i := 87) (v := .bool true) (congrArg Value.bool hc8) ?_
          refine O.skip rfl rfl ?_
          refine O.skip rfl rfl ?_
          refine O.skip rfl rfl ?_
          refine O.pick_true (v := (.bool true)) rfl rfl rfl rfl ?_
          exact WL.nil ⟨rfl, rfl, rfl, rfl, rfl, congrArg Value.bool (or_t hc8), H⟩
        ·
         rintro f w ⟨hf2, hf3, hf5, hf6, hf11, hf91, H⟩
         obtain ⟨u5, rfl⟩ := up6 hf2 hf3 hf5 hf6 hf11 hf91
         refine WL.nil ?_
         rcases ite_some hm with ⟨hc9, hm⟩ | ⟨hc9, hm⟩
         ·
          refine W.cond_true (congrArg Value.bool hc9) ?_
          refine W.seq ?_
          refine W.region ?_
          refine O.assign (v := (.bool false)) rfl rfl rfl ?_
          refine WL.nil ?_
          refine W.ret ?_
          have hq : false = r0 := Option.some.inj (show some false = some r0 from hm)
          subst hq
          exact ends1 Try.results11 rfl ⟨_, rfl, H.base, rfl⟩
         ·
          refine W.cond_false (congrArg Value.bool hc9) ?_
          refine W.skip ?_
          refine W.seq ?_
          refine W.region ?_
          refine O.buildEmpty (α := Int) Try.underlying22 el3 H rfl rfl ?_
          intro b8 w20 H hb16
          refine O.fieldAddr fd25_0 rfl rfl rfl ?_
          refine O.load sc22 rfl rfl rfl (H.cell 0 rfl 0 _ rfl) ?_
          obtain ⟨t15, ht15, hm⟩ := bind_some hm
          refine O.append 15 Try.underlying22 el3 rfl H rfl (H.arg ha0_0) ht15 rfl rfl rfl rfl ?_
          intro v6 w21 H
          obtain ⟨ad1, cap1, hvad1, _⟩ := (H.own 15 rfl).shape
          refine O.build (v := (.agg #[v6, (.slice none 0 0)])) (fun w => by rw [hvad1]; exact bd25_0 _ _ _ w) rfl rfl rfl ?_
          refine O.alloc [(.slice none 0 0), (.slice none 0 0)] ze25 H rfl rfl rfl ?_
          intro b9 w22 H hb17
          have H := H.addNil (α := Int) (E := 3)
          have H := H.addNil (α := GSight) (E := 39)
          have H := H.addNil (α := GSight) (E := 39)
          refine O.store 16 0 [v6, (.slice none 0 0)] [v6, (.slice none 0 0)] sz25 H rfl rfl rfl rfl rfl rfl ⟨⟨rfl, rfl⟩, rfl⟩ (one_cons (SliceR.one (H.own 15 rfl)) (one_cons rfl one_nil)) ?_
          intro w23 H
          refine WL.nil ?_
          refine W.seq ?_
          refine W.seq ?_
          refine W.region ?_
          refine O.move (v := v5) rfl rfl rfl ?_
          refine O.lenS Try.underlying22 (H.own 13 rfl) rfl rfl rfl ?_
          refine O.move (v := (.int .i64 0)) rfl rfl rfl ?_
          refine WL.nil ?_
          obtain ⟨o1, hm2, hm⟩ := bind_some hm
          refine W.via (fun f w => ∃ s1 : (List GSight), ∃ v10 : Value, o1 = .next s1 ∧ f 3 = (.pointer (some ⟨b2, 0, none⟩)) ∧ f 5 = (.pointer (some ⟨b3, 0, none⟩)) ∧ f 6 = (.int .i64 t4) ∧ f 15 = (.pointer (some ⟨b9, 0, none⟩)) ∧ Inv w0 w [boxI b2 26 [(.int .i64 a1.x0), (.int .i64 a1.x1), (.int .i64 a1.x2)], boxI b3 30 [(.int .i64 t3.Lo), (.int .i64 t3.Hi)], ownI (α := Int) v6 3 t15, boxI b9 25 [v6, v10], ownI (α := GSight) v10 39 s1]) ?_ ?_
          ·
           refine W.block ?_
           have H := H.keep [0, 1, 2, 13, 15, 16, 19] [boxI b1 25 [va0_0, va0_1], boxI b2 26 [(.int .i64 a1.x0), (.int .i64 a1.x1), (.int .i64 a1.x2)], boxI b3 30 [(.int .i64 t3.Lo), (.int .i64 t3.Hi)], ownI (α := Int) v5 3 t10, ownI (α := Int) v6 3 t15, boxI b9 25 [v6, (.slice none 0 0)], ownI (α := GSight) (.slice none 0 0) 39 ([] : List GSight)] rfl (by decide)
           refine W.rangeL (i := 0) hm2 (fun rem ik1 s f w => ∃ z2 : (List GSight), ∃ v8 : Value, z2 = s ∧ t10.drop ik1 = rem ∧ f 99 = .int .i64 (ik1 : Int) ∧ f 98 = (.int .i64 ((t10.length : Nat) : Int)) ∧ f 2 = (.pointer (some ⟨b1, 0, none⟩)) ∧ f 3 = (.pointer (some ⟨b2, 0, none⟩)) ∧ f 5 = (.pointer (some ⟨b3, 0, none⟩)) ∧ f 6 = (.int .i64 t4) ∧ f 15 = (.pointer (some ⟨b9, 0, none⟩)) ∧ f 97 = v5 ∧ Inv w0 w [boxI b1 25 [va0_0, va0_1], boxI b2 26 [(.int .i64 a1.x0), (.int .i64 a1.x1), (.int .i64 a1.x2)], boxI b3 30 [(.int .i64 t3.Lo), (.int .i64 t3.Hi)], ownI (α := Int) v5 3 t10, ownI (α := Int) v6 3 t15, boxI b9 25 [v6, v8], ownI (α := GSight) v8 39 z2]) ?_ ?_ ?_
           ·
            exact ⟨_, (.slice none 0 0), rfl, List.drop_zero, rfl, rfl, rfl, rfl, rfl, rfl, rfl, rfl, H⟩
           ·
            rintro yk1 xs ik1 _ st f w ⟨z2, v8, rfl, hdropk1, hf99, hf98, hf2, hf3, hf5, hf6, hf15, hf97, H⟩ hm3
            have hltk1 := drop_lt hdropk1; have hixk1 := drop_idx hdropk1
            obtain ⟨u6, rfl⟩ := up8 hf99 hf98 hf2 hf3 hf5 hf6 hf15 hf97
            have hinck1 := addI_lt hltk1 (H.own 3 rfl).len_le
            refine W.seq ?_
            refine W.region ?_
            refine O.lss rfl rfl rfl rfl ?_
            refine WL.nil ?_
            refine W.seq ?_
            refine W.cond_true (congrArg Value.bool (decide_eq_true hltk1)) ?_
            refine W.skip ?_
            refine W.seq ?_
            refine W.block ?_
            refine W.seq ?_
            refine W.region ?_
            refine O.indexAddr Try.underlying22 sz3 (H.own 3 rfl) hixk1 rfl rfl rfl rfl ?_
            intro p1 hp1
            refine O.load sc3 rfl rfl rfl (hp1.flat 0 _ rfl) ?_
            refine O.assign (v := (.int .i64 yk1)) rfl rfl rfl ?_
            refine WL.nil ?_
            refine W.seq ?_
            refine W.seq ?_
            refine W.region ?_
            refine O.move (v := (.int .i64 yk1)) rfl rfl rfl ?_
            refine O.lss rfl rfl rfl rfl ?_
            refine O.move (v := (.bool (decide (yk1 < 0)))) rfl rfl rfl ?_
            refine WL.cut 6 (fun f w => f 2 = (.pointer (some ⟨b1, 0, none⟩)) ∧ f 3 = (.pointer (some ⟨b2, 0, none⟩)) ∧ f 5 = (.pointer (some ⟨b3, 0, none⟩)) ∧ f 6 = (.int .i64 t4) ∧ f 15 = (.pointer (some ⟨b9, 0, none⟩)) ∧ f 17 = (.int .i64 yk1) ∧ f 97 = v5 ∧ f 98 = (.int .i64 ((t10.length : Nat) : Int)) ∧ f 99 = (.int .i64 (ik1 : Int)) ∧ f 111 = .bool ((decide (yk1 < 0)) || (decide (((a0.Sights.length : Nat) : Int) ≤ yk1))) ∧ Inv w0 w [boxI b1 25 [va0_0, va0_1], boxI b2 26 [(.int .i64 a1.x0), (.int .i64 a1.x1), (.int .i64 a1.x2)], boxI b3 30 [(.int .i64 t3.Lo), (.int .i64 t3.Hi)], ownI (α := Int) v5 3 t10, ownI (α := Int) v6 3 t15, boxI b9 25 [v6, v8], ownI (α := GSight) v8 39 z2]) ?_ ?_
            ·
             rcases bool_ft (decide (yk1 < 0)) with hc10 | hc10
             ·
              refine WL.reset (i := 105) (v := .bool false) (congrArg Value.bool hc10) ?_
              refine O.move (v := (.int .i64 yk1)) rfl rfl rfl ?_
              refine O.fieldAddr fd25_1 rfl rfl rfl ?_
              refine O.load sc23 rfl rfl rfl (H.cell 0 rfl 1 _ rfl) ?_
              refine O.lenS Try.underlying23 (H.arg ha0_1) rfl rfl rfl ?_
              refine O.geq rfl rfl rfl rfl ?_
              refine O.pick_false (v := (.bool (decide (((a0.Sights.length : Nat) : Int) ≤ yk1)))) rfl rfl rfl rfl ?_
              exact WL.nil ⟨rfl, rfl, rfl, rfl, rfl, rfl, rfl, rfl, rfl, congrArg Value.bool (or_f hc10), H⟩
             ·
              refine WL.reset (i := 105) (v := .bool true) (congrArg Value.bool hc10) ?_
              refine O.skip rfl rfl ?_
              refine O.skip rfl rfl ?_
              refine O.skip rfl rfl ?_
              refine O.skip rfl rfl ?_
              refine O.skip rfl rfl ?_
              refine O.pick_true (v := (.bool true)) rfl rfl rfl rfl ?_
              exact WL.nil ⟨rfl, rfl, rfl, rfl, rfl, rfl, rfl, rfl, rfl, congrArg Value.bool (or_t hc10), H⟩
            ·
             rintro f w ⟨hf2, hf3, hf5, hf6, hf15, hf17, hf97, hf98, hf99, hf111, H⟩
             obtain ⟨u7, rfl⟩ : ∃ u7, f = (upd (upd (upd (upd (upd (upd (upd (upd (upd (upd u7 2 (.pointer (some ⟨b1, 0, none⟩))) 3 (.pointer (some ⟨b2, 0, none⟩))) 5 (.pointer (some ⟨b3, 0, none⟩))) 6 (.int .i64 t4)) 15 (.pointer (some ⟨b9, 0, none⟩))) 17 (.int .i64 yk1)) 97 v5) 98 (.int .i64 ((t10.length : Nat) : Int))) 99 (.int .i64 (ik1 : Int))) 111 (.bool ((decide (yk1 < 0)) || (decide (((a0.Sights.length : Nat) : Int) ≤ yk1))))) := ⟨f, by rw [upd_self hf2, upd_self hf3, upd_self hf5, upd_self hf6, upd_self hf15, upd_self hf17, upd_self hf97, upd_self hf98, upd_self hf99, upd_self hf111]⟩
             refine WL.nil ?_
             rcases ite_some hm3 with ⟨hc11, hm3⟩ | ⟨hc11, hm3⟩
             ·
              refine W.cond_true (congrArg Value.bool hc11) ?_
              refine W.seq ?_
              refine W.region ?_
              refine O.assign (v := (.bool false)) rfl rfl rfl ?_
              refine WL.nil ?_
              refine W.ret ?_
              obtain rfl := Option.some.inj hm3
              refine ⟨_, rfl, ?_⟩
              rintro rfl
              have hq : false = r0 := Option.some.inj (show some false = some r0 from hm)
              subst hq
              exact ends1 Try.results11 rfl ⟨_, rfl, H.base, rfl⟩
             ·
              refine W.cond_false (congrArg Value.bool hc11) ?_
              refine W.skip ?_
              obtain ⟨x1, hx1, hm3⟩ := bind_some hm3
              obtain ⟨wd1, rfl⟩ : ∃ x, x = w := ⟨w, rfl⟩
              refine W.draw 8 (fun k v wk => match k with | 0 => v = (.pointer (some (Addr.add (Addr.mk b9 0 none) 1))) | 1 => v = v8 | 2 => v = (.pointer (some (Addr.add (Addr.mk b1 0 none) 1))) | 3 => v = va0_1 | 4 => v = (.int .i64 yk1) | 5 => ∃ p2 : Addr, v = (.pointer (some p2)) ∧ ElemAt wk p2 x1 | 6 => v = (.agg (Flat.cells x1).toArray) | 7 => OwnR wd1 wk v 39 ([x1] : List GSight) | _ => True) (by intro k v w w' h hb; match k, h with | 0, h => exact h | 1, h => exact h | 2, h => exact h | 3, h => exact h | 4, h => exact h | 5, ⟨p, e, hp⟩ => exact ⟨p, e, hp.mono hb⟩ | 6, h => exact h | 7, h => exact OwnR.mono h hb | _ + 8, h => exact h) fol (by kernel_rfl) ?_ ?_
              ·
               refine ⟨⟨⟨⟨⟨⟨⟨⟨trivial, ?_⟩, ?_⟩, ?_⟩, ?_⟩, ?_⟩, ?_⟩, ?_⟩, ?_⟩
               ·
                intro f wk hx hf hd
                have H := H.ext hx
                have hf15 : f 15 = (.pointer (some ⟨b9, 0, none⟩)) := hf 15 rfl
                obtain ⟨u8, rfl⟩ := up1 hf15
                refine O.fieldAddr fd25_1 rfl rfl rfl ?_
                exact WL.nil ⟨Below.refl _ _, _, rfl, rfl⟩
               ·
                intro f wk hx hf hd
                have H := H.ext hx
                have hf112 : f 112 = (.pointer (some (Addr.add (Addr.mk b9 0 none) 1))) := hd 0 rfl
                obtain ⟨u9, rfl⟩ := up1 hf112
                refine O.load sc23 rfl rfl rfl (H.cell 5 rfl 1 _ rfl) ?_
                exact WL.nil ⟨Below.refl _ _, _, rfl, rfl⟩
               ·
                intro f wk hx hf hd
                have H := H.ext hx
                have hf2 : f 2 = (.pointer (some ⟨b1, 0, none⟩)) := hf 2 rfl
                obtain ⟨u10, rfl⟩ := up1 hf2
                refine O.fieldAddr fd25_1 rfl rfl rfl ?_
                exact WL.nil ⟨Below.refl _ _, _, rfl, rfl⟩
               ·
                intro f wk hx hf hd
                have H := H.ext hx
                have hf114 : f 114 = (.pointer (some (Addr.add (Addr.mk b1 0 none) 1))) := hd 2 rfl
                obtain ⟨u11, rfl⟩ := up1 hf114
                refine O.load sc23 rfl rfl rfl (H.cell 0 rfl 1 _ rfl) ?_
                exact WL.nil ⟨Below.refl _ _, _, rfl, rfl⟩
               ·
                intro f wk hx hf hd
                have H := H.ext hx
                have hf17 : f 17 = (.int .i64 yk1) := hf 17 rfl
                obtain ⟨u12, rfl⟩ := up1 hf17
                refine O.move (v := (.int .i64 yk1)) rfl rfl rfl ?_
                exact WL.nil ⟨Below.refl _ _, _, rfl, rfl⟩
               ·
                intro f wk hx hf hd
                have H := H.ext hx
                have hf115 : f 115 = va0_1 := hd 3 rfl
                have hf116 : f 116 = (.int .i64 yk1) := hd 4 rfl
                obtain ⟨u13, rfl⟩ := up2 hf115 hf116
                refine O.indexAddr Try.underlying23 sz39 (H.arg ha0_1) hx1 rfl rfl rfl rfl ?_
                intro p2 hp2
                exact WL.nil ⟨Below.refl _ _, _, rfl, ⟨_, rfl, hp2⟩⟩
               ·
                intro f wk hx hf hd
                have H := H.ext hx
                obtain ⟨p2, hf117, hp2⟩ : ∃ p2 : Addr, f 117 = (.pointer (some p2)) ∧ ElemAt wk p2 x1 := hd 5 rfl
                obtain ⟨u14, rfl⟩ := up1 hf117
                refine O.loadA [(.int .i64 x1.At), (.int .i64 x1.A), (.int .i64 x1.B), (.int .i64 x1.Lo), (.int .i64 x1.Hi)] ag39 rfl rfl rfl rfl (hp2.flat) ?_
                exact WL.nil ⟨Below.refl _ _, _, rfl, rfl⟩
               ·
                intro f wk hx hf hd
                have H := H.ext hx
                have hf118 : f 118 = (.agg (Flat.cells x1).toArray) := hd 6 rfl
                obtain ⟨u15, rfl⟩ := up1 hf118
                refine O.buildSlice (α := GSight) [(.agg (Flat.cells x1).toArray)] [x1] Try.underlying23 el39 (Inv.start (w := _)) rfl rfl rfl rfl rfl rfl rfl ?_
                intro v11 w24 H hb18
                exact WL.nil ⟨hb18, _, rfl, (H.ownR 0 rfl).base hx.size⟩
              ·
               intro f wk hx hf hmd hd
               have hf2 : f 2 = (.pointer (some ⟨b1, 0, none⟩)) := hf 2 rfl
               have hf3 : f 3 = (.pointer (some ⟨b2, 0, none⟩)) := hf 3 rfl
               have hf5 : f 5 = (.pointer (some ⟨b3, 0, none⟩)) := hf 5 rfl
               have hf6 : f 6 = (.int .i64 t4) := hf 6 rfl
               have hf15 : f 15 = (.pointer (some ⟨b9, 0, none⟩)) := hf 15 rfl
               have hf97 : f 97 = v5 := hf 97 rfl
               have hf98 : f 98 = (.int .i64 ((t10.length : Nat) : Int)) := hf 98 rfl
               have hf99 : f 99 = (.int .i64 (ik1 : Int)) := hf 99 rfl
               have hf113 : f 113 = v8 := hd 1 rfl
               have ho119 : OwnR wd1 wk (f 119) 39 ([x1] : List GSight) := hd 7 rfl
               obtain ⟨v11, hf119⟩ : ∃ v11, f 119 = v11 := ⟨_, rfl⟩
               rw [hf119] at ho119
               have H := H.addOwn hx ho119
               obtain ⟨u16, rfl⟩ : ∃ u16, f = (upd (upd (upd (upd (upd (upd (upd (upd (upd (upd u16 2 (.pointer (some ⟨b1, 0, none⟩))) 3 (.pointer (some ⟨b2, 0, none⟩))) 5 (.pointer (some ⟨b3, 0, none⟩))) 6 (.int .i64 t4)) 15 (.pointer (some ⟨b9, 0, none⟩))) 97 v5) 98 (.int .i64 ((t10.length : Nat) : Int))) 99 (.int .i64 (ik1 : Int))) 113 v8) 119 v11) := ⟨f, by rw [upd_self hf2, upd_self hf3, upd_self hf5, upd_self hf6, upd_self hf15, upd_self hf97, upd_self hf98, upd_self hf99, upd_self hf113, upd_self hf119]⟩
               obtain ⟨t16, ht16, hm3⟩ := bind_some hm3
               refine O.append 6 Try.underlying23 el39 rfl H rfl (H.own 7 rfl) ht16 rfl rfl rfl rfl ?_
               intro v12 w25 H
               refine O.fieldAddr fd25_1 rfl rfl rfl ?_
               refine O.store 5 1 [v12] [v6, v12] sz23 H rfl rfl rfl rfl rfl (SliceR.cells1 (H.own 6 rfl)) ⟨⟨rfl, rfl⟩, rfl⟩ (one_cons (SliceR.one (H.own 6 rfl)) one_nil) ?_
               intro w26 H
               refine WL.nil ?_
               refine W.region ?_
               refine O.add rfl rfl rfl rfl hinck1 ?_
               refine O.move (v := .int .i64 ((ik1 : Int) + 1)) rfl rfl rfl ?_
               refine WL.nil ?_
               have H := H.keep [0, 1, 2, 3, 4, 5, 6] [boxI b1 25 [va0_0, va0_1], boxI b2 26 [(.int .i64 a1.x0), (.int .i64 a1.x1), (.int .i64 a1.x2)], boxI b3 30 [(.int .i64 t3.Lo), (.int .i64 t3.Hi)], ownI (α := Int) v5 3 t10, ownI (α := Int) v6 3 t15, boxI b9 25 [v6, v12], ownI (α := GSight) v12 39 t16] rfl (by decide)
               obtain rfl := Option.some.inj hm3
               exact ⟨_, rfl, _, v12, rfl, drop_next hdropk1, rfl, rfl, rfl, rfl, rfl, rfl, rfl, rfl, H⟩
           ·
            rintro ik1 _ f w ⟨z2, v8, rfl, hdropk1, hf99, hf98, hf2, hf3, hf5, hf6, hf15, hf97, H⟩ hfin
            have hltk1 := drop_end hdropk1
            obtain ⟨u17, rfl⟩ := up8 hf99 hf98 hf2 hf3 hf5 hf6 hf15 hf97
            refine W.seq ?_
            refine W.region ?_
            refine O.lss rfl rfl rfl rfl ?_
            refine WL.nil ?_
            refine W.seq ?_
            refine W.cond_false (congrArg Value.bool (decide_eq_false hltk1)) ?_
            refine W.exit ?_
            obtain rfl : Ctl.next z2 = o1 := hfin
            have H := H.keep [1, 2, 4, 5, 6] [boxI b2 26 [(.int .i64 a1.x0), (.int .i64 a1.x1), (.int .i64 a1.x2)], boxI b3 30 [(.int .i64 t3.Lo), (.int .i64 t3.Hi)], ownI (α := Int) v6 3 t15, boxI b9 25 [v6, v8], ownI (α := GSight) v8 39 z2] rfl (by decide)
            refine xT rfl ?_
            exact ⟨_, v8, rfl, rfl, rfl, rfl, rfl, H⟩
          ·
           rintro f w ⟨s1, v10, rfl, hf3, hf5, hf6, hf15, H⟩
           obtain ⟨u18, rfl⟩ := up4 hf3 hf5 hf6 hf15
           refine W.seq ?_
           refine W.region ?_
           refine O.loadA [v6, v10] ag25 rfl rfl rfl rfl (H.cell 3 rfl) ?_
           refine O.indexArr 0 Try.underlying26 sz3 rfl rfl rfl rfl rfl ?_
           refine O.load sc3 rfl rfl rfl (H.cell 0 rfl 0 _ rfl) ?_
           refine O.indexArr 1 Try.underlying26 sz3 rfl rfl rfl rfl rfl ?_
           refine O.load sc3 rfl rfl rfl (H.cell 0 rfl 1 _ rfl) ?_
           refine O.indexArr 2 Try.underlying26 sz3 rfl rfl rfl rfl rfl ?_
           refine O.load sc3 rfl rfl rfl (H.cell 0 rfl 2 _ rfl) ?_
           obtain ⟨⟨t17, t18⟩, hy10, hm⟩ := bind_some hm
           refine O.call Try.call16 rfl rfl rfl (c_sight_Between _ _ (GNet.mk t15 s1) (H.own 2 rfl) (H.own 4 rfl) _ _ _ hy10) ?_
           rintro _ w27 hb19 rfl
           have H := H.ext hb19
           refine O.move (v := (.tuple #[(.agg (Flat.cells t17).toArray), (.int .i64 t18)])) rfl rfl rfl ?_
           refine O.extract (v := (.agg (Flat.cells t17).toArray)) rfl rfl rfl rfl ?_
           refine O.extract (v := (.int .i64 t18)) rfl rfl rfl rfl ?_
           refine O.alloc [(.int .i64 0), (.int .i64 0)] ze30 H rfl rfl rfl ?_
           intro b10 w28 H hb20
           refine O.store 5 0 [(.int .i64 t17.Lo), (.int .i64 t17.Hi)] [(.int .i64 t17.Lo), (.int .i64 t17.Hi)] sz30 H rfl rfl rfl rfl rfl rfl ⟨⟨rfl, rfl⟩, rfl⟩ (one_cons rfl (one_cons rfl one_nil)) ?_
           intro w29 H
           refine O.assign (v := (.int .i64 t18)) rfl rfl rfl ?_
           refine WL.nil ?_
           refine W.seq ?_
           refine W.region ?_
           refine O.loadA [(.int .i64 t17.Lo), (.int .i64 t17.Hi)] ag30 rfl rfl rfl rfl (H.cell 5 rfl) ?_
           refine O.loadA [(.int .i64 t3.Lo), (.int .i64 t3.Hi)] ag30 rfl rfl rfl rfl (H.cell 1 rfl) ?_
           refine O.eqlSt t17 t3 eq30 rfl rfl rfl rfl ?_
           refine O.move (v := (.bool (t17 == t3))) rfl rfl rfl ?_
           refine WL.cut 4 (fun f w => f 141 = .bool ((t17 == t3) && (t18 == t4)) ∧ Inv w0 w [boxI b2 26 [(.int .i64 a1.x0), (.int .i64 a1.x1), (.int .i64 a1.x2)], boxI b3 30 [(.int .i64 t3.Lo), (.int .i64 t3.Hi)], ownI (α := Int) v6 3 t15, boxI b9 25 [v6, v10], ownI (α := GSight) v10 39 s1, boxI b10 30 [(.int .i64 t17.Lo), (.int .i64 t17.Hi)]]) ?_ ?_
           ·
            rcases bool_ft (t17 == t3) with hc12 | hc12
            ·
             refine WL.reset (i := 137) (v := .bool false) (congrArg Value.bool hc12) ?_
             refine O.skip rfl rfl ?_
             refine O.skip rfl rfl ?_
             refine O.skip rfl rfl ?_
             refine O.pick_false (v := (.bool false)) rfl rfl rfl rfl ?_
             exact WL.nil ⟨congrArg Value.bool (and_f hc12), H⟩
            ·
             refine WL.reset (i := 137) (v := .bool true) (congrArg Value.bool hc12) ?_
             refine O.move (v := (.int .i64 t18)) rfl rfl rfl ?_
             refine O.move (v := (.int .i64 t4)) rfl rfl rfl ?_
             refine O.eql rfl rfl rfl rfl ?_
             refine O.pick_true (v := (.bool (t18 == t4))) rfl rfl rfl rfl ?_
             exact WL.nil ⟨congrArg Value.bool (and_t hc12), H⟩
           ·
            rintro f w ⟨hf141, H⟩
            obtain ⟨u19, rfl⟩ := up1 hf141
            refine O.move (v := (.bool ((t17 == t3) && (t18 == t4)))) rfl rfl rfl ?_
            obtain ⟨b11, hm4, hm⟩ := bind_some hm
            refine WL.cut 2 (fun f w => f 144 = .bool b11 ∧ Inv w0 w [boxI b2 26 [(.int .i64 a1.x0), (.int .i64 a1.x1), (.int .i64 a1.x2)], boxI b3 30 [(.int .i64 t3.Lo), (.int .i64 t3.Hi)], ownI (α := Int) v6 3 t15, boxI b9 25 [v6, v10], ownI (α := GSight) v10 39 s1, boxI b10 30 [(.int .i64 t17.Lo), (.int .i64 t17.Hi)]]) ?_ ?_
            ·
             rcases ite_some hm4 with ⟨hc13, hm4⟩ | ⟨hc13, hm4⟩
             ·
              refine WL.reset (i := 142) (v := .bool true) (congrArg Value.bool hc13) ?_
              obtain ⟨t19, hy11, hm4⟩ := bind_some hm4
              refine O.call Try.call15 rfl rfl rfl (c_noongunlaw02_awake  hy11) ?_
              rintro _ w30 hb21 rfl
              have H := H.ext hb21
              refine O.pick_true (v := (.bool t19)) rfl rfl rfl rfl ?_
              refine WL.nil ?_
              have hq : t19 = b11 := Option.some.inj (show some t19 = some b11 from hm4)
              subst hq
              exact ⟨rfl, H⟩
             ·
              refine WL.reset (i := 142) (v := .bool false) (congrArg Value.bool hc13) ?_
              refine O.skip rfl rfl ?_
              refine O.pick_false (v := (.bool false)) rfl rfl rfl rfl ?_
              refine WL.nil ?_
              have hq : false = b11 := Option.some.inj (show some false = some b11 from hm4)
              subst hq
              exact ⟨rfl, H⟩
            ·
             rintro f w ⟨hf144, H⟩
             obtain ⟨u20, rfl⟩ := up1 hf144
             refine O.assign (v := (.bool b11)) rfl rfl rfl ?_
             refine WL.nil ?_
             refine W.ret ?_
             have hq : b11 = r0 := Option.some.inj (show some b11 = some r0 from hm)
             subst hq
             exact ends1 Try.results11 rfl ⟨_, rfl, H.base, rfl⟩

end Go.Proofs
