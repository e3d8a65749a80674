/-
  The walks: each function does what its model says, where the model has a value. No other condition.
-/
import Derived.Test.YtailgbhadhoedaaW3
namespace Go.Proofs
open Go.Fw Go.RowKit Go.Shelf
set_option maxRecDepth 20000 in
theorem c_noongunref02_Needed {w0 : World} (va0_0 : Value) (va0_1 : Value) (a0 : GNet) (ha0_0 : SliceR w0 va0_0 a0.Rates) (ha0_1 : SliceR w0 va0_1 a0.Sights) {r0 : (List Int)} {r1 : Int} (hm : noongunref02_Needed a0 = some (r0, r1)) :
  Calls Try.prog 52 #[(.agg #[va0_0, va0_1])] w0 (Ret w0 fun w v => ∃ vr0 : Value, v = .tuple #[vr0, (.int .i64 r1)] ∧ OwnR w0 w vr0 3 r0) := by
 unfold noongunref02_Needed at hm
 refine calls_of_W Try.func52 rfl Try.ntmps52 (Nat.le_of_ble_eq_true rfl) ?_
 have H := Inv.start (w := w0)
 refine W.seq ?_
 refine W.region ?_
 refine O.box [va0_0, va0_1] H rfl rfl rfl rfl ?_
 intro b1 w1 H hb1
 have H := H.addNil (α := Int) (E := 3)
 refine O.assign (v := (.slice none 0 0)) rfl rfl rfl ?_
 refine O.assign (v := (.int .i64 0)) rfl rfl rfl ?_
 refine WL.nil ?_
 refine W.seq ?_
 refine W.seq ?_
 refine W.region ?_
 refine O.loadA [va0_0, va0_1] ag25 rfl rfl rfl rfl (H.cell 0 rfl) ?_
 obtain ⟨t1, hy1, hm⟩ := bind_some hm
 refine O.call Try.call18 rfl rfl rfl (c_noongunref02_Valid _ _ (GNet.mk a0.Rates a0.Sights) (H.arg ha0_0) (H.arg ha0_1) hy1) ?_
 rintro _ w2 hb2 rfl
 have H := H.ext hb2
 refine O.not rfl rfl rfl ?_
 refine WL.nil ?_
 rcases ite_some hm with ⟨hc1, hm⟩ | ⟨hc1, hm⟩
 ·
  refine W.cond_true (congrArg Value.bool hc1) ?_
  refine W.seq ?_
  refine W.region ?_
  have H := H.addNil (α := Int) (E := 3)
  refine O.assign (v := (.slice none 0 0)) rfl rfl rfl ?_
  refine O.assign (v := (.int .i64 1)) rfl rfl rfl ?_
  refine WL.nil ?_
  refine W.ret ?_
  have hq : (([] : List Int), 1) = (r0, r1) := Option.some.inj (show some (([] : List Int), 1) = some (r0, r1) from hm)
  obtain ⟨he0, hq0⟩ := Prod.mk.inj hq; clear hq; subst he0
  subst hq0
  exact ends2 Try.results52 rfl rfl ⟨_, rfl, H.base, ⟨_, rfl, H.ownR 2 rfl⟩⟩
 ·
  refine W.cond_false (congrArg Value.bool hc1) ?_
  refine W.skip ?_
  refine W.seq ?_
  refine W.seq ?_
  refine W.region ?_
  refine O.loadA [va0_0, va0_1] ag25 rfl rfl rfl rfl (H.cell 0 rfl) ?_
  have H := H.addNil (α := GPoint) (E := 78)
  have H := H.pick [0, 1, 2] ([boxI b1 25 [va0_0, va0_1], ownI (α := Int) (.slice none 0 0) 3 ([] : List Int)] ++ [ownI (α := GPoint) (.slice none 0 0) 78 ([] : List GPoint)]) rfl (by decide)
  obtain ⟨⟨t2, t3⟩, hy2, hm⟩ := bind_some hm
  refine O.callF [boxI b1 25 [va0_0, va0_1], ownI (α := Int) (.slice none 0 0) 3 ([] : List Int)] [ownI (α := GPoint) (.slice none 0 0) 78 ([] : List GPoint)] H Try.call67 rfl rfl rfl (c_ref_ways _ _ (GNet.mk a0.Rates a0.Sights) _ ([] : List GPoint) (fun _ hb => ha0_0.mono (Inv.belowF H hb)) (fun _ hb => ha0_1.mono (Inv.belowF H hb)) (InvD.frame H) hy2) ?_
  intro vq w3 Lq H hvq
  obtain ⟨b2, v1, v2, rc1, rfl, rfl⟩ := hvq
  have H := H.addGone
  have H := H.pick [0, 1, 5, 2, 3, 4] [boxI b1 25 [va0_0, va0_1], ownI (α := Int) (.slice none 0 0) 3 ([] : List Int), goneI, boxI b2 118 [v1, v2], ownI (α := GPoint) v1 78 t2, mtxI (α := Int) v2 22 3 rc1 t3] rfl (by decide)
  obtain ⟨t4, hy3, hm⟩ := bind_some hm
  refine O.call Try.call68 rfl rfl rfl (c_noongunref02_graph_consistent _ _ _ (GRefgraph.mk t2 t3) (H.cell 3 rfl) (H.own 4 rfl) (H.mtxRd 5 rfl) hy3) ?_
  rintro _ w4 hb3 rfl
  have H := H.ext hb3
  refine O.not rfl rfl rfl ?_
  refine WL.nil ?_
  rcases ite_some hm with ⟨hc2, hm⟩ | ⟨hc2, hm⟩
  ·
   refine W.cond_true (congrArg Value.bool hc2) ?_
   refine W.seq ?_
   refine W.region ?_
   have H := H.addNil (α := Int) (E := 3)
   refine O.assign (v := (.slice none 0 0)) rfl rfl rfl ?_
   refine O.assign (v := (.int .i64 9)) rfl rfl rfl ?_
   refine WL.nil ?_
   refine W.ret ?_
   have hq : (([] : List Int), 9) = (r0, r1) := Option.some.inj (show some (([] : List Int), 9) = some (r0, r1) from hm)
   obtain ⟨he0, hq0⟩ := Prod.mk.inj hq; clear hq; subst he0
   subst hq0
   exact ends2 Try.results52 rfl rfl ⟨_, rfl, H.base, ⟨_, rfl, H.ownR 6 rfl⟩⟩
  ·
   refine W.cond_false (congrArg Value.bool hc2) ?_
   refine W.skip ?_
   refine W.seq ?_
   refine W.region ?_
   refine O.loadA [va0_0, va0_1] ag25 rfl rfl rfl rfl (H.cell 0 rfl) ?_
   obtain ⟨t5, hy4, hm⟩ := bind_some hm
   refine O.call Try.call82 rfl rfl rfl (c_noongunref02_without _ _ (GNet.mk a0.Rates a0.Sights) (H.arg ha0_0) (H.arg ha0_1) _ hy4) ?_
   rintro _ w5 hb4 ⟨v3, v4, rfl, ho1⟩
   have H := H.addAll hb4 ho1
   refine O.alloc [(.slice none 0 0), (.slice none 0 0)] ze25 H rfl rfl rfl ?_
   intro b3 w6 H hb5
   have H := H.addNil (α := Int) (E := 3)
   have H := H.addNil (α := GSight) (E := 39)
   refine O.store 8 0 [v3, v4] [v3, v4] sz25 H rfl rfl rfl rfl rfl rfl ⟨⟨rfl, rfl⟩, rfl⟩ (one_cons (SliceR.one (H.own 6 rfl)) (one_cons (SliceR.one (H.own 7 rfl)) one_nil)) ?_
   intro w7 H
   refine WL.nil ?_
   refine W.seq ?_
   refine W.region ?_
   have H := H.addNil (α := Int) (E := 3)
   refine O.assign (v := (.slice none 0 0)) rfl rfl rfl ?_
   refine WL.nil ?_
   refine W.seq ?_
   refine W.seq ?_
   refine W.region ?_
   refine O.fieldAddr fd25_1 rfl rfl rfl ?_
   refine O.load sc23 rfl rfl rfl (H.cell 0 rfl 1 _ rfl) ?_
   refine O.lenS Try.underlying23 (H.arg ha0_1) rfl rfl rfl ?_
   obtain ⟨t6, ht6, hm⟩ := bind_some hm
   refine O.sub rfl rfl rfl rfl ht6 ?_
   refine O.assign (v := (.int .i64 t6)) rfl rfl rfl ?_
   refine WL.nil ?_
   obtain ⟨s1, hm1, hm⟩ := bind_some hm
   refine W.via (fun f w => ∃ v14 : Value, f 5 = v14 ∧ Inv w0 w [ownI (α := Int) v14 3 s1]) ?_ ?_
   ·
    refine W.block ?_
    have H := H.keep [6, 7, 8, 11] [ownI (α := Int) v3 3 t5.Rates, ownI (α := GSight) v4 39 t5.Sights, boxI b3 25 [v3, v4], ownI (α := Int) (.slice none 0 0) 3 ([] : List Int)] rfl (by decide)
    refine W.loopR hm1 (fun s f w => ∃ z5 : Int, ∃ z6 : (List Int), ∃ z7 : (List GSight), ∃ z8 : (List Int), ∃ v8 : Value, ∃ v9 : Value, ∃ v10 : Value, (z5, z6, z7, z8) = s ∧ f 4 = (.pointer (some ⟨b3, 0, none⟩)) ∧ f 5 = v10 ∧ f 6 = (.int .i64 z5) ∧ Inv w0 w [ownI (α := Int) v8 3 z6, ownI (α := GSight) v9 39 z7, boxI b3 25 [v8, v9], ownI (α := Int) v10 3 z8]) ?_ ?_
    ·
     exact ⟨_, _, _, _, v3, v4, (.slice none 0 0), rfl, rfl, rfl, rfl, H⟩
    ·
     rintro _ st f w ⟨z5, z6, z7, z8, v8, v9, v10, rfl, hf4, hf5, hf6, H⟩ hm2
     obtain ⟨u1, rfl⟩ := up3 hf4 hf5 hf6
     refine W.seq ?_
     refine W.seq ?_
     refine W.region ?_
     refine O.move (v := (.int .i64 z5)) rfl rfl rfl ?_
     refine O.geq rfl rfl rfl rfl ?_
     refine WL.nil ?_
     rcases ite_some hm2 with ⟨hc3, hm2⟩ | ⟨hc3, hm2⟩
     ·
      refine W.cond_true (congrArg Value.bool hc3) ?_
      refine W.skip ?_
      refine W.seq ?_
      obtain ⟨⟨s2, s3, s4⟩, hm3, hm2⟩ := bind_some hm2
      refine W.via (fun f w => ∃ v15 : Value, ∃ v16 : Value, ∃ v17 : Value, f 4 = (.pointer (some ⟨b3, 0, none⟩)) ∧ f 5 = v15 ∧ f 6 = (.int .i64 z5) ∧ Inv w0 w [boxI b3 25 [v16, v17], ownI (α := Int) v15 3 s2, ownI (α := Int) v16 3 s3, ownI (α := GSight) v17 39 s4]) ?_ ?_
      ·
       refine W.block ?_
       refine W.seq ?_
       refine W.region ?_
       refine O.loadA [v8, v9] ag25 rfl rfl rfl rfl (H.cell 2 rfl) ?_
       refine O.move (v := (.int .i64 z5)) rfl rfl rfl ?_
       obtain ⟨t7, hy5, hm3⟩ := bind_some hm3
       refine O.call Try.call84 rfl rfl rfl (c_noongunref02_implied _ _ (GNet.mk z6 z7) (H.own 0 rfl) (H.own 1 rfl) _ hy5) ?_
       rintro _ w8 hb6 rfl
       have H := H.ext hb6
       refine WL.nil ?_
       obtain ⟨⟨s5, s6, s7⟩, hm4, hm3⟩ := bind_some hm3
       refine W.via (fun f w => ∃ v18 : Value, ∃ v19 : Value, ∃ v20 : Value, f 4 = (.pointer (some ⟨b3, 0, none⟩)) ∧ f 5 = v18 ∧ f 6 = (.int .i64 z5) ∧ Inv w0 w [boxI b3 25 [v19, v20], ownI (α := Int) v18 3 s5, ownI (α := Int) v19 3 s6, ownI (α := GSight) v20 39 s7]) ?_ ?_
       ·
        rcases ite_some hm4 with ⟨hc4, hm4⟩ | ⟨hc4, hm4⟩
        ·
         refine W.cond_true (congrArg Value.bool hc4) ?_
         refine W.region ?_
         refine O.loadA [v8, v9] ag25 rfl rfl rfl rfl (H.cell 2 rfl) ?_
         refine O.move (v := (.int .i64 z5)) rfl rfl rfl ?_
         obtain ⟨t8, hy6, hm4⟩ := bind_some hm4
         refine O.call Try.call82 rfl rfl rfl (c_noongunref02_without _ _ (GNet.mk z6 z7) (H.own 0 rfl) (H.own 1 rfl) _ hy6) ?_
         rintro _ w9 hb7 ⟨v21, v22, rfl, ho2⟩
         have H := H.addAll hb7 ho2
         refine O.store 2 0 [v21, v22] [v21, v22] sz25 H rfl rfl rfl rfl rfl rfl ⟨⟨rfl, rfl⟩, rfl⟩ (one_cons (SliceR.one (H.own 4 rfl)) (one_cons (SliceR.one (H.own 5 rfl)) one_nil)) ?_
         intro w10 H
         refine WL.nil ?_
         have H := H.keep [2, 3, 4, 5] [boxI b3 25 [v21, v22], ownI (α := Int) v10 3 z8, ownI (α := Int) v21 3 t8.Rates, ownI (α := GSight) v22 39 t8.Sights] rfl (by decide)
         have hq : (z8, t8.Rates, t8.Sights) = (s5, s6, s7) := Option.some.inj (show some (z8, t8.Rates, t8.Sights) = some (s5, s6, s7) from hm4)
         obtain ⟨he0, hq0⟩ := Prod.mk.inj hq; clear hq; subst he0
         obtain ⟨he1, hq1⟩ := Prod.mk.inj hq0; clear hq0; subst he1
         subst hq1
         exact ⟨v10, v21, v22, rfl, rfl, rfl, H⟩
        ·
         refine W.cond_false (congrArg Value.bool hc4) ?_
         refine W.region ?_
         refine O.move (v := (.int .i64 z5)) rfl rfl rfl ?_
         refine O.buildSlice (α := Int) [(.int .i64 z5)] [z5] Try.underlying22 el3 H rfl rfl rfl rfl rfl rfl rfl ?_
         intro v23 w11 H hb8
         refine O.move (v := v10) rfl rfl rfl ?_
         obtain ⟨t9, ht9, hm4⟩ := bind_some hm4
         refine O.append 4 Try.underlying22 el3 rfl H rfl (H.own 3 rfl) ht9 rfl rfl rfl rfl ?_
         intro v24 w12 H
         refine O.assign (v := v24) rfl rfl rfl ?_
         refine WL.nil ?_
         have H := H.pick [2, 4, 0, 1] [boxI b3 25 [v8, v9], ownI (α := Int) v24 3 t9, ownI (α := Int) v8 3 z6, ownI (α := GSight) v9 39 z7] rfl (by decide)
         have hq : (t9, z6, z7) = (s5, s6, s7) := Option.some.inj (show some (t9, z6, z7) = some (s5, s6, s7) from hm4)
         obtain ⟨he0, hq0⟩ := Prod.mk.inj hq; clear hq; subst he0
         obtain ⟨he1, hq1⟩ := Prod.mk.inj hq0; clear hq0; subst he1
         subst hq1
         exact ⟨v24, v8, v9, rfl, rfl, rfl, H⟩
       ·
        rintro f w ⟨v18, v19, v20, hf4, hf5, hf6, H⟩
        obtain ⟨u2, rfl⟩ := up3 hf4 hf5 hf6
        have hq : (s5, s6, s7) = (s2, s3, s4) := Option.some.inj (show some (s5, s6, s7) = some (s2, s3, s4) from hm3)
        obtain ⟨he0, hq0⟩ := Prod.mk.inj hq; clear hq; subst he0
        obtain ⟨he1, hq1⟩ := Prod.mk.inj hq0; clear hq0; subst he1
        subst hq1
        exact ⟨v18, v19, v20, rfl, rfl, rfl, H⟩
      ·
       rintro f w ⟨v15, v16, v17, hf4, hf5, hf6, H⟩
       obtain ⟨u3, rfl⟩ := up3 hf4 hf5 hf6
       refine W.region ?_
       refine O.move (v := (.int .i64 z5)) rfl rfl rfl ?_
       obtain ⟨t10, ht10, hm2⟩ := bind_some hm2
       refine O.sub rfl rfl rfl rfl ht10 ?_
       refine O.assign (v := (.int .i64 t10)) rfl rfl rfl ?_
       refine WL.nil ?_
       have H := H.pick [2, 3, 0, 1] [ownI (α := Int) v16 3 s3, ownI (α := GSight) v17 39 s4, boxI b3 25 [v16, v17], ownI (α := Int) v15 3 s2] rfl (by decide)
       obtain rfl := Option.some.inj hm2
       exact ⟨_, rfl, _, _, _, _, v16, v17, v15, rfl, rfl, rfl, rfl, H⟩
     ·
      refine W.cond_false (congrArg Value.bool hc3) ?_
      refine W.exit ?_
      obtain rfl := Option.some.inj hm2
      refine ⟨_, rfl, ?_⟩
      intro hy
      have hq : z8 = s1 := hy
      subst hq
      have H := H.keep [3] [ownI (α := Int) v10 3 z8] rfl (by decide)
      refine xT rfl ?_
      exact ⟨v10, rfl, H⟩
   ·
    rintro f w ⟨v14, hf5, H⟩
    obtain ⟨u4, rfl⟩ := up1 hf5
    refine W.seq ?_
    refine W.region ?_
    refine O.move (v := v14) rfl rfl rfl ?_
    refine O.assign (v := v14) rfl rfl rfl ?_
    refine O.assign (v := (.int .i64 0)) rfl rfl rfl ?_
    refine WL.nil ?_
    refine W.ret ?_
    have hq : (s1, 0) = (r0, r1) := Option.some.inj (show some (s1, 0) = some (r0, r1) from hm)
    obtain ⟨he0, hq0⟩ := Prod.mk.inj hq; clear hq; subst he0
    subst hq0
    exact ends2 Try.results52 rfl rfl ⟨_, rfl, H.base, ⟨_, rfl, H.ownR 0 rfl⟩⟩

set_option maxRecDepth 20000 in
theorem c_noongunref02_Same {w0 : World} (va0_0 : Value) (va0_1 : Value) (a0 : GNet) (ha0_0 : SliceR w0 va0_0 a0.Rates) (ha0_1 : SliceR w0 va0_1 a0.Sights) (va1_0 : Value) (va1_1 : Value) (a1 : GNet) (ha1_0 : SliceR w0 va1_0 a1.Rates) (ha1_1 : SliceR w0 va1_1 a1.Sights) {r0 : Bool} (hm : noongunref02_Same a0 a1 = some r0) :
  Calls Try.prog 44 #[(.agg #[va0_0, va0_1]), (.agg #[va1_0, va1_1])] w0 (Ret w0 fun _ v => v = (.bool r0)) := by
 unfold noongunref02_Same at hm
 refine calls_of_W Try.func44 rfl Try.ntmps44 (Nat.le_of_ble_eq_true rfl) ?_
 have H := Inv.start (w := w0)
 refine W.seq ?_
 refine W.region ?_
 refine O.box [va0_0, va0_1] H rfl rfl rfl rfl ?_
 intro b1 w1 H hb1
 refine O.box [va1_0, va1_1] H rfl rfl rfl rfl ?_
 intro b2 w2 H hb2
 refine O.assign (v := (.bool false)) rfl rfl rfl ?_
 refine WL.nil ?_
 refine W.seq ?_
 refine W.seq ?_
 refine W.region ?_
 refine O.fieldAddr fd25_0 rfl rfl rfl ?_
 refine O.load sc22 rfl rfl rfl (H.cell 0 rfl 0 _ rfl) ?_
 refine O.lenS Try.underlying22 (H.arg ha0_0) rfl rfl rfl ?_
 refine O.fieldAddr fd25_0 rfl rfl rfl ?_
 refine O.load sc22 rfl rfl rfl (H.cell 1 rfl 0 _ rfl) ?_
 refine O.lenS Try.underlying22 (H.arg ha1_0) rfl rfl rfl ?_
 refine O.neq rfl rfl rfl rfl ?_
 refine O.move (v := (.bool (((a0.Rates.length : Nat) : Int) != ((a1.Rates.length : Nat) : Int)))) rfl rfl rfl ?_
 refine WL.cut 8 (fun f w => f 2 = (.pointer (some ⟨b1, 0, none⟩)) ∧ f 3 = (.pointer (some ⟨b2, 0, none⟩)) ∧ f 22 = .bool ((((a0.Rates.length : Nat) : Int) != ((a1.Rates.length : Nat) : Int)) || (((a0.Sights.length : Nat) : Int) != ((a1.Sights.length : Nat) : Int))) ∧ Inv w0 w [boxI b1 25 [va0_0, va0_1], boxI b2 25 [va1_0, va1_1]]) ?_ ?_
 ·
  rcases bool_ft (((a0.Rates.length : Nat) : Int) != ((a1.Rates.length : Nat) : Int)) with hc1 | hc1
  ·
   refine WL.reset (i := 14) (v := .bool false) (congrArg Value.bool hc1) ?_
   refine O.fieldAddr fd25_1 rfl rfl rfl ?_
   refine O.load sc23 rfl rfl rfl (H.cell 0 rfl 1 _ rfl) ?_
   refine O.lenS Try.underlying23 (H.arg ha0_1) rfl rfl rfl ?_
   refine O.fieldAddr fd25_1 rfl rfl rfl ?_
   refine O.load sc23 rfl rfl rfl (H.cell 1 rfl 1 _ rfl) ?_
   refine O.lenS Try.underlying23 (H.arg ha1_1) rfl rfl rfl ?_
   refine O.neq rfl rfl rfl rfl ?_
   refine O.pick_false (v := (.bool (((a0.Sights.length : Nat) : Int) != ((a1.Sights.length : Nat) : Int)))) rfl rfl rfl rfl ?_
   exact WL.nil ⟨rfl, rfl, congrArg Value.bool (or_f hc1), H⟩
  ·
   refine WL.reset (i := 14) (v := .bool true) (congrArg Value.bool hc1) ?_
   refine O.skip rfl rfl ?_
   refine O.skip rfl rfl ?_
   refine O.skip rfl rfl ?_
   refine O.skip rfl rfl ?_
   refine O.skip rfl rfl ?_
   refine O.skip rfl rfl ?_
   refine O.skip rfl rfl ?_
   refine O.pick_true (v := (.bool true)) rfl rfl rfl rfl ?_
   exact WL.nil ⟨rfl, rfl, congrArg Value.bool (or_t hc1), H⟩
 ·
  rintro f w ⟨hf2, hf3, hf22, H⟩
  obtain ⟨u1, rfl⟩ := up3 hf2 hf3 hf22
  refine WL.nil ?_
  rcases ite_some hm with ⟨hc2, hm⟩ | ⟨hc2, hm⟩
  ·
   refine W.cond_true (congrArg Value.bool hc2) ?_
   refine W.seq ?_
   refine W.region ?_
   refine O.assign (v := (.bool false)) rfl rfl rfl ?_
   refine WL.nil ?_
   refine W.ret ?_
   have hq : false = r0 := Option.some.inj (show some false = some r0 from hm)
   subst hq
   exact ends1 Try.results44 rfl ⟨_, rfl, H.base, rfl⟩
  ·
   refine W.cond_false (congrArg Value.bool hc2) ?_
   refine W.skip ?_
   refine W.seq ?_
   refine W.seq ?_
   refine W.region ?_
   refine O.fieldAddr fd25_0 rfl rfl rfl ?_
   refine O.load sc22 rfl rfl rfl (H.cell 0 rfl 0 _ rfl) ?_
   refine O.lenS Try.underlying22 (H.arg ha0_0) rfl rfl rfl ?_
   refine O.move (v := (.int .i64 0)) rfl rfl rfl ?_
   refine WL.nil ?_
   obtain ⟨o1, hm1, hm⟩ := bind_some hm
   refine W.via (fun f w => o1 = .next () ∧ f 2 = (.pointer (some ⟨b1, 0, none⟩)) ∧ f 3 = (.pointer (some ⟨b2, 0, none⟩)) ∧ Inv w0 w [boxI b1 25 [va0_0, va0_1], boxI b2 25 [va1_0, va1_1]]) ?_ ?_
   ·
    refine W.block ?_
    have hbdik1 := (H.arg ha0_0).len_le
    refine W.rangeN (i := 0) hm1 (fun rem ik1 s f w => () = s ∧ (ik1 : Int) + rem = max 0 ((a0.Rates.length : Nat) : Int) ∧ f 26 = .int .i64 (ik1 : Int) ∧ f 25 = (.int .i64 ((a0.Rates.length : Nat) : Int)) ∧ f 2 = (.pointer (some ⟨b1, 0, none⟩)) ∧ f 3 = (.pointer (some ⟨b2, 0, none⟩)) ∧ Inv w0 w [boxI b1 25 [va0_0, va0_1], boxI b2 25 [va1_0, va1_1]]) ?_ ?_ ?_
    ·
     exact ⟨rfl, rangeN_start, rfl, rfl, rfl, rfl, H⟩
    ·
     rintro k ik1 _ st f w ⟨rfl, hdropk1, hf26, hf25, hf2, hf3, H⟩ hm2
     have hltk1 := rangeN_lt hdropk1
     obtain ⟨u2, rfl⟩ := up4 hf26 hf25 hf2 hf3
     have hinck1 := addI_lt hltk1 hbdik1
     refine W.seq ?_
     refine W.region ?_
     refine O.lss rfl rfl rfl rfl ?_
     refine WL.nil ?_
     refine W.seq ?_
     refine W.cond_true (congrArg Value.bool (decide_eq_true hltk1)) ?_
     refine W.skip ?_
     refine W.seq ?_
     refine W.block ?_
     refine W.seq ?_
     refine W.region ?_
     refine O.move (v := (.int .i64 (ik1 : Int))) rfl rfl rfl ?_
     refine O.assign (v := (.int .i64 (ik1 : Int))) rfl rfl rfl ?_
     refine WL.nil ?_
     refine W.seq ?_
     obtain ⟨x1, hx1, hm2⟩ := bind_some hm2
     obtain ⟨p1, hp1, hrp1⟩ := fix_indexAddr Try.underlying22 sz3 (H.arg ha0_0) hx1
     obtain ⟨x2, hx2, hm2⟩ := bind_some hm2
     obtain ⟨p2, hp2, hrp2⟩ := fix_indexAddr Try.underlying22 sz3 (H.arg ha1_0) hx2
     refine W.drawN 10 (fun f => f 2 = (.pointer (some ⟨b1, 0, none⟩)) ∧ f 3 = (.pointer (some ⟨b2, 0, none⟩)) ∧ f 25 = (.int .i64 ((a0.Rates.length : Nat) : Int)) ∧ f 26 = (.int .i64 (ik1 : Int)) ∧ f 33 = (.int .i64 x1) ∧ f 38 = (.int .i64 x2)) fol (by kernel_rfl) ?_ ?_
     ·
      refine PL.of (fun _ w8 _ hx => O.fieldAddr fd25_0 rfl rfl rfl (WL.nil ⟨rfl, hx⟩)) ?_
      refine PL.of (fun _ w8 _ hx => by have H := H.ext hx; exact O.load sc22 rfl rfl rfl (H.cell 0 rfl 0 _ rfl) (WL.nil ⟨rfl, hx⟩)) ?_
      refine PL.of (fun _ w8 _ hx => O.move (v := (.int .i64 (ik1 : Int))) rfl rfl rfl (WL.nil ⟨rfl, hx⟩)) ?_
      refine PL.of (fun _ w8 _ hx => hrp1 rfl rfl rfl rfl (WL.nil ⟨rfl, hx⟩)) ?_
      refine PL.of (fun _ w8 _ hx => by have hp1 := hp1.mono hx; exact O.load sc3 rfl rfl rfl (hp1.flat 0 _ rfl) (WL.nil ⟨rfl, hx⟩)) ?_
      refine PL.of (fun _ w8 _ hx => O.fieldAddr fd25_0 rfl rfl rfl (WL.nil ⟨rfl, hx⟩)) ?_
      refine PL.of (fun _ w8 _ hx => by have H := H.ext hx; exact O.load sc22 rfl rfl rfl (H.cell 1 rfl 0 _ rfl) (WL.nil ⟨rfl, hx⟩)) ?_
      refine PL.of (fun _ w8 _ hx => O.move (v := (.int .i64 (ik1 : Int))) rfl rfl rfl (WL.nil ⟨rfl, hx⟩)) ?_
      refine PL.of (fun _ w8 _ hx => hrp2 rfl rfl rfl rfl (WL.nil ⟨rfl, hx⟩)) ?_
      refine PL.of (fun _ w8 _ hx => by have hp2 := hp2.mono hx; exact O.load sc3 rfl rfl rfl (hp2.flat 0 _ rfl) (WL.nil ⟨rfl, hx⟩)) ?_
      refine PL.nil ?_
      exact ⟨rfl, rfl, rfl, rfl, rfl, rfl⟩
     ·
      rintro f w ⟨hf2, hf3, hf25, hf26, hf33, hf38⟩ hmd hx
      have H := H.ext hx
      have hp1 := hp1.mono hx
      have hp2 := hp2.mono hx
      obtain ⟨u3, rfl⟩ := up6 hf2 hf3 hf25 hf26 hf33 hf38
      refine O.neq rfl rfl rfl rfl ?_
      refine WL.nil ?_
      rcases ite_some hm2 with ⟨hc3, hm2⟩ | ⟨hc3, hm2⟩
      ·
       refine W.cond_true (congrArg Value.bool hc3) ?_
       refine W.seq ?_
       refine W.region ?_
       refine O.assign (v := (.bool false)) rfl rfl rfl ?_
       refine WL.nil ?_
       refine W.ret ?_
       obtain rfl := Option.some.inj hm2
       refine ⟨_, rfl, ?_⟩
       rintro rfl
       have hq : false = r0 := Option.some.inj (show some false = some r0 from hm)
       subst hq
       exact ends1 Try.results44 rfl ⟨_, rfl, H.base, rfl⟩
      ·
       refine W.cond_false (congrArg Value.bool hc3) ?_
       refine W.skip ?_
       refine W.region ?_
       refine O.add rfl rfl rfl rfl hinck1 ?_
       refine O.move (v := .int .i64 ((ik1 : Int) + 1)) rfl rfl rfl ?_
       refine WL.nil ?_
       obtain rfl := Option.some.inj hm2
       exact ⟨_, rfl, rfl, rangeN_next hdropk1, rfl, rfl, rfl, rfl, H⟩
    ·
     rintro ik1 _ f w ⟨rfl, hdropk1, hf26, hf25, hf2, hf3, H⟩ hfin
     have hltk1 := rangeN_end hdropk1
     obtain ⟨u4, rfl⟩ := up4 hf26 hf25 hf2 hf3
     refine W.seq ?_
     refine W.region ?_
     refine O.lss rfl rfl rfl rfl ?_
     refine WL.nil ?_
     refine W.seq ?_
     refine W.cond_false (congrArg Value.bool (decide_eq_false hltk1)) ?_
     refine W.exit ?_
     obtain rfl : Ctl.next () = o1 := hfin
     refine xT rfl ?_
     exact ⟨rfl, rfl, rfl, H⟩
   ·
    rintro f w ⟨rfl, hf2, hf3, H⟩
    obtain ⟨u5, rfl⟩ := up2 hf2 hf3
    refine W.seq ?_
    refine W.seq ?_
    refine W.region ?_
    refine O.fieldAddr fd25_1 rfl rfl rfl ?_
    refine O.load sc23 rfl rfl rfl (H.cell 0 rfl 1 _ rfl) ?_
    refine O.lenS Try.underlying23 (H.arg ha0_1) rfl rfl rfl ?_
    refine O.move (v := (.int .i64 0)) rfl rfl rfl ?_
    refine WL.nil ?_
    obtain ⟨o2, hm3, hm⟩ := bind_some hm
    refine W.via (fun f w => o2 = .next () ∧ Inv w0 w []) ?_ ?_
    ·
     refine W.block ?_
     have hbdik2 := (H.arg ha0_1).len_le
     refine W.rangeN (i := 0) hm3 (fun rem ik2 s f w => () = s ∧ (ik2 : Int) + rem = max 0 ((a0.Sights.length : Nat) : Int) ∧ f 44 = .int .i64 (ik2 : Int) ∧ f 43 = (.int .i64 ((a0.Sights.length : Nat) : Int)) ∧ f 2 = (.pointer (some ⟨b1, 0, none⟩)) ∧ f 3 = (.pointer (some ⟨b2, 0, none⟩)) ∧ Inv w0 w [boxI b1 25 [va0_0, va0_1], boxI b2 25 [va1_0, va1_1]]) ?_ ?_ ?_
     ·
      exact ⟨rfl, rangeN_start, rfl, rfl, rfl, rfl, H⟩
     ·
      rintro k ik2 _ st f w ⟨rfl, hdropk2, hf44, hf43, hf2, hf3, H⟩ hm4
      have hltk2 := rangeN_lt hdropk2
      obtain ⟨u6, rfl⟩ := up4 hf44 hf43 hf2 hf3
      have hinck2 := addI_lt hltk2 hbdik2
      refine W.seq ?_
      refine W.region ?_
      refine O.lss rfl rfl rfl rfl ?_
      refine WL.nil ?_
      refine W.seq ?_
      refine W.cond_true (congrArg Value.bool (decide_eq_true hltk2)) ?_
      refine W.skip ?_
      refine W.seq ?_
      refine W.block ?_
      refine W.seq ?_
      refine W.region ?_
      refine O.move (v := (.int .i64 (ik2 : Int))) rfl rfl rfl ?_
      refine O.assign (v := (.int .i64 (ik2 : Int))) rfl rfl rfl ?_
      refine WL.nil ?_
      refine W.seq ?_
      obtain ⟨x3, hx3, hm4⟩ := bind_some hm4
      obtain ⟨p3, hp3, hrp3⟩ := fix_indexAddr Try.underlying23 sz39 (H.arg ha0_1) hx3
      obtain ⟨x4, hx4, hm4⟩ := bind_some hm4
      obtain ⟨p4, hp4, hrp4⟩ := fix_indexAddr Try.underlying23 sz39 (H.arg ha1_1) hx4
      refine W.drawN 10 (fun f => f 2 = (.pointer (some ⟨b1, 0, none⟩)) ∧ f 3 = (.pointer (some ⟨b2, 0, none⟩)) ∧ f 43 = (.int .i64 ((a0.Sights.length : Nat) : Int)) ∧ f 44 = (.int .i64 (ik2 : Int)) ∧ f 51 = (.agg (Flat.cells x3).toArray) ∧ f 56 = (.agg (Flat.cells x4).toArray)) fol (by kernel_rfl) ?_ ?_
      ·
       refine PL.of (fun _ w8 _ hx => O.fieldAddr fd25_1 rfl rfl rfl (WL.nil ⟨rfl, hx⟩)) ?_
       refine PL.of (fun _ w8 _ hx => by have H := H.ext hx; exact O.load sc23 rfl rfl rfl (H.cell 0 rfl 1 _ rfl) (WL.nil ⟨rfl, hx⟩)) ?_
       refine PL.of (fun _ w8 _ hx => O.move (v := (.int .i64 (ik2 : Int))) rfl rfl rfl (WL.nil ⟨rfl, hx⟩)) ?_
       refine PL.of (fun _ w8 _ hx => hrp3 rfl rfl rfl rfl (WL.nil ⟨rfl, hx⟩)) ?_
       refine PL.of (fun _ w8 _ hx => by have hp3 := hp3.mono hx; exact O.loadA [(.int .i64 x3.At), (.int .i64 x3.A), (.int .i64 x3.B), (.int .i64 x3.Lo), (.int .i64 x3.Hi)] ag39 rfl rfl rfl rfl (hp3.flat) (WL.nil ⟨rfl, hx⟩)) ?_
       refine PL.of (fun _ w8 _ hx => O.fieldAddr fd25_1 rfl rfl rfl (WL.nil ⟨rfl, hx⟩)) ?_
       refine PL.of (fun _ w8 _ hx => by have H := H.ext hx; exact O.load sc23 rfl rfl rfl (H.cell 1 rfl 1 _ rfl) (WL.nil ⟨rfl, hx⟩)) ?_
       refine PL.of (fun _ w8 _ hx => O.move (v := (.int .i64 (ik2 : Int))) rfl rfl rfl (WL.nil ⟨rfl, hx⟩)) ?_
       refine PL.of (fun _ w8 _ hx => hrp4 rfl rfl rfl rfl (WL.nil ⟨rfl, hx⟩)) ?_
       refine PL.of (fun _ w8 _ hx => by have hp4 := hp4.mono hx; exact O.loadA [(.int .i64 x4.At), (.int .i64 x4.A), (.int .i64 x4.B), (.int .i64 x4.Lo), (.int .i64 x4.Hi)] ag39 rfl rfl rfl rfl (hp4.flat) (WL.nil ⟨rfl, hx⟩)) ?_
       refine PL.nil ?_
       exact ⟨rfl, rfl, rfl, rfl, rfl, rfl⟩
      ·
       rintro f w ⟨hf2, hf3, hf43, hf44, hf51, hf56⟩ hmd hx
       have H := H.ext hx
       have hp3 := hp3.mono hx
       have hp4 := hp4.mono hx
       obtain ⟨u7, rfl⟩ := up6 hf2 hf3 hf43 hf44 hf51 hf56
       refine O.neqSt x3 x4 eq39 rfl rfl rfl rfl ?_
       refine WL.nil ?_
       rcases ite_some hm4 with ⟨hc4, hm4⟩ | ⟨hc4, hm4⟩
       ·
        refine W.cond_true (congrArg Value.bool hc4) ?_
        refine W.seq ?_
        refine W.region ?_
        refine O.assign (v := (.bool false)) rfl rfl rfl ?_
        refine WL.nil ?_
        refine W.ret ?_
        obtain rfl := Option.some.inj hm4
        refine ⟨_, rfl, ?_⟩
        rintro rfl
        have hq : false = r0 := Option.some.inj (show some false = some r0 from hm)
        subst hq
        exact ends1 Try.results44 rfl ⟨_, rfl, H.base, rfl⟩
       ·
        refine W.cond_false (congrArg Value.bool hc4) ?_
        refine W.skip ?_
        refine W.region ?_
        refine O.add rfl rfl rfl rfl hinck2 ?_
        refine O.move (v := .int .i64 ((ik2 : Int) + 1)) rfl rfl rfl ?_
        refine WL.nil ?_
        obtain rfl := Option.some.inj hm4
        exact ⟨_, rfl, rfl, rangeN_next hdropk2, rfl, rfl, rfl, rfl, H⟩
     ·
      rintro ik2 _ f w ⟨rfl, hdropk2, hf44, hf43, hf2, hf3, H⟩ hfin
      have hltk2 := rangeN_end hdropk2
      obtain ⟨u8, rfl⟩ := up4 hf44 hf43 hf2 hf3
      refine W.seq ?_
      refine W.region ?_
      refine O.lss rfl rfl rfl rfl ?_
      refine WL.nil ?_
      refine W.seq ?_
      refine W.cond_false (congrArg Value.bool (decide_eq_false hltk2)) ?_
      refine W.exit ?_
      obtain rfl : Ctl.next () = o2 := hfin
      have H := H.keep [] [] rfl (by decide)
      refine xT rfl ?_
      exact ⟨rfl, H⟩
    ·
     rintro f w ⟨rfl, H⟩
     refine W.seq ?_
     refine W.region ?_
     refine O.assign (v := (.bool true)) rfl rfl rfl ?_
     refine WL.nil ?_
     refine W.ret ?_
     have hq : true = r0 := Option.some.inj (show some true = some r0 from hm)
     subst hq
     exact ends1 Try.results44 rfl ⟨_, rfl, H.base, rfl⟩

set_option maxRecDepth 20000 in
theorem c_noongunref01_SameInts {w0 : World} (va0 : Value) (a0 : (List Int)) (ha0 : SliceR w0 va0 a0) (va1 : Value) (a1 : (List Int)) (ha1 : SliceR w0 va1 a1) {r0 : Bool} (hm : noongunref01_SameInts a0 a1 = some r0) :
  Calls Try.prog 41 #[va0, va1] w0 (Ret w0 fun _ v => v = (.bool r0)) := by
 unfold noongunref01_SameInts at hm
 refine calls_of_W Try.func41 rfl Try.ntmps41 (Nat.le_of_ble_eq_true rfl) ?_
 have H := Inv.start (w := w0)
 refine W.seq ?_
 refine W.region ?_
 refine O.assign (v := (.bool false)) rfl rfl rfl ?_
 refine WL.nil ?_
 refine W.seq ?_
 refine W.seq ?_
 refine W.region ?_
 refine O.move (v := va0) rfl rfl rfl ?_
 refine O.lenS Try.underlying22 (H.arg ha0) rfl rfl rfl ?_
 refine O.move (v := va1) rfl rfl rfl ?_
 refine O.lenS Try.underlying22 (H.arg ha1) rfl rfl rfl ?_
 refine O.neq rfl rfl rfl rfl ?_
 refine WL.nil ?_
 rcases ite_some hm with ⟨hc1, hm⟩ | ⟨hc1, hm⟩
 ·
  refine W.cond_true (congrArg Value.bool hc1) ?_
  refine W.seq ?_
  refine W.region ?_
  refine O.assign (v := (.bool false)) rfl rfl rfl ?_
  refine WL.nil ?_
  refine W.ret ?_
  have hq : false = r0 := Option.some.inj (show some false = some r0 from hm)
  subst hq
  exact ends1 Try.results41 rfl ⟨_, rfl, H.base, rfl⟩
 ·
  refine W.cond_false (congrArg Value.bool hc1) ?_
  refine W.skip ?_
  refine W.seq ?_
  refine W.seq ?_
  refine W.region ?_
  refine O.move (v := va0) rfl rfl rfl ?_
  refine O.lenS Try.underlying22 (H.arg ha0) rfl rfl rfl ?_
  refine O.move (v := (.int .i64 0)) rfl rfl rfl ?_
  refine WL.nil ?_
  obtain ⟨o1, hm1, hm⟩ := bind_some hm
  refine W.via (fun f w => o1 = .next () ∧ Inv w0 w []) ?_ ?_
  ·
   refine W.block ?_
   have hbdik1 := (H.arg ha0).len_le
   refine W.rangeN (i := 0) hm1 (fun rem ik1 s f w => () = s ∧ (ik1 : Int) + rem = max 0 ((a0.length : Nat) : Int) ∧ f 13 = .int .i64 (ik1 : Int) ∧ f 12 = (.int .i64 ((a0.length : Nat) : Int)) ∧ f 0 = va0 ∧ f 1 = va1 ∧ Inv w0 w []) ?_ ?_ ?_
   ·
    exact ⟨rfl, rangeN_start, rfl, rfl, rfl, rfl, H⟩
   ·
    rintro k ik1 _ st f w ⟨rfl, hdropk1, hf13, hf12, hf0, hf1, H⟩ hm2
    have hltk1 := rangeN_lt hdropk1
    obtain ⟨u1, rfl⟩ := up4 hf13 hf12 hf0 hf1
    have hinck1 := addI_lt hltk1 hbdik1
    refine W.seq ?_
    refine W.region ?_
    refine O.lss rfl rfl rfl rfl ?_
    refine WL.nil ?_
    refine W.seq ?_
    refine W.cond_true (congrArg Value.bool (decide_eq_true hltk1)) ?_
    refine W.skip ?_
    refine W.seq ?_
    refine W.block ?_
    refine W.seq ?_
    refine W.region ?_
    refine O.move (v := (.int .i64 (ik1 : Int))) rfl rfl rfl ?_
    refine O.assign (v := (.int .i64 (ik1 : Int))) rfl rfl rfl ?_
    refine WL.nil ?_
    refine W.seq ?_
    obtain ⟨x1, hx1, hm2⟩ := bind_some hm2
    obtain ⟨p1, hp1, hrp1⟩ := fix_indexAddr Try.underlying22 sz3 (H.arg ha0) hx1
    obtain ⟨x2, hx2, hm2⟩ := bind_some hm2
    obtain ⟨p2, hp2, hrp2⟩ := fix_indexAddr Try.underlying22 sz3 (H.arg ha1) hx2
    refine W.drawN 8 (fun f => f 0 = va0 ∧ f 1 = va1 ∧ f 12 = (.int .i64 ((a0.length : Nat) : Int)) ∧ f 13 = (.int .i64 (ik1 : Int)) ∧ f 19 = (.int .i64 x1) ∧ f 23 = (.int .i64 x2)) fol (by kernel_rfl) ?_ ?_
    ·
     refine PL.of (fun _ w8 _ hx => O.move (v := va0) rfl rfl rfl (WL.nil ⟨rfl, hx⟩)) ?_
     refine PL.of (fun _ w8 _ hx => O.move (v := (.int .i64 (ik1 : Int))) rfl rfl rfl (WL.nil ⟨rfl, hx⟩)) ?_
     refine PL.of (fun _ w8 _ hx => hrp1 rfl rfl rfl rfl (WL.nil ⟨rfl, hx⟩)) ?_
     refine PL.of (fun _ w8 _ hx => by have hp1 := hp1.mono hx; exact O.load sc3 rfl rfl rfl (hp1.flat 0 _ rfl) (WL.nil ⟨rfl, hx⟩)) ?_
     refine PL.of (fun _ w8 _ hx => O.move (v := va1) rfl rfl rfl (WL.nil ⟨rfl, hx⟩)) ?_
     refine PL.of (fun _ w8 _ hx => O.move (v := (.int .i64 (ik1 : Int))) rfl rfl rfl (WL.nil ⟨rfl, hx⟩)) ?_
     refine PL.of (fun _ w8 _ hx => hrp2 rfl rfl rfl rfl (WL.nil ⟨rfl, hx⟩)) ?_
     refine PL.of (fun _ w8 _ hx => by have hp2 := hp2.mono hx; exact O.load sc3 rfl rfl rfl (hp2.flat 0 _ rfl) (WL.nil ⟨rfl, hx⟩)) ?_
     refine PL.nil ?_
     exact ⟨rfl, rfl, rfl, rfl, rfl, rfl⟩
    ·
     rintro f w ⟨hf0, hf1, hf12, hf13, hf19, hf23⟩ hmd hx
     have H := H.ext hx
     have hp1 := hp1.mono hx
     have hp2 := hp2.mono hx
     obtain ⟨u2, rfl⟩ := up6 hf0 hf1 hf12 hf13 hf19 hf23
     refine O.neq rfl rfl rfl rfl ?_
     refine WL.nil ?_
     rcases ite_some hm2 with ⟨hc2, hm2⟩ | ⟨hc2, hm2⟩
     ·
      refine W.cond_true (congrArg Value.bool hc2) ?_
      refine W.seq ?_
      refine W.region ?_
      refine O.assign (v := (.bool false)) rfl rfl rfl ?_
      refine WL.nil ?_
      refine W.ret ?_
      obtain rfl := Option.some.inj hm2
      refine ⟨_, rfl, ?_⟩
      rintro rfl
      have hq : false = r0 := Option.some.inj (show some false = some r0 from hm)
      subst hq
      exact ends1 Try.results41 rfl ⟨_, rfl, H.base, rfl⟩
     ·
      refine W.cond_false (congrArg Value.bool hc2) ?_
      refine W.skip ?_
      refine W.region ?_
      refine O.add rfl rfl rfl rfl hinck1 ?_
      refine O.move (v := .int .i64 ((ik1 : Int) + 1)) rfl rfl rfl ?_
      refine WL.nil ?_
      obtain rfl := Option.some.inj hm2
      exact ⟨_, rfl, rfl, rangeN_next hdropk1, rfl, rfl, rfl, rfl, H⟩
   ·
    rintro ik1 _ f w ⟨rfl, hdropk1, hf13, hf12, hf0, hf1, H⟩ hfin
    have hltk1 := rangeN_end hdropk1
    obtain ⟨u3, rfl⟩ := up4 hf13 hf12 hf0 hf1
    refine W.seq ?_
    refine W.region ?_
    refine O.lss rfl rfl rfl rfl ?_
    refine WL.nil ?_
    refine W.seq ?_
    refine W.cond_false (congrArg Value.bool (decide_eq_false hltk1)) ?_
    refine W.exit ?_
    obtain rfl : Ctl.next () = o1 := hfin
    refine xT rfl ?_
    exact ⟨rfl, H⟩
  ·
   rintro f w ⟨rfl, H⟩
   refine W.seq ?_
   refine W.region ?_
   refine O.assign (v := (.bool true)) rfl rfl rfl ?_
   refine WL.nil ?_
   refine W.ret ?_
   have hq : true = r0 := Option.some.inj (show some true = some r0 from hm)
   subst hq
   exact ends1 Try.results41 rfl ⟨_, rfl, H.base, rfl⟩

set_option maxRecDepth 20000 in
theorem c_noongunlaw02_SightTightens {w0 : World} (va0_0 : Value) (va0_1 : Value) (a0 : GNet) (ha0_0 : SliceR w0 va0_0 a0.Rates) (ha0_1 : SliceR w0 va0_1 a0.Sights) (a1 : Int) {r0 : Bool} (hm : noongunlaw02_SightTightens a0 a1 = some r0) :
  Calls Try.prog 13 #[(.agg #[va0_0, va0_1]), (.int .i64 a1)] w0 (Ret w0 fun _ v => v = (.bool r0)) := by
 unfold noongunlaw02_SightTightens at hm
 refine calls_of_W Try.func13 rfl Try.ntmps13 (Nat.le_of_ble_eq_true rfl) ?_
 have H := Inv.start (w := w0)
 refine W.seq ?_
 refine W.region ?_
 refine O.box [va0_0, va0_1] H rfl rfl rfl rfl ?_
 intro b1 w1 H hb1
 refine O.assign (v := (.bool false)) rfl rfl rfl ?_
 refine WL.nil ?_
 refine W.seq ?_
 refine W.seq ?_
 refine W.region ?_
 refine O.loadA [va0_0, va0_1] ag25 rfl rfl rfl rfl (H.cell 0 rfl) ?_
 obtain ⟨t1, hy1, hm⟩ := bind_some hm
 refine O.call Try.call14 rfl rfl rfl (c_noongunlaw02_Light _ _ (GNet.mk a0.Rates a0.Sights) (H.arg ha0_0) (H.arg ha0_1) hy1) ?_
 rintro _ w2 hb2 rfl
 have H := H.ext hb2
 refine O.not rfl rfl rfl ?_
 refine WL.nil ?_
 rcases ite_some hm with ⟨hc1, hm⟩ | ⟨hc1, hm⟩
 ·
  refine W.cond_true (congrArg Value.bool hc1) ?_
  refine W.seq ?_
  refine W.region ?_
  obtain ⟨t2, hy2, hm⟩ := bind_some hm
  refine O.call Try.call15 rfl rfl rfl (c_noongunlaw02_awake  hy2) ?_
  rintro _ w3 hb3 rfl
  have H := H.ext hb3
  refine O.assign (v := (.bool t2)) rfl rfl rfl ?_
  refine WL.nil ?_
  refine W.ret ?_
  have hq : t2 = r0 := Option.some.inj (show some t2 = some r0 from hm)
  subst hq
  exact ends1 Try.results13 rfl ⟨_, rfl, H.base, rfl⟩
 ·
  refine W.cond_false (congrArg Value.bool hc1) ?_
  refine W.skip ?_
  refine W.seq ?_
  refine W.region ?_
  refine O.loadA [va0_0, va0_1] ag25 rfl rfl rfl rfl (H.cell 0 rfl) ?_
  refine O.move (v := (.int .i64 a1)) rfl rfl rfl ?_
  obtain ⟨⟨t3, t4⟩, hy3, hm⟩ := bind_some hm
  refine O.call Try.call49 rfl rfl rfl (c_sight_Implied _ _ (GNet.mk a0.Rates a0.Sights) (H.arg ha0_0) (H.arg ha0_1) _ hy3) ?_
  rintro _ w4 hb4 rfl
  have H := H.ext hb4
  refine O.move (v := (.tuple #[(.bool t3), (.int .i64 t4)])) rfl rfl rfl ?_
  refine O.extract (v := (.bool t3)) rfl rfl rfl rfl ?_
  refine O.extract (v := (.int .i64 t4)) rfl rfl rfl rfl ?_
  refine O.assign (v := (.bool t3)) rfl rfl rfl ?_
  refine O.assign (v := (.int .i64 t4)) rfl rfl rfl ?_
  refine WL.nil ?_
  refine W.seq ?_
  refine W.region ?_
  refine O.loadA [va0_0, va0_1] ag25 rfl rfl rfl rfl (H.cell 0 rfl) ?_
  refine O.move (v := (.int .i64 a1)) rfl rfl rfl ?_
  obtain ⟨⟨t5, t6⟩, hy4, hm⟩ := bind_some hm
  refine O.call Try.call50 rfl rfl rfl (c_noongunref02_Implied _ _ (GNet.mk a0.Rates a0.Sights) (H.arg ha0_0) (H.arg ha0_1) _ hy4) ?_
  rintro _ w5 hb5 rfl
  have H := H.ext hb5
  refine O.move (v := (.tuple #[(.bool t5), (.int .i64 t6)])) rfl rfl rfl ?_
  refine O.extract (v := (.bool t5)) rfl rfl rfl rfl ?_
  refine O.extract (v := (.int .i64 t6)) rfl rfl rfl rfl ?_
  refine O.assign (v := (.bool t5)) rfl rfl rfl ?_
  refine O.assign (v := (.int .i64 t6)) rfl rfl rfl ?_
  refine WL.nil ?_
  refine W.seq ?_
  refine W.region ?_
  refine O.loadA [va0_0, va0_1] ag25 rfl rfl rfl rfl (H.cell 0 rfl) ?_
  obtain ⟨⟨t7, t8⟩, hy5, hm⟩ := bind_some hm
  refine O.call Try.call42 rfl rfl rfl (c_sight_Tight _ _ (GNet.mk a0.Rates a0.Sights) (H.arg ha0_0) (H.arg ha0_1) hy5) ?_
  rintro _ w6 hb6 ⟨v1, v2, rfl, ho1⟩
  have H := H.addAll hb6 ho1
  refine O.move (v := (.tuple #[(.agg #[v1, v2]), (.int .i64 t8)])) rfl rfl rfl ?_
  refine O.extract (v := (.agg #[v1, v2])) rfl rfl rfl rfl ?_
  refine O.extract (v := (.int .i64 t8)) rfl rfl rfl rfl ?_
  refine O.alloc [(.slice none 0 0), (.slice none 0 0)] ze25 H rfl rfl rfl ?_
  intro b2 w7 H hb7
  have H := H.addNil (α := Int) (E := 3)
  have H := H.addNil (α := GSight) (E := 39)
  refine O.store 3 0 [v1, v2] [v1, v2] sz25 H rfl rfl rfl rfl rfl rfl ⟨⟨rfl, rfl⟩, rfl⟩ (one_cons (SliceR.one (H.own 1 rfl)) (one_cons (SliceR.one (H.own 2 rfl)) one_nil)) ?_
  intro w8 H
  refine O.assign (v := (.int .i64 t8)) rfl rfl rfl ?_
  refine WL.nil ?_
  refine W.seq ?_
  refine W.region ?_
  refine O.loadA [va0_0, va0_1] ag25 rfl rfl rfl rfl (H.cell 0 rfl) ?_
  obtain ⟨⟨t9, t10⟩, hy6, hm⟩ := bind_some hm
  refine O.call Try.call51 rfl rfl rfl (c_noongunref02_Tight _ _ (GNet.mk a0.Rates a0.Sights) (H.arg ha0_0) (H.arg ha0_1) hy6) ?_
  rintro _ w9 hb8 ⟨v3, v4, rfl, ho2⟩
  have H := H.addAll hb8 ho2
  refine O.move (v := (.tuple #[(.agg #[v3, v4]), (.int .i64 t10)])) rfl rfl rfl ?_
  refine O.extract (v := (.agg #[v3, v4])) rfl rfl rfl rfl ?_
  refine O.extract (v := (.int .i64 t10)) rfl rfl rfl rfl ?_
  refine O.alloc [(.slice none 0 0), (.slice none 0 0)] ze25 H rfl rfl rfl ?_
  intro b3 w10 H hb9
  have H := H.addNil (α := Int) (E := 3)
  have H := H.addNil (α := GSight) (E := 39)
  refine O.store 8 0 [v3, v4] [v3, v4] sz25 H rfl rfl rfl rfl rfl rfl ⟨⟨rfl, rfl⟩, rfl⟩ (one_cons (SliceR.one (H.own 6 rfl)) (one_cons (SliceR.one (H.own 7 rfl)) one_nil)) ?_
  intro w11 H
  refine O.assign (v := (.int .i64 t10)) rfl rfl rfl ?_
  refine WL.nil ?_
  refine W.seq ?_
  refine W.region ?_
  refine O.loadA [va0_0, va0_1] ag25 rfl rfl rfl rfl (H.cell 0 rfl) ?_
  obtain ⟨⟨t11, t12⟩, hy7, hm⟩ := bind_some hm
  refine O.call Try.call43 rfl rfl rfl (c_sight_Needed _ _ (GNet.mk a0.Rates a0.Sights) (H.arg ha0_0) (H.arg ha0_1) hy7) ?_
  rintro _ w12 hb10 ⟨v5, rfl, ho3⟩
  have H := H.addOwn hb10 ho3
  refine O.move (v := (.tuple #[v5, (.int .i64 t12)])) rfl rfl rfl ?_
  refine O.extract (v := v5) rfl rfl rfl rfl ?_
  refine O.extract (v := (.int .i64 t12)) rfl rfl rfl rfl ?_
  refine O.assign (v := v5) rfl rfl rfl ?_
  refine O.assign (v := (.int .i64 t12)) rfl rfl rfl ?_
  refine WL.nil ?_
  refine W.seq ?_
  refine W.region ?_
  refine O.loadA [va0_0, va0_1] ag25 rfl rfl rfl rfl (H.cell 0 rfl) ?_
  obtain ⟨⟨t13, t14⟩, hy8, hm⟩ := bind_some hm
  refine O.call Try.call52 rfl rfl rfl (c_noongunref02_Needed _ _ (GNet.mk a0.Rates a0.Sights) (H.arg ha0_0) (H.arg ha0_1) hy8) ?_
  rintro _ w13 hb11 ⟨v6, rfl, ho4⟩
  have H := H.addOwn hb11 ho4
  refine O.move (v := (.tuple #[v6, (.int .i64 t14)])) rfl rfl rfl ?_
  refine O.extract (v := v6) rfl rfl rfl rfl ?_
  refine O.extract (v := (.int .i64 t14)) rfl rfl rfl rfl ?_
  refine O.assign (v := v6) rfl rfl rfl ?_
  refine O.assign (v := (.int .i64 t14)) rfl rfl rfl ?_
  refine WL.nil ?_
  refine W.seq ?_
  refine W.region ?_
  refine O.move (v := (.bool t3)) rfl rfl rfl ?_
  refine O.move (v := (.bool t5)) rfl rfl rfl ?_
  refine O.eqlB Try.underlying4 rfl rfl rfl rfl ?_
  refine O.move (v := (.bool (t3 == t5))) rfl rfl rfl ?_
  refine WL.cut 4 (fun f w => f 9 = (.pointer (some ⟨b2, 0, none⟩)) ∧ f 10 = (.int .i64 t8) ∧ f 11 = (.pointer (some ⟨b3, 0, none⟩)) ∧ f 12 = (.int .i64 t10) ∧ f 13 = v5 ∧ f 14 = (.int .i64 t12) ∧ f 15 = v6 ∧ f 16 = (.int .i64 t14) ∧ f 60 = .bool ((t3 == t5) && (t4 == t6)) ∧ Inv w0 w [boxI b1 25 [va0_0, va0_1], ownI (α := Int) v1 3 t7.Rates, ownI (α := GSight) v2 39 t7.Sights, boxI b2 25 [v1, v2], ownI (α := Int) (.slice none 0 0) 3 ([] : List Int), ownI (α := GSight) (.slice none 0 0) 39 ([] : List GSight), ownI (α := Int) v3 3 t9.Rates, ownI (α := GSight) v4 39 t9.Sights, boxI b3 25 [v3, v4], ownI (α := Int) (.slice none 0 0) 3 ([] : List Int), ownI (α := GSight) (.slice none 0 0) 39 ([] : List GSight), ownI (α := Int) v5 3 t11, ownI (α := Int) v6 3 t13]) ?_ ?_
  ·
   rcases bool_ft (t3 == t5) with hc2 | hc2
   ·
    refine WL.reset (i := 56) (v := .bool false) (congrArg Value.bool hc2) ?_
    refine O.skip rfl rfl ?_
    refine O.skip rfl rfl ?_
    refine O.skip rfl rfl ?_
    refine O.pick_false (v := (.bool false)) rfl rfl rfl rfl ?_
    exact WL.nil ⟨rfl, rfl, rfl, rfl, rfl, rfl, rfl, rfl, congrArg Value.bool (and_f hc2), H⟩
   ·
    refine WL.reset (i := 56) (v := .bool true) (congrArg Value.bool hc2) ?_
    refine O.move (v := (.int .i64 t4)) rfl rfl rfl ?_
    refine O.move (v := (.int .i64 t6)) rfl rfl rfl ?_
    refine O.eql rfl rfl rfl rfl ?_
    refine O.pick_true (v := (.bool (t4 == t6))) rfl rfl rfl rfl ?_
    exact WL.nil ⟨rfl, rfl, rfl, rfl, rfl, rfl, rfl, rfl, congrArg Value.bool (and_t hc2), H⟩
  ·
   rintro f w ⟨hf9, hf10, hf11, hf12, hf13, hf14, hf15, hf16, hf60, H⟩
   obtain ⟨u1, rfl⟩ := up9 hf9 hf10 hf11 hf12 hf13 hf14 hf15 hf16 hf60
   refine O.move (v := (.bool ((t3 == t5) && (t4 == t6)))) rfl rfl rfl ?_
   refine WL.cut 4 (fun f w => f 9 = (.pointer (some ⟨b2, 0, none⟩)) ∧ f 11 = (.pointer (some ⟨b3, 0, none⟩)) ∧ f 13 = v5 ∧ f 14 = (.int .i64 t12) ∧ f 15 = v6 ∧ f 16 = (.int .i64 t14) ∧ f 65 = .bool (((t3 == t5) && (t4 == t6)) && (t8 == t10)) ∧ Inv w0 w [boxI b1 25 [va0_0, va0_1], ownI (α := Int) v1 3 t7.Rates, ownI (α := GSight) v2 39 t7.Sights, boxI b2 25 [v1, v2], ownI (α := Int) (.slice none 0 0) 3 ([] : List Int), ownI (α := GSight) (.slice none 0 0) 39 ([] : List GSight), ownI (α := Int) v3 3 t9.Rates, ownI (α := GSight) v4 39 t9.Sights, boxI b3 25 [v3, v4], ownI (α := Int) (.slice none 0 0) 3 ([] : List Int), ownI (α := GSight) (.slice none 0 0) 39 ([] : List GSight), ownI (α := Int) v5 3 t11, ownI (α := Int) v6 3 t13]) ?_ ?_
   ·
    rcases bool_ft ((t3 == t5) && (t4 == t6)) with hc3 | hc3
    ·
     refine WL.reset (i := 61) (v := .bool false) (congrArg Value.bool hc3) ?_
     refine O.skip rfl rfl ?_
     refine O.skip rfl rfl ?_
     refine O.skip rfl rfl ?_
     refine O.pick_false (v := (.bool false)) rfl rfl rfl rfl ?_
     exact WL.nil ⟨rfl, rfl, rfl, rfl, rfl, rfl, congrArg Value.bool (and_f hc3), H⟩
    ·
     refine WL.reset (i := 61) (v := .bool true) (congrArg Value.bool hc3) ?_
     refine O.move (v := (.int .i64 t8)) rfl rfl rfl ?_
     refine O.move (v := (.int .i64 t10)) rfl rfl rfl ?_
     refine O.eql rfl rfl rfl rfl ?_
     refine O.pick_true (v := (.bool (t8 == t10))) rfl rfl rfl rfl ?_
     exact WL.nil ⟨rfl, rfl, rfl, rfl, rfl, rfl, congrArg Value.bool (and_t hc3), H⟩
   ·
    rintro f w ⟨hf9, hf11, hf13, hf14, hf15, hf16, hf65, H⟩
    obtain ⟨u2, rfl⟩ := up7 hf9 hf11 hf13 hf14 hf15 hf16 hf65
    refine O.move (v := (.bool (((t3 == t5) && (t4 == t6)) && (t8 == t10)))) rfl rfl rfl ?_
    obtain ⟨b4, hm1, hm⟩ := bind_some hm
    refine WL.cut 4 (fun f w => f 13 = v5 ∧ f 14 = (.int .i64 t12) ∧ f 15 = v6 ∧ f 16 = (.int .i64 t14) ∧ f 70 = .bool b4 ∧ Inv w0 w [boxI b1 25 [va0_0, va0_1], ownI (α := Int) v1 3 t7.Rates, ownI (α := GSight) v2 39 t7.Sights, boxI b2 25 [v1, v2], ownI (α := Int) (.slice none 0 0) 3 ([] : List Int), ownI (α := GSight) (.slice none 0 0) 39 ([] : List GSight), ownI (α := Int) v3 3 t9.Rates, ownI (α := GSight) v4 39 t9.Sights, boxI b3 25 [v3, v4], ownI (α := Int) (.slice none 0 0) 3 ([] : List Int), ownI (α := GSight) (.slice none 0 0) 39 ([] : List GSight), ownI (α := Int) v5 3 t11, ownI (α := Int) v6 3 t13]) ?_ ?_
    ·
     rcases ite_some hm1 with ⟨hc4, hm1⟩ | ⟨hc4, hm1⟩
     ·
      refine WL.reset (i := 66) (v := .bool true) (congrArg Value.bool hc4) ?_
      refine O.loadA [v1, v2] ag25 rfl rfl rfl rfl (H.cell 3 rfl) ?_
      refine O.loadA [v3, v4] ag25 rfl rfl rfl rfl (H.cell 8 rfl) ?_
      obtain ⟨t15, hy9, hm1⟩ := bind_some hm1
      refine O.call Try.call44 rfl rfl rfl (c_noongunref02_Same _ _ (GNet.mk t7.Rates t7.Sights) (H.own 1 rfl) (H.own 2 rfl) _ _ (GNet.mk t9.Rates t9.Sights) (H.own 6 rfl) (H.own 7 rfl) hy9) ?_
      rintro _ w14 hb12 rfl
      have H := H.ext hb12
      refine O.pick_true (v := (.bool t15)) rfl rfl rfl rfl ?_
      refine WL.nil ?_
      have hq : t15 = b4 := Option.some.inj (show some t15 = some b4 from hm1)
      subst hq
      exact ⟨rfl, rfl, rfl, rfl, rfl, H⟩
     ·
      refine WL.reset (i := 66) (v := .bool false) (congrArg Value.bool hc4) ?_
      refine O.skip rfl rfl ?_
      refine O.skip rfl rfl ?_
      refine O.skip rfl rfl ?_
      refine O.pick_false (v := (.bool false)) rfl rfl rfl rfl ?_
      refine WL.nil ?_
      have hq : false = b4 := Option.some.inj (show some false = some b4 from hm1)
      subst hq
      exact ⟨rfl, rfl, rfl, rfl, rfl, H⟩
    ·
     rintro f w ⟨hf13, hf14, hf15, hf16, hf70, H⟩
     obtain ⟨u3, rfl⟩ := up5 hf13 hf14 hf15 hf16 hf70
     refine O.move (v := (.bool b4)) rfl rfl rfl ?_
     refine WL.cut 4 (fun f w => f 13 = v5 ∧ f 15 = v6 ∧ f 75 = .bool (b4 && (t12 == t14)) ∧ Inv w0 w [boxI b1 25 [va0_0, va0_1], ownI (α := Int) v1 3 t7.Rates, ownI (α := GSight) v2 39 t7.Sights, boxI b2 25 [v1, v2], ownI (α := Int) (.slice none 0 0) 3 ([] : List Int), ownI (α := GSight) (.slice none 0 0) 39 ([] : List GSight), ownI (α := Int) v3 3 t9.Rates, ownI (α := GSight) v4 39 t9.Sights, boxI b3 25 [v3, v4], ownI (α := Int) (.slice none 0 0) 3 ([] : List Int), ownI (α := GSight) (.slice none 0 0) 39 ([] : List GSight), ownI (α := Int) v5 3 t11, ownI (α := Int) v6 3 t13]) ?_ ?_
     ·
      rcases bool_ft b4 with hc5 | hc5
      ·
       refine WL.reset (i := 71) (v := .bool false) (congrArg Value.bool hc5) ?_
       refine O.skip rfl rfl ?_
       refine O.skip rfl rfl ?_
       refine O.skip rfl rfl ?_
       refine O.pick_false (v := (.bool false)) rfl rfl rfl rfl ?_
       exact WL.nil ⟨rfl, rfl, congrArg Value.bool (and_f hc5), H⟩
      ·
       refine WL.reset (i := 71) (v := .bool true) (congrArg Value.bool hc5) ?_
       refine O.move (v := (.int .i64 t12)) rfl rfl rfl ?_
       refine O.move (v := (.int .i64 t14)) rfl rfl rfl ?_
       refine O.eql rfl rfl rfl rfl ?_
       refine O.pick_true (v := (.bool (t12 == t14))) rfl rfl rfl rfl ?_
       exact WL.nil ⟨rfl, rfl, congrArg Value.bool (and_t hc5), H⟩
     ·
      rintro f w ⟨hf13, hf15, hf75, H⟩
      obtain ⟨u4, rfl⟩ := up3 hf13 hf15 hf75
      refine O.move (v := (.bool (b4 && (t12 == t14)))) rfl rfl rfl ?_
      obtain ⟨b5, hm2, hm⟩ := bind_some hm
      refine WL.cut 4 (fun f w => f 80 = .bool b5 ∧ Inv w0 w [boxI b1 25 [va0_0, va0_1], ownI (α := Int) v1 3 t7.Rates, ownI (α := GSight) v2 39 t7.Sights, boxI b2 25 [v1, v2], ownI (α := Int) (.slice none 0 0) 3 ([] : List Int), ownI (α := GSight) (.slice none 0 0) 39 ([] : List GSight), ownI (α := Int) v3 3 t9.Rates, ownI (α := GSight) v4 39 t9.Sights, boxI b3 25 [v3, v4], ownI (α := Int) (.slice none 0 0) 3 ([] : List Int), ownI (α := GSight) (.slice none 0 0) 39 ([] : List GSight), ownI (α := Int) v5 3 t11, ownI (α := Int) v6 3 t13]) ?_ ?_
      ·
       rcases ite_some hm2 with ⟨hc6, hm2⟩ | ⟨hc6, hm2⟩
       ·
        refine WL.reset (i := 76) (v := .bool true) (congrArg Value.bool hc6) ?_
        refine O.move (v := v5) rfl rfl rfl ?_
        refine O.move (v := v6) rfl rfl rfl ?_
        obtain ⟨t16, hy10, hm2⟩ := bind_some hm2
        refine O.call Try.call41 rfl rfl rfl (c_noongunref01_SameInts _ _ (H.own 11 rfl) _ _ (H.own 12 rfl) hy10) ?_
        rintro _ w15 hb13 rfl
        have H := H.ext hb13
        refine O.pick_true (v := (.bool t16)) rfl rfl rfl rfl ?_
        refine WL.nil ?_
        have hq : t16 = b5 := Option.some.inj (show some t16 = some b5 from hm2)
        subst hq
        exact ⟨rfl, H⟩
       ·
        refine WL.reset (i := 76) (v := .bool false) (congrArg Value.bool hc6) ?_
        refine O.skip rfl rfl ?_
        refine O.skip rfl rfl ?_
        refine O.skip rfl rfl ?_
        refine O.pick_false (v := (.bool false)) rfl rfl rfl rfl ?_
        refine WL.nil ?_
        have hq : false = b5 := Option.some.inj (show some false = some b5 from hm2)
        subst hq
        exact ⟨rfl, H⟩
      ·
       rintro f w ⟨hf80, H⟩
       obtain ⟨u5, rfl⟩ := up1 hf80
       refine O.move (v := (.bool b5)) rfl rfl rfl ?_
       obtain ⟨b6, hm3, hm⟩ := bind_some hm
       refine WL.cut 2 (fun f w => f 83 = .bool b6 ∧ Inv w0 w [boxI b1 25 [va0_0, va0_1], ownI (α := Int) v1 3 t7.Rates, ownI (α := GSight) v2 39 t7.Sights, boxI b2 25 [v1, v2], ownI (α := Int) (.slice none 0 0) 3 ([] : List Int), ownI (α := GSight) (.slice none 0 0) 39 ([] : List GSight), ownI (α := Int) v3 3 t9.Rates, ownI (α := GSight) v4 39 t9.Sights, boxI b3 25 [v3, v4], ownI (α := Int) (.slice none 0 0) 3 ([] : List Int), ownI (α := GSight) (.slice none 0 0) 39 ([] : List GSight), ownI (α := Int) v5 3 t11, ownI (α := Int) v6 3 t13]) ?_ ?_
       ·
        rcases ite_some hm3 with ⟨hc7, hm3⟩ | ⟨hc7, hm3⟩
        ·
         refine WL.reset (i := 81) (v := .bool true) (congrArg Value.bool hc7) ?_
         obtain ⟨t17, hy11, hm3⟩ := bind_some hm3
         refine O.call Try.call15 rfl rfl rfl (c_noongunlaw02_awake  hy11) ?_
         rintro _ w16 hb14 rfl
         have H := H.ext hb14
         refine O.pick_true (v := (.bool t17)) rfl rfl rfl rfl ?_
         refine WL.nil ?_
         have hq : t17 = b6 := Option.some.inj (show some t17 = some b6 from hm3)
         subst hq
         exact ⟨rfl, H⟩
        ·
         refine WL.reset (i := 81) (v := .bool false) (congrArg Value.bool hc7) ?_
         refine O.skip rfl rfl ?_
         refine O.pick_false (v := (.bool false)) rfl rfl rfl rfl ?_
         refine WL.nil ?_
         have hq : false = b6 := Option.some.inj (show some false = some b6 from hm3)
         subst hq
         exact ⟨rfl, H⟩
       ·
        rintro f w ⟨hf83, H⟩
        obtain ⟨u6, rfl⟩ := up1 hf83
        refine O.assign (v := (.bool b6)) rfl rfl rfl ?_
        refine WL.nil ?_
        refine W.ret ?_
        have hq : b6 = r0 := Option.some.inj (show some b6 = some r0 from hm)
        subst hq
        exact ends1 Try.results13 rfl ⟨_, rfl, H.base, rfl⟩

end Go.Proofs
