/-
  The walks: each function does what its model says, where the model has a value. No other condition.
-/
import Derived.Test.YtailgbhadhoedaaW3
namespace Go.Proofs
open Go.Fw Go.RowKit Go.Shelf
set_option maxRecDepth 20000 in
theorem c_noongunref02_Joined {w0 : World} (va0_0 : Value) (va0_1 : Value) (a0 : GNet) (ha0_0 : SliceR w0 va0_0 a0.Rates) (ha0_1 : SliceR w0 va0_1 a0.Sights) {r0 : (List Int)} {r1 : Int} (hm : noongunref02_Joined a0 = some (r0, r1)) :
  Calls Try.prog 40 #[(.agg #[va0_0, va0_1])] w0 (Ret w0 fun w v => ∃ vr0 : Value, v = .tuple #[vr0, (.int .i64 r1)] ∧ OwnR w0 w vr0 3 r0) := by
 unfold noongunref02_Joined at hm
 refine calls_of_W Try.func40 rfl Try.ntmps40 (Nat.le_of_ble_eq_true rfl) ?_
 have H := Inv.start (w := w0)
 refine W.seq ?_
 refine W.region ?_
 refine O.box [va0_0, va0_1] H rfl rfl rfl rfl ?_
 intro b1 w1 H hb1
 have H := H.addNil (α := Int) (E := 3)
 refine O.assign (v := (.slice none 0 0)) rfl rfl rfl ?_
 refine O.assign (v := (.int .i64 0)) rfl rfl rfl ?_
 refine WL.nil ?_
 refine W.seq ?_
 refine W.seq ?_
 refine W.region ?_
 refine O.loadA [va0_0, va0_1] ag25 rfl rfl rfl rfl (H.cell 0 rfl) ?_
 obtain ⟨t1, hy1, hm⟩ := bind_some hm
 refine O.call Try.call18 rfl rfl rfl (c_noongunref02_Valid _ _ (GNet.mk a0.Rates a0.Sights) (H.arg ha0_0) (H.arg ha0_1) hy1) ?_
 rintro _ w2 hb2 rfl
 have H := H.ext hb2
 refine O.not rfl rfl rfl ?_
 refine WL.nil ?_
 rcases ite_some hm with ⟨hc1, hm⟩ | ⟨hc1, hm⟩
 ·
  refine W.cond_true (congrArg Value.bool hc1) ?_
  refine W.seq ?_
  refine W.region ?_
  have H := H.addNil (α := Int) (E := 3)
  refine O.assign (v := (.slice none 0 0)) rfl rfl rfl ?_
  refine O.assign (v := (.int .i64 1)) rfl rfl rfl ?_
  refine WL.nil ?_
  refine W.ret ?_
  have hq : (([] : List Int), 1) = (r0, r1) := Option.some.inj (show some (([] : List Int), 1) = some (r0, r1) from hm)
  obtain ⟨he0, hq0⟩ := Prod.mk.inj hq; clear hq; subst he0
  subst hq0
  exact ends2 Try.results40 rfl rfl ⟨_, rfl, H.base, ⟨_, rfl, H.ownR 2 rfl⟩⟩
 ·
  refine W.cond_false (congrArg Value.bool hc1) ?_
  refine W.skip ?_
  refine W.seq ?_
  refine W.region ?_
  refine O.fieldAddr fd25_0 rfl rfl rfl ?_
  refine O.load sc22 rfl rfl rfl (H.cell 0 rfl 0 _ rfl) ?_
  refine O.lenS Try.underlying22 (H.arg ha0_0) rfl rfl rfl ?_
  obtain ⟨t2, ht2, hm⟩ := bind_some hm
  refine O.makeSlice Try.underlying95 zel4 rfl H ht2 rfl rfl rfl rfl ?_
  intro v1 w3 H hb3
  refine O.assign (v := v1) rfl rfl rfl ?_
  refine WL.nil ?_
  refine W.seq ?_
  refine W.region ?_
  refine O.move (v := v1) rfl rfl rfl ?_
  obtain ⟨x1, hx1, hm⟩ := bind_some hm
  refine O.indexOwn 2 Try.underlying95 sz4 H rfl hx1 rfl rfl rfl rfl ?_
  intro b2 hob1 hp1
  refine O.storeOwn (α := Bool) (i0 := 0) (x0 := x1) 2 0 true [(.bool true)] sz4 H rfl hob1 hx1 rfl rfl rfl rfl rfl rfl rfl rfl (one_cons rfl one_nil) ?_
  intro w4 H
  clear hp1
  refine WL.nil ?_
  refine W.seq ?_
  refine W.seq ?_
  refine W.region ?_
  refine O.fieldAddr fd25_0 rfl rfl rfl ?_
  refine O.load sc22 rfl rfl rfl (H.cell 0 rfl 0 _ rfl) ?_
  refine O.lenS Try.underlying22 (H.arg ha0_0) rfl rfl rfl ?_
  refine O.move (v := (.int .i64 0)) rfl rfl rfl ?_
  refine WL.nil ?_
  obtain ⟨s1, hm1, hm⟩ := bind_some hm
  refine W.via (fun f w => ∃ v5 : Value, f 4 = v5 ∧ Inv w0 w [ownI (α := Bool) v5 4 s1]) ?_ ?_
  ·
   refine W.block ?_
   have hbdik1 := (H.arg ha0_0).len_le
   have H := H.keep [0, 2] [boxI b1 25 [va0_0, va0_1], ownI (α := Bool) v1 4 (t2.set (Int.toNat 0) true)] rfl (by decide)
   refine W.rangeN (i := 0) hm1 (fun rem ik1 s f w => ∃ z2 : (List Bool), ∃ v3 : Value, z2 = s ∧ (ik1 : Int) + rem = max 0 ((a0.Rates.length : Nat) : Int) ∧ f 22 = .int .i64 (ik1 : Int) ∧ f 21 = (.int .i64 ((a0.Rates.length : Nat) : Int)) ∧ f 1 = (.pointer (some ⟨b1, 0, none⟩)) ∧ f 4 = v3 ∧ Inv w0 w [boxI b1 25 [va0_0, va0_1], ownI (α := Bool) v3 4 z2]) ?_ ?_ ?_
   ·
    exact ⟨_, v1, rfl, rangeN_start, rfl, rfl, rfl, rfl, H⟩
   ·
    rintro k ik1 _ st f w ⟨z2, v3, rfl, hdropk1, hf22, hf21, hf1, hf4, H⟩ hm2
    have hltk1 := rangeN_lt hdropk1
    obtain ⟨u1, rfl⟩ := up4 hf22 hf21 hf1 hf4
    have hinck1 := addI_lt hltk1 hbdik1
    refine W.seq ?_
    refine W.region ?_
    refine O.lss rfl rfl rfl rfl ?_
    refine WL.nil ?_
    refine W.seq ?_
    refine W.cond_true (congrArg Value.bool (decide_eq_true hltk1)) ?_
    refine W.skip ?_
    refine W.seq ?_
    obtain ⟨s2, hm3, hm2⟩ := bind_some hm2
    refine W.via (fun f w => ∃ v6 : Value, f 1 = (.pointer (some ⟨b1, 0, none⟩)) ∧ f 4 = v6 ∧ f 21 = (.int .i64 ((a0.Rates.length : Nat) : Int)) ∧ f 22 = (.int .i64 (ik1 : Int)) ∧ Inv w0 w [boxI b1 25 [va0_0, va0_1], ownI (α := Bool) v6 4 s2]) ?_ ?_
    ·
     refine W.block ?_
     refine W.seq ?_
     refine W.region ?_
     refine O.fieldAddr fd25_1 rfl rfl rfl ?_
     refine O.load sc23 rfl rfl rfl (H.cell 0 rfl 1 _ rfl) ?_
     refine O.lenS Try.underlying23 (H.arg ha0_1) rfl rfl rfl ?_
     refine O.move (v := (.int .i64 0)) rfl rfl rfl ?_
     refine WL.nil ?_
     obtain ⟨s3, hm4, hm3⟩ := bind_some hm3
     refine W.via (fun f w => ∃ v10 : Value, f 1 = (.pointer (some ⟨b1, 0, none⟩)) ∧ f 4 = v10 ∧ f 21 = (.int .i64 ((a0.Rates.length : Nat) : Int)) ∧ f 22 = (.int .i64 (ik1 : Int)) ∧ Inv w0 w [boxI b1 25 [va0_0, va0_1], ownI (α := Bool) v10 4 s3]) ?_ ?_
     ·
      refine W.block ?_
      refine W.rangeL (i := 0) hm4 (fun rem ik2 s f w => ∃ z5 : (List Bool), ∃ v8 : Value, z5 = s ∧ a0.Sights.drop ik2 = rem ∧ f 27 = .int .i64 (ik2 : Int) ∧ f 26 = (.int .i64 ((a0.Sights.length : Nat) : Int)) ∧ f 1 = (.pointer (some ⟨b1, 0, none⟩)) ∧ f 4 = v8 ∧ f 21 = (.int .i64 ((a0.Rates.length : Nat) : Int)) ∧ f 22 = (.int .i64 (ik1 : Int)) ∧ f 25 = va0_1 ∧ Inv w0 w [boxI b1 25 [va0_0, va0_1], ownI (α := Bool) v8 4 z5]) ?_ ?_ ?_
      ·
       exact ⟨_, v3, rfl, List.drop_zero, rfl, rfl, rfl, rfl, rfl, rfl, rfl, H⟩
      ·
       rintro yk2 xs ik2 _ st f w ⟨z5, v8, rfl, hdropk2, hf27, hf26, hf1, hf4, hf21, hf22, hf25, H⟩ hm5
       have hltk2 := drop_lt hdropk2; have hixk2 := drop_idx hdropk2
       obtain ⟨u2, rfl⟩ := up7 hf27 hf26 hf1 hf4 hf21 hf22 hf25
       have hinck2 := addI_lt hltk2 (H.arg ha0_1).len_le
       refine W.seq ?_
       refine W.region ?_
       refine O.lss rfl rfl rfl rfl ?_
       refine WL.nil ?_
       refine W.seq ?_
       refine W.cond_true (congrArg Value.bool (decide_eq_true hltk2)) ?_
       refine W.skip ?_
       refine W.seq ?_
       obtain ⟨s4, hm6, hm5⟩ := bind_some hm5
       refine W.via (fun f w => ∃ v11 : Value, f 1 = (.pointer (some ⟨b1, 0, none⟩)) ∧ f 4 = v11 ∧ f 21 = (.int .i64 ((a0.Rates.length : Nat) : Int)) ∧ f 22 = (.int .i64 (ik1 : Int)) ∧ f 25 = va0_1 ∧ f 26 = (.int .i64 ((a0.Sights.length : Nat) : Int)) ∧ f 27 = (.int .i64 (ik2 : Int)) ∧ Inv w0 w [boxI b1 25 [va0_0, va0_1], ownI (α := Bool) v11 4 s4]) ?_ ?_
       ·
        refine W.block ?_
        refine W.seq ?_
        refine W.region ?_
        obtain ⟨p1, hp2, hrp1⟩ := fix_indexAddr Try.underlying23 sz39 ha0_1 hixk2
        refine hrp1 rfl rfl rfl rfl ?_
        refine O.loadA [(.int .i64 yk2.At), (.int .i64 yk2.A), (.int .i64 yk2.B), (.int .i64 yk2.Lo), (.int .i64 yk2.Hi)] ag39 rfl rfl rfl rfl ((hp2.mono H.base).flat) ?_
        refine O.alloc [(.int .i64 0), (.int .i64 0), (.int .i64 0), (.int .i64 0), (.int .i64 0)] ze39 H rfl rfl rfl ?_
        intro b3 w5 H hb4
        refine O.store 2 0 [(.int .i64 yk2.At), (.int .i64 yk2.A), (.int .i64 yk2.B), (.int .i64 yk2.Lo), (.int .i64 yk2.Hi)] [(.int .i64 yk2.At), (.int .i64 yk2.A), (.int .i64 yk2.B), (.int .i64 yk2.Lo), (.int .i64 yk2.Hi)] sz39 H rfl rfl rfl rfl rfl rfl ⟨⟨rfl, rfl⟩, rfl⟩ (one_cons rfl (one_cons rfl (one_cons rfl (one_cons rfl (one_cons rfl one_nil))))) ?_
        intro w6 H
        refine WL.nil ?_
        refine W.seq ?_
        refine W.region ?_
        refine O.move (v := v8) rfl rfl rfl ?_
        refine O.fieldAddr fd39_1 rfl rfl rfl ?_
        refine O.load sc3 rfl rfl rfl (H.cell 2 rfl 1 _ rfl) ?_
        obtain ⟨x2, hx2, hm6⟩ := bind_some hm6
        refine O.indexAddr Try.underlying95 sz4 (H.own 1 rfl) hx2 rfl rfl rfl rfl ?_
        intro p2 hp3
        refine O.load sc4 rfl rfl rfl (hp3.flat 0 _ rfl) ?_
        refine O.move (v := (.bool x2)) rfl rfl rfl ?_
        obtain ⟨b4, hm7, hm6⟩ := bind_some hm6
        refine WL.cut 6 (fun f w => f 1 = (.pointer (some ⟨b1, 0, none⟩)) ∧ f 4 = v8 ∧ f 6 = (.pointer (some ⟨b3, 0, none⟩)) ∧ f 21 = (.int .i64 ((a0.Rates.length : Nat) : Int)) ∧ f 22 = (.int .i64 (ik1 : Int)) ∧ f 25 = va0_1 ∧ f 26 = (.int .i64 ((a0.Sights.length : Nat) : Int)) ∧ f 27 = (.int .i64 (ik2 : Int)) ∧ f 42 = .bool b4 ∧ Inv w0 w [boxI b1 25 [va0_0, va0_1], ownI (α := Bool) v8 4 z5, boxI b3 39 [(.int .i64 yk2.At), (.int .i64 yk2.A), (.int .i64 yk2.B), (.int .i64 yk2.Lo), (.int .i64 yk2.Hi)]]) ?_ ?_
        ·
         rcases ite_some hm7 with ⟨hc2, hm7⟩ | ⟨hc2, hm7⟩
         ·
          refine WL.reset (i := 36) (v := .bool true) (congrArg Value.bool hc2) ?_
          refine O.skip rfl rfl ?_
          refine O.skip rfl rfl ?_
          refine O.skip rfl rfl ?_
          refine O.skip rfl rfl ?_
          refine O.skip rfl rfl ?_
          refine O.pick_true (v := (.bool true)) rfl rfl rfl rfl ?_
          refine WL.nil ?_
          have hq : true = b4 := Option.some.inj (show some true = some b4 from hm7)
          subst hq
          exact ⟨rfl, rfl, rfl, rfl, rfl, rfl, rfl, rfl, rfl, H⟩
         ·
          refine WL.reset (i := 36) (v := .bool false) (congrArg Value.bool hc2) ?_
          refine O.move (v := v8) rfl rfl rfl ?_
          refine O.fieldAddr fd39_2 rfl rfl rfl ?_
          refine O.load sc3 rfl rfl rfl (H.cell 2 rfl 2 _ rfl) ?_
          obtain ⟨x3, hx3, hm7⟩ := bind_some hm7
          refine O.indexAddr Try.underlying95 sz4 (H.own 1 rfl) hx3 rfl rfl rfl rfl ?_
          intro p3 hp4
          refine O.load sc4 rfl rfl rfl (hp4.flat 0 _ rfl) ?_
          refine O.pick_false (v := (.bool x3)) rfl rfl rfl rfl ?_
          refine WL.nil ?_
          have hq : x3 = b4 := Option.some.inj (show some x3 = some b4 from hm7)
          subst hq
          exact ⟨rfl, rfl, rfl, rfl, rfl, rfl, rfl, rfl, rfl, H⟩
        ·
         rintro f w ⟨hf1, hf4, hf6, hf21, hf22, hf25, hf26, hf27, hf42, H⟩
         obtain ⟨u3, rfl⟩ := up9 hf1 hf4 hf6 hf21 hf22 hf25 hf26 hf27 hf42
         refine WL.nil ?_
         obtain ⟨s5, hm8, hm6⟩ := bind_some hm6
         refine W.via (fun f w => ∃ v12 : Value, f 1 = (.pointer (some ⟨b1, 0, none⟩)) ∧ f 4 = v12 ∧ f 21 = (.int .i64 ((a0.Rates.length : Nat) : Int)) ∧ f 22 = (.int .i64 (ik1 : Int)) ∧ f 25 = va0_1 ∧ f 26 = (.int .i64 ((a0.Sights.length : Nat) : Int)) ∧ f 27 = (.int .i64 (ik2 : Int)) ∧ Inv w0 w [boxI b1 25 [va0_0, va0_1], ownI (α := Bool) v12 4 s5]) ?_ ?_
         ·
          rcases ite_some hm8 with ⟨hc3, hm8⟩ | ⟨hc3, hm8⟩
          ·
           refine W.cond_true (congrArg Value.bool hc3) ?_
           obtain ⟨x4, hx4, hm8⟩ := bind_some hm8
           refine W.drawD 8 [[], [], [1], [], [], [4], [0, 1, 2], [0, 1, 2, 6]] [[6, 7], [2, 6, 7], [6, 7], [], [5], [], [7], []] (fun S f w => ∃ b5 : Nat, f 1 = (.pointer (some ⟨b1, 0, none⟩)) ∧ f 4 = v8 ∧ f 6 = (.pointer (some ⟨b3, 0, none⟩)) ∧ f 21 = (.int .i64 ((a0.Rates.length : Nat) : Int)) ∧ f 22 = (.int .i64 (ik1 : Int)) ∧ f 25 = va0_1 ∧ f 26 = (.int .i64 ((a0.Sights.length : Nat) : Int)) ∧ f 27 = (.int .i64 (ik2 : Int)) ∧ (S 0 = true → f 43 = v8) ∧ (S 1 = true → f 44 = (.pointer (some (Addr.add (Addr.mk b3 0 none) 1)))) ∧ (S 2 = true → f 45 = (.int .i64 yk2.A)) ∧ (S 3 = true → f 46 = v8) ∧ (S 4 = true → f 47 = (.pointer (some (Addr.add (Addr.mk b3 0 none) 2)))) ∧ (S 5 = true → f 48 = (.int .i64 yk2.B)) ∧ (S 6 = true → f 49 = (.pointer (some ⟨b5, Int.toNat yk2.A * Flat.size Bool, none⟩))) ∧ (S 6 = true → Value.ownBlock v8 = some b5) ∧ (S 6 = true → S 7 = false → (ElemAt w (⟨b5, Int.toNat yk2.A * Flat.size Bool, none⟩ : Addr) x4)) ∧ (S 7 = false → Inv w0 w [boxI b1 25 [va0_0, va0_1], ownI (α := Bool) v8 4 z5, boxI b3 39 [(.int .i64 yk2.At), (.int .i64 yk2.A), (.int .i64 yk2.B), (.int .i64 yk2.Lo), (.int .i64 yk2.Hi)]]) ∧ (S 7 = true → Inv w0 w [boxI b1 25 [va0_0, va0_1], ownI (α := Bool) v8 4 (z5.set (Int.toNat yk2.A) true), boxI b3 39 [(.int .i64 yk2.At), (.int .i64 yk2.A), (.int .i64 yk2.B), (.int .i64 yk2.Lo), (.int .i64 yk2.Hi)]])) fol (by kernel_rfl) ?_ ?_ ?_
           ·
            exact fun d _ => ⟨0, rfl, rfl, rfl, rfl, rfl, rfl, rfl, rfl, nF, nF, nF, nF, nF, nF, nF, nF, nF, (fun _ => H.ext (below_drawn d)), nF⟩
           ·
            refine ⟨?_, ⟨?_, ⟨?_, ⟨?_, ⟨?_, ⟨?_, ⟨?_, ⟨?_, trivial⟩⟩⟩⟩⟩⟩⟩⟩
            ·
             rintro S f w hS - ⟨e6, e7, -⟩ ⟨b5, hf1, hf4, hf6, hf21, hf22, hf25, hf26, hf27, hd0, hd1, hd2, hd3, hd4, hd5, hd6, Fhob2, Fhp5, t⟩
             obtain ⟨u4, rfl⟩ := up1 hf4
             have H := t.1 e7
             refine O.move (v := v8) rfl rfl rfl ?_
             exact WL.nil ⟨b5, hf1, rfl, hf6, hf21, hf22, hf25, hf26, hf27, (fun _ => rfl), hd1, hd2, hd3, hd4, hd5, hd6, Fhob2, (fun g0 g1 => Fhp5 g0 g1), t⟩
            ·
             rintro S f w hS - ⟨e2, e6, e7, -⟩ ⟨b5, hf1, hf4, hf6, hf21, hf22, hf25, hf26, hf27, hd0, hd1, hd2, hd3, hd4, hd5, hd6, Fhob2, Fhp5, t⟩
             obtain ⟨u5, rfl⟩ := up1 hf6
             have H := t.1 e7
             refine O.fieldAddr fd39_1 rfl rfl rfl ?_
             exact WL.nil ⟨b5, hf1, hf4, rfl, hf21, hf22, hf25, hf26, hf27, hd0, (fun _ => rfl), hd2, hd3, hd4, hd5, hd6, Fhob2, (fun g0 g1 => Fhp5 g0 g1), t⟩
            ·
             rintro S f w hS ⟨e1, -⟩ ⟨e6, e7, -⟩ ⟨b5, hf1, hf4, hf6, hf21, hf22, hf25, hf26, hf27, hd0, hd1, hd2, hd3, hd4, hd5, hd6, Fhob2, Fhp5, t⟩
             have hf44 := hd1 e1
             obtain ⟨u6, rfl⟩ := up1 hf44
             have H := t.1 e7
             refine O.load sc3 rfl rfl rfl (H.cell 2 rfl 1 _ rfl) ?_
             exact WL.nil ⟨b5, hf1, hf4, hf6, hf21, hf22, hf25, hf26, hf27, hd0, hd1, (fun _ => rfl), hd3, hd4, hd5, hd6, Fhob2, (fun g0 g1 => Fhp5 g0 g1), t⟩
            ·
             rintro S f w hS - - ⟨b5, hf1, hf4, hf6, hf21, hf22, hf25, hf26, hf27, hd0, hd1, hd2, hd3, hd4, hd5, hd6, Fhob2, Fhp5, W0, W1⟩
             obtain ⟨u7, rfl⟩ := up1 hf4
             rcases bool_ft (S 7) with e7 | e7
             ·
              have H := W0 e7
              refine O.move (v := v8) rfl rfl rfl ?_
              exact WL.nil ⟨b5, hf1, rfl, hf6, hf21, hf22, hf25, hf26, hf27, hd0, hd1, hd2, (fun _ => rfl), hd4, hd5, hd6, Fhob2, (fun g0 g1 => Fhp5 g0 g1), (fun _ => H), (nX e7)⟩
             ·
              have H := W1 e7
              refine O.move (v := v8) rfl rfl rfl ?_
              exact WL.nil ⟨b5, hf1, rfl, hf6, hf21, hf22, hf25, hf26, hf27, hd0, hd1, hd2, (fun _ => rfl), hd4, hd5, hd6, Fhob2, (fun g0 g1 => Fhp5 g0 g1), (nT e7), (fun _ => H)⟩
            ·
             rintro S f w hS - ⟨e5, -⟩ ⟨b5, hf1, hf4, hf6, hf21, hf22, hf25, hf26, hf27, hd0, hd1, hd2, hd3, hd4, hd5, hd6, Fhob2, Fhp5, W0, W1⟩
             obtain ⟨u8, rfl⟩ := up1 hf6
             rcases bool_ft (S 7) with e7 | e7
             ·
              have H := W0 e7
              refine O.fieldAddr fd39_2 rfl rfl rfl ?_
              exact WL.nil ⟨b5, hf1, hf4, rfl, hf21, hf22, hf25, hf26, hf27, hd0, hd1, hd2, hd3, (fun _ => rfl), hd5, hd6, Fhob2, (fun g0 g1 => Fhp5 g0 g1), (fun _ => H), (nX e7)⟩
             ·
              have H := W1 e7
              refine O.fieldAddr fd39_2 rfl rfl rfl ?_
              exact WL.nil ⟨b5, hf1, hf4, rfl, hf21, hf22, hf25, hf26, hf27, hd0, hd1, hd2, hd3, (fun _ => rfl), hd5, hd6, Fhob2, (fun g0 g1 => Fhp5 g0 g1), (nT e7), (fun _ => H)⟩
            ·
             rintro S f w hS ⟨e4, -⟩ - ⟨b5, hf1, hf4, hf6, hf21, hf22, hf25, hf26, hf27, hd0, hd1, hd2, hd3, hd4, hd5, hd6, Fhob2, Fhp5, W0, W1⟩
             have hf47 := hd4 e4
             obtain ⟨u9, rfl⟩ := up1 hf47
             rcases bool_ft (S 7) with e7 | e7
             ·
              have H := W0 e7
              refine O.load sc3 rfl rfl rfl (H.cell 2 rfl 2 _ rfl) ?_
              exact WL.nil ⟨b5, hf1, hf4, hf6, hf21, hf22, hf25, hf26, hf27, hd0, hd1, hd2, hd3, hd4, (fun _ => rfl), hd6, Fhob2, (fun g0 g1 => Fhp5 g0 g1), (fun _ => H), (nX e7)⟩
             ·
              have H := W1 e7
              refine O.load sc3 rfl rfl rfl (H.cell 2 rfl 2 _ rfl) ?_
              exact WL.nil ⟨b5, hf1, hf4, hf6, hf21, hf22, hf25, hf26, hf27, hd0, hd1, hd2, hd3, hd4, (fun _ => rfl), hd6, Fhob2, (fun g0 g1 => Fhp5 g0 g1), (nT e7), (fun _ => H)⟩
            ·
             rintro S f w hS ⟨e0, e1, e2, -⟩ ⟨e7, -⟩ ⟨_, hf1, hf4, hf6, hf21, hf22, hf25, hf26, hf27, hd0, hd1, hd2, hd3, hd4, hd5, hd6, Fhob2, Fhp5, t⟩
             have hf43 := hd0 e0
             have hf45 := hd2 e2
             obtain ⟨u10, rfl⟩ := up2 hf43 hf45
             have H := t.1 e7
             refine O.indexOwn 1 Try.underlying95 sz4 H rfl hx4 rfl rfl rfl rfl ?_
             intro b5 hob2 hp5
             exact WL.nil ⟨b5, hf1, hf4, hf6, hf21, hf22, hf25, hf26, hf27, hd0, hd1, hd2, hd3, hd4, hd5, (fun _ => rfl), (fun _ => hob2), (fun _ _ => hp5), t⟩
            ·
             rintro S f w hS ⟨e0, e1, e2, e6, -⟩ - ⟨b5, hf1, hf4, hf6, hf21, hf22, hf25, hf26, hf27, hd0, hd1, hd2, hd3, hd4, hd5, hd6, Fhob2, Fhp5, W0, W1⟩
             have hf49 := hd6 e6
             obtain ⟨u11, rfl⟩ := up1 hf49
             have H := W0 hS
             have hp5 := Fhp5 e6 hS
             have hob2 := Fhob2 e6
             refine O.storeOwn (α := Bool) (i0 := yk2.A) (x0 := x4) 1 0 true [(.bool true)] sz4 H rfl hob2 hx4 rfl rfl rfl rfl rfl rfl rfl rfl (one_cons rfl one_nil) ?_
             intro w7 H
             clear hp5
             exact WL.nil ⟨b5, hf1, hf4, hf6, hf21, hf22, hf25, hf26, hf27, hd0, hd1, hd2, hd3, hd4, hd5, hd6, Fhob2, (fun g0 g1 => nG g1), nG, (fun _ => H)⟩
           ·
            rintro S f w ⟨e0, e1, e2, e3, e4, e5, e6, e7, -⟩ ⟨b5, hf1, hf4, hf6, hf21, hf22, hf25, hf26, hf27, hd0, hd1, hd2, hd3, hd4, hd5, hd6, Fhob2, Fhp5, W0, W1⟩
            have hf46 := hd3 e3
            have hf48 := hd5 e5
            have H := W1 e7
            obtain ⟨u12, rfl⟩ := up9 hf1 hf4 hf21 hf22 hf25 hf26 hf27 hf46 hf48
            obtain ⟨x5, hx5, hm8⟩ := bind_some hm8
            refine O.indexOwn 1 Try.underlying95 sz4 H rfl hx5 rfl rfl rfl rfl ?_
            intro b6 hob3 hp6
            refine O.storeOwn (α := Bool) (i0 := yk2.B) (x0 := x5) 1 0 true [(.bool true)] sz4 H rfl hob3 hx5 rfl rfl rfl rfl rfl rfl rfl rfl (one_cons rfl one_nil) ?_
            intro w8 H
            clear hp6
            refine WL.nil ?_
            have H := H.keep [0, 1] [boxI b1 25 [va0_0, va0_1], ownI (α := Bool) v8 4 ((z5.set (Int.toNat yk2.A) true).set (Int.toNat yk2.B) true)] rfl (by decide)
            have hq : ((z5.set (Int.toNat yk2.A) true).set (Int.toNat yk2.B) true) = s5 := Option.some.inj (show some ((z5.set (Int.toNat yk2.A) true).set (Int.toNat yk2.B) true) = some s5 from hm8)
            subst hq
            exact ⟨v8, rfl, rfl, rfl, rfl, rfl, rfl, rfl, H⟩
          ·
           refine W.cond_false (congrArg Value.bool hc3) ?_
           refine W.skip ?_
           have H := H.keep [0, 1] [boxI b1 25 [va0_0, va0_1], ownI (α := Bool) v8 4 z5] rfl (by decide)
           have hq : z5 = s5 := Option.some.inj (show some z5 = some s5 from hm8)
           subst hq
           exact ⟨v8, rfl, rfl, rfl, rfl, rfl, rfl, rfl, H⟩
         ·
          rintro f w ⟨v12, hf1, hf4, hf21, hf22, hf25, hf26, hf27, H⟩
          obtain ⟨u13, rfl⟩ := up7 hf1 hf4 hf21 hf22 hf25 hf26 hf27
          have hq : s5 = s4 := Option.some.inj (show some s5 = some s4 from hm6)
          subst hq
          exact ⟨v12, rfl, rfl, rfl, rfl, rfl, rfl, rfl, H⟩
       ·
        rintro f w ⟨v11, hf1, hf4, hf21, hf22, hf25, hf26, hf27, H⟩
        obtain ⟨u14, rfl⟩ := up7 hf1 hf4 hf21 hf22 hf25 hf26 hf27
        refine W.region ?_
        refine O.add rfl rfl rfl rfl hinck2 ?_
        refine O.move (v := .int .i64 ((ik2 : Int) + 1)) rfl rfl rfl ?_
        refine WL.nil ?_
        obtain rfl := Option.some.inj hm5
        exact ⟨_, rfl, _, v11, rfl, drop_next hdropk2, rfl, rfl, rfl, rfl, rfl, rfl, rfl, H⟩
      ·
       rintro ik2 _ f w ⟨z5, v8, rfl, hdropk2, hf27, hf26, hf1, hf4, hf21, hf22, hf25, H⟩ hfin
       have hltk2 := drop_end hdropk2
       obtain ⟨u15, rfl⟩ := up7 hf27 hf26 hf1 hf4 hf21 hf22 hf25
       refine W.seq ?_
       refine W.region ?_
       refine O.lss rfl rfl rfl rfl ?_
       refine WL.nil ?_
       refine W.seq ?_
       refine W.cond_false (congrArg Value.bool (decide_eq_false hltk2)) ?_
       refine W.exit ?_
       have hq : z5 = s3 := hfin
       subst hq
       refine xT rfl ?_
       exact ⟨v8, rfl, rfl, rfl, rfl, H⟩
     ·
      rintro f w ⟨v10, hf1, hf4, hf21, hf22, H⟩
      obtain ⟨u16, rfl⟩ := up4 hf1 hf4 hf21 hf22
      have hq : s3 = s2 := Option.some.inj (show some s3 = some s2 from hm3)
      subst hq
      exact ⟨v10, rfl, rfl, rfl, rfl, H⟩
    ·
     rintro f w ⟨v6, hf1, hf4, hf21, hf22, H⟩
     obtain ⟨u17, rfl⟩ := up4 hf1 hf4 hf21 hf22
     refine W.region ?_
     refine O.add rfl rfl rfl rfl hinck1 ?_
     refine O.move (v := .int .i64 ((ik1 : Int) + 1)) rfl rfl rfl ?_
     refine WL.nil ?_
     obtain rfl := Option.some.inj hm2
     exact ⟨_, rfl, _, v6, rfl, rangeN_next hdropk1, rfl, rfl, rfl, rfl, H⟩
   ·
    rintro ik1 _ f w ⟨z2, v3, rfl, hdropk1, hf22, hf21, hf1, hf4, H⟩ hfin
    have hltk1 := rangeN_end hdropk1
    obtain ⟨u18, rfl⟩ := up4 hf22 hf21 hf1 hf4
    refine W.seq ?_
    refine W.region ?_
    refine O.lss rfl rfl rfl rfl ?_
    refine WL.nil ?_
    refine W.seq ?_
    refine W.cond_false (congrArg Value.bool (decide_eq_false hltk1)) ?_
    refine W.exit ?_
    have hq : z2 = s1 := hfin
    subst hq
    have H := H.keep [1] [ownI (α := Bool) v3 4 z2] rfl (by decide)
    refine xT rfl ?_
    exact ⟨v3, rfl, H⟩
  ·
   rintro f w ⟨v5, hf4, H⟩
   obtain ⟨u19, rfl⟩ := up1 hf4
   refine W.seq ?_
   refine W.region ?_
   have H := H.addNil (α := Int) (E := 3)
   refine O.assign (v := (.slice none 0 0)) rfl rfl rfl ?_
   refine WL.nil ?_
   refine W.seq ?_
   refine W.seq ?_
   refine W.region ?_
   refine O.move (v := v5) rfl rfl rfl ?_
   refine O.lenS Try.underlying95 (H.own 0 rfl) rfl rfl rfl ?_
   refine O.move (v := (.int .i64 0)) rfl rfl rfl ?_
   refine WL.nil ?_
   obtain ⟨s6, hm9, hm⟩ := bind_some hm
   refine W.via (fun f w => ∃ v16 : Value, f 7 = v16 ∧ Inv w0 w [ownI (α := Int) v16 3 s6]) ?_ ?_
   ·
    refine W.block ?_
    have hbdik3 := (H.own 0 rfl).len_le
    refine W.rangeN (i := 0) hm9 (fun rem ik3 s f w => ∃ z8 : (List Int), ∃ v14 : Value, z8 = s ∧ (ik3 : Int) + rem = max 0 ((s1.length : Nat) : Int) ∧ f 55 = .int .i64 (ik3 : Int) ∧ f 54 = (.int .i64 ((s1.length : Nat) : Int)) ∧ f 7 = v14 ∧ f 53 = v5 ∧ Inv w0 w [ownI (α := Bool) v5 4 s1, ownI (α := Int) v14 3 z8]) ?_ ?_ ?_
    ·
     exact ⟨_, (.slice none 0 0), rfl, rangeN_start, rfl, rfl, rfl, rfl, H⟩
    ·
     rintro k ik3 _ st f w ⟨z8, v14, rfl, hdropk3, hf55, hf54, hf7, hf53, H⟩ hm10
     have hltk3 := rangeN_lt hdropk3
     obtain ⟨u20, rfl⟩ := up4 hf55 hf54 hf7 hf53
     have hinck3 := addI_lt hltk3 hbdik3
     refine W.seq ?_
     refine W.region ?_
     refine O.lss rfl rfl rfl rfl ?_
     refine WL.nil ?_
     refine W.seq ?_
     refine W.cond_true (congrArg Value.bool (decide_eq_true hltk3)) ?_
     refine W.skip ?_
     refine W.seq ?_
     obtain ⟨s7, hm11, hm10⟩ := bind_some hm10
     refine W.via (fun f w => ∃ v17 : Value, f 7 = v17 ∧ f 53 = v5 ∧ f 54 = (.int .i64 ((s1.length : Nat) : Int)) ∧ f 55 = (.int .i64 (ik3 : Int)) ∧ Inv w0 w [ownI (α := Bool) v5 4 s1, ownI (α := Int) v17 3 s7]) ?_ ?_
     ·
      refine W.block ?_
      refine W.seq ?_
      refine W.region ?_
      refine O.move (v := (.int .i64 (ik3 : Int))) rfl rfl rfl ?_
      obtain ⟨x6, hx6, hm11⟩ := bind_some hm11
      refine O.indexAddr Try.underlying95 sz4 (H.own 0 rfl) hx6 rfl rfl rfl rfl ?_
      intro p4 hp7
      refine O.load sc4 rfl rfl rfl (hp7.flat 0 _ rfl) ?_
      refine O.assign (v := (.int .i64 (ik3 : Int))) rfl rfl rfl ?_
      refine O.assign (v := (.bool x6)) rfl rfl rfl ?_
      refine WL.nil ?_
      refine W.seq ?_
      refine W.region ?_
      refine O.move (v := (.bool x6)) rfl rfl rfl ?_
      refine O.move (v := (.bool x6)) rfl rfl rfl ?_
      refine WL.cut 3 (fun f w => f 7 = v14 ∧ f 8 = (.int .i64 (ik3 : Int)) ∧ f 53 = v5 ∧ f 54 = (.int .i64 ((s1.length : Nat) : Int)) ∧ f 55 = (.int .i64 (ik3 : Int)) ∧ f 64 = .bool (x6 && (decide (0 < (ik3 : Int)))) ∧ Inv w0 w [ownI (α := Bool) v5 4 s1, ownI (α := Int) v14 3 z8]) ?_ ?_
      ·
       rcases bool_ft x6 with hc4 | hc4
       ·
        refine WL.reset (i := 61) (v := .bool false) (congrArg Value.bool hc4) ?_
        refine O.skip rfl rfl ?_
        refine O.skip rfl rfl ?_
        refine O.pick_false (v := (.bool false)) rfl rfl rfl rfl ?_
        exact WL.nil ⟨rfl, rfl, rfl, rfl, rfl, congrArg Value.bool (and_f hc4), H⟩
       ·
        refine WL.reset (i := 61) (v := .bool true) (congrArg Value.bool hc4) ?_
        refine O.move (v := (.int .i64 (ik3 : Int))) rfl rfl rfl ?_
        refine O.gtr rfl rfl rfl rfl ?_
        refine O.pick_true (v := (.bool (decide (0 < (ik3 : Int))))) rfl rfl rfl rfl ?_
        exact WL.nil ⟨rfl, rfl, rfl, rfl, rfl, congrArg Value.bool (and_t hc4), H⟩
      ·
       rintro f w ⟨hf7, hf8, hf53, hf54, hf55, hf64, H⟩
       obtain ⟨u21, rfl⟩ := up6 hf7 hf8 hf53 hf54 hf55 hf64
       refine WL.nil ?_
       obtain ⟨s8, hm12, hm11⟩ := bind_some hm11
       refine W.via (fun f w => ∃ v18 : Value, f 7 = v18 ∧ f 53 = v5 ∧ f 54 = (.int .i64 ((s1.length : Nat) : Int)) ∧ f 55 = (.int .i64 (ik3 : Int)) ∧ Inv w0 w [ownI (α := Bool) v5 4 s1, ownI (α := Int) v18 3 s8]) ?_ ?_
       ·
        rcases ite_some hm12 with ⟨hc5, hm12⟩ | ⟨hc5, hm12⟩
        ·
         refine W.cond_true (congrArg Value.bool hc5) ?_
         refine W.region ?_
         refine O.move (v := v14) rfl rfl rfl ?_
         refine O.move (v := (.int .i64 (ik3 : Int))) rfl rfl rfl ?_
         refine O.buildSlice (α := Int) [(.int .i64 (ik3 : Int))] [(ik3 : Int)] Try.underlying22 el3 H rfl rfl rfl rfl rfl rfl rfl ?_
         intro v19 w9 H hb5
         obtain ⟨t3, ht3, hm12⟩ := bind_some hm12
         refine O.append 1 Try.underlying22 el3 rfl H rfl (H.own 2 rfl) ht3 rfl rfl rfl rfl ?_
         intro v20 w10 H
         refine O.assign (v := v20) rfl rfl rfl ?_
         refine WL.nil ?_
         have H := H.keep [0, 1] [ownI (α := Bool) v5 4 s1, ownI (α := Int) v20 3 t3] rfl (by decide)
         have hq : t3 = s8 := Option.some.inj (show some t3 = some s8 from hm12)
         subst hq
         exact ⟨v20, rfl, rfl, rfl, rfl, H⟩
        ·
         refine W.cond_false (congrArg Value.bool hc5) ?_
         refine W.skip ?_
         have hq : z8 = s8 := Option.some.inj (show some z8 = some s8 from hm12)
         subst hq
         exact ⟨v14, rfl, rfl, rfl, rfl, H⟩
       ·
        rintro f w ⟨v18, hf7, hf53, hf54, hf55, H⟩
        obtain ⟨u22, rfl⟩ := up4 hf7 hf53 hf54 hf55
        have hq : s8 = s7 := Option.some.inj (show some s8 = some s7 from hm11)
        subst hq
        exact ⟨v18, rfl, rfl, rfl, rfl, H⟩
     ·
      rintro f w ⟨v17, hf7, hf53, hf54, hf55, H⟩
      obtain ⟨u23, rfl⟩ := up4 hf7 hf53 hf54 hf55
      refine W.region ?_
      refine O.add rfl rfl rfl rfl hinck3 ?_
      refine O.move (v := .int .i64 ((ik3 : Int) + 1)) rfl rfl rfl ?_
      refine WL.nil ?_
      obtain rfl := Option.some.inj hm10
      exact ⟨_, rfl, _, v17, rfl, rangeN_next hdropk3, rfl, rfl, rfl, rfl, H⟩
    ·
     rintro ik3 _ f w ⟨z8, v14, rfl, hdropk3, hf55, hf54, hf7, hf53, H⟩ hfin
     have hltk3 := rangeN_end hdropk3
     obtain ⟨u24, rfl⟩ := up4 hf55 hf54 hf7 hf53
     refine W.seq ?_
     refine W.region ?_
     refine O.lss rfl rfl rfl rfl ?_
     refine WL.nil ?_
     refine W.seq ?_
     refine W.cond_false (congrArg Value.bool (decide_eq_false hltk3)) ?_
     refine W.exit ?_
     have hq : z8 = s6 := hfin
     subst hq
     have H := H.keep [1] [ownI (α := Int) v14 3 z8] rfl (by decide)
     refine xT rfl ?_
     exact ⟨v14, rfl, H⟩
   ·
    rintro f w ⟨v16, hf7, H⟩
    obtain ⟨u25, rfl⟩ := up1 hf7
    refine W.seq ?_
    refine W.region ?_
    refine O.move (v := v16) rfl rfl rfl ?_
    refine O.assign (v := v16) rfl rfl rfl ?_
    refine O.assign (v := (.int .i64 0)) rfl rfl rfl ?_
    refine WL.nil ?_
    refine W.ret ?_
    have hq : (s6, 0) = (r0, r1) := Option.some.inj (show some (s6, 0) = some (r0, r1) from hm)
    obtain ⟨he0, hq0⟩ := Prod.mk.inj hq; clear hq; subst he0
    subst hq0
    exact ends2 Try.results40 rfl rfl ⟨_, rfl, H.base, ⟨_, rfl, H.ownR 0 rfl⟩⟩

set_option maxRecDepth 20000 in
theorem c_noongunref01_SameInts {w0 : World} (va0 : Value) (a0 : (List Int)) (ha0 : SliceR w0 va0 a0) (va1 : Value) (a1 : (List Int)) (ha1 : SliceR w0 va1 a1) {r0 : Bool} (hm : noongunref01_SameInts a0 a1 = some r0) :
  Calls Try.prog 41 #[va0, va1] w0 (Ret w0 fun _ v => v = (.bool r0)) := by
 unfold noongunref01_SameInts at hm
 refine calls_of_W Try.func41 rfl Try.ntmps41 (Nat.le_of_ble_eq_true rfl) ?_
 have H := Inv.start (w := w0)
 refine W.seq ?_
 refine W.region ?_
 refine O.assign (v := (.bool false)) rfl rfl rfl ?_
 refine WL.nil ?_
 refine W.seq ?_
 refine W.seq ?_
 refine W.region ?_
 refine O.move (v := va0) rfl rfl rfl ?_
 refine O.lenS Try.underlying22 (H.arg ha0) rfl rfl rfl ?_
 refine O.move (v := va1) rfl rfl rfl ?_
 refine O.lenS Try.underlying22 (H.arg ha1) rfl rfl rfl ?_
 refine O.neq rfl rfl rfl rfl ?_
 refine WL.nil ?_
 rcases ite_some hm with ⟨hc1, hm⟩ | ⟨hc1, hm⟩
 ·
  refine W.cond_true (congrArg Value.bool hc1) ?_
  refine W.seq ?_
  refine W.region ?_
  refine O.assign (v := (.bool false)) rfl rfl rfl ?_
  refine WL.nil ?_
  refine W.ret ?_
  have hq : false = r0 := Option.some.inj (show some false = some r0 from hm)
  subst hq
  exact ends1 Try.results41 rfl ⟨_, rfl, H.base, rfl⟩
 ·
  refine W.cond_false (congrArg Value.bool hc1) ?_
  refine W.skip ?_
  refine W.seq ?_
  refine W.seq ?_
  refine W.region ?_
  refine O.move (v := va0) rfl rfl rfl ?_
  refine O.lenS Try.underlying22 (H.arg ha0) rfl rfl rfl ?_
  refine O.move (v := (.int .i64 0)) rfl rfl rfl ?_
  refine WL.nil ?_
  obtain ⟨o1, hm1, hm⟩ := bind_some hm
  refine W.via (fun f w => o1 = .next () ∧ Inv w0 w []) ?_ ?_
  ·
   refine W.block ?_
   have hbdik1 := (H.arg ha0).len_le
   refine W.rangeN (i := 0) hm1 (fun rem ik1 s f w => () = s ∧ (ik1 : Int) + rem = max 0 ((a0.length : Nat) : Int) ∧ f 13 = .int .i64 (ik1 : Int) ∧ f 12 = (.int .i64 ((a0.length : Nat) : Int)) ∧ f 0 = va0 ∧ f 1 = va1 ∧ Inv w0 w []) ?_ ?_ ?_
   ·
    exact ⟨rfl, rangeN_start, rfl, rfl, rfl, rfl, H⟩
   ·
    rintro k ik1 _ st f w ⟨rfl, hdropk1, hf13, hf12, hf0, hf1, H⟩ hm2
    have hltk1 := rangeN_lt hdropk1
    obtain ⟨u1, rfl⟩ := up4 hf13 hf12 hf0 hf1
    have hinck1 := addI_lt hltk1 hbdik1
    refine W.seq ?_
    refine W.region ?_
    refine O.lss rfl rfl rfl rfl ?_
    refine WL.nil ?_
    refine W.seq ?_
    refine W.cond_true (congrArg Value.bool (decide_eq_true hltk1)) ?_
    refine W.skip ?_
    refine W.seq ?_
    refine W.block ?_
    refine W.seq ?_
    refine W.region ?_
    refine O.move (v := (.int .i64 (ik1 : Int))) rfl rfl rfl ?_
    refine O.assign (v := (.int .i64 (ik1 : Int))) rfl rfl rfl ?_
    refine WL.nil ?_
    refine W.seq ?_
    obtain ⟨x1, hx1, hm2⟩ := bind_some hm2
    obtain ⟨p1, hp1, hrp1⟩ := fix_indexAddr Try.underlying22 sz3 (H.arg ha0) hx1
    obtain ⟨x2, hx2, hm2⟩ := bind_some hm2
    obtain ⟨p2, hp2, hrp2⟩ := fix_indexAddr Try.underlying22 sz3 (H.arg ha1) hx2
    refine W.drawN 8 (fun f => f 0 = va0 ∧ f 1 = va1 ∧ f 12 = (.int .i64 ((a0.length : Nat) : Int)) ∧ f 13 = (.int .i64 (ik1 : Int)) ∧ f 19 = (.int .i64 x1) ∧ f 23 = (.int .i64 x2)) fol (by kernel_rfl) ?_ ?_
    ·
     refine PL.of (fun _ w8 _ hx => O.move (v := va0) rfl rfl rfl (WL.nil ⟨rfl, hx⟩)) ?_
     refine PL.of (fun _ w8 _ hx => O.move (v := (.int .i64 (ik1 : Int))) rfl rfl rfl (WL.nil ⟨rfl, hx⟩)) ?_
     refine PL.of (fun _ w8 _ hx => hrp1 rfl rfl rfl rfl (WL.nil ⟨rfl, hx⟩)) ?_
     refine PL.of (fun _ w8 _ hx => by have hp1 := hp1.mono hx; exact O.load sc3 rfl rfl rfl (hp1.flat 0 _ rfl) (WL.nil ⟨rfl, hx⟩)) ?_
     refine PL.of (fun _ w8 _ hx => O.move (v := va1) rfl rfl rfl (WL.nil ⟨rfl, hx⟩)) ?_
     refine PL.of (fun _ w8 _ hx => O.move (v := (.int .i64 (ik1 : Int))) rfl rfl rfl (WL.nil ⟨rfl, hx⟩)) ?_
     refine PL.of (fun _ w8 _ hx => hrp2 rfl rfl rfl rfl (WL.nil ⟨rfl, hx⟩)) ?_
     refine PL.of (fun _ w8 _ hx => by have hp2 := hp2.mono hx; exact O.load sc3 rfl rfl rfl (hp2.flat 0 _ rfl) (WL.nil ⟨rfl, hx⟩)) ?_
     refine PL.nil ?_
     exact ⟨rfl, rfl, rfl, rfl, rfl, rfl⟩
    ·
     rintro f w ⟨hf0, hf1, hf12, hf13, hf19, hf23⟩ hmd hx
     have H := H.ext hx
     have hp1 := hp1.mono hx
     have hp2 := hp2.mono hx
     obtain ⟨u2, rfl⟩ := up6 hf0 hf1 hf12 hf13 hf19 hf23
     refine O.neq rfl rfl rfl rfl ?_
     refine WL.nil ?_
     rcases ite_some hm2 with ⟨hc2, hm2⟩ | ⟨hc2, hm2⟩
     ·
      refine W.cond_true (congrArg Value.bool hc2) ?_
      refine W.seq ?_
      refine W.region ?_
      refine O.assign (v := (.bool false)) rfl rfl rfl ?_
      refine WL.nil ?_
      refine W.ret ?_
      obtain rfl := Option.some.inj hm2
      refine ⟨_, rfl, ?_⟩
      rintro rfl
      have hq : false = r0 := Option.some.inj (show some false = some r0 from hm)
      subst hq
      exact ends1 Try.results41 rfl ⟨_, rfl, H.base, rfl⟩
     ·
      refine W.cond_false (congrArg Value.bool hc2) ?_
      refine W.skip ?_
      refine W.region ?_
      refine O.add rfl rfl rfl rfl hinck1 ?_
      refine O.move (v := .int .i64 ((ik1 : Int) + 1)) rfl rfl rfl ?_
      refine WL.nil ?_
      obtain rfl := Option.some.inj hm2
      exact ⟨_, rfl, rfl, rangeN_next hdropk1, rfl, rfl, rfl, rfl, H⟩
   ·
    rintro ik1 _ f w ⟨rfl, hdropk1, hf13, hf12, hf0, hf1, H⟩ hfin
    have hltk1 := rangeN_end hdropk1
    obtain ⟨u3, rfl⟩ := up4 hf13 hf12 hf0 hf1
    refine W.seq ?_
    refine W.region ?_
    refine O.lss rfl rfl rfl rfl ?_
    refine WL.nil ?_
    refine W.seq ?_
    refine W.cond_false (congrArg Value.bool (decide_eq_false hltk1)) ?_
    refine W.exit ?_
    obtain rfl : Ctl.next () = o1 := hfin
    refine xT rfl ?_
    exact ⟨rfl, H⟩
  ·
   rintro f w ⟨rfl, H⟩
   refine W.seq ?_
   refine W.region ?_
   refine O.assign (v := (.bool true)) rfl rfl rfl ?_
   refine WL.nil ?_
   refine W.ret ?_
   have hq : true = r0 := Option.some.inj (show some true = some r0 from hm)
   subst hq
   exact ends1 Try.results41 rfl ⟨_, rfl, H.base, rfl⟩

set_option maxRecDepth 20000 in
theorem c_noongunlaw02_SightBest {w0 : World} (va0_0 : Value) (va0_1 : Value) (a0 : GNet) (ha0_0 : SliceR w0 va0_0 a0.Rates) (ha0_1 : SliceR w0 va0_1 a0.Sights) (a1 : Int) (a2 : Int) {r0 : Bool} (hm : noongunlaw02_SightBest a0 a1 a2 = some r0) :
  Calls Try.prog 10 #[(.agg #[va0_0, va0_1]), (.int .i64 a1), (.int .i64 a2)] w0 (Ret w0 fun _ v => v = (.bool r0)) := by
 unfold noongunlaw02_SightBest at hm
 refine calls_of_W Try.func10 rfl Try.ntmps10 (Nat.le_of_ble_eq_true rfl) ?_
 have H := Inv.start (w := w0)
 refine W.seq ?_
 refine W.region ?_
 refine O.box [va0_0, va0_1] H rfl rfl rfl rfl ?_
 intro b1 w1 H hb1
 refine O.assign (v := (.bool false)) rfl rfl rfl ?_
 refine WL.nil ?_
 refine W.seq ?_
 refine W.seq ?_
 refine W.region ?_
 refine O.loadA [va0_0, va0_1] ag25 rfl rfl rfl rfl (H.cell 0 rfl) ?_
 obtain ⟨t1, hy1, hm⟩ := bind_some hm
 refine O.call Try.call14 rfl rfl rfl (c_noongunlaw02_Light _ _ (GNet.mk a0.Rates a0.Sights) (H.arg ha0_0) (H.arg ha0_1) hy1) ?_
 rintro _ w2 hb2 rfl
 have H := H.ext hb2
 refine O.not rfl rfl rfl ?_
 refine WL.nil ?_
 rcases ite_some hm with ⟨hc1, hm⟩ | ⟨hc1, hm⟩
 ·
  refine W.cond_true (congrArg Value.bool hc1) ?_
  refine W.seq ?_
  refine W.region ?_
  obtain ⟨t2, hy2, hm⟩ := bind_some hm
  refine O.call Try.call15 rfl rfl rfl (c_noongunlaw02_awake  hy2) ?_
  rintro _ w3 hb3 rfl
  have H := H.ext hb3
  refine O.assign (v := (.bool t2)) rfl rfl rfl ?_
  refine WL.nil ?_
  refine W.ret ?_
  have hq : t2 = r0 := Option.some.inj (show some t2 = some r0 from hm)
  subst hq
  exact ends1 Try.results10 rfl ⟨_, rfl, H.base, rfl⟩
 ·
  refine W.cond_false (congrArg Value.bool hc1) ?_
  refine W.skip ?_
  refine W.seq ?_
  refine W.region ?_
  refine O.loadA [va0_0, va0_1] ag25 rfl rfl rfl rfl (H.cell 0 rfl) ?_
  refine O.move (v := (.int .i64 a2)) rfl rfl rfl ?_
  obtain ⟨⟨t3, t4⟩, hy3, hm⟩ := bind_some hm
  refine O.call Try.call35 rfl rfl rfl (c_sight_Best _ _ (GNet.mk a0.Rates a0.Sights) (H.arg ha0_0) (H.arg ha0_1) _ hy3) ?_
  rintro _ w4 hb4 rfl
  have H := H.ext hb4
  refine O.move (v := (.tuple #[(.int .i64 t3), (.int .i64 t4)])) rfl rfl rfl ?_
  refine O.extract (v := (.int .i64 t3)) rfl rfl rfl rfl ?_
  refine O.extract (v := (.int .i64 t4)) rfl rfl rfl rfl ?_
  refine O.assign (v := (.int .i64 t3)) rfl rfl rfl ?_
  refine O.assign (v := (.int .i64 t4)) rfl rfl rfl ?_
  refine WL.nil ?_
  refine W.seq ?_
  refine W.region ?_
  refine O.loadA [va0_0, va0_1] ag25 rfl rfl rfl rfl (H.cell 0 rfl) ?_
  refine O.move (v := (.int .i64 a2)) rfl rfl rfl ?_
  obtain ⟨⟨t5, t6⟩, hy4, hm⟩ := bind_some hm
  refine O.call Try.call36 rfl rfl rfl (c_noongunref02_Best _ _ (GNet.mk a0.Rates a0.Sights) (H.arg ha0_0) (H.arg ha0_1) _ hy4) ?_
  rintro _ w5 hb5 rfl
  have H := H.ext hb5
  refine O.move (v := (.tuple #[(.int .i64 t5), (.int .i64 t6)])) rfl rfl rfl ?_
  refine O.extract (v := (.int .i64 t5)) rfl rfl rfl rfl ?_
  refine O.extract (v := (.int .i64 t6)) rfl rfl rfl rfl ?_
  refine O.assign (v := (.int .i64 t5)) rfl rfl rfl ?_
  refine O.assign (v := (.int .i64 t6)) rfl rfl rfl ?_
  refine WL.nil ?_
  refine W.seq ?_
  refine W.region ?_
  refine O.loadA [va0_0, va0_1] ag25 rfl rfl rfl rfl (H.cell 0 rfl) ?_
  refine O.move (v := (.int .i64 a1)) rfl rfl rfl ?_
  obtain ⟨⟨t7, t8⟩, hy5, hm⟩ := bind_some hm
  refine O.call Try.call37 rfl rfl rfl (c_sight_Last _ _ (GNet.mk a0.Rates a0.Sights) (H.arg ha0_0) (H.arg ha0_1) _ hy5) ?_
  rintro _ w6 hb6 rfl
  have H := H.ext hb6
  refine O.move (v := (.tuple #[(.int .i64 t7), (.int .i64 t8)])) rfl rfl rfl ?_
  refine O.extract (v := (.int .i64 t7)) rfl rfl rfl rfl ?_
  refine O.extract (v := (.int .i64 t8)) rfl rfl rfl rfl ?_
  refine O.assign (v := (.int .i64 t7)) rfl rfl rfl ?_
  refine O.assign (v := (.int .i64 t8)) rfl rfl rfl ?_
  refine WL.nil ?_
  refine W.seq ?_
  refine W.region ?_
  refine O.loadA [va0_0, va0_1] ag25 rfl rfl rfl rfl (H.cell 0 rfl) ?_
  refine O.move (v := (.int .i64 a1)) rfl rfl rfl ?_
  obtain ⟨⟨t9, t10⟩, hy6, hm⟩ := bind_some hm
  refine O.call Try.call38 rfl rfl rfl (c_noongunref02_Last _ _ (GNet.mk a0.Rates a0.Sights) (H.arg ha0_0) (H.arg ha0_1) _ hy6) ?_
  rintro _ w7 hb7 rfl
  have H := H.ext hb7
  refine O.move (v := (.tuple #[(.int .i64 t9), (.int .i64 t10)])) rfl rfl rfl ?_
  refine O.extract (v := (.int .i64 t9)) rfl rfl rfl rfl ?_
  refine O.extract (v := (.int .i64 t10)) rfl rfl rfl rfl ?_
  refine O.assign (v := (.int .i64 t9)) rfl rfl rfl ?_
  refine O.assign (v := (.int .i64 t10)) rfl rfl rfl ?_
  refine WL.nil ?_
  refine W.seq ?_
  refine W.region ?_
  refine O.loadA [va0_0, va0_1] ag25 rfl rfl rfl rfl (H.cell 0 rfl) ?_
  obtain ⟨⟨t11, t12⟩, hy7, hm⟩ := bind_some hm
  refine O.call Try.call39 rfl rfl rfl (c_sight_Joined _ _ (GNet.mk a0.Rates a0.Sights) (H.arg ha0_0) (H.arg ha0_1) hy7) ?_
  rintro _ w8 hb8 ⟨v1, rfl, ho1⟩
  have H := H.addOwn hb8 ho1
  refine O.move (v := (.tuple #[v1, (.int .i64 t12)])) rfl rfl rfl ?_
  refine O.extract (v := v1) rfl rfl rfl rfl ?_
  refine O.extract (v := (.int .i64 t12)) rfl rfl rfl rfl ?_
  refine O.assign (v := v1) rfl rfl rfl ?_
  refine O.assign (v := (.int .i64 t12)) rfl rfl rfl ?_
  refine WL.nil ?_
  refine W.seq ?_
  refine W.region ?_
  refine O.loadA [va0_0, va0_1] ag25 rfl rfl rfl rfl (H.cell 0 rfl) ?_
  obtain ⟨⟨t13, t14⟩, hy8, hm⟩ := bind_some hm
  refine O.call Try.call40 rfl rfl rfl (c_noongunref02_Joined _ _ (GNet.mk a0.Rates a0.Sights) (H.arg ha0_0) (H.arg ha0_1) hy8) ?_
  rintro _ w9 hb9 ⟨v2, rfl, ho2⟩
  have H := H.addOwn hb9 ho2
  refine O.move (v := (.tuple #[v2, (.int .i64 t14)])) rfl rfl rfl ?_
  refine O.extract (v := v2) rfl rfl rfl rfl ?_
  refine O.extract (v := (.int .i64 t14)) rfl rfl rfl rfl ?_
  refine O.assign (v := v2) rfl rfl rfl ?_
  refine O.assign (v := (.int .i64 t14)) rfl rfl rfl ?_
  refine WL.nil ?_
  refine W.seq ?_
  refine W.region ?_
  refine O.move (v := (.int .i64 t3)) rfl rfl rfl ?_
  refine O.move (v := (.int .i64 t5)) rfl rfl rfl ?_
  refine O.eql rfl rfl rfl rfl ?_
  refine O.move (v := (.bool (t3 == t5))) rfl rfl rfl ?_
  refine WL.cut 4 (fun f w => f 11 = (.int .i64 t7) ∧ f 12 = (.int .i64 t8) ∧ f 13 = (.int .i64 t9) ∧ f 14 = (.int .i64 t10) ∧ f 15 = v1 ∧ f 16 = (.int .i64 t12) ∧ f 17 = v2 ∧ f 18 = (.int .i64 t14) ∧ f 64 = .bool ((t3 == t5) && (t4 == t6)) ∧ Inv w0 w [boxI b1 25 [va0_0, va0_1], ownI (α := Int) v1 3 t11, ownI (α := Int) v2 3 t13]) ?_ ?_
  ·
   rcases bool_ft (t3 == t5) with hc2 | hc2
   ·
    refine WL.reset (i := 60) (v := .bool false) (congrArg Value.bool hc2) ?_
    refine O.skip rfl rfl ?_
    refine O.skip rfl rfl ?_
    refine O.skip rfl rfl ?_
    refine O.pick_false (v := (.bool false)) rfl rfl rfl rfl ?_
    exact WL.nil ⟨rfl, rfl, rfl, rfl, rfl, rfl, rfl, rfl, congrArg Value.bool (and_f hc2), H⟩
   ·
    refine WL.reset (i := 60) (v := .bool true) (congrArg Value.bool hc2) ?_
    refine O.move (v := (.int .i64 t4)) rfl rfl rfl ?_
    refine O.move (v := (.int .i64 t6)) rfl rfl rfl ?_
    refine O.eql rfl rfl rfl rfl ?_
    refine O.pick_true (v := (.bool (t4 == t6))) rfl rfl rfl rfl ?_
    exact WL.nil ⟨rfl, rfl, rfl, rfl, rfl, rfl, rfl, rfl, congrArg Value.bool (and_t hc2), H⟩
  ·
   rintro f w ⟨hf11, hf12, hf13, hf14, hf15, hf16, hf17, hf18, hf64, H⟩
   obtain ⟨u1, rfl⟩ := up9 hf11 hf12 hf13 hf14 hf15 hf16 hf17 hf18 hf64
   refine O.move (v := (.bool ((t3 == t5) && (t4 == t6)))) rfl rfl rfl ?_
   refine WL.cut 4 (fun f w => f 12 = (.int .i64 t8) ∧ f 14 = (.int .i64 t10) ∧ f 15 = v1 ∧ f 16 = (.int .i64 t12) ∧ f 17 = v2 ∧ f 18 = (.int .i64 t14) ∧ f 69 = .bool (((t3 == t5) && (t4 == t6)) && (t7 == t9)) ∧ Inv w0 w [boxI b1 25 [va0_0, va0_1], ownI (α := Int) v1 3 t11, ownI (α := Int) v2 3 t13]) ?_ ?_
   ·
    rcases bool_ft ((t3 == t5) && (t4 == t6)) with hc3 | hc3
    ·
     refine WL.reset (i := 65) (v := .bool false) (congrArg Value.bool hc3) ?_
     refine O.skip rfl rfl ?_
     refine O.skip rfl rfl ?_
     refine O.skip rfl rfl ?_
     refine O.pick_false (v := (.bool false)) rfl rfl rfl rfl ?_
     exact WL.nil ⟨rfl, rfl, rfl, rfl, rfl, rfl, congrArg Value.bool (and_f hc3), H⟩
    ·
     refine WL.reset (i := 65) (v := .bool true) (congrArg Value.bool hc3) ?_
     refine O.move (v := (.int .i64 t7)) rfl rfl rfl ?_
     refine O.move (v := (.int .i64 t9)) rfl rfl rfl ?_
     refine O.eql rfl rfl rfl rfl ?_
     refine O.pick_true (v := (.bool (t7 == t9))) rfl rfl rfl rfl ?_
     exact WL.nil ⟨rfl, rfl, rfl, rfl, rfl, rfl, congrArg Value.bool (and_t hc3), H⟩
   ·
    rintro f w ⟨hf12, hf14, hf15, hf16, hf17, hf18, hf69, H⟩
    obtain ⟨u2, rfl⟩ := up7 hf12 hf14 hf15 hf16 hf17 hf18 hf69
    refine O.move (v := (.bool (((t3 == t5) && (t4 == t6)) && (t7 == t9)))) rfl rfl rfl ?_
    refine WL.cut 4 (fun f w => f 15 = v1 ∧ f 16 = (.int .i64 t12) ∧ f 17 = v2 ∧ f 18 = (.int .i64 t14) ∧ f 74 = .bool ((((t3 == t5) && (t4 == t6)) && (t7 == t9)) && (t8 == t10)) ∧ Inv w0 w [boxI b1 25 [va0_0, va0_1], ownI (α := Int) v1 3 t11, ownI (α := Int) v2 3 t13]) ?_ ?_
    ·
     rcases bool_ft (((t3 == t5) && (t4 == t6)) && (t7 == t9)) with hc4 | hc4
     ·
      refine WL.reset (i := 70) (v := .bool false) (congrArg Value.bool hc4) ?_
      refine O.skip rfl rfl ?_
      refine O.skip rfl rfl ?_
      refine O.skip rfl rfl ?_
      refine O.pick_false (v := (.bool false)) rfl rfl rfl rfl ?_
      exact WL.nil ⟨rfl, rfl, rfl, rfl, congrArg Value.bool (and_f hc4), H⟩
     ·
      refine WL.reset (i := 70) (v := .bool true) (congrArg Value.bool hc4) ?_
      refine O.move (v := (.int .i64 t8)) rfl rfl rfl ?_
      refine O.move (v := (.int .i64 t10)) rfl rfl rfl ?_
      refine O.eql rfl rfl rfl rfl ?_
      refine O.pick_true (v := (.bool (t8 == t10))) rfl rfl rfl rfl ?_
      exact WL.nil ⟨rfl, rfl, rfl, rfl, congrArg Value.bool (and_t hc4), H⟩
    ·
     rintro f w ⟨hf15, hf16, hf17, hf18, hf74, H⟩
     obtain ⟨u3, rfl⟩ := up5 hf15 hf16 hf17 hf18 hf74
     refine O.move (v := (.bool ((((t3 == t5) && (t4 == t6)) && (t7 == t9)) && (t8 == t10)))) rfl rfl rfl ?_
     refine WL.cut 4 (fun f w => f 15 = v1 ∧ f 17 = v2 ∧ f 79 = .bool (((((t3 == t5) && (t4 == t6)) && (t7 == t9)) && (t8 == t10)) && (t12 == t14)) ∧ Inv w0 w [boxI b1 25 [va0_0, va0_1], ownI (α := Int) v1 3 t11, ownI (α := Int) v2 3 t13]) ?_ ?_
     ·
      rcases bool_ft ((((t3 == t5) && (t4 == t6)) && (t7 == t9)) && (t8 == t10)) with hc5 | hc5
      ·
       refine WL.reset (i := 75) (v := .bool false) (congrArg Value.bool hc5) ?_
       refine O.skip rfl rfl ?_
       refine O.skip rfl rfl ?_
       refine O.skip rfl rfl ?_
       refine O.pick_false (v := (.bool false)) rfl rfl rfl rfl ?_
       exact WL.nil ⟨rfl, rfl, congrArg Value.bool (and_f hc5), H⟩
      ·
       refine WL.reset (i := 75) (v := .bool true) (congrArg Value.bool hc5) ?_
       refine O.move (v := (.int .i64 t12)) rfl rfl rfl ?_
       refine O.move (v := (.int .i64 t14)) rfl rfl rfl ?_
       refine O.eql rfl rfl rfl rfl ?_
       refine O.pick_true (v := (.bool (t12 == t14))) rfl rfl rfl rfl ?_
       exact WL.nil ⟨rfl, rfl, congrArg Value.bool (and_t hc5), H⟩
     ·
      rintro f w ⟨hf15, hf17, hf79, H⟩
      obtain ⟨u4, rfl⟩ := up3 hf15 hf17 hf79
      refine O.move (v := (.bool (((((t3 == t5) && (t4 == t6)) && (t7 == t9)) && (t8 == t10)) && (t12 == t14)))) rfl rfl rfl ?_
      obtain ⟨b2, hm1, hm⟩ := bind_some hm
      refine WL.cut 4 (fun f w => f 84 = .bool b2 ∧ Inv w0 w [boxI b1 25 [va0_0, va0_1], ownI (α := Int) v1 3 t11, ownI (α := Int) v2 3 t13]) ?_ ?_
      ·
       rcases ite_some hm1 with ⟨hc6, hm1⟩ | ⟨hc6, hm1⟩
       ·
        refine WL.reset (i := 80) (v := .bool true) (congrArg Value.bool hc6) ?_
        refine O.move (v := v1) rfl rfl rfl ?_
        refine O.move (v := v2) rfl rfl rfl ?_
        obtain ⟨t15, hy9, hm1⟩ := bind_some hm1
        refine O.call Try.call41 rfl rfl rfl (c_noongunref01_SameInts _ _ (H.own 1 rfl) _ _ (H.own 2 rfl) hy9) ?_
        rintro _ w10 hb10 rfl
        have H := H.ext hb10
        refine O.pick_true (v := (.bool t15)) rfl rfl rfl rfl ?_
        refine WL.nil ?_
        have hq : t15 = b2 := Option.some.inj (show some t15 = some b2 from hm1)
        subst hq
        exact ⟨rfl, H⟩
       ·
        refine WL.reset (i := 80) (v := .bool false) (congrArg Value.bool hc6) ?_
        refine O.skip rfl rfl ?_
        refine O.skip rfl rfl ?_
        refine O.skip rfl rfl ?_
        refine O.pick_false (v := (.bool false)) rfl rfl rfl rfl ?_
        refine WL.nil ?_
        have hq : false = b2 := Option.some.inj (show some false = some b2 from hm1)
        subst hq
        exact ⟨rfl, H⟩
      ·
       rintro f w ⟨hf84, H⟩
       obtain ⟨u5, rfl⟩ := up1 hf84
       refine O.move (v := (.bool b2)) rfl rfl rfl ?_
       obtain ⟨b3, hm2, hm⟩ := bind_some hm
       refine WL.cut 2 (fun f w => f 87 = .bool b3 ∧ Inv w0 w [boxI b1 25 [va0_0, va0_1], ownI (α := Int) v1 3 t11, ownI (α := Int) v2 3 t13]) ?_ ?_
       ·
        rcases ite_some hm2 with ⟨hc7, hm2⟩ | ⟨hc7, hm2⟩
        ·
         refine WL.reset (i := 85) (v := .bool true) (congrArg Value.bool hc7) ?_
         obtain ⟨t16, hy10, hm2⟩ := bind_some hm2
         refine O.call Try.call15 rfl rfl rfl (c_noongunlaw02_awake  hy10) ?_
         rintro _ w11 hb11 rfl
         have H := H.ext hb11
         refine O.pick_true (v := (.bool t16)) rfl rfl rfl rfl ?_
         refine WL.nil ?_
         have hq : t16 = b3 := Option.some.inj (show some t16 = some b3 from hm2)
         subst hq
         exact ⟨rfl, H⟩
        ·
         refine WL.reset (i := 85) (v := .bool false) (congrArg Value.bool hc7) ?_
         refine O.skip rfl rfl ?_
         refine O.pick_false (v := (.bool false)) rfl rfl rfl rfl ?_
         refine WL.nil ?_
         have hq : false = b3 := Option.some.inj (show some false = some b3 from hm2)
         subst hq
         exact ⟨rfl, H⟩
       ·
        rintro f w ⟨hf87, H⟩
        obtain ⟨u6, rfl⟩ := up1 hf87
        refine O.assign (v := (.bool b3)) rfl rfl rfl ?_
        refine WL.nil ?_
        refine W.ret ?_
        have hq : b3 = r0 := Option.some.inj (show some b3 = some r0 from hm)
        subst hq
        exact ends1 Try.results10 rfl ⟨_, rfl, H.base, rfl⟩

end Go.Proofs
