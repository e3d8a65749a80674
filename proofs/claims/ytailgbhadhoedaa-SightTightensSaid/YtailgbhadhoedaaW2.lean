/-
  The walks: each function does what its model says, where the model has a value. No other condition.
-/
import Derived.Test.YtailgbhadhoedaaW1
namespace Go.Proofs
open Go.Fw Go.RowKit Go.Shelf
set_option maxRecDepth 20000 in
theorem c_ref_ways {w0 : World} (va0_0 va0_1 : Value) (a0 : GNet) (va1 : Value) (a1 : List GPoint) (ha0_0 : ∀ w, BelowX (fpOf [ownI (α := GPoint) va1 78 a1]) w0 w → SliceR w va0_0 a0.Rates) (ha0_1 : ∀ w, BelowX (fpOf [ownI (α := GPoint) va1 78 a1]) w0 w → SliceR w va0_1 a0.Sights)
  {r0 : List GPoint} {r1 : List (List Int)} (H0 : InvD (fpOf [ownI (α := GPoint) va1 78 a1]) w0 w0 [ownI (α := GPoint) va1 78 a1]) (hm : noongunref02_ways a0 a1 = some (r0, r1)) :
  Calls Try.prog 67 #[(.agg #[va0_0, va0_1]), va1] w0 fun e w' => ∃ v L1, e = .returned v ∧ InvD (fpOf [ownI (α := GPoint) va1 78 a1]) w0 w' L1 ∧ (∃ (bg : Nat) (vp vc : Value) (cs : List C1), v = .pointer (some ⟨bg, 0, none⟩) ∧ L1 = [boxI bg 118 [vp, vc], ownI (α := GPoint) vp 78 r0, mtxI (α := Int) vc 22 3 cs r1]) := by
 unfold noongunref02_ways at hm
 refine calls_of_W Try.func67 rfl Try.ntmps67 (Nat.le_of_ble_eq_true rfl) ?_
 have H : InvD (fpOf [ownI (α := GPoint) va1 78 a1]) w0 w0 [ownI (α := GPoint) va1 78 a1] := H0
 refine W.seq ?_
 refine W.region ?_
 refine O.box [va0_0, va0_1] H rfl rfl rfl rfl ?_
 intro b1 w1 H hb1
 refine O.assign (v := (.pointer none)) rfl rfl rfl ?_
 refine WL.nil ?_
 refine W.seq ?_
 refine W.region ?_
 obtain ⟨t1, hy1, hm⟩ := bind_some hm
 refine O.call Try.call63 rfl rfl rfl (c_noongunref02_spot _ _ hy1) ?_
 rintro _ w2 hb2 rfl
 have H := H.ext hb2
 refine O.buildSlice (α := GPoint) [(.agg (Flat.cells t1).toArray)] [t1] Try.underlying91 el78 H rfl rfl rfl rfl rfl rfl rfl ?_
 intro v1 w3 H hb3
 have H := H.addNilM (α := Int) 22 3
 obtain ⟨y1a, y1c, y1e, _⟩ := (H.own 2 rfl).shape
 refine O.build (v := .agg #[v1, (.slice none 0 0)]) (vs := [(0, v1)]) (fun w => by rw [y1e]; exact bd118_0 _ _ _ w) rfl rfl rfl ?_
 refine O.box [v1, (.slice none 0 0)] H rfl rfl rfl rfl ?_
 intro b2 w4 H hb4
 refine O.assign (v := (.pointer (some ⟨b2, 0, none⟩))) rfl rfl rfl ?_
 refine WL.nil ?_
 refine W.seq ?_
 refine W.seq ?_
 refine W.region ?_
 refine O.fieldAddr fd25_1 rfl rfl rfl ?_
 refine O.load sc23 rfl rfl rfl (H.cell 1 rfl 1 _ rfl) ?_
 refine O.lenS Try.underlying23 (ha0_1 _ H.baseX) rfl rfl rfl ?_
 refine O.move (v := (.int .i64 0)) rfl rfl rfl ?_
 refine WL.nil ?_
 obtain ⟨s1, hm1, hm⟩ := bind_some hm
 refine W.via (fun f w => ∃ v5 : Value, f 1 = v5 ∧ f 2 = (.pointer (some ⟨b1, 0, none⟩)) ∧ f 5 = (.pointer (some ⟨b2, 0, none⟩)) ∧ InvD (fpOf [ownI (α := GPoint) va1 78 a1]) w0 w [ownI (α := GPoint) v5 78 s1, boxI b1 25 [va0_0, va0_1], ownI (α := GPoint) v1 78 ([t1] : List GPoint), mtxI (α := Int) (.slice none 0 0) 22 3 [] ([] : List (List Int)), boxI b2 118 [v1, (.slice none 0 0)]]) ?_ ?_
 ·
  refine W.block ?_
  refine W.rangeL (i := 0) hm1 (fun rem ik1 s f w => ∃ z2 : (List GPoint), ∃ v3 : Value, z2 = s ∧ a0.Sights.drop ik1 = rem ∧ f 29 = .int .i64 (ik1 : Int) ∧ f 28 = (.int .i64 ((a0.Sights.length : Nat) : Int)) ∧ f 1 = v3 ∧ f 2 = (.pointer (some ⟨b1, 0, none⟩)) ∧ f 5 = (.pointer (some ⟨b2, 0, none⟩)) ∧ f 27 = va0_1 ∧ InvD (fpOf [ownI (α := GPoint) va1 78 a1]) w0 w [ownI (α := GPoint) v3 78 z2, boxI b1 25 [va0_0, va0_1], ownI (α := GPoint) v1 78 ([t1] : List GPoint), mtxI (α := Int) (.slice none 0 0) 22 3 [] ([] : List (List Int)), boxI b2 118 [v1, (.slice none 0 0)]]) ?_ ?_ ?_
  ·
   exact ⟨_, va1, rfl, List.drop_zero, rfl, rfl, rfl, rfl, rfl, rfl, H⟩
  ·
   rintro yk1 xs ik1 _ st f w ⟨z2, v3, rfl, hdropk1, hf29, hf28, hf1, hf2, hf5, hf27, H⟩ hm2
   have hltk1 := drop_lt hdropk1; have hixk1 := drop_idx hdropk1
   obtain ⟨u1, rfl⟩ := up6 hf29 hf28 hf1 hf2 hf5 hf27
   have hinck1 := addI_lt hltk1 (ha0_1 _ H.baseX).len_le
   refine W.seq ?_
   refine W.region ?_
   refine O.lss rfl rfl rfl rfl ?_
   refine WL.nil ?_
   refine W.seq ?_
   refine W.cond_true (congrArg Value.bool (decide_eq_true hltk1)) ?_
   refine W.skip ?_
   refine W.seq ?_
   refine W.block ?_
   refine W.seq ?_
   refine W.region ?_
   refine O.indexAddr Try.underlying23 sz39 (ha0_1 _ H.baseX) hixk1 rfl rfl rfl rfl ?_
   intro p1 hp1
   refine O.loadA [(.int .i64 yk1.At), (.int .i64 yk1.A), (.int .i64 yk1.B), (.int .i64 yk1.Lo), (.int .i64 yk1.Hi)] ag39 rfl rfl rfl rfl (hp1.flat) ?_
   refine O.alloc [(.int .i64 0), (.int .i64 0), (.int .i64 0), (.int .i64 0), (.int .i64 0)] ze39 H rfl rfl rfl ?_
   intro b3 w5 H hb5
   have hp1 := hp1.mono hb5
   refine O.store 5 0 [(.int .i64 yk1.At), (.int .i64 yk1.A), (.int .i64 yk1.B), (.int .i64 yk1.Lo), (.int .i64 yk1.Hi)] [(.int .i64 yk1.At), (.int .i64 yk1.A), (.int .i64 yk1.B), (.int .i64 yk1.Lo), (.int .i64 yk1.Hi)] sz39 H rfl rfl rfl rfl rfl rfl ⟨⟨rfl, rfl⟩, rfl⟩ (one_cons rfl (one_cons rfl (one_cons rfl (one_cons rfl (one_cons rfl one_nil))))) ?_
   intro w6 H
   clear hp1
   refine WL.nil ?_
   obtain ⟨t2, hy2, hm2⟩ := bind_some hm2
   obtain ⟨t3, hy3, hm2⟩ := bind_some hm2
   refine W.draw 12 (fun k v wk => match k with | 0 => v = v3 | 1 => v = (.pointer (some (Addr.add (Addr.mk b3 0 none) 1))) | 2 => v = (.int .i64 yk1.A) | 3 => v = (.pointer (some (Addr.add (Addr.mk b3 0 none) 0))) | 4 => v = (.int .i64 yk1.At) | 5 => v = (.agg (Flat.cells t2).toArray) | 6 => v = (.pointer (some (Addr.add (Addr.mk b3 0 none) 2))) | 7 => v = (.int .i64 yk1.B) | 8 => v = (.pointer (some (Addr.add (Addr.mk b3 0 none) 0))) | 9 => v = (.int .i64 yk1.At) | 10 => v = (.agg (Flat.cells t3).toArray) | 11 => OwnR w6 wk v 78 ([t2, t3] : List GPoint) | _ => True) (by intro k v w w' h hb; match k, h with | 0, h => exact h | 1, h => exact h | 2, h => exact h | 3, h => exact h | 4, h => exact h | 5, h => exact h | 6, h => exact h | 7, h => exact h | 8, h => exact h | 9, h => exact h | 10, h => exact h | 11, h => exact OwnR.mono h hb | _ + 12, h => exact h) fol (by kernel_rfl) ?_ ?_
   ·
    refine ⟨⟨⟨⟨⟨⟨⟨⟨⟨⟨⟨⟨trivial, ?_⟩, ?_⟩, ?_⟩, ?_⟩, ?_⟩, ?_⟩, ?_⟩, ?_⟩, ?_⟩, ?_⟩, ?_⟩, ?_⟩
    ·
     intro f wk hx hf hd
     have H := H.ext hx
     have hf1 : f 1 = v3 := hf 1 rfl
     obtain ⟨u2, rfl⟩ := up1 hf1
     refine O.move (v := v3) rfl rfl rfl ?_
     exact WL.nil ⟨Below.refl _ _, _, rfl, rfl⟩
    ·
     intro f wk hx hf hd
     have H := H.ext hx
     have hf7 : f 7 = (.pointer (some ⟨b3, 0, none⟩)) := hf 7 rfl
     obtain ⟨u3, rfl⟩ := up1 hf7
     refine O.fieldAddr fd39_1 rfl rfl rfl ?_
     exact WL.nil ⟨Below.refl _ _, _, rfl, rfl⟩
    ·
     intro f wk hx hf hd
     have H := H.ext hx
     have hf34 : f 34 = (.pointer (some (Addr.add (Addr.mk b3 0 none) 1))) := hd 1 rfl
     obtain ⟨u4, rfl⟩ := up1 hf34
     refine O.load sc3 rfl rfl rfl (H.cell 5 rfl 1 _ rfl) ?_
     exact WL.nil ⟨Below.refl _ _, _, rfl, rfl⟩
    ·
     intro f wk hx hf hd
     have H := H.ext hx
     have hf7 : f 7 = (.pointer (some ⟨b3, 0, none⟩)) := hf 7 rfl
     obtain ⟨u5, rfl⟩ := up1 hf7
     refine O.fieldAddr fd39_0 rfl rfl rfl ?_
     exact WL.nil ⟨Below.refl _ _, _, rfl, rfl⟩
    ·
     intro f wk hx hf hd
     have H := H.ext hx
     have hf36 : f 36 = (.pointer (some (Addr.add (Addr.mk b3 0 none) 0))) := hd 3 rfl
     obtain ⟨u6, rfl⟩ := up1 hf36
     refine O.load sc3 rfl rfl rfl (H.cell 5 rfl 0 _ rfl) ?_
     exact WL.nil ⟨Below.refl _ _, _, rfl, rfl⟩
    ·
     intro f wk hx hf hd
     have H := H.ext hx
     have hf35 : f 35 = (.int .i64 yk1.A) := hd 2 rfl
     have hf37 : f 37 = (.int .i64 yk1.At) := hd 4 rfl
     obtain ⟨u7, rfl⟩ := up2 hf35 hf37
     refine O.call Try.call63 rfl rfl rfl (c_noongunref02_spot _ _ hy2) ?_
     rintro _ w7 hb6 rfl
     have H := H.ext hb6
     exact WL.nil ⟨hb6, _, rfl, rfl⟩
    ·
     intro f wk hx hf hd
     have H := H.ext hx
     have hf7 : f 7 = (.pointer (some ⟨b3, 0, none⟩)) := hf 7 rfl
     obtain ⟨u8, rfl⟩ := up1 hf7
     refine O.fieldAddr fd39_2 rfl rfl rfl ?_
     exact WL.nil ⟨Below.refl _ _, _, rfl, rfl⟩
    ·
     intro f wk hx hf hd
     have H := H.ext hx
     have hf39 : f 39 = (.pointer (some (Addr.add (Addr.mk b3 0 none) 2))) := hd 6 rfl
     obtain ⟨u9, rfl⟩ := up1 hf39
     refine O.load sc3 rfl rfl rfl (H.cell 5 rfl 2 _ rfl) ?_
     exact WL.nil ⟨Below.refl _ _, _, rfl, rfl⟩
    ·
     intro f wk hx hf hd
     have H := H.ext hx
     have hf7 : f 7 = (.pointer (some ⟨b3, 0, none⟩)) := hf 7 rfl
     obtain ⟨u10, rfl⟩ := up1 hf7
     refine O.fieldAddr fd39_0 rfl rfl rfl ?_
     exact WL.nil ⟨Below.refl _ _, _, rfl, rfl⟩
    ·
     intro f wk hx hf hd
     have H := H.ext hx
     have hf41 : f 41 = (.pointer (some (Addr.add (Addr.mk b3 0 none) 0))) := hd 8 rfl
     obtain ⟨u11, rfl⟩ := up1 hf41
     refine O.load sc3 rfl rfl rfl (H.cell 5 rfl 0 _ rfl) ?_
     exact WL.nil ⟨Below.refl _ _, _, rfl, rfl⟩
    ·
     intro f wk hx hf hd
     have H := H.ext hx
     have hf40 : f 40 = (.int .i64 yk1.B) := hd 7 rfl
     have hf42 : f 42 = (.int .i64 yk1.At) := hd 9 rfl
     obtain ⟨u12, rfl⟩ := up2 hf40 hf42
     refine O.call Try.call63 rfl rfl rfl (c_noongunref02_spot _ _ hy3) ?_
     rintro _ w8 hb7 rfl
     have H := H.ext hb7
     exact WL.nil ⟨hb7, _, rfl, rfl⟩
    ·
     intro f wk hx hf hd
     have H := H.ext hx
     have hf38 : f 38 = (.agg (Flat.cells t2).toArray) := hd 5 rfl
     have hf43 : f 43 = (.agg (Flat.cells t3).toArray) := hd 10 rfl
     obtain ⟨u13, rfl⟩ := up2 hf38 hf43
     refine O.buildSlice (α := GPoint) [(.agg (Flat.cells t2).toArray), (.agg (Flat.cells t3).toArray)] [t2, t3] Try.underlying91 el78 (Inv.start (w := _)) rfl rfl rfl rfl rfl rfl rfl ?_
     intro v6 w9 H hb8
     exact WL.nil ⟨hb8, _, rfl, (H.ownR 0 rfl).base hx.size⟩
   ·
    intro f wk hx hf hmd hd
    have hf2 : f 2 = (.pointer (some ⟨b1, 0, none⟩)) := hf 2 rfl
    have hf5 : f 5 = (.pointer (some ⟨b2, 0, none⟩)) := hf 5 rfl
    have hf27 : f 27 = va0_1 := hf 27 rfl
    have hf28 : f 28 = (.int .i64 ((a0.Sights.length : Nat) : Int)) := hf 28 rfl
    have hf29 : f 29 = (.int .i64 (ik1 : Int)) := hf 29 rfl
    have hf33 : f 33 = v3 := hd 0 rfl
    have ho44 : OwnR w6 wk (f 44) 78 ([t2, t3] : List GPoint) := hd 11 rfl
    obtain ⟨v6, hf44⟩ : ∃ v6, f 44 = v6 := ⟨_, rfl⟩
    rw [hf44] at ho44
    have H := H.addOwn hx ho44
    obtain ⟨u14, rfl⟩ := up7 hf2 hf5 hf27 hf28 hf29 hf33 hf44
    obtain ⟨t4, ht4, hm2⟩ := bind_some hm2
    refine O.append 0 Try.underlying91 el78 rfl H rfl (H.own 6 rfl) ht4 rfl rfl rfl rfl ?_
    intro v7 w10 H
    refine O.assign (v := v7) rfl rfl rfl ?_
    refine WL.nil ?_
    refine W.region ?_
    refine O.add rfl rfl rfl rfl hinck1 ?_
    refine O.move (v := .int .i64 ((ik1 : Int) + 1)) rfl rfl rfl ?_
    refine WL.nil ?_
    have H := H.keep [0, 1, 2, 3, 4] [ownI (α := GPoint) v7 78 t4, boxI b1 25 [va0_0, va0_1], ownI (α := GPoint) v1 78 ([t1] : List GPoint), mtxI (α := Int) (.slice none 0 0) 22 3 [] ([] : List (List Int)), boxI b2 118 [v1, (.slice none 0 0)]] rfl (by decide)
    obtain rfl := Option.some.inj hm2
    exact ⟨_, rfl, _, v7, rfl, drop_next hdropk1, rfl, rfl, rfl, rfl, rfl, rfl, H⟩
  ·
   rintro ik1 _ f w ⟨z2, v3, rfl, hdropk1, hf29, hf28, hf1, hf2, hf5, hf27, H⟩ hfin
   have hltk1 := drop_end hdropk1
   obtain ⟨u15, rfl⟩ := up6 hf29 hf28 hf1 hf2 hf5 hf27
   refine W.seq ?_
   refine W.region ?_
   refine O.lss rfl rfl rfl rfl ?_
   refine WL.nil ?_
   refine W.seq ?_
   refine W.cond_false (congrArg Value.bool (decide_eq_false hltk1)) ?_
   refine W.exit ?_
   have hq : z2 = s1 := hfin
   subst hq
   refine xT rfl ?_
   exact ⟨v3, rfl, rfl, rfl, H⟩
 ·
  rintro f w ⟨v5, hf1, hf2, hf5, H⟩
  obtain ⟨u16, rfl⟩ := up3 hf1 hf2 hf5
  refine W.seq ?_
  refine W.seq ?_
  refine W.region ?_
  refine O.move (v := v5) rfl rfl rfl ?_
  refine O.lenS Try.underlying91 (H.own 0 rfl) rfl rfl rfl ?_
  refine O.move (v := (.int .i64 0)) rfl rfl rfl ?_
  refine WL.nil ?_
  obtain ⟨s2, hm3, hm⟩ := bind_some hm
  refine W.via (fun f w => ∃ v11 : Value, f 2 = (.pointer (some ⟨b1, 0, none⟩)) ∧ f 5 = (.pointer (some ⟨b2, 0, none⟩)) ∧ InvD (fpOf [ownI (α := GPoint) va1 78 a1]) w0 w [boxI b1 25 [va0_0, va0_1], ownI (α := GPoint) v11 78 s2, mtxI (α := Int) (.slice none 0 0) 22 3 [] ([] : List (List Int)), boxI b2 118 [v11, (.slice none 0 0)]]) ?_ ?_
  ·
   refine W.block ?_
   refine W.rangeL (i := 0) hm3 (fun rem ik2 s f w => ∃ z5 : (List GPoint), ∃ v9 : Value, z5 = s ∧ s1.drop ik2 = rem ∧ f 49 = .int .i64 (ik2 : Int) ∧ f 48 = (.int .i64 ((s1.length : Nat) : Int)) ∧ f 2 = (.pointer (some ⟨b1, 0, none⟩)) ∧ f 5 = (.pointer (some ⟨b2, 0, none⟩)) ∧ f 47 = v5 ∧ InvD (fpOf [ownI (α := GPoint) va1 78 a1]) w0 w [ownI (α := GPoint) v5 78 s1, boxI b1 25 [va0_0, va0_1], ownI (α := GPoint) v9 78 z5, mtxI (α := Int) (.slice none 0 0) 22 3 [] ([] : List (List Int)), boxI b2 118 [v9, (.slice none 0 0)]]) ?_ ?_ ?_
   ·
    exact ⟨_, v1, rfl, List.drop_zero, rfl, rfl, rfl, rfl, rfl, H⟩
   ·
    rintro yk2 xs ik2 _ st f w ⟨z5, v9, rfl, hdropk2, hf49, hf48, hf2, hf5, hf47, H⟩ hm4
    have hltk2 := drop_lt hdropk2; have hixk2 := drop_idx hdropk2
    obtain ⟨u17, rfl⟩ := up5 hf49 hf48 hf2 hf5 hf47
    have hinck2 := addI_lt hltk2 (H.own 0 rfl).len_le
    refine W.seq ?_
    refine W.region ?_
    refine O.lss rfl rfl rfl rfl ?_
    refine WL.nil ?_
    refine W.seq ?_
    refine W.cond_true (congrArg Value.bool (decide_eq_true hltk2)) ?_
    refine W.skip ?_
    refine W.seq ?_
    obtain ⟨s3, hm5, hm4⟩ := bind_some hm4
    refine W.via (fun f w => ∃ v12 : Value, f 2 = (.pointer (some ⟨b1, 0, none⟩)) ∧ f 5 = (.pointer (some ⟨b2, 0, none⟩)) ∧ f 47 = v5 ∧ f 48 = (.int .i64 ((s1.length : Nat) : Int)) ∧ f 49 = (.int .i64 (ik2 : Int)) ∧ InvD (fpOf [ownI (α := GPoint) va1 78 a1]) w0 w [ownI (α := GPoint) v5 78 s1, boxI b1 25 [va0_0, va0_1], ownI (α := GPoint) v12 78 s3, mtxI (α := Int) (.slice none 0 0) 22 3 [] ([] : List (List Int)), boxI b2 118 [v12, (.slice none 0 0)]]) ?_ ?_
    ·
     refine W.block ?_
     refine W.seq ?_
     refine W.region ?_
     refine O.indexAddr Try.underlying91 sz78 (H.own 0 rfl) hixk2 rfl rfl rfl rfl ?_
     intro p2 hp2
     refine O.loadA [(.int .i64 yk2.clock), (.int .i64 yk2.at_)] ag78 rfl rfl rfl rfl (hp2.flat) ?_
     refine O.alloc [(.int .i64 0), (.int .i64 0)] ze78 H rfl rfl rfl ?_
     intro b4 w11 H hb9
     have hp2 := hp2.mono hb9
     refine O.store 5 0 [(.int .i64 yk2.clock), (.int .i64 yk2.at_)] [(.int .i64 yk2.clock), (.int .i64 yk2.at_)] sz78 H rfl rfl rfl rfl rfl rfl ⟨⟨rfl, rfl⟩, rfl⟩ (one_cons rfl (one_cons rfl one_nil)) ?_
     intro w12 H
     clear hp2
     refine WL.nil ?_
     refine W.seq ?_
     refine W.region ?_
     refine O.move (v := (.pointer (some ⟨b2, 0, none⟩))) rfl rfl rfl ?_
     refine O.loadA [(.int .i64 yk2.clock), (.int .i64 yk2.at_)] ag78 rfl rfl rfl rfl (H.cell 5 rfl) ?_
     obtain ⟨t5, hy4, hm5⟩ := bind_some hm5
     refine O.call Try.call93 rfl rfl rfl (c_noongunref02_graph_index _ _ _ (GRefgraph.mk z5 ([] : List (List Int))) (H.cell 4 rfl) (H.own 2 rfl) (H.mtxRd 3 rfl) yk2 hy4) ?_
     rintro _ w13 hb10 rfl
     have H := H.ext hb10
     refine O.lss rfl rfl rfl rfl ?_
     refine WL.nil ?_
     obtain ⟨s4, hm6, hm5⟩ := bind_some hm5
     refine W.via (fun f w => ∃ v13 : Value, f 2 = (.pointer (some ⟨b1, 0, none⟩)) ∧ f 5 = (.pointer (some ⟨b2, 0, none⟩)) ∧ f 47 = v5 ∧ f 48 = (.int .i64 ((s1.length : Nat) : Int)) ∧ f 49 = (.int .i64 (ik2 : Int)) ∧ InvD (fpOf [ownI (α := GPoint) va1 78 a1]) w0 w [ownI (α := GPoint) v5 78 s1, boxI b1 25 [va0_0, va0_1], ownI (α := GPoint) v13 78 s4, mtxI (α := Int) (.slice none 0 0) 22 3 [] ([] : List (List Int)), boxI b2 118 [v13, (.slice none 0 0)]]) ?_ ?_
     ·
      rcases ite_some hm6 with ⟨hc1, hm6⟩ | ⟨hc1, hm6⟩
      ·
       refine W.cond_true (congrArg Value.bool hc1) ?_
       obtain ⟨t6, ht6, hm6⟩ := bind_some hm6
       have H := H.addGone
       refine W.drawD 8 [[], [], [1], [1, 2], [1, 2, 3], [], [5], [1, 2, 3, 4, 5, 6]] [[], [2, 3, 4, 7], [3, 4, 7], [4, 7], [7], [6, 7], [7], []] (fun S f w => ∃ v14 : Value, ∃ v15 : Value, InvD (fpOf [ownI (α := GPoint) va1 78 a1]) w0 w [] ∧ f 2 = (.pointer (some ⟨b1, 0, none⟩)) ∧ f 5 = (.pointer (some ⟨b2, 0, none⟩)) ∧ f 9 = (.pointer (some ⟨b4, 0, none⟩)) ∧ f 47 = v5 ∧ f 48 = (.int .i64 ((s1.length : Nat) : Int)) ∧ f 49 = (.int .i64 (ik2 : Int)) ∧ (S 0 = true → f 57 = (.pointer (some ⟨b2, 0, none⟩))) ∧ (S 1 = true → f 58 = (.pointer (some ⟨b2, 0, none⟩))) ∧ (S 2 = true → f 59 = (.pointer (some ⟨b2, 0, none⟩))) ∧ (S 3 = true → f 60 = (.pointer (some (Addr.add (Addr.mk b2 0 none) 0)))) ∧ (S 4 = true → f 61 = v9) ∧ (S 5 = true → f 62 = (.agg (Flat.cells yk2).toArray)) ∧ (S 6 = true → f 63 = v14) ∧ (S 7 = true → f 64 = v15) ∧ (S 7 = true → S 6 = true) ∧ (S 6 = false → S 7 = false → InvD (fpOf [ownI (α := GPoint) va1 78 a1]) w0 w [ownI (α := GPoint) v5 78 s1, boxI b1 25 [va0_0, va0_1], ownI (α := GPoint) v9 78 z5, mtxI (α := Int) (.slice none 0 0) 22 3 [] ([] : List (List Int)), boxI b2 118 [v9, (.slice none 0 0)], boxI b4 78 [(.int .i64 yk2.clock), (.int .i64 yk2.at_)], goneI]) ∧ (S 6 = true → S 7 = false → InvD (fpOf [ownI (α := GPoint) va1 78 a1]) w0 w [ownI (α := GPoint) v5 78 s1, boxI b1 25 [va0_0, va0_1], ownI (α := GPoint) v9 78 z5, mtxI (α := Int) (.slice none 0 0) 22 3 [] ([] : List (List Int)), boxI b2 118 [v9, (.slice none 0 0)], boxI b4 78 [(.int .i64 yk2.clock), (.int .i64 yk2.at_)], ownI (α := GPoint) v14 78 ([yk2] : List GPoint)]) ∧ (S 6 = true → S 7 = true → InvD (fpOf [ownI (α := GPoint) va1 78 a1]) w0 w [ownI (α := GPoint) v5 78 s1, boxI b1 25 [va0_0, va0_1], ownI (α := GPoint) v15 78 t6, mtxI (α := Int) (.slice none 0 0) 22 3 [] ([] : List (List Int)), boxI b2 118 [v9, (.slice none 0 0)], boxI b4 78 [(.int .i64 yk2.clock), (.int .i64 yk2.at_)], ownI (α := GPoint) v14 78 ([yk2] : List GPoint)])) fol (by kernel_rfl) ?_ ?_ ?_
       ·
        exact fun d _ => ⟨.nilFunc, .nilFunc, ((H.ext (below_drawn d)).pick [] [] rfl (by decide)), rfl, rfl, rfl, rfl, rfl, rfl, nF, nF, nF, nF, nF, nF, nF, nF, nF, (fun _ _ => H.ext (below_drawn d)), (fun a _ => nF a), (fun a _ => nF a)⟩
       ·
        refine ⟨?_, ⟨?_, ⟨?_, ⟨?_, ⟨?_, ⟨?_, ⟨?_, ⟨?_, trivial⟩⟩⟩⟩⟩⟩⟩⟩
        ·
         rintro S f w hS - - ⟨v14, v15, B, hf2, hf5, hf9, hf47, hf48, hf49, hd0, t⟩
         obtain ⟨u18, rfl⟩ := up1 hf5
         have H := B
         refine O.move (v := (.pointer (some ⟨b2, 0, none⟩))) rfl rfl rfl ?_
         exact WL.nil ⟨v14, v15, B, hf2, rfl, hf9, hf47, hf48, hf49, (fun _ => rfl), t⟩
        ·
         rintro S f w hS - ⟨e2, e3, e4, e7, -⟩ ⟨v14, v15, B, hf2, hf5, hf9, hf47, hf48, hf49, hd0, hd1, t⟩
         obtain ⟨u19, rfl⟩ := up1 hf5
         have H := B
         refine O.move (v := (.pointer (some ⟨b2, 0, none⟩))) rfl rfl rfl ?_
         exact WL.nil ⟨v14, v15, B, hf2, rfl, hf9, hf47, hf48, hf49, hd0, (fun _ => rfl), t⟩
        ·
         rintro S f w hS ⟨e1, -⟩ ⟨e3, e4, e7, -⟩ ⟨v14, v15, B, hf2, hf5, hf9, hf47, hf48, hf49, hd0, hd1, hd2, t⟩
         have hf58 := hd1 e1
         obtain ⟨u20, rfl⟩ := up1 hf58
         have H := B
         refine O.nilCheck rfl rfl rfl ?_
         exact WL.nil ⟨v14, v15, B, hf2, hf5, hf9, hf47, hf48, hf49, hd0, hd1, (fun _ => rfl), t⟩
        ·
         rintro S f w hS ⟨e1, e2, -⟩ ⟨e4, e7, -⟩ ⟨v14, v15, B, hf2, hf5, hf9, hf47, hf48, hf49, hd0, hd1, hd2, hd3, t⟩
         have hf59 := hd2 e2
         obtain ⟨u21, rfl⟩ := up1 hf59
         have H := B
         refine O.fieldAddr fd118_0 rfl rfl rfl ?_
         exact WL.nil ⟨v14, v15, B, hf2, hf5, hf9, hf47, hf48, hf49, hd0, hd1, hd2, (fun _ => rfl), t⟩
        ·
         rintro S f w hS ⟨e1, e2, e3, -⟩ ⟨e7, -⟩ ⟨v14, v15, B, hf2, hf5, hf9, hf47, hf48, hf49, hd0, hd1, hd2, hd3, hd4, hd5, hd6, hd7, C7_6, W0, W1, W2⟩
         have hf60 := hd3 e3
         obtain ⟨u22, rfl⟩ := up1 hf60
         rcases bool_ft (S 6) with e6 | e6
         ·
          have H := W0 e6 e7
          refine O.load sc91 rfl rfl rfl (H.cell 4 rfl 0 _ rfl) ?_
          exact WL.nil ⟨v14, v15, B, hf2, hf5, hf9, hf47, hf48, hf49, hd0, hd1, hd2, hd3, (fun _ => rfl), hd5, hd6, hd7, C7_6, (fun _ _ => H), (fun a _ => nX e6 a), (fun a _ => nX e6 a)⟩
         ·
          have H := W1 e6 e7
          refine O.load sc91 rfl rfl rfl (H.cell 4 rfl 0 _ rfl) ?_
          exact WL.nil ⟨v14, v15, B, hf2, hf5, hf9, hf47, hf48, hf49, hd0, hd1, hd2, hd3, (fun _ => rfl), hd5, hd6, hd7, C7_6, (fun a _ => nT e6 a), (fun _ _ => H), (fun _ a => nX e7 a)⟩
        ·
         rintro S f w hS - ⟨e6, e7, -⟩ ⟨v14, v15, B, hf2, hf5, hf9, hf47, hf48, hf49, hd0, hd1, hd2, hd3, hd4, hd5, t⟩
         obtain ⟨u23, rfl⟩ := up1 hf9
         have H := t.2.2.2.1 e6 e7
         refine O.loadA [(.int .i64 yk2.clock), (.int .i64 yk2.at_)] ag78 rfl rfl rfl rfl (H.cell 5 rfl) ?_
         exact WL.nil ⟨v14, v15, B, hf2, hf5, rfl, hf47, hf48, hf49, hd0, hd1, hd2, hd3, hd4, (fun _ => rfl), t⟩
        ·
         rintro S f w hS ⟨e5, -⟩ ⟨e7, -⟩ ⟨_, v15, B, hf2, hf5, hf9, hf47, hf48, hf49, hd0, hd1, hd2, hd3, hd4, hd5, hd6, hd7, C7_6, W0, W1, W2⟩
         have hf62 := hd5 e5
         obtain ⟨u24, rfl⟩ := up1 hf62
         have H := W0 hS e7
         refine O.buildSlice (α := GPoint) [(.agg (Flat.cells yk2).toArray)] [yk2] Try.underlying91 el78 H rfl rfl rfl rfl rfl rfl rfl ?_
         intro v14 w14 H hb11
         refine WL.nil ?_
         have H := H.pick [0, 1, 2, 3, 4, 5, 7] [ownI (α := GPoint) v5 78 s1, boxI b1 25 [va0_0, va0_1], ownI (α := GPoint) v9 78 z5, mtxI (α := Int) (.slice none 0 0) 22 3 [] ([] : List (List Int)), boxI b2 118 [v9, (.slice none 0 0)], boxI b4 78 [(.int .i64 yk2.clock), (.int .i64 yk2.at_)], ownI (α := GPoint) v14 78 ([yk2] : List GPoint)] rfl (by decide)
         exact ⟨v14, v15, (H.pick [] [] rfl (by decide)), hf2, hf5, hf9, hf47, hf48, hf49, hd0, hd1, hd2, hd3, hd4, hd5, (fun _ => rfl), hd7, (fun _ => rfl), (fun a _ => nG a), (fun _ _ => H), (fun _ a => nX e7 a)⟩
        ·
         rintro S f w hS ⟨e1, e2, e3, e4, e5, e6, -⟩ - ⟨v14, _, B, hf2, hf5, hf9, hf47, hf48, hf49, hd0, hd1, hd2, hd3, hd4, hd5, hd6, hd7, C7_6, W0, W1, W2⟩
         have hf61 := hd4 e4
         have hf63 := hd6 e6
         obtain ⟨u25, rfl⟩ := up2 hf61 hf63
         have H := W1 e6 hS
         refine O.append 2 Try.underlying91 el78 rfl H rfl (H.own 6 rfl) ht6 rfl rfl rfl rfl ?_
         intro v15 w15 H
         exact WL.nil ⟨v14, v15, (H.pick [] [] rfl (by decide)), hf2, hf5, hf9, hf47, hf48, hf49, hd0, hd1, hd2, hd3, hd4, hd5, hd6, (fun _ => rfl), (fun _ => e6), (fun a _ => nT e6 a), (fun _ a => nG a), (fun _ _ => H)⟩
       ·
        rintro S f w ⟨e0, e1, e2, e3, e4, e5, e6, e7, -⟩ ⟨v14, v15, B, hf2, hf5, hf9, hf47, hf48, hf49, hd0, hd1, hd2, hd3, hd4, hd5, hd6, hd7, C7_6, W0, W1, W2⟩
        have hf57 := hd0 e0
        have hf64 := hd7 e7
        have H := W2 e6 e7
        obtain ⟨u26, rfl⟩ := up7 hf2 hf5 hf47 hf48 hf49 hf57 hf64
        refine O.nilCheck rfl rfl rfl ?_
        refine O.fieldAddr fd118_0 rfl rfl rfl ?_
        refine O.store 4 0 [v15] [v15, (.slice none 0 0)] sz91 H rfl rfl rfl rfl rfl (SliceR.cells1 (H.own 2 rfl)) ⟨⟨rfl, rfl⟩, rfl⟩ (one_cons (SliceR.one (H.own 2 rfl)) one_nil) ?_
        intro w16 H
        refine WL.nil ?_
        have H := H.keep [0, 1, 2, 3, 4] [ownI (α := GPoint) v5 78 s1, boxI b1 25 [va0_0, va0_1], ownI (α := GPoint) v15 78 t6, mtxI (α := Int) (.slice none 0 0) 22 3 [] ([] : List (List Int)), boxI b2 118 [v15, (.slice none 0 0)]] rfl (by decide)
        have hq : t6 = s4 := Option.some.inj (show some t6 = some s4 from hm6)
        subst hq
        exact ⟨v15, rfl, rfl, rfl, rfl, rfl, H⟩
      ·
       refine W.cond_false (congrArg Value.bool hc1) ?_
       refine W.skip ?_
       have H := H.keep [0, 1, 2, 3, 4] [ownI (α := GPoint) v5 78 s1, boxI b1 25 [va0_0, va0_1], ownI (α := GPoint) v9 78 z5, mtxI (α := Int) (.slice none 0 0) 22 3 [] ([] : List (List Int)), boxI b2 118 [v9, (.slice none 0 0)]] rfl (by decide)
       have hq : z5 = s4 := Option.some.inj (show some z5 = some s4 from hm6)
       subst hq
       exact ⟨v9, rfl, rfl, rfl, rfl, rfl, H⟩
     ·
      rintro f w ⟨v13, hf2, hf5, hf47, hf48, hf49, H⟩
      obtain ⟨u27, rfl⟩ := up5 hf2 hf5 hf47 hf48 hf49
      have hq : s4 = s3 := Option.some.inj (show some s4 = some s3 from hm5)
      subst hq
      exact ⟨v13, rfl, rfl, rfl, rfl, rfl, H⟩
    ·
     rintro f w ⟨v12, hf2, hf5, hf47, hf48, hf49, H⟩
     obtain ⟨u28, rfl⟩ := up5 hf2 hf5 hf47 hf48 hf49
     refine W.region ?_
     refine O.add rfl rfl rfl rfl hinck2 ?_
     refine O.move (v := .int .i64 ((ik2 : Int) + 1)) rfl rfl rfl ?_
     refine WL.nil ?_
     obtain rfl := Option.some.inj hm4
     exact ⟨_, rfl, _, v12, rfl, drop_next hdropk2, rfl, rfl, rfl, rfl, rfl, H⟩
   ·
    rintro ik2 _ f w ⟨z5, v9, rfl, hdropk2, hf49, hf48, hf2, hf5, hf47, H⟩ hfin
    have hltk2 := drop_end hdropk2
    obtain ⟨u29, rfl⟩ := up5 hf49 hf48 hf2 hf5 hf47
    refine W.seq ?_
    refine W.region ?_
    refine O.lss rfl rfl rfl rfl ?_
    refine WL.nil ?_
    refine W.seq ?_
    refine W.cond_false (congrArg Value.bool (decide_eq_false hltk2)) ?_
    refine W.exit ?_
    have hq : z5 = s2 := hfin
    subst hq
    have H := H.keep [1, 2, 3, 4] [boxI b1 25 [va0_0, va0_1], ownI (α := GPoint) v9 78 z5, mtxI (α := Int) (.slice none 0 0) 22 3 [] ([] : List (List Int)), boxI b2 118 [v9, (.slice none 0 0)]] rfl (by decide)
    refine xT rfl ?_
    exact ⟨v9, rfl, rfl, H⟩
  ·
   rintro f w ⟨v11, hf2, hf5, H⟩
   obtain ⟨u30, rfl⟩ := up2 hf2 hf5
   refine W.seq ?_
   refine W.seq ?_
   refine W.region ?_
   refine O.move (v := (.pointer (some ⟨b2, 0, none⟩))) rfl rfl rfl ?_
   refine O.nilCheck rfl rfl rfl ?_
   refine O.fieldAddr fd118_0 rfl rfl rfl ?_
   refine O.load sc91 rfl rfl rfl (H.cell 3 rfl 0 _ rfl) ?_
   refine O.lenS Try.underlying91 (H.own 1 rfl) rfl rfl rfl ?_
   refine O.move (v := (.int .i64 0)) rfl rfl rfl ?_
   refine WL.nil ?_
   obtain ⟨s5, hm7, hm⟩ := bind_some hm
   refine W.via (fun f w => ∃ v19 : Value, ∃ rc4 : List C1, f 2 = (.pointer (some ⟨b1, 0, none⟩)) ∧ f 5 = (.pointer (some ⟨b2, 0, none⟩)) ∧ InvD (fpOf [ownI (α := GPoint) va1 78 a1]) w0 w [boxI b1 25 [va0_0, va0_1], ownI (α := GPoint) v11 78 s2, mtxI (α := Int) v19 22 3 rc4 s5, boxI b2 118 [v11, v19]]) ?_ ?_
   ·
    refine W.block ?_
    refine W.rangeL (i := 0) hm7 (fun rem ik3 s f w => ∃ z8 : (List (List Int)), ∃ v17 : Value, ∃ rc2 : List C1, z8 = s ∧ s2.drop ik3 = rem ∧ f 73 = .int .i64 (ik3 : Int) ∧ f 72 = (.int .i64 ((s2.length : Nat) : Int)) ∧ f 2 = (.pointer (some ⟨b1, 0, none⟩)) ∧ f 5 = (.pointer (some ⟨b2, 0, none⟩)) ∧ f 71 = v11 ∧ InvD (fpOf [ownI (α := GPoint) va1 78 a1]) w0 w [boxI b1 25 [va0_0, va0_1], ownI (α := GPoint) v11 78 s2, mtxI (α := Int) v17 22 3 rc2 z8, boxI b2 118 [v11, v17]]) ?_ ?_ ?_
    ·
     exact ⟨_, (.slice none 0 0), [], rfl, List.drop_zero, rfl, rfl, rfl, rfl, rfl, H⟩
    ·
     rintro yk3 xs ik3 _ st f w ⟨z8, v17, rc2, rfl, hdropk3, hf73, hf72, hf2, hf5, hf71, H⟩ hm8
     have hltk3 := drop_lt hdropk3; have hixk3 := drop_idx hdropk3
     obtain ⟨u31, rfl⟩ := up5 hf73 hf72 hf2 hf5 hf71
     have hinck3 := addI_lt hltk3 (H.own 1 rfl).len_le
     refine W.seq ?_
     refine W.region ?_
     refine O.lss rfl rfl rfl rfl ?_
     refine WL.nil ?_
     refine W.seq ?_
     refine W.cond_true (congrArg Value.bool (decide_eq_true hltk3)) ?_
     refine W.skip ?_
     refine W.seq ?_
     obtain ⟨s6, hm9, hm8⟩ := bind_some hm8
     refine W.via (fun f w => ∃ v20 : Value, ∃ rc5 : List C1, f 2 = (.pointer (some ⟨b1, 0, none⟩)) ∧ f 5 = (.pointer (some ⟨b2, 0, none⟩)) ∧ f 71 = v11 ∧ f 72 = (.int .i64 ((s2.length : Nat) : Int)) ∧ f 73 = (.int .i64 (ik3 : Int)) ∧ InvD (fpOf [ownI (α := GPoint) va1 78 a1]) w0 w [boxI b1 25 [va0_0, va0_1], ownI (α := GPoint) v11 78 s2, mtxI (α := Int) v20 22 3 rc5 s6, boxI b2 118 [v11, v20]]) ?_ ?_
     ·
      refine W.block ?_
      refine W.seq ?_
      refine W.region ?_
      refine O.indexAddr Try.underlying91 sz78 (H.own 1 rfl) hixk3 rfl rfl rfl rfl ?_
      intro p3 hp3
      refine O.loadA [(.int .i64 yk3.clock), (.int .i64 yk3.at_)] ag78 rfl rfl rfl rfl (hp3.flat) ?_
      refine O.alloc [(.int .i64 0), (.int .i64 0)] ze78 H rfl rfl rfl ?_
      intro b5 w17 H hb12
      have hp3 := hp3.mono hb12
      refine O.store 4 0 [(.int .i64 yk3.clock), (.int .i64 yk3.at_)] [(.int .i64 yk3.clock), (.int .i64 yk3.at_)] sz78 H rfl rfl rfl rfl rfl rfl ⟨⟨rfl, rfl⟩, rfl⟩ (one_cons rfl (one_cons rfl one_nil)) ?_
      intro w18 H
      clear hp3
      refine WL.nil ?_
      refine W.seq ?_
      refine W.region ?_
      have H := H.addNil (α := Int) (E := 3)
      refine O.assign (v := (.slice none 0 0)) rfl rfl rfl ?_
      refine WL.nil ?_
      refine W.seq ?_
      refine W.seq ?_
      refine W.region ?_
      refine O.move (v := (.pointer (some ⟨b2, 0, none⟩))) rfl rfl rfl ?_
      refine O.nilCheck rfl rfl rfl ?_
      refine O.fieldAddr fd118_0 rfl rfl rfl ?_
      refine O.load sc91 rfl rfl rfl (H.cell 3 rfl 0 _ rfl) ?_
      refine O.lenS Try.underlying91 (H.own 1 rfl) rfl rfl rfl ?_
      refine O.move (v := (.int .i64 0)) rfl rfl rfl ?_
      refine WL.nil ?_
      obtain ⟨s7, hm10, hm9⟩ := bind_some hm9
      refine W.via (fun f w => ∃ v24 : Value, f 2 = (.pointer (some ⟨b1, 0, none⟩)) ∧ f 5 = (.pointer (some ⟨b2, 0, none⟩)) ∧ f 12 = v24 ∧ f 71 = v11 ∧ f 72 = (.int .i64 ((s2.length : Nat) : Int)) ∧ f 73 = (.int .i64 (ik3 : Int)) ∧ InvD (fpOf [ownI (α := GPoint) va1 78 a1]) w0 w [boxI b1 25 [va0_0, va0_1], ownI (α := GPoint) v11 78 s2, mtxI (α := Int) v17 22 3 rc2 z8, boxI b2 118 [v11, v17], ownI (α := Int) v24 3 s7]) ?_ ?_
      ·
       refine W.block ?_
       refine W.rangeL (i := 0) hm10 (fun rem ik4 s f w => ∃ z11 : (List Int), ∃ v22 : Value, z11 = s ∧ s2.drop ik4 = rem ∧ f 82 = .int .i64 (ik4 : Int) ∧ f 81 = (.int .i64 ((s2.length : Nat) : Int)) ∧ f 2 = (.pointer (some ⟨b1, 0, none⟩)) ∧ f 5 = (.pointer (some ⟨b2, 0, none⟩)) ∧ f 11 = (.pointer (some ⟨b5, 0, none⟩)) ∧ f 12 = v22 ∧ f 71 = v11 ∧ f 72 = (.int .i64 ((s2.length : Nat) : Int)) ∧ f 73 = (.int .i64 (ik3 : Int)) ∧ f 80 = v11 ∧ InvD (fpOf [ownI (α := GPoint) va1 78 a1]) w0 w [boxI b1 25 [va0_0, va0_1], ownI (α := GPoint) v11 78 s2, mtxI (α := Int) v17 22 3 rc2 z8, boxI b2 118 [v11, v17], boxI b5 78 [(.int .i64 yk3.clock), (.int .i64 yk3.at_)], ownI (α := Int) v22 3 z11]) ?_ ?_ ?_
       ·
        exact ⟨_, (.slice none 0 0), rfl, List.drop_zero, rfl, rfl, rfl, rfl, rfl, rfl, rfl, rfl, rfl, rfl, H⟩
       ·
        rintro yk4 xs ik4 _ st f w ⟨z11, v22, rfl, hdropk4, hf82, hf81, hf2, hf5, hf11, hf12, hf71, hf72, hf73, hf80, H⟩ hm11
        have hltk4 := drop_lt hdropk4; have hixk4 := drop_idx hdropk4
        obtain ⟨u32, rfl⟩ : ∃ u32, f = (upd (upd (upd (upd (upd (upd (upd (upd (upd (upd u32 82 (.int .i64 (ik4 : Int))) 81 (.int .i64 ((s2.length : Nat) : Int))) 2 (.pointer (some ⟨b1, 0, none⟩))) 5 (.pointer (some ⟨b2, 0, none⟩))) 11 (.pointer (some ⟨b5, 0, none⟩))) 12 v22) 71 v11) 72 (.int .i64 ((s2.length : Nat) : Int))) 73 (.int .i64 (ik3 : Int))) 80 v11) := ⟨f, by rw [upd_self hf82, upd_self hf81, upd_self hf2, upd_self hf5, upd_self hf11, upd_self hf12, upd_self hf71, upd_self hf72, upd_self hf73, upd_self hf80]⟩
        have hinck4 := addI_lt hltk4 (H.own 1 rfl).len_le
        refine W.seq ?_
        refine W.region ?_
        refine O.lss rfl rfl rfl rfl ?_
        refine WL.nil ?_
        refine W.seq ?_
        refine W.cond_true (congrArg Value.bool (decide_eq_true hltk4)) ?_
        refine W.skip ?_
        refine W.seq ?_
        obtain ⟨s8, hm12, hm11⟩ := bind_some hm11
        refine W.via (fun f w => ∃ v25 : Value, f 2 = (.pointer (some ⟨b1, 0, none⟩)) ∧ f 5 = (.pointer (some ⟨b2, 0, none⟩)) ∧ f 11 = (.pointer (some ⟨b5, 0, none⟩)) ∧ f 12 = v25 ∧ f 71 = v11 ∧ f 72 = (.int .i64 ((s2.length : Nat) : Int)) ∧ f 73 = (.int .i64 (ik3 : Int)) ∧ f 80 = v11 ∧ f 81 = (.int .i64 ((s2.length : Nat) : Int)) ∧ f 82 = (.int .i64 (ik4 : Int)) ∧ InvD (fpOf [ownI (α := GPoint) va1 78 a1]) w0 w [boxI b1 25 [va0_0, va0_1], ownI (α := GPoint) v11 78 s2, mtxI (α := Int) v17 22 3 rc2 z8, boxI b2 118 [v11, v17], boxI b5 78 [(.int .i64 yk3.clock), (.int .i64 yk3.at_)], ownI (α := Int) v25 3 s8]) ?_ ?_
        ·
         refine W.block ?_
         refine W.seq ?_
         refine W.region ?_
         refine O.indexAddr Try.underlying91 sz78 (H.own 1 rfl) hixk4 rfl rfl rfl rfl ?_
         intro p4 hp4
         refine O.loadA [(.int .i64 yk4.clock), (.int .i64 yk4.at_)] ag78 rfl rfl rfl rfl (hp4.flat) ?_
         refine O.alloc [(.int .i64 0), (.int .i64 0)] ze78 H rfl rfl rfl ?_
         intro b6 w19 H hb13
         have hp4 := hp4.mono hb13
         refine O.store 6 0 [(.int .i64 yk4.clock), (.int .i64 yk4.at_)] [(.int .i64 yk4.clock), (.int .i64 yk4.at_)] sz78 H rfl rfl rfl rfl rfl rfl ⟨⟨rfl, rfl⟩, rfl⟩ (one_cons rfl (one_cons rfl one_nil)) ?_
         intro w20 H
         clear hp4
         refine WL.nil ?_
         obtain ⟨s9, hm13, hm12⟩ := bind_some hm12
         refine W.via (fun f w => ∃ v26 : Value, f 2 = (.pointer (some ⟨b1, 0, none⟩)) ∧ f 5 = (.pointer (some ⟨b2, 0, none⟩)) ∧ f 11 = (.pointer (some ⟨b5, 0, none⟩)) ∧ f 12 = v26 ∧ f 71 = v11 ∧ f 72 = (.int .i64 ((s2.length : Nat) : Int)) ∧ f 73 = (.int .i64 (ik3 : Int)) ∧ f 80 = v11 ∧ f 81 = (.int .i64 ((s2.length : Nat) : Int)) ∧ f 82 = (.int .i64 (ik4 : Int)) ∧ InvD (fpOf [ownI (α := GPoint) va1 78 a1]) w0 w [boxI b1 25 [va0_0, va0_1], ownI (α := GPoint) v11 78 s2, mtxI (α := Int) v17 22 3 rc2 z8, boxI b2 118 [v11, v17], boxI b5 78 [(.int .i64 yk3.clock), (.int .i64 yk3.at_)], ownI (α := Int) v26 3 s9]) ?_ ?_
         ·
          refine W.block ?_
          refine W.seq ?_
          refine W.region ?_
          refine O.loadA [(.int .i64 yk3.clock), (.int .i64 yk3.at_)] ag78 rfl rfl rfl rfl (H.cell 4 rfl) ?_
          refine O.loadA [(.int .i64 yk4.clock), (.int .i64 yk4.at_)] ag78 rfl rfl rfl rfl (H.cell 6 rfl) ?_
          refine O.eqlSt yk3 yk4 eq78 rfl rfl rfl rfl ?_
          refine O.assign (v := (.bool (yk3 == yk4))) rfl rfl rfl ?_
          refine WL.nil ?_
          obtain ⟨s10, hm14, hm13⟩ := bind_some hm13
          refine W.via (fun f w => ∃ v27 : Value, f 2 = (.pointer (some ⟨b1, 0, none⟩)) ∧ f 5 = (.pointer (some ⟨b2, 0, none⟩)) ∧ f 11 = (.pointer (some ⟨b5, 0, none⟩)) ∧ f 12 = v27 ∧ f 71 = v11 ∧ f 72 = (.int .i64 ((s2.length : Nat) : Int)) ∧ f 73 = (.int .i64 (ik3 : Int)) ∧ f 80 = v11 ∧ f 81 = (.int .i64 ((s2.length : Nat) : Int)) ∧ f 82 = (.int .i64 (ik4 : Int)) ∧ InvD (fpOf [ownI (α := GPoint) va1 78 a1]) w0 w [boxI b1 25 [va0_0, va0_1], ownI (α := GPoint) v11 78 s2, mtxI (α := Int) v17 22 3 rc2 z8, boxI b2 118 [v11, v17], boxI b5 78 [(.int .i64 yk3.clock), (.int .i64 yk3.at_)], ownI (α := Int) v27 3 s10]) ?_ ?_
          ·
           rcases ite_some hm14 with ⟨hc2, hm14⟩ | ⟨hc2, hm14⟩
           ·
            refine W.cond_true (congrArg Value.bool hc2) ?_
            refine W.region ?_
            refine O.move (v := v22) rfl rfl rfl ?_
            refine O.buildSlice (α := Int) [(.int .i64 0)] [0] Try.underlying22 el3 H rfl rfl rfl rfl rfl rfl rfl ?_
            intro v28 w21 H hb14
            obtain ⟨t7, ht7, hm14⟩ := bind_some hm14
            refine O.append 5 Try.underlying22 el3 rfl H rfl (H.own 7 rfl) ht7 rfl rfl rfl rfl ?_
            intro v29 w22 H
            refine O.assign (v := v29) rfl rfl rfl ?_
            refine WL.nil ?_
            have H := H.keep [0, 1, 2, 3, 4, 5] [boxI b1 25 [va0_0, va0_1], ownI (α := GPoint) v11 78 s2, mtxI (α := Int) v17 22 3 rc2 z8, boxI b2 118 [v11, v17], boxI b5 78 [(.int .i64 yk3.clock), (.int .i64 yk3.at_)], ownI (α := Int) v29 3 t7] rfl (by decide)
            have hq : t7 = s10 := Option.some.inj (show some t7 = some s10 from hm14)
            subst hq
            exact ⟨v29, rfl, rfl, rfl, rfl, rfl, rfl, rfl, rfl, rfl, rfl, H⟩
           ·
            refine W.cond_false (congrArg Value.bool hc2) ?_
            refine W.seq ?_
            refine W.region ?_
            refine O.fieldAddr fd78_0 rfl rfl rfl ?_
            refine O.load sc3 rfl rfl rfl (H.cell 4 rfl 0 _ rfl) ?_
            refine O.fieldAddr fd78_0 rfl rfl rfl ?_
            refine O.load sc3 rfl rfl rfl (H.cell 6 rfl 0 _ rfl) ?_
            refine O.eql rfl rfl rfl rfl ?_
            refine O.assign (v := (.bool (yk3.clock == yk4.clock))) rfl rfl rfl ?_
            refine WL.nil ?_
            obtain ⟨s11, hm15, hm14⟩ := bind_some hm14
            refine W.via (fun f w => ∃ v30 : Value, f 2 = (.pointer (some ⟨b1, 0, none⟩)) ∧ f 5 = (.pointer (some ⟨b2, 0, none⟩)) ∧ f 11 = (.pointer (some ⟨b5, 0, none⟩)) ∧ f 12 = v30 ∧ f 71 = v11 ∧ f 72 = (.int .i64 ((s2.length : Nat) : Int)) ∧ f 73 = (.int .i64 (ik3 : Int)) ∧ f 80 = v11 ∧ f 81 = (.int .i64 ((s2.length : Nat) : Int)) ∧ f 82 = (.int .i64 (ik4 : Int)) ∧ InvD (fpOf [ownI (α := GPoint) va1 78 a1]) w0 w [boxI b1 25 [va0_0, va0_1], ownI (α := GPoint) v11 78 s2, mtxI (α := Int) v17 22 3 rc2 z8, boxI b2 118 [v11, v17], boxI b5 78 [(.int .i64 yk3.clock), (.int .i64 yk3.at_)], ownI (α := Int) v30 3 s11]) ?_ ?_
            ·
             rcases ite_some hm15 with ⟨hc3, hm15⟩ | ⟨hc3, hm15⟩
             ·
              refine W.cond_true (congrArg Value.bool hc3) ?_
              obtain ⟨x1, hx1, hm15⟩ := bind_some hm15
              obtain ⟨t8, ht8, hm15⟩ := bind_some hm15
              obtain ⟨t9, hy5, hm15⟩ := bind_some hm15
              refine W.draw 14 (fun k v wk => match k with | 0 => v = v22 | 1 => v = (.pointer (some (Addr.add (Addr.mk b1 0 none) 0))) | 2 => v = va0_0 | 3 => v = (.pointer (some (Addr.add (Addr.mk b5 0 none) 0))) | 4 => v = (.int .i64 yk3.clock) | 5 => ∃ p5 : Addr, v = (.pointer (some p5)) ∧ ElemAt wk p5 x1 | 6 => v = (.int .i64 x1) | 7 => v = (.pointer (some (Addr.add (Addr.mk b5 0 none) 1))) | 8 => v = (.int .i64 yk3.at_) | 9 => v = (.pointer (some (Addr.add (Addr.mk b6 0 none) 1))) | 10 => v = (.int .i64 yk4.at_) | 11 => v = (.int .i64 t8) | 12 => v = (.int .i64 t9) | 13 => OwnR w20 wk v 3 ([t9] : List Int) | _ => True) (by intro k v w w' h hb; match k, h with | 0, h => exact h | 1, h => exact h | 2, h => exact h | 3, h => exact h | 4, h => exact h | 5, ⟨p, e, hp⟩ => exact ⟨p, e, hp.mono hb⟩ | 6, h => exact h | 7, h => exact h | 8, h => exact h | 9, h => exact h | 10, h => exact h | 11, h => exact h | 12, h => exact h | 13, h => exact OwnR.mono h hb | _ + 14, h => exact h) fol (by kernel_rfl) ?_ ?_
              ·
               refine ⟨⟨⟨⟨⟨⟨⟨⟨⟨⟨⟨⟨⟨⟨trivial, ?_⟩, ?_⟩, ?_⟩, ?_⟩, ?_⟩, ?_⟩, ?_⟩, ?_⟩, ?_⟩, ?_⟩, ?_⟩, ?_⟩, ?_⟩, ?_⟩
               ·
                intro f wk hx hf hd
                have H := H.ext hx
                have hf12 : f 12 = v22 := hf 12 rfl
                obtain ⟨u33, rfl⟩ := up1 hf12
                refine O.move (v := v22) rfl rfl rfl ?_
                exact WL.nil ⟨Below.refl _ _, _, rfl, rfl⟩
               ·
                intro f wk hx hf hd
                have H := H.ext hx
                have hf2 : f 2 = (.pointer (some ⟨b1, 0, none⟩)) := hf 2 rfl
                obtain ⟨u34, rfl⟩ := up1 hf2
                refine O.fieldAddr fd25_0 rfl rfl rfl ?_
                exact WL.nil ⟨Below.refl _ _, _, rfl, rfl⟩
               ·
                intro f wk hx hf hd
                have H := H.ext hx
                have hf103 : f 103 = (.pointer (some (Addr.add (Addr.mk b1 0 none) 0))) := hd 1 rfl
                obtain ⟨u35, rfl⟩ := up1 hf103
                refine O.load sc22 rfl rfl rfl (H.cell 0 rfl 0 _ rfl) ?_
                exact WL.nil ⟨Below.refl _ _, _, rfl, rfl⟩
               ·
                intro f wk hx hf hd
                have H := H.ext hx
                have hf11 : f 11 = (.pointer (some ⟨b5, 0, none⟩)) := hf 11 rfl
                obtain ⟨u36, rfl⟩ := up1 hf11
                refine O.fieldAddr fd78_0 rfl rfl rfl ?_
                exact WL.nil ⟨Below.refl _ _, _, rfl, rfl⟩
               ·
                intro f wk hx hf hd
                have H := H.ext hx
                have hf105 : f 105 = (.pointer (some (Addr.add (Addr.mk b5 0 none) 0))) := hd 3 rfl
                obtain ⟨u37, rfl⟩ := up1 hf105
                refine O.load sc3 rfl rfl rfl (H.cell 4 rfl 0 _ rfl) ?_
                exact WL.nil ⟨Below.refl _ _, _, rfl, rfl⟩
               ·
                intro f wk hx hf hd
                have H := H.ext hx
                have hf104 : f 104 = va0_0 := hd 2 rfl
                have hf106 : f 106 = (.int .i64 yk3.clock) := hd 4 rfl
                obtain ⟨u38, rfl⟩ := up2 hf104 hf106
                refine O.indexAddr Try.underlying22 sz3 (ha0_0 _ H.baseX) hx1 rfl rfl rfl rfl ?_
                intro p5 hp5
                exact WL.nil ⟨Below.refl _ _, _, rfl, ⟨_, rfl, hp5⟩⟩
               ·
                intro f wk hx hf hd
                have H := H.ext hx
                obtain ⟨p5, hf107, hp5⟩ : ∃ p5 : Addr, f 107 = (.pointer (some p5)) ∧ ElemAt wk p5 x1 := hd 5 rfl
                obtain ⟨u39, rfl⟩ := up1 hf107
                refine O.load sc3 rfl rfl rfl (hp5.flat 0 _ rfl) ?_
                exact WL.nil ⟨Below.refl _ _, _, rfl, rfl⟩
               ·
                intro f wk hx hf hd
                have H := H.ext hx
                have hf11 : f 11 = (.pointer (some ⟨b5, 0, none⟩)) := hf 11 rfl
                obtain ⟨u40, rfl⟩ := up1 hf11
                refine O.fieldAddr fd78_1 rfl rfl rfl ?_
                exact WL.nil ⟨Below.refl _ _, _, rfl, rfl⟩
               ·
                intro f wk hx hf hd
                have H := H.ext hx
                have hf109 : f 109 = (.pointer (some (Addr.add (Addr.mk b5 0 none) 1))) := hd 7 rfl
                obtain ⟨u41, rfl⟩ := up1 hf109
                refine O.load sc3 rfl rfl rfl (H.cell 4 rfl 1 _ rfl) ?_
                exact WL.nil ⟨Below.refl _ _, _, rfl, rfl⟩
               ·
                intro f wk hx hf hd
                have H := H.ext hx
                have hf14 : f 14 = (.pointer (some ⟨b6, 0, none⟩)) := hf 14 rfl
                obtain ⟨u42, rfl⟩ := up1 hf14
                refine O.fieldAddr fd78_1 rfl rfl rfl ?_
                exact WL.nil ⟨Below.refl _ _, _, rfl, rfl⟩
               ·
                intro f wk hx hf hd
                have H := H.ext hx
                have hf111 : f 111 = (.pointer (some (Addr.add (Addr.mk b6 0 none) 1))) := hd 9 rfl
                obtain ⟨u43, rfl⟩ := up1 hf111
                refine O.load sc3 rfl rfl rfl (H.cell 6 rfl 1 _ rfl) ?_
                exact WL.nil ⟨Below.refl _ _, _, rfl, rfl⟩
               ·
                intro f wk hx hf hd
                have H := H.ext hx
                have hf110 : f 110 = (.int .i64 yk3.at_) := hd 8 rfl
                have hf112 : f 112 = (.int .i64 yk4.at_) := hd 10 rfl
                obtain ⟨u44, rfl⟩ := up2 hf110 hf112
                refine O.sub rfl rfl rfl rfl ht8 ?_
                exact WL.nil ⟨Below.refl _ _, _, rfl, rfl⟩
               ·
                intro f wk hx hf hd
                have H := H.ext hx
                have hf108 : f 108 = (.int .i64 x1) := hd 6 rfl
                have hf113 : f 113 = (.int .i64 t8) := hd 11 rfl
                obtain ⟨u45, rfl⟩ := up2 hf108 hf113
                refine O.call Try.call73 rfl rfl rfl (c_noongunref02_carry _ _ hy5) ?_
                rintro _ w23 hb15 rfl
                have H := H.ext hb15
                exact WL.nil ⟨hb15, _, rfl, rfl⟩
               ·
                intro f wk hx hf hd
                have H := H.ext hx
                have hf114 : f 114 = (.int .i64 t9) := hd 12 rfl
                obtain ⟨u46, rfl⟩ := up1 hf114
                refine O.buildSlice (α := Int) [(.int .i64 t9)] [t9] Try.underlying22 el3 (Inv.start (w := _)) rfl rfl rfl rfl rfl rfl rfl ?_
                intro v31 w24 H hb16
                exact WL.nil ⟨hb16, _, rfl, (H.ownR 0 rfl).base hx.size⟩
              ·
               intro f wk hx hf hmd hd
               have hf2 : f 2 = (.pointer (some ⟨b1, 0, none⟩)) := hf 2 rfl
               have hf5 : f 5 = (.pointer (some ⟨b2, 0, none⟩)) := hf 5 rfl
               have hf11 : f 11 = (.pointer (some ⟨b5, 0, none⟩)) := hf 11 rfl
               have hf71 : f 71 = v11 := hf 71 rfl
               have hf72 : f 72 = (.int .i64 ((s2.length : Nat) : Int)) := hf 72 rfl
               have hf73 : f 73 = (.int .i64 (ik3 : Int)) := hf 73 rfl
               have hf80 : f 80 = v11 := hf 80 rfl
               have hf81 : f 81 = (.int .i64 ((s2.length : Nat) : Int)) := hf 81 rfl
               have hf82 : f 82 = (.int .i64 (ik4 : Int)) := hf 82 rfl
               have hf102 : f 102 = v22 := hd 0 rfl
               have ho115 : OwnR w20 wk (f 115) 3 ([t9] : List Int) := hd 13 rfl
               obtain ⟨v31, hf115⟩ : ∃ v31, f 115 = v31 := ⟨_, rfl⟩
               rw [hf115] at ho115
               have H := H.addOwn hx ho115
               obtain ⟨u47, rfl⟩ : ∃ u47, f = (upd (upd (upd (upd (upd (upd (upd (upd (upd (upd (upd u47 2 (.pointer (some ⟨b1, 0, none⟩))) 5 (.pointer (some ⟨b2, 0, none⟩))) 11 (.pointer (some ⟨b5, 0, none⟩))) 71 v11) 72 (.int .i64 ((s2.length : Nat) : Int))) 73 (.int .i64 (ik3 : Int))) 80 v11) 81 (.int .i64 ((s2.length : Nat) : Int))) 82 (.int .i64 (ik4 : Int))) 102 v22) 115 v31) := ⟨f, by rw [upd_self hf2, upd_self hf5, upd_self hf11, upd_self hf71, upd_self hf72, upd_self hf73, upd_self hf80, upd_self hf81, upd_self hf82, upd_self hf102, upd_self hf115]⟩
               obtain ⟨t10, ht10, hm15⟩ := bind_some hm15
               refine O.append 5 Try.underlying22 el3 rfl H rfl (H.own 7 rfl) ht10 rfl rfl rfl rfl ?_
               intro v32 w25 H
               refine O.assign (v := v32) rfl rfl rfl ?_
               refine WL.nil ?_
               have H := H.keep [0, 1, 2, 3, 4, 5] [boxI b1 25 [va0_0, va0_1], ownI (α := GPoint) v11 78 s2, mtxI (α := Int) v17 22 3 rc2 z8, boxI b2 118 [v11, v17], boxI b5 78 [(.int .i64 yk3.clock), (.int .i64 yk3.at_)], ownI (α := Int) v32 3 t10] rfl (by decide)
               have hq : t10 = s11 := Option.some.inj (show some t10 = some s11 from hm15)
               subst hq
               exact ⟨v32, rfl, rfl, rfl, rfl, rfl, rfl, rfl, rfl, rfl, rfl, H⟩
             ·
              refine W.cond_false (congrArg Value.bool hc3) ?_
              refine W.region ?_
              refine O.move (v := v22) rfl rfl rfl ?_
              refine O.buildSlice (α := Int) [(.int .i64 1152921504606846976)] [1152921504606846976] Try.underlying22 el3 H rfl rfl rfl rfl rfl rfl rfl ?_
              intro v33 w26 H hb17
              obtain ⟨t11, ht11, hm15⟩ := bind_some hm15
              refine O.append 5 Try.underlying22 el3 rfl H rfl (H.own 7 rfl) ht11 rfl rfl rfl rfl ?_
              intro v34 w27 H
              refine O.assign (v := v34) rfl rfl rfl ?_
              refine WL.nil ?_
              have H := H.keep [0, 1, 2, 3, 4, 5] [boxI b1 25 [va0_0, va0_1], ownI (α := GPoint) v11 78 s2, mtxI (α := Int) v17 22 3 rc2 z8, boxI b2 118 [v11, v17], boxI b5 78 [(.int .i64 yk3.clock), (.int .i64 yk3.at_)], ownI (α := Int) v34 3 t11] rfl (by decide)
              have hq : t11 = s11 := Option.some.inj (show some t11 = some s11 from hm15)
              subst hq
              exact ⟨v34, rfl, rfl, rfl, rfl, rfl, rfl, rfl, rfl, rfl, rfl, H⟩
            ·
             rintro f w ⟨v30, hf2, hf5, hf11, hf12, hf71, hf72, hf73, hf80, hf81, hf82, H⟩
             obtain ⟨u48, rfl⟩ : ∃ u48, f = (upd (upd (upd (upd (upd (upd (upd (upd (upd (upd u48 2 (.pointer (some ⟨b1, 0, none⟩))) 5 (.pointer (some ⟨b2, 0, none⟩))) 11 (.pointer (some ⟨b5, 0, none⟩))) 12 v30) 71 v11) 72 (.int .i64 ((s2.length : Nat) : Int))) 73 (.int .i64 (ik3 : Int))) 80 v11) 81 (.int .i64 ((s2.length : Nat) : Int))) 82 (.int .i64 (ik4 : Int))) := ⟨f, by rw [upd_self hf2, upd_self hf5, upd_self hf11, upd_self hf12, upd_self hf71, upd_self hf72, upd_self hf73, upd_self hf80, upd_self hf81, upd_self hf82]⟩
             have hq : s11 = s10 := Option.some.inj (show some s11 = some s10 from hm14)
             subst hq
             exact ⟨v30, rfl, rfl, rfl, rfl, rfl, rfl, rfl, rfl, rfl, rfl, H⟩
          ·
           rintro f w ⟨v27, hf2, hf5, hf11, hf12, hf71, hf72, hf73, hf80, hf81, hf82, H⟩
           obtain ⟨u49, rfl⟩ : ∃ u49, f = (upd (upd (upd (upd (upd (upd (upd (upd (upd (upd u49 2 (.pointer (some ⟨b1, 0, none⟩))) 5 (.pointer (some ⟨b2, 0, none⟩))) 11 (.pointer (some ⟨b5, 0, none⟩))) 12 v27) 71 v11) 72 (.int .i64 ((s2.length : Nat) : Int))) 73 (.int .i64 (ik3 : Int))) 80 v11) 81 (.int .i64 ((s2.length : Nat) : Int))) 82 (.int .i64 (ik4 : Int))) := ⟨f, by rw [upd_self hf2, upd_self hf5, upd_self hf11, upd_self hf12, upd_self hf71, upd_self hf72, upd_self hf73, upd_self hf80, upd_self hf81, upd_self hf82]⟩
           have hq : s10 = s9 := Option.some.inj (show some s10 = some s9 from hm13)
           subst hq
           exact ⟨v27, rfl, rfl, rfl, rfl, rfl, rfl, rfl, rfl, rfl, rfl, H⟩
         ·
          rintro f w ⟨v26, hf2, hf5, hf11, hf12, hf71, hf72, hf73, hf80, hf81, hf82, H⟩
          obtain ⟨u50, rfl⟩ : ∃ u50, f = (upd (upd (upd (upd (upd (upd (upd (upd (upd (upd u50 2 (.pointer (some ⟨b1, 0, none⟩))) 5 (.pointer (some ⟨b2, 0, none⟩))) 11 (.pointer (some ⟨b5, 0, none⟩))) 12 v26) 71 v11) 72 (.int .i64 ((s2.length : Nat) : Int))) 73 (.int .i64 (ik3 : Int))) 80 v11) 81 (.int .i64 ((s2.length : Nat) : Int))) 82 (.int .i64 (ik4 : Int))) := ⟨f, by rw [upd_self hf2, upd_self hf5, upd_self hf11, upd_self hf12, upd_self hf71, upd_self hf72, upd_self hf73, upd_self hf80, upd_self hf81, upd_self hf82]⟩
          have hq : s9 = s8 := Option.some.inj (show some s9 = some s8 from hm12)
          subst hq
          exact ⟨v26, rfl, rfl, rfl, rfl, rfl, rfl, rfl, rfl, rfl, rfl, H⟩
        ·
         rintro f w ⟨v25, hf2, hf5, hf11, hf12, hf71, hf72, hf73, hf80, hf81, hf82, H⟩
         obtain ⟨u51, rfl⟩ : ∃ u51, f = (upd (upd (upd (upd (upd (upd (upd (upd (upd (upd u51 2 (.pointer (some ⟨b1, 0, none⟩))) 5 (.pointer (some ⟨b2, 0, none⟩))) 11 (.pointer (some ⟨b5, 0, none⟩))) 12 v25) 71 v11) 72 (.int .i64 ((s2.length : Nat) : Int))) 73 (.int .i64 (ik3 : Int))) 80 v11) 81 (.int .i64 ((s2.length : Nat) : Int))) 82 (.int .i64 (ik4 : Int))) := ⟨f, by rw [upd_self hf2, upd_self hf5, upd_self hf11, upd_self hf12, upd_self hf71, upd_self hf72, upd_self hf73, upd_self hf80, upd_self hf81, upd_self hf82]⟩
         refine W.region ?_
         refine O.add rfl rfl rfl rfl hinck4 ?_
         refine O.move (v := .int .i64 ((ik4 : Int) + 1)) rfl rfl rfl ?_
         refine WL.nil ?_
         obtain rfl := Option.some.inj hm11
         exact ⟨_, rfl, _, v25, rfl, drop_next hdropk4, rfl, rfl, rfl, rfl, rfl, rfl, rfl, rfl, rfl, rfl, H⟩
       ·
        rintro ik4 _ f w ⟨z11, v22, rfl, hdropk4, hf82, hf81, hf2, hf5, hf11, hf12, hf71, hf72, hf73, hf80, H⟩ hfin
        have hltk4 := drop_end hdropk4
        obtain ⟨u52, rfl⟩ : ∃ u52, f = (upd (upd (upd (upd (upd (upd (upd (upd (upd (upd u52 82 (.int .i64 (ik4 : Int))) 81 (.int .i64 ((s2.length : Nat) : Int))) 2 (.pointer (some ⟨b1, 0, none⟩))) 5 (.pointer (some ⟨b2, 0, none⟩))) 11 (.pointer (some ⟨b5, 0, none⟩))) 12 v22) 71 v11) 72 (.int .i64 ((s2.length : Nat) : Int))) 73 (.int .i64 (ik3 : Int))) 80 v11) := ⟨f, by rw [upd_self hf82, upd_self hf81, upd_self hf2, upd_self hf5, upd_self hf11, upd_self hf12, upd_self hf71, upd_self hf72, upd_self hf73, upd_self hf80]⟩
        refine W.seq ?_
        refine W.region ?_
        refine O.lss rfl rfl rfl rfl ?_
        refine WL.nil ?_
        refine W.seq ?_
        refine W.cond_false (congrArg Value.bool (decide_eq_false hltk4)) ?_
        refine W.exit ?_
        have hq : z11 = s7 := hfin
        subst hq
        have H := H.keep [0, 1, 2, 3, 5] [boxI b1 25 [va0_0, va0_1], ownI (α := GPoint) v11 78 s2, mtxI (α := Int) v17 22 3 rc2 z8, boxI b2 118 [v11, v17], ownI (α := Int) v22 3 z11] rfl (by decide)
        refine xT rfl ?_
        exact ⟨v22, rfl, rfl, rfl, rfl, rfl, rfl, H⟩
      ·
       rintro f w ⟨v24, hf2, hf5, hf12, hf71, hf72, hf73, H⟩
       obtain ⟨u53, rfl⟩ := up6 hf2 hf5 hf12 hf71 hf72 hf73
       refine W.region ?_
       refine O.move (v := (.pointer (some ⟨b2, 0, none⟩))) rfl rfl rfl ?_
       refine O.move (v := (.pointer (some ⟨b2, 0, none⟩))) rfl rfl rfl ?_
       refine O.nilCheck rfl rfl rfl ?_
       refine O.fieldAddr fd118_1 rfl rfl rfl ?_
       refine O.load sc116 rfl rfl rfl (H.cell 3 rfl 1 _ rfl) ?_
       refine O.move (v := v24) rfl rfl rfl ?_
       have h11 := SliceR.one (H.own 4 rfl)
       refine O.buildSlice (α := C1) [v24] [⟨v24, h11⟩] Try.underlying116 el22 H rfl rfl rfl rfl (lit1_cells h11) rfl rfl ?_
       intro v35 w28 H hb18
       obtain ⟨t12, ht12, hm9⟩ := bind_some hm9
       refine O.appendM 2 5 4 (by decide) (by decide) (by decide) Try.underlying116 el22 rfl H rfl rfl rfl ht12 rfl rfl rfl rfl ?_
       intro v36 w29 rc6 H
       refine O.nilCheck rfl rfl rfl ?_
       refine O.fieldAddr fd118_1 rfl rfl rfl ?_
       refine O.store 3 1 [v36] [v11, v36] sz116 H rfl rfl rfl rfl rfl (SliceR.cells1 (H.mtxRd 2 rfl)) ⟨⟨rfl, rfl⟩, rfl⟩ (one_cons (SliceR.one (H.mtxRd 2 rfl)) one_nil) ?_
       intro w30 H
       refine WL.nil ?_
       have H := H.keep [0, 1, 2, 3] [boxI b1 25 [va0_0, va0_1], ownI (α := GPoint) v11 78 s2, mtxI (α := Int) v36 22 3 rc6 t12, boxI b2 118 [v11, v36]] rfl (by decide)
       have hq : t12 = s6 := Option.some.inj (show some t12 = some s6 from hm9)
       subst hq
       exact ⟨v36, rc6, rfl, rfl, rfl, rfl, rfl, H⟩
     ·
      rintro f w ⟨v20, rc5, hf2, hf5, hf71, hf72, hf73, H⟩
      obtain ⟨u54, rfl⟩ := up5 hf2 hf5 hf71 hf72 hf73
      refine W.region ?_
      refine O.add rfl rfl rfl rfl hinck3 ?_
      refine O.move (v := .int .i64 ((ik3 : Int) + 1)) rfl rfl rfl ?_
      refine WL.nil ?_
      obtain rfl := Option.some.inj hm8
      exact ⟨_, rfl, _, v20, rc5, rfl, drop_next hdropk3, rfl, rfl, rfl, rfl, rfl, H⟩
    ·
     rintro ik3 _ f w ⟨z8, v17, rc2, rfl, hdropk3, hf73, hf72, hf2, hf5, hf71, H⟩ hfin
     have hltk3 := drop_end hdropk3
     obtain ⟨u55, rfl⟩ := up5 hf73 hf72 hf2 hf5 hf71
     refine W.seq ?_
     refine W.region ?_
     refine O.lss rfl rfl rfl rfl ?_
     refine WL.nil ?_
     refine W.seq ?_
     refine W.cond_false (congrArg Value.bool (decide_eq_false hltk3)) ?_
     refine W.exit ?_
     have hq : z8 = s5 := hfin
     subst hq
     refine xT rfl ?_
     exact ⟨v17, rc2, rfl, rfl, H⟩
   ·
    rintro f w ⟨v19, rc4, hf2, hf5, H⟩
    obtain ⟨u56, rfl⟩ := up2 hf2 hf5
    refine W.seq ?_
    refine W.seq ?_
    refine W.region ?_
    refine O.fieldAddr fd25_1 rfl rfl rfl ?_
    refine O.load sc23 rfl rfl rfl (H.cell 0 rfl 1 _ rfl) ?_
    refine O.lenS Try.underlying23 (ha0_1 _ H.baseX) rfl rfl rfl ?_
    refine O.move (v := (.int .i64 0)) rfl rfl rfl ?_
    refine WL.nil ?_
    obtain ⟨s12, hm16, hm⟩ := bind_some hm
    refine W.via (fun f w => ∃ v40 : Value, ∃ rc10 : List C1, f 5 = (.pointer (some ⟨b2, 0, none⟩)) ∧ InvD (fpOf [ownI (α := GPoint) va1 78 a1]) w0 w [ownI (α := GPoint) v11 78 s2, mtxI (α := Int) v40 22 3 rc10 s12, boxI b2 118 [v11, v40]]) ?_ ?_
    ·
     refine W.block ?_
     have H := H.keep [1, 2, 3] [ownI (α := GPoint) v11 78 s2, mtxI (α := Int) v19 22 3 rc4 s5, boxI b2 118 [v11, v19]] rfl (by decide)
     refine W.rangeL (i := 0) hm16 (fun rem ik5 s f w => ∃ z14 : (List (List Int)), ∃ v38 : Value, ∃ rc8 : List C1, z14 = s ∧ a0.Sights.drop ik5 = rem ∧ f 132 = .int .i64 (ik5 : Int) ∧ f 131 = (.int .i64 ((a0.Sights.length : Nat) : Int)) ∧ f 5 = (.pointer (some ⟨b2, 0, none⟩)) ∧ f 130 = va0_1 ∧ InvD (fpOf [ownI (α := GPoint) va1 78 a1]) w0 w [ownI (α := GPoint) v11 78 s2, mtxI (α := Int) v38 22 3 rc8 z14, boxI b2 118 [v11, v38]]) ?_ ?_ ?_
     ·
      exact ⟨_, v19, rc4, rfl, List.drop_zero, rfl, rfl, rfl, rfl, H⟩
     ·
      rintro yk5 xs ik5 _ st f w ⟨z14, v38, rc8, rfl, hdropk5, hf132, hf131, hf5, hf130, H⟩ hm17
      have hltk5 := drop_lt hdropk5; have hixk5 := drop_idx hdropk5
      obtain ⟨u57, rfl⟩ := up4 hf132 hf131 hf5 hf130
      have hinck5 := addI_lt hltk5 (ha0_1 _ H.baseX).len_le
      refine W.seq ?_
      refine W.region ?_
      refine O.lss rfl rfl rfl rfl ?_
      refine WL.nil ?_
      refine W.seq ?_
      refine W.cond_true (congrArg Value.bool (decide_eq_true hltk5)) ?_
      refine W.skip ?_
      refine W.seq ?_
      refine W.block ?_
      refine W.seq ?_
      refine W.region ?_
      refine O.indexAddr Try.underlying23 sz39 (ha0_1 _ H.baseX) hixk5 rfl rfl rfl rfl ?_
      intro p6 hp6
      refine O.loadA [(.int .i64 yk5.At), (.int .i64 yk5.A), (.int .i64 yk5.B), (.int .i64 yk5.Lo), (.int .i64 yk5.Hi)] ag39 rfl rfl rfl rfl (hp6.flat) ?_
      refine O.alloc [(.int .i64 0), (.int .i64 0), (.int .i64 0), (.int .i64 0), (.int .i64 0)] ze39 H rfl rfl rfl ?_
      intro b7 w31 H hb19
      have hp6 := hp6.mono hb19
      refine O.store 3 0 [(.int .i64 yk5.At), (.int .i64 yk5.A), (.int .i64 yk5.B), (.int .i64 yk5.Lo), (.int .i64 yk5.Hi)] [(.int .i64 yk5.At), (.int .i64 yk5.A), (.int .i64 yk5.B), (.int .i64 yk5.Lo), (.int .i64 yk5.Hi)] sz39 H rfl rfl rfl rfl rfl rfl ⟨⟨rfl, rfl⟩, rfl⟩ (one_cons rfl (one_cons rfl (one_cons rfl (one_cons rfl (one_cons rfl one_nil))))) ?_
      intro w32 H
      clear hp6
      refine WL.nil ?_
      refine W.seq ?_
      obtain ⟨t13, hy6, hm17⟩ := bind_some hm17
      obtain ⟨t14, hy7, hm17⟩ := bind_some hm17
      obtain ⟨t15, hy8, hm17⟩ := bind_some hm17
      refine W.drawN 13 (fun f => f 5 = (.pointer (some ⟨b2, 0, none⟩)) ∧ f 16 = (.pointer (some ⟨b7, 0, none⟩)) ∧ f 130 = va0_1 ∧ f 131 = (.int .i64 ((a0.Sights.length : Nat) : Int)) ∧ f 132 = (.int .i64 (ik5 : Int)) ∧ f 142 = (.int .i64 t14) ∧ f 143 = (.pointer (some ⟨b2, 0, none⟩)) ∧ f 148 = (.agg (Flat.cells t15).toArray)) fol (by kernel_rfl) ?_ ?_
      ·
       refine PL.of (fun _ w8 _ hx => O.move (v := (.pointer (some ⟨b2, 0, none⟩))) rfl rfl rfl (WL.nil ⟨rfl, hx⟩)) ?_
       refine PL.of (fun _ w8 _ hx => O.fieldAddr fd39_1 rfl rfl rfl (WL.nil ⟨rfl, hx⟩)) ?_
       refine PL.of (fun _ w8 _ hx => by have H := H.ext hx; exact O.load sc3 rfl rfl rfl (H.cell 3 rfl 1 _ rfl) (WL.nil ⟨rfl, hx⟩)) ?_
       refine PL.of (fun _ w8 _ hx => O.fieldAddr fd39_0 rfl rfl rfl (WL.nil ⟨rfl, hx⟩)) ?_
       refine PL.of (fun _ w8 _ hx => by have H := H.ext hx; exact O.load sc3 rfl rfl rfl (H.cell 3 rfl 0 _ rfl) (WL.nil ⟨rfl, hx⟩)) ?_
       refine PL.of (fun _ w8 _ hx => O.call Try.call63 rfl rfl rfl (c_noongunref02_spot _ _ hy6) (by rintro _ _ hb rfl; exact WL.nil ⟨rfl, hx.trans (hb.mono hx.size)⟩)) ?_
       refine PL.of (fun _ w8 _ hx => by have H := H.ext hx; exact O.call Try.call93 rfl rfl rfl (c_noongunref02_graph_index _ _ _ (GRefgraph.mk s2 z14) (H.cell 2 rfl) (H.own 0 rfl) (H.mtxRd 1 rfl) t13 hy7) (by rintro _ _ hb rfl; exact WL.nil ⟨rfl, hx.trans (hb.mono hx.size)⟩)) ?_
       refine PL.of (fun _ w8 _ hx => O.move (v := (.pointer (some ⟨b2, 0, none⟩))) rfl rfl rfl (WL.nil ⟨rfl, hx⟩)) ?_
       refine PL.of (fun _ w8 _ hx => O.fieldAddr fd39_2 rfl rfl rfl (WL.nil ⟨rfl, hx⟩)) ?_
       refine PL.of (fun _ w8 _ hx => by have H := H.ext hx; exact O.load sc3 rfl rfl rfl (H.cell 3 rfl 2 _ rfl) (WL.nil ⟨rfl, hx⟩)) ?_
       refine PL.of (fun _ w8 _ hx => O.fieldAddr fd39_0 rfl rfl rfl (WL.nil ⟨rfl, hx⟩)) ?_
       refine PL.of (fun _ w8 _ hx => by have H := H.ext hx; exact O.load sc3 rfl rfl rfl (H.cell 3 rfl 0 _ rfl) (WL.nil ⟨rfl, hx⟩)) ?_
       refine PL.of (fun _ w8 _ hx => O.call Try.call63 rfl rfl rfl (c_noongunref02_spot _ _ hy8) (by rintro _ _ hb rfl; exact WL.nil ⟨rfl, hx.trans (hb.mono hx.size)⟩)) ?_
       refine PL.nil ?_
       exact ⟨rfl, rfl, rfl, rfl, rfl, rfl, rfl, rfl⟩
      ·
       rintro f w ⟨hf5, hf16, hf130, hf131, hf132, hf142, hf143, hf148⟩ hmd hx
       have H := H.ext hx
       obtain ⟨u58, rfl⟩ := up8 hf5 hf16 hf130 hf131 hf132 hf142 hf143 hf148
       obtain ⟨t16, hy9, hm17⟩ := bind_some hm17
       refine O.call Try.call93 rfl rfl rfl (c_noongunref02_graph_index _ _ _ (GRefgraph.mk s2 z14) (H.cell 2 rfl) (H.own 0 rfl) (H.mtxRd 1 rfl) t15 hy9) ?_
       rintro _ w33 hb20 rfl
       have H := H.ext hb20
       refine O.assign (v := (.int .i64 t14)) rfl rfl rfl ?_
       refine O.assign (v := (.int .i64 t16)) rfl rfl rfl ?_
       refine WL.nil ?_
       refine W.seq ?_
       obtain ⟨x2, hx2, hm17⟩ := bind_some hm17
       obtain ⟨rw1, hirw1, hrw1⟩ := H.mtxRow 1 rfl hx2
       obtain ⟨p7, hp7, hrp7⟩ := fix_indexAddr Try.underlying116 sz22 (H.mtxC 1 rfl) hirw1
       obtain ⟨x3, hx3, hm17⟩ := bind_some hm17
       obtain ⟨rw2, hirw2, hrw2⟩ := H.mtxRow 1 rfl hx3
       obtain ⟨p8, hp8, hrp8⟩ := fix_indexAddr Try.underlying116 sz22 (H.mtxC 1 rfl) hirw2
       obtain ⟨x4, hx4, hm17⟩ := bind_some hm17
       obtain ⟨p9, hp9, hrp9⟩ := fix_indexAddr Try.underlying22 sz3 (H.mtxElem 1 rfl hrw2) hx4
       refine W.drawN 21 (fun f => f 5 = (.pointer (some ⟨b2, 0, none⟩)) ∧ f 16 = (.pointer (some ⟨b7, 0, none⟩)) ∧ f 17 = (.int .i64 t14) ∧ f 18 = (.int .i64 t16) ∧ f 130 = va0_1 ∧ f 131 = (.int .i64 ((a0.Sights.length : Nat) : Int)) ∧ f 132 = (.int .i64 (ik5 : Int)) ∧ f 156 = rw1.1 ∧ f 157 = (.int .i64 t14) ∧ f 170 = (.int .i64 (min x4 yk5.Hi))) fol (by kernel_rfl) ?_ ?_
       ·
        refine PL.of (fun _ w8 _ hx => O.move (v := (.pointer (some ⟨b2, 0, none⟩))) rfl rfl rfl (WL.nil ⟨rfl, hx⟩)) ?_
        refine PL.of (fun _ w8 _ hx => O.nilCheck rfl rfl rfl (WL.nil ⟨rfl, hx⟩)) ?_
        refine PL.of (fun _ w8 _ hx => O.fieldAddr fd118_1 rfl rfl rfl (WL.nil ⟨rfl, hx⟩)) ?_
        refine PL.of (fun _ w8 _ hx => by have H := H.ext hx; exact O.load sc116 rfl rfl rfl (H.cell 2 rfl 1 _ rfl) (WL.nil ⟨rfl, hx⟩)) ?_
        refine PL.of (fun _ w8 _ hx => O.move (v := (.int .i64 t16)) rfl rfl rfl (WL.nil ⟨rfl, hx⟩)) ?_
        refine PL.of (fun _ w8 _ hx => hrp7 rfl rfl rfl rfl (WL.nil ⟨rfl, hx⟩)) ?_
        refine PL.of (fun _ w8 _ hx => by have hp7 := hp7.mono hx; exact O.load sc22 rfl rfl rfl (hp7.flat 0 _ rfl) (WL.nil ⟨rfl, hx⟩)) ?_
        refine PL.of (fun _ w8 _ hx => O.move (v := (.int .i64 t14)) rfl rfl rfl (WL.nil ⟨rfl, hx⟩)) ?_
        refine PL.of (fun _ w8 _ hx => O.move (v := (.pointer (some ⟨b2, 0, none⟩))) rfl rfl rfl (WL.nil ⟨rfl, hx⟩)) ?_
        refine PL.of (fun _ w8 _ hx => O.nilCheck rfl rfl rfl (WL.nil ⟨rfl, hx⟩)) ?_
        refine PL.of (fun _ w8 _ hx => O.fieldAddr fd118_1 rfl rfl rfl (WL.nil ⟨rfl, hx⟩)) ?_
        refine PL.of (fun _ w8 _ hx => by have H := H.ext hx; exact O.load sc116 rfl rfl rfl (H.cell 2 rfl 1 _ rfl) (WL.nil ⟨rfl, hx⟩)) ?_
        refine PL.of (fun _ w8 _ hx => O.move (v := (.int .i64 t16)) rfl rfl rfl (WL.nil ⟨rfl, hx⟩)) ?_
        refine PL.of (fun _ w8 _ hx => hrp8 rfl rfl rfl rfl (WL.nil ⟨rfl, hx⟩)) ?_
        refine PL.of (fun _ w8 _ hx => by have hp8 := hp8.mono hx; exact O.load sc22 rfl rfl rfl (hp8.flat 0 _ rfl) (WL.nil ⟨rfl, hx⟩)) ?_
        refine PL.of (fun _ w8 _ hx => O.move (v := (.int .i64 t14)) rfl rfl rfl (WL.nil ⟨rfl, hx⟩)) ?_
        refine PL.of (fun _ w8 _ hx => hrp9 rfl rfl rfl rfl (WL.nil ⟨rfl, hx⟩)) ?_
        refine PL.of (fun _ w8 _ hx => by have hp9 := hp9.mono hx; exact O.load sc3 rfl rfl rfl (hp9.flat 0 _ rfl) (WL.nil ⟨rfl, hx⟩)) ?_
        refine PL.of (fun _ w8 _ hx => O.fieldAddr fd39_4 rfl rfl rfl (WL.nil ⟨rfl, hx⟩)) ?_
        refine PL.of (fun _ w8 _ hx => by have H := H.ext hx; exact O.load sc3 rfl rfl rfl (H.cell 3 rfl 4 _ rfl) (WL.nil ⟨rfl, hx⟩)) ?_
        refine PL.of (fun _ w8 _ hx => O.min2 rfl rfl rfl rfl (WL.nil ⟨rfl, hx⟩)) ?_
        refine PL.nil ?_
        exact ⟨rfl, rfl, rfl, rfl, rfl, rfl, rfl, rfl, rfl, rfl⟩
       ·
        rintro f w ⟨hf5, hf16, hf17, hf18, hf130, hf131, hf132, hf156, hf157, hf170⟩ hmd hx
        have H := H.ext hx
        have hp7 := hp7.mono hx
        have hp8 := hp8.mono hx
        have hp9 := hp9.mono hx
        obtain ⟨u59, rfl⟩ : ∃ u59, f = (upd (upd (upd (upd (upd (upd (upd (upd (upd (upd u59 5 (.pointer (some ⟨b2, 0, none⟩))) 16 (.pointer (some ⟨b7, 0, none⟩))) 17 (.int .i64 t14)) 18 (.int .i64 t16)) 130 va0_1) 131 (.int .i64 ((a0.Sights.length : Nat) : Int))) 132 (.int .i64 (ik5 : Int))) 156 rw1.1) 157 (.int .i64 t14)) 170 (.int .i64 (min x4 yk5.Hi))) := ⟨f, by rw [upd_self hf5, upd_self hf16, upd_self hf17, upd_self hf18, upd_self hf130, upd_self hf131, upd_self hf132, upd_self hf156, upd_self hf157, upd_self hf170]⟩
        obtain ⟨x5, hx5, hm17⟩ := bind_some hm17
        refine O.indexOwn (Int.toNat t16 + 1) Try.underlying22 sz3 (H.mtx 1 rfl) hrw1 hx5 rfl rfl rfl rfl ?_
        intro b8 hob1 hp10
        refine O.storeM (i0 := t14) (x0 := x5) 1 0 (min x4 yk5.Hi) [(.int .i64 (min x4 yk5.Hi))] sz3 H rfl (idx_some hirw1).2.2 (idx_some hx2).2.2 hob1 hx5 rfl rfl rfl rfl rfl rfl rfl rfl (one_cons rfl one_nil) ?_
        intro w34 H
        clear hp7
        clear hp8
        clear hp9
        clear hp10
        refine WL.nil ?_
        obtain ⟨x6, hx6, hm17⟩ := bind_some hm17
        obtain ⟨rw3, hirw3, hrw3⟩ := H.mtxRow 1 rfl hx6
        obtain ⟨p10, hp11, hrp10⟩ := fix_indexAddr Try.underlying116 sz22 (H.mtxC 1 rfl) hirw3
        obtain ⟨x7, hx7, hm17⟩ := bind_some hm17
        obtain ⟨rw4, hirw4, hrw4⟩ := H.mtxRow 1 rfl hx7
        obtain ⟨p11, hp12, hrp11⟩ := fix_indexAddr Try.underlying116 sz22 (H.mtxC 1 rfl) hirw4
        obtain ⟨x8, hx8, hm17⟩ := bind_some hm17
        obtain ⟨p12, hp13, hrp12⟩ := fix_indexAddr Try.underlying22 sz3 (H.mtxElem 1 rfl hrw4) hx8
        obtain ⟨t17, ht17, hm17⟩ := bind_some hm17
        refine W.drawN 22 (fun f => f 5 = (.pointer (some ⟨b2, 0, none⟩)) ∧ f 130 = va0_1 ∧ f 131 = (.int .i64 ((a0.Sights.length : Nat) : Int)) ∧ f 132 = (.int .i64 (ik5 : Int)) ∧ f 178 = rw3.1 ∧ f 179 = (.int .i64 t16) ∧ f 193 = (.int .i64 (min x8 t17))) fol (by kernel_rfl) ?_ ?_
        ·
         refine PL.of (fun _ w8 _ hx => O.move (v := (.pointer (some ⟨b2, 0, none⟩))) rfl rfl rfl (WL.nil ⟨rfl, hx⟩)) ?_
         refine PL.of (fun _ w8 _ hx => O.nilCheck rfl rfl rfl (WL.nil ⟨rfl, hx⟩)) ?_
         refine PL.of (fun _ w8 _ hx => O.fieldAddr fd118_1 rfl rfl rfl (WL.nil ⟨rfl, hx⟩)) ?_
         refine PL.of (fun _ w8 _ hx => by have H := H.ext hx; exact O.load sc116 rfl rfl rfl (H.cell 2 rfl 1 _ rfl) (WL.nil ⟨rfl, hx⟩)) ?_
         refine PL.of (fun _ w8 _ hx => O.move (v := (.int .i64 t14)) rfl rfl rfl (WL.nil ⟨rfl, hx⟩)) ?_
         refine PL.of (fun _ w8 _ hx => hrp10 rfl rfl rfl rfl (WL.nil ⟨rfl, hx⟩)) ?_
         refine PL.of (fun _ w8 _ hx => by have hp11 := hp11.mono hx; exact O.load sc22 rfl rfl rfl (hp11.flat 0 _ rfl) (WL.nil ⟨rfl, hx⟩)) ?_
         refine PL.of (fun _ w8 _ hx => O.move (v := (.int .i64 t16)) rfl rfl rfl (WL.nil ⟨rfl, hx⟩)) ?_
         refine PL.of (fun _ w8 _ hx => O.move (v := (.pointer (some ⟨b2, 0, none⟩))) rfl rfl rfl (WL.nil ⟨rfl, hx⟩)) ?_
         refine PL.of (fun _ w8 _ hx => O.nilCheck rfl rfl rfl (WL.nil ⟨rfl, hx⟩)) ?_
         refine PL.of (fun _ w8 _ hx => O.fieldAddr fd118_1 rfl rfl rfl (WL.nil ⟨rfl, hx⟩)) ?_
         refine PL.of (fun _ w8 _ hx => by have H := H.ext hx; exact O.load sc116 rfl rfl rfl (H.cell 2 rfl 1 _ rfl) (WL.nil ⟨rfl, hx⟩)) ?_
         refine PL.of (fun _ w8 _ hx => O.move (v := (.int .i64 t14)) rfl rfl rfl (WL.nil ⟨rfl, hx⟩)) ?_
         refine PL.of (fun _ w8 _ hx => hrp11 rfl rfl rfl rfl (WL.nil ⟨rfl, hx⟩)) ?_
         refine PL.of (fun _ w8 _ hx => by have hp12 := hp12.mono hx; exact O.load sc22 rfl rfl rfl (hp12.flat 0 _ rfl) (WL.nil ⟨rfl, hx⟩)) ?_
         refine PL.of (fun _ w8 _ hx => O.move (v := (.int .i64 t16)) rfl rfl rfl (WL.nil ⟨rfl, hx⟩)) ?_
         refine PL.of (fun _ w8 _ hx => hrp12 rfl rfl rfl rfl (WL.nil ⟨rfl, hx⟩)) ?_
         refine PL.of (fun _ w8 _ hx => by have hp13 := hp13.mono hx; exact O.load sc3 rfl rfl rfl (hp13.flat 0 _ rfl) (WL.nil ⟨rfl, hx⟩)) ?_
         refine PL.of (fun _ w8 _ hx => O.fieldAddr fd39_3 rfl rfl rfl (WL.nil ⟨rfl, hx⟩)) ?_
         refine PL.of (fun _ w8 _ hx => by have H := H.ext hx; exact O.load sc3 rfl rfl rfl (H.cell 3 rfl 3 _ rfl) (WL.nil ⟨rfl, hx⟩)) ?_
         refine PL.of (fun _ w8 _ hx => O.neg rfl rfl rfl ht17 (WL.nil ⟨rfl, hx⟩)) ?_
         refine PL.of (fun _ w8 _ hx => O.min2 rfl rfl rfl rfl (WL.nil ⟨rfl, hx⟩)) ?_
         refine PL.nil ?_
         exact ⟨rfl, rfl, rfl, rfl, rfl, rfl, rfl⟩
        ·
         rintro f w ⟨hf5, hf130, hf131, hf132, hf178, hf179, hf193⟩ hmd hx
         have H := H.ext hx
         have hp11 := hp11.mono hx
         have hp12 := hp12.mono hx
         have hp13 := hp13.mono hx
         obtain ⟨u60, rfl⟩ := up7 hf5 hf130 hf131 hf132 hf178 hf179 hf193
         obtain ⟨x9, hx9, hm17⟩ := bind_some hm17
         refine O.indexOwn (Int.toNat t14 + 1) Try.underlying22 sz3 (H.mtx 1 rfl) hrw3 hx9 rfl rfl rfl rfl ?_
         intro b9 hob2 hp14
         refine O.storeM (i0 := t16) (x0 := x9) 1 0 (min x8 t17) [(.int .i64 (min x8 t17))] sz3 H rfl (idx_some hirw3).2.2 (idx_some hx6).2.2 hob2 hx9 rfl rfl rfl rfl rfl rfl rfl rfl (one_cons rfl one_nil) ?_
         intro w35 H
         clear hp11
         clear hp12
         clear hp13
         clear hp14
         refine WL.nil ?_
         refine W.region ?_
         refine O.add rfl rfl rfl rfl hinck5 ?_
         refine O.move (v := .int .i64 ((ik5 : Int) + 1)) rfl rfl rfl ?_
         refine WL.nil ?_
         have H := H.keep [0, 1, 2] [ownI (α := GPoint) v11 78 s2, mtxI (α := Int) v38 22 3 rc8 ((z14.set (Int.toNat t16) (x2.set (Int.toNat t14) (min x4 yk5.Hi))).set (Int.toNat t14) (x6.set (Int.toNat t16) (min x8 t17))), boxI b2 118 [v11, v38]] rfl (by decide)
         obtain rfl := Option.some.inj hm17
         exact ⟨_, rfl, _, v38, rc8, rfl, drop_next hdropk5, rfl, rfl, rfl, rfl, H⟩
     ·
      rintro ik5 _ f w ⟨z14, v38, rc8, rfl, hdropk5, hf132, hf131, hf5, hf130, H⟩ hfin
      have hltk5 := drop_end hdropk5
      obtain ⟨u61, rfl⟩ := up4 hf132 hf131 hf5 hf130
      refine W.seq ?_
      refine W.region ?_
      refine O.lss rfl rfl rfl rfl ?_
      refine WL.nil ?_
      refine W.seq ?_
      refine W.cond_false (congrArg Value.bool (decide_eq_false hltk5)) ?_
      refine W.exit ?_
      have hq : z14 = s12 := hfin
      subst hq
      refine xT rfl ?_
      exact ⟨v38, rc8, rfl, H⟩
    ·
     rintro f w ⟨v40, rc10, hf5, H⟩
     obtain ⟨u62, rfl⟩ := up1 hf5
     refine W.seq ?_
     refine W.seq ?_
     refine W.region ?_
     refine O.move (v := (.pointer (some ⟨b2, 0, none⟩))) rfl rfl rfl ?_
     refine O.nilCheck rfl rfl rfl ?_
     refine O.fieldAddr fd118_0 rfl rfl rfl ?_
     refine O.load sc91 rfl rfl rfl (H.cell 2 rfl 0 _ rfl) ?_
     refine O.lenS Try.underlying91 (H.own 0 rfl) rfl rfl rfl ?_
     refine O.move (v := (.int .i64 0)) rfl rfl rfl ?_
     refine WL.nil ?_
     obtain ⟨s13, hm18, hm⟩ := bind_some hm
     refine W.via (fun f w => ∃ v44 : Value, ∃ rc14 : List C1, f 5 = (.pointer (some ⟨b2, 0, none⟩)) ∧ InvD (fpOf [ownI (α := GPoint) va1 78 a1]) w0 w [ownI (α := GPoint) v11 78 s2, mtxI (α := Int) v44 22 3 rc14 s13, boxI b2 118 [v11, v44]]) ?_ ?_
     ·
      refine W.block ?_
      have hbdik6 := (H.own 0 rfl).len_le
      refine W.rangeN (i := 0) hm18 (fun rem ik6 s f w => ∃ z17 : (List (List Int)), ∃ v42 : Value, ∃ rc12 : List C1, z17 = s ∧ (ik6 : Int) + rem = max 0 ((s2.length : Nat) : Int) ∧ f 201 = .int .i64 (ik6 : Int) ∧ f 200 = (.int .i64 ((s2.length : Nat) : Int)) ∧ f 5 = (.pointer (some ⟨b2, 0, none⟩)) ∧ InvD (fpOf [ownI (α := GPoint) va1 78 a1]) w0 w [ownI (α := GPoint) v11 78 s2, mtxI (α := Int) v42 22 3 rc12 z17, boxI b2 118 [v11, v42]]) ?_ ?_ ?_
      ·
       exact ⟨_, v40, rc10, rfl, rangeN_start, rfl, rfl, rfl, H⟩
      ·
       rintro k ik6 _ st f w ⟨z17, v42, rc12, rfl, hdropk6, hf201, hf200, hf5, H⟩ hm19
       have hltk6 := rangeN_lt hdropk6
       obtain ⟨u63, rfl⟩ := up3 hf201 hf200 hf5
       have hinck6 := addI_lt hltk6 hbdik6
       refine W.seq ?_
       refine W.region ?_
       refine O.lss rfl rfl rfl rfl ?_
       refine WL.nil ?_
       refine W.seq ?_
       refine W.cond_true (congrArg Value.bool (decide_eq_true hltk6)) ?_
       refine W.skip ?_
       refine W.seq ?_
       obtain ⟨s14, hm20, hm19⟩ := bind_some hm19
       refine W.via (fun f w => ∃ v45 : Value, ∃ rc15 : List C1, f 5 = (.pointer (some ⟨b2, 0, none⟩)) ∧ f 200 = (.int .i64 ((s2.length : Nat) : Int)) ∧ f 201 = (.int .i64 (ik6 : Int)) ∧ InvD (fpOf [ownI (α := GPoint) va1 78 a1]) w0 w [ownI (α := GPoint) v11 78 s2, mtxI (α := Int) v45 22 3 rc15 s14, boxI b2 118 [v11, v45]]) ?_ ?_
       ·
        refine W.block ?_
        refine W.seq ?_
        refine W.region ?_
        refine O.move (v := (.int .i64 (ik6 : Int))) rfl rfl rfl ?_
        refine O.assign (v := (.int .i64 (ik6 : Int))) rfl rfl rfl ?_
        refine WL.nil ?_
        refine W.seq ?_
        refine W.region ?_
        refine O.move (v := (.pointer (some ⟨b2, 0, none⟩))) rfl rfl rfl ?_
        refine O.nilCheck rfl rfl rfl ?_
        refine O.fieldAddr fd118_0 rfl rfl rfl ?_
        refine O.load sc91 rfl rfl rfl (H.cell 2 rfl 0 _ rfl) ?_
        refine O.lenS Try.underlying91 (H.own 0 rfl) rfl rfl rfl ?_
        refine O.move (v := (.int .i64 0)) rfl rfl rfl ?_
        refine WL.nil ?_
        obtain ⟨s15, hm21, hm20⟩ := bind_some hm20
        refine W.via (fun f w => ∃ v49 : Value, ∃ rc19 : List C1, f 5 = (.pointer (some ⟨b2, 0, none⟩)) ∧ f 200 = (.int .i64 ((s2.length : Nat) : Int)) ∧ f 201 = (.int .i64 (ik6 : Int)) ∧ InvD (fpOf [ownI (α := GPoint) va1 78 a1]) w0 w [ownI (α := GPoint) v11 78 s2, mtxI (α := Int) v49 22 3 rc19 s15, boxI b2 118 [v11, v49]]) ?_ ?_
        ·
         refine W.block ?_
         have hbdik7 := (H.own 0 rfl).len_le
         refine W.rangeN (i := 0) hm21 (fun rem ik7 s f w => ∃ z20 : (List (List Int)), ∃ v47 : Value, ∃ rc17 : List C1, z20 = s ∧ (ik7 : Int) + rem = max 0 ((s2.length : Nat) : Int) ∧ f 209 = .int .i64 (ik7 : Int) ∧ f 208 = (.int .i64 ((s2.length : Nat) : Int)) ∧ f 5 = (.pointer (some ⟨b2, 0, none⟩)) ∧ f 19 = (.int .i64 (ik6 : Int)) ∧ f 200 = (.int .i64 ((s2.length : Nat) : Int)) ∧ f 201 = (.int .i64 (ik6 : Int)) ∧ InvD (fpOf [ownI (α := GPoint) va1 78 a1]) w0 w [ownI (α := GPoint) v11 78 s2, mtxI (α := Int) v47 22 3 rc17 z20, boxI b2 118 [v11, v47]]) ?_ ?_ ?_
         ·
          exact ⟨_, v42, rc12, rfl, rangeN_start, rfl, rfl, rfl, rfl, rfl, rfl, H⟩
         ·
          rintro k ik7 _ st f w ⟨z20, v47, rc17, rfl, hdropk7, hf209, hf208, hf5, hf19, hf200, hf201, H⟩ hm22
          have hltk7 := rangeN_lt hdropk7
          obtain ⟨u64, rfl⟩ := up6 hf209 hf208 hf5 hf19 hf200 hf201
          have hinck7 := addI_lt hltk7 hbdik7
          refine W.seq ?_
          refine W.region ?_
          refine O.lss rfl rfl rfl rfl ?_
          refine WL.nil ?_
          refine W.seq ?_
          refine W.cond_true (congrArg Value.bool (decide_eq_true hltk7)) ?_
          refine W.skip ?_
          refine W.seq ?_
          obtain ⟨s16, hm23, hm22⟩ := bind_some hm22
          refine W.via (fun f w => ∃ v50 : Value, ∃ rc20 : List C1, f 5 = (.pointer (some ⟨b2, 0, none⟩)) ∧ f 19 = (.int .i64 (ik6 : Int)) ∧ f 200 = (.int .i64 ((s2.length : Nat) : Int)) ∧ f 201 = (.int .i64 (ik6 : Int)) ∧ f 208 = (.int .i64 ((s2.length : Nat) : Int)) ∧ f 209 = (.int .i64 (ik7 : Int)) ∧ InvD (fpOf [ownI (α := GPoint) va1 78 a1]) w0 w [ownI (α := GPoint) v11 78 s2, mtxI (α := Int) v50 22 3 rc20 s16, boxI b2 118 [v11, v50]]) ?_ ?_
          ·
           refine W.block ?_
           refine W.seq ?_
           refine W.region ?_
           refine O.move (v := (.int .i64 (ik7 : Int))) rfl rfl rfl ?_
           refine O.assign (v := (.int .i64 (ik7 : Int))) rfl rfl rfl ?_
           refine WL.nil ?_
           refine W.seq ?_
           refine W.region ?_
           refine O.move (v := (.pointer (some ⟨b2, 0, none⟩))) rfl rfl rfl ?_
           refine O.nilCheck rfl rfl rfl ?_
           refine O.fieldAddr fd118_0 rfl rfl rfl ?_
           refine O.load sc91 rfl rfl rfl (H.cell 2 rfl 0 _ rfl) ?_
           refine O.lenS Try.underlying91 (H.own 0 rfl) rfl rfl rfl ?_
           refine O.move (v := (.int .i64 0)) rfl rfl rfl ?_
           refine WL.nil ?_
           obtain ⟨s17, hm24, hm23⟩ := bind_some hm23
           refine W.via (fun f w => ∃ v54 : Value, ∃ rc24 : List C1, f 5 = (.pointer (some ⟨b2, 0, none⟩)) ∧ f 19 = (.int .i64 (ik6 : Int)) ∧ f 200 = (.int .i64 ((s2.length : Nat) : Int)) ∧ f 201 = (.int .i64 (ik6 : Int)) ∧ f 208 = (.int .i64 ((s2.length : Nat) : Int)) ∧ f 209 = (.int .i64 (ik7 : Int)) ∧ InvD (fpOf [ownI (α := GPoint) va1 78 a1]) w0 w [ownI (α := GPoint) v11 78 s2, mtxI (α := Int) v54 22 3 rc24 s17, boxI b2 118 [v11, v54]]) ?_ ?_
           ·
            refine W.block ?_
            have hbdik8 := (H.own 0 rfl).len_le
            refine W.rangeN (i := 0) hm24 (fun rem ik8 s f w => ∃ z23 : (List (List Int)), ∃ v52 : Value, ∃ rc22 : List C1, z23 = s ∧ (ik8 : Int) + rem = max 0 ((s2.length : Nat) : Int) ∧ f 217 = .int .i64 (ik8 : Int) ∧ f 216 = (.int .i64 ((s2.length : Nat) : Int)) ∧ f 5 = (.pointer (some ⟨b2, 0, none⟩)) ∧ f 19 = (.int .i64 (ik6 : Int)) ∧ f 20 = (.int .i64 (ik7 : Int)) ∧ f 200 = (.int .i64 ((s2.length : Nat) : Int)) ∧ f 201 = (.int .i64 (ik6 : Int)) ∧ f 208 = (.int .i64 ((s2.length : Nat) : Int)) ∧ f 209 = (.int .i64 (ik7 : Int)) ∧ InvD (fpOf [ownI (α := GPoint) va1 78 a1]) w0 w [ownI (α := GPoint) v11 78 s2, mtxI (α := Int) v52 22 3 rc22 z23, boxI b2 118 [v11, v52]]) ?_ ?_ ?_
            ·
             exact ⟨_, v47, rc17, rfl, rangeN_start, rfl, rfl, rfl, rfl, rfl, rfl, rfl, rfl, rfl, H⟩
            ·
             rintro k ik8 _ st f w ⟨z23, v52, rc22, rfl, hdropk8, hf217, hf216, hf5, hf19, hf20, hf200, hf201, hf208, hf209, H⟩ hm25
             have hltk8 := rangeN_lt hdropk8
             obtain ⟨u65, rfl⟩ := up9 hf217 hf216 hf5 hf19 hf20 hf200 hf201 hf208 hf209
             have hinck8 := addI_lt hltk8 hbdik8
             refine W.seq ?_
             refine W.region ?_
             refine O.lss rfl rfl rfl rfl ?_
             refine WL.nil ?_
             refine W.seq ?_
             refine W.cond_true (congrArg Value.bool (decide_eq_true hltk8)) ?_
             refine W.skip ?_
             refine W.seq ?_
             obtain ⟨s18, hm26, hm25⟩ := bind_some hm25
             refine W.via (fun f w => ∃ v55 : Value, ∃ rc25 : List C1, f 5 = (.pointer (some ⟨b2, 0, none⟩)) ∧ f 19 = (.int .i64 (ik6 : Int)) ∧ f 20 = (.int .i64 (ik7 : Int)) ∧ f 200 = (.int .i64 ((s2.length : Nat) : Int)) ∧ f 201 = (.int .i64 (ik6 : Int)) ∧ f 208 = (.int .i64 ((s2.length : Nat) : Int)) ∧ f 209 = (.int .i64 (ik7 : Int)) ∧ f 216 = (.int .i64 ((s2.length : Nat) : Int)) ∧ f 217 = (.int .i64 (ik8 : Int)) ∧ InvD (fpOf [ownI (α := GPoint) va1 78 a1]) w0 w [ownI (α := GPoint) v11 78 s2, mtxI (α := Int) v55 22 3 rc25 s18, boxI b2 118 [v11, v55]]) ?_ ?_
             ·
              refine W.block ?_
              refine W.seq ?_
              refine W.region ?_
              refine O.move (v := (.int .i64 (ik8 : Int))) rfl rfl rfl ?_
              refine O.assign (v := (.int .i64 (ik8 : Int))) rfl rfl rfl ?_
              refine WL.nil ?_
              refine W.seq ?_
              refine W.region ?_
              refine O.move (v := (.pointer (some ⟨b2, 0, none⟩))) rfl rfl rfl ?_
              refine O.nilCheck rfl rfl rfl ?_
              refine O.fieldAddr fd118_1 rfl rfl rfl ?_
              refine O.load sc116 rfl rfl rfl (H.cell 2 rfl 1 _ rfl) ?_
              refine O.move (v := (.int .i64 (ik7 : Int))) rfl rfl rfl ?_
              obtain ⟨x10, hx10, hm26⟩ := bind_some hm26
              obtain ⟨rw5, hirw5, hrw5⟩ := H.mtxRow 1 rfl hx10
              refine O.indexAddr Try.underlying116 sz22 (H.mtxC 1 rfl) hirw5 rfl rfl rfl rfl ?_
              intro p13 hp15
              refine O.load sc22 rfl rfl rfl (hp15.flat 0 _ rfl) ?_
              refine O.move (v := (.int .i64 (ik6 : Int))) rfl rfl rfl ?_
              obtain ⟨x11, hx11, hm26⟩ := bind_some hm26
              refine O.indexAddr Try.underlying22 sz3 (H.mtxElem 1 rfl hrw5) hx11 rfl rfl rfl rfl ?_
              intro p14 hp16
              refine O.load sc3 rfl rfl rfl (hp16.flat 0 _ rfl) ?_
              refine O.lss rfl rfl rfl rfl ?_
              refine O.move (v := (.bool (decide (x11 < 1152921504606846976)))) rfl rfl rfl ?_
              obtain ⟨b10, hm27, hm26⟩ := bind_some hm26
              refine WL.cut 12 (fun f w => f 5 = (.pointer (some ⟨b2, 0, none⟩)) ∧ f 19 = (.int .i64 (ik6 : Int)) ∧ f 20 = (.int .i64 (ik7 : Int)) ∧ f 21 = (.int .i64 (ik8 : Int)) ∧ f 200 = (.int .i64 ((s2.length : Nat) : Int)) ∧ f 201 = (.int .i64 (ik6 : Int)) ∧ f 208 = (.int .i64 ((s2.length : Nat) : Int)) ∧ f 209 = (.int .i64 (ik7 : Int)) ∧ f 216 = (.int .i64 ((s2.length : Nat) : Int)) ∧ f 217 = (.int .i64 (ik8 : Int)) ∧ f 243 = .bool b10 ∧ InvD (fpOf [ownI (α := GPoint) va1 78 a1]) w0 w [ownI (α := GPoint) v11 78 s2, mtxI (α := Int) v52 22 3 rc22 z23, boxI b2 118 [v11, v52]]) ?_ ?_
              ·
               rcases ite_some hm27 with ⟨hc4, hm27⟩ | ⟨hc4, hm27⟩
               ·
                refine WL.reset (i := 231) (v := .bool true) (congrArg Value.bool hc4) ?_
                refine O.move (v := (.pointer (some ⟨b2, 0, none⟩))) rfl rfl rfl ?_
                refine O.nilCheck rfl rfl rfl ?_
                refine O.fieldAddr fd118_1 rfl rfl rfl ?_
                refine O.load sc116 rfl rfl rfl (H.cell 2 rfl 1 _ rfl) ?_
                refine O.move (v := (.int .i64 (ik6 : Int))) rfl rfl rfl ?_
                obtain ⟨x12, hx12, hm27⟩ := bind_some hm27
                obtain ⟨rw6, hirw6, hrw6⟩ := H.mtxRow 1 rfl hx12
                refine O.indexAddr Try.underlying116 sz22 (H.mtxC 1 rfl) hirw6 rfl rfl rfl rfl ?_
                intro p15 hp17
                refine O.load sc22 rfl rfl rfl (hp17.flat 0 _ rfl) ?_
                refine O.move (v := (.int .i64 (ik8 : Int))) rfl rfl rfl ?_
                obtain ⟨x13, hx13, hm27⟩ := bind_some hm27
                refine O.indexAddr Try.underlying22 sz3 (H.mtxElem 1 rfl hrw6) hx13 rfl rfl rfl rfl ?_
                intro p16 hp18
                refine O.load sc3 rfl rfl rfl (hp18.flat 0 _ rfl) ?_
                refine O.lss rfl rfl rfl rfl ?_
                refine O.pick_true (v := (.bool (decide (x13 < 1152921504606846976)))) rfl rfl rfl rfl ?_
                refine WL.nil ?_
                have hq : (decide (x13 < 1152921504606846976)) = b10 := Option.some.inj (show some (decide (x13 < 1152921504606846976)) = some b10 from hm27)
                subst hq
                exact ⟨rfl, rfl, rfl, rfl, rfl, rfl, rfl, rfl, rfl, rfl, rfl, H⟩
               ·
                refine WL.reset (i := 231) (v := .bool false) (congrArg Value.bool hc4) ?_
                refine O.skip rfl rfl ?_
                refine O.skip rfl rfl ?_
                refine O.skip rfl rfl ?_
                refine O.skip rfl rfl ?_
                refine O.skip rfl rfl ?_
                refine O.skip rfl rfl ?_
                refine O.skip rfl rfl ?_
                refine O.skip rfl rfl ?_
                refine O.skip rfl rfl ?_
                refine O.skip rfl rfl ?_
                refine O.skip rfl rfl ?_
                refine O.pick_false (v := (.bool false)) rfl rfl rfl rfl ?_
                refine WL.nil ?_
                have hq : false = b10 := Option.some.inj (show some false = some b10 from hm27)
                subst hq
                exact ⟨rfl, rfl, rfl, rfl, rfl, rfl, rfl, rfl, rfl, rfl, rfl, H⟩
              ·
               rintro f w ⟨hf5, hf19, hf20, hf21, hf200, hf201, hf208, hf209, hf216, hf217, hf243, H⟩
               obtain ⟨u66, rfl⟩ : ∃ u66, f = (upd (upd (upd (upd (upd (upd (upd (upd (upd (upd (upd u66 5 (.pointer (some ⟨b2, 0, none⟩))) 19 (.int .i64 (ik6 : Int))) 20 (.int .i64 (ik7 : Int))) 21 (.int .i64 (ik8 : Int))) 200 (.int .i64 ((s2.length : Nat) : Int))) 201 (.int .i64 (ik6 : Int))) 208 (.int .i64 ((s2.length : Nat) : Int))) 209 (.int .i64 (ik7 : Int))) 216 (.int .i64 ((s2.length : Nat) : Int))) 217 (.int .i64 (ik8 : Int))) 243 (.bool b10)) := ⟨f, by rw [upd_self hf5, upd_self hf19, upd_self hf20, upd_self hf21, upd_self hf200, upd_self hf201, upd_self hf208, upd_self hf209, upd_self hf216, upd_self hf217, upd_self hf243]⟩
               refine WL.nil ?_
               obtain ⟨s19, hm28, hm26⟩ := bind_some hm26
               refine W.via (fun f w => ∃ v56 : Value, ∃ rc26 : List C1, f 5 = (.pointer (some ⟨b2, 0, none⟩)) ∧ f 19 = (.int .i64 (ik6 : Int)) ∧ f 20 = (.int .i64 (ik7 : Int)) ∧ f 200 = (.int .i64 ((s2.length : Nat) : Int)) ∧ f 201 = (.int .i64 (ik6 : Int)) ∧ f 208 = (.int .i64 ((s2.length : Nat) : Int)) ∧ f 209 = (.int .i64 (ik7 : Int)) ∧ f 216 = (.int .i64 ((s2.length : Nat) : Int)) ∧ f 217 = (.int .i64 (ik8 : Int)) ∧ InvD (fpOf [ownI (α := GPoint) va1 78 a1]) w0 w [ownI (α := GPoint) v11 78 s2, mtxI (α := Int) v56 22 3 rc26 s19, boxI b2 118 [v11, v56]]) ?_ ?_
               ·
                rcases ite_some hm28 with ⟨hc5, hm28⟩ | ⟨hc5, hm28⟩
                ·
                 refine W.cond_true (congrArg Value.bool hc5) ?_
                 obtain ⟨x14, hx14, hm28⟩ := bind_some hm28
                 obtain ⟨rw7, hirw7, hrw7⟩ := H.mtxRow 1 rfl hx14
                 obtain ⟨p17, hp19, hrp17⟩ := fix_indexAddr Try.underlying116 sz22 (H.mtxC 1 rfl) hirw7
                 obtain ⟨x15, hx15, hm28⟩ := bind_some hm28
                 obtain ⟨rw8, hirw8, hrw8⟩ := H.mtxRow 1 rfl hx15
                 obtain ⟨p18, hp20, hrp18⟩ := fix_indexAddr Try.underlying116 sz22 (H.mtxC 1 rfl) hirw8
                 obtain ⟨x16, hx16, hm28⟩ := bind_some hm28
                 obtain ⟨p19, hp21, hrp19⟩ := fix_indexAddr Try.underlying22 sz3 (H.mtxElem 1 rfl hrw8) hx16
                 obtain ⟨x17, hx17, hm28⟩ := bind_some hm28
                 obtain ⟨rw9, hirw9, hrw9⟩ := H.mtxRow 1 rfl hx17
                 obtain ⟨p20, hp22, hrp20⟩ := fix_indexAddr Try.underlying116 sz22 (H.mtxC 1 rfl) hirw9
                 obtain ⟨x18, hx18, hm28⟩ := bind_some hm28
                 obtain ⟨p21, hp23, hrp21⟩ := fix_indexAddr Try.underlying22 sz3 (H.mtxElem 1 rfl hrw9) hx18
                 obtain ⟨x19, hx19, hm28⟩ := bind_some hm28
                 obtain ⟨rw10, hirw10, hrw10⟩ := H.mtxRow 1 rfl hx19
                 obtain ⟨p22, hp24, hrp22⟩ := fix_indexAddr Try.underlying116 sz22 (H.mtxC 1 rfl) hirw10
                 obtain ⟨x20, hx20, hm28⟩ := bind_some hm28
                 obtain ⟨p23, hp25, hrp23⟩ := fix_indexAddr Try.underlying22 sz3 (H.mtxElem 1 rfl hrw10) hx20
                 obtain ⟨t18, ht18, hm28⟩ := bind_some hm28
                 refine W.drawN 41 (fun f => f 5 = (.pointer (some ⟨b2, 0, none⟩)) ∧ f 19 = (.int .i64 (ik6 : Int)) ∧ f 20 = (.int .i64 (ik7 : Int)) ∧ f 200 = (.int .i64 ((s2.length : Nat) : Int)) ∧ f 201 = (.int .i64 (ik6 : Int)) ∧ f 208 = (.int .i64 ((s2.length : Nat) : Int)) ∧ f 209 = (.int .i64 (ik7 : Int)) ∧ f 216 = (.int .i64 ((s2.length : Nat) : Int)) ∧ f 217 = (.int .i64 (ik8 : Int)) ∧ f 250 = rw7.1 ∧ f 251 = (.int .i64 (ik8 : Int)) ∧ f 284 = (.int .i64 (max (-1152921504606846976) (min x16 t18)))) fol (by kernel_rfl) ?_ ?_
                 ·
                  refine PL.of (fun _ w8 _ hx => O.move (v := (.pointer (some ⟨b2, 0, none⟩))) rfl rfl rfl (WL.nil ⟨rfl, hx⟩)) ?_
                  refine PL.of (fun _ w8 _ hx => O.nilCheck rfl rfl rfl (WL.nil ⟨rfl, hx⟩)) ?_
                  refine PL.of (fun _ w8 _ hx => O.fieldAddr fd118_1 rfl rfl rfl (WL.nil ⟨rfl, hx⟩)) ?_
                  refine PL.of (fun _ w8 _ hx => by have H := H.ext hx; exact O.load sc116 rfl rfl rfl (H.cell 2 rfl 1 _ rfl) (WL.nil ⟨rfl, hx⟩)) ?_
                  refine PL.of (fun _ w8 _ hx => O.move (v := (.int .i64 (ik7 : Int))) rfl rfl rfl (WL.nil ⟨rfl, hx⟩)) ?_
                  refine PL.of (fun _ w8 _ hx => hrp17 rfl rfl rfl rfl (WL.nil ⟨rfl, hx⟩)) ?_
                  refine PL.of (fun _ w8 _ hx => by have hp19 := hp19.mono hx; exact O.load sc22 rfl rfl rfl (hp19.flat 0 _ rfl) (WL.nil ⟨rfl, hx⟩)) ?_
                  refine PL.of (fun _ w8 _ hx => O.move (v := (.int .i64 (ik8 : Int))) rfl rfl rfl (WL.nil ⟨rfl, hx⟩)) ?_
                  refine PL.of (fun _ w8 _ hx => O.move (v := (.pointer (some ⟨b2, 0, none⟩))) rfl rfl rfl (WL.nil ⟨rfl, hx⟩)) ?_
                  refine PL.of (fun _ w8 _ hx => O.nilCheck rfl rfl rfl (WL.nil ⟨rfl, hx⟩)) ?_
                  refine PL.of (fun _ w8 _ hx => O.fieldAddr fd118_1 rfl rfl rfl (WL.nil ⟨rfl, hx⟩)) ?_
                  refine PL.of (fun _ w8 _ hx => by have H := H.ext hx; exact O.load sc116 rfl rfl rfl (H.cell 2 rfl 1 _ rfl) (WL.nil ⟨rfl, hx⟩)) ?_
                  refine PL.of (fun _ w8 _ hx => O.move (v := (.int .i64 (ik7 : Int))) rfl rfl rfl (WL.nil ⟨rfl, hx⟩)) ?_
                  refine PL.of (fun _ w8 _ hx => hrp18 rfl rfl rfl rfl (WL.nil ⟨rfl, hx⟩)) ?_
                  refine PL.of (fun _ w8 _ hx => by have hp20 := hp20.mono hx; exact O.load sc22 rfl rfl rfl (hp20.flat 0 _ rfl) (WL.nil ⟨rfl, hx⟩)) ?_
                  refine PL.of (fun _ w8 _ hx => O.move (v := (.int .i64 (ik8 : Int))) rfl rfl rfl (WL.nil ⟨rfl, hx⟩)) ?_
                  refine PL.of (fun _ w8 _ hx => hrp19 rfl rfl rfl rfl (WL.nil ⟨rfl, hx⟩)) ?_
                  refine PL.of (fun _ w8 _ hx => by have hp21 := hp21.mono hx; exact O.load sc3 rfl rfl rfl (hp21.flat 0 _ rfl) (WL.nil ⟨rfl, hx⟩)) ?_
                  refine PL.of (fun _ w8 _ hx => O.move (v := (.pointer (some ⟨b2, 0, none⟩))) rfl rfl rfl (WL.nil ⟨rfl, hx⟩)) ?_
                  refine PL.of (fun _ w8 _ hx => O.nilCheck rfl rfl rfl (WL.nil ⟨rfl, hx⟩)) ?_
                  refine PL.of (fun _ w8 _ hx => O.fieldAddr fd118_1 rfl rfl rfl (WL.nil ⟨rfl, hx⟩)) ?_
                  refine PL.of (fun _ w8 _ hx => by have H := H.ext hx; exact O.load sc116 rfl rfl rfl (H.cell 2 rfl 1 _ rfl) (WL.nil ⟨rfl, hx⟩)) ?_
                  refine PL.of (fun _ w8 _ hx => O.move (v := (.int .i64 (ik7 : Int))) rfl rfl rfl (WL.nil ⟨rfl, hx⟩)) ?_
                  refine PL.of (fun _ w8 _ hx => hrp20 rfl rfl rfl rfl (WL.nil ⟨rfl, hx⟩)) ?_
                  refine PL.of (fun _ w8 _ hx => by have hp22 := hp22.mono hx; exact O.load sc22 rfl rfl rfl (hp22.flat 0 _ rfl) (WL.nil ⟨rfl, hx⟩)) ?_
                  refine PL.of (fun _ w8 _ hx => O.move (v := (.int .i64 (ik6 : Int))) rfl rfl rfl (WL.nil ⟨rfl, hx⟩)) ?_
                  refine PL.of (fun _ w8 _ hx => hrp21 rfl rfl rfl rfl (WL.nil ⟨rfl, hx⟩)) ?_
                  refine PL.of (fun _ w8 _ hx => by have hp23 := hp23.mono hx; exact O.load sc3 rfl rfl rfl (hp23.flat 0 _ rfl) (WL.nil ⟨rfl, hx⟩)) ?_
                  refine PL.of (fun _ w8 _ hx => O.move (v := (.pointer (some ⟨b2, 0, none⟩))) rfl rfl rfl (WL.nil ⟨rfl, hx⟩)) ?_
                  refine PL.of (fun _ w8 _ hx => O.nilCheck rfl rfl rfl (WL.nil ⟨rfl, hx⟩)) ?_
                  refine PL.of (fun _ w8 _ hx => O.fieldAddr fd118_1 rfl rfl rfl (WL.nil ⟨rfl, hx⟩)) ?_
                  refine PL.of (fun _ w8 _ hx => by have H := H.ext hx; exact O.load sc116 rfl rfl rfl (H.cell 2 rfl 1 _ rfl) (WL.nil ⟨rfl, hx⟩)) ?_
                  refine PL.of (fun _ w8 _ hx => O.move (v := (.int .i64 (ik6 : Int))) rfl rfl rfl (WL.nil ⟨rfl, hx⟩)) ?_
                  refine PL.of (fun _ w8 _ hx => hrp22 rfl rfl rfl rfl (WL.nil ⟨rfl, hx⟩)) ?_
                  refine PL.of (fun _ w8 _ hx => by have hp24 := hp24.mono hx; exact O.load sc22 rfl rfl rfl (hp24.flat 0 _ rfl) (WL.nil ⟨rfl, hx⟩)) ?_
                  refine PL.of (fun _ w8 _ hx => O.move (v := (.int .i64 (ik8 : Int))) rfl rfl rfl (WL.nil ⟨rfl, hx⟩)) ?_
                  refine PL.of (fun _ w8 _ hx => hrp23 rfl rfl rfl rfl (WL.nil ⟨rfl, hx⟩)) ?_
                  refine PL.of (fun _ w8 _ hx => by have hp25 := hp25.mono hx; exact O.load sc3 rfl rfl rfl (hp25.flat 0 _ rfl) (WL.nil ⟨rfl, hx⟩)) ?_
                  refine PL.of (fun _ w8 _ hx => O.add rfl rfl rfl rfl ht18 (WL.nil ⟨rfl, hx⟩)) ?_
                  refine PL.of (fun _ w8 _ hx => O.min2 rfl rfl rfl rfl (WL.nil ⟨rfl, hx⟩)) ?_
                  refine PL.of (fun _ w8 _ hx => O.max2 rfl rfl rfl rfl (WL.nil ⟨rfl, hx⟩)) ?_
                  refine PL.nil ?_
                  exact ⟨rfl, rfl, rfl, rfl, rfl, rfl, rfl, rfl, rfl, rfl, rfl, rfl⟩
                 ·
                  rintro f w ⟨hf5, hf19, hf20, hf200, hf201, hf208, hf209, hf216, hf217, hf250, hf251, hf284⟩ hmd hx
                  have H := H.ext hx
                  have hp19 := hp19.mono hx
                  have hp20 := hp20.mono hx
                  have hp21 := hp21.mono hx
                  have hp22 := hp22.mono hx
                  have hp23 := hp23.mono hx
                  have hp24 := hp24.mono hx
                  have hp25 := hp25.mono hx
                  obtain ⟨u67, rfl⟩ : ∃ u67, f = (upd (upd (upd (upd (upd (upd (upd (upd (upd (upd (upd (upd u67 5 (.pointer (some ⟨b2, 0, none⟩))) 19 (.int .i64 (ik6 : Int))) 20 (.int .i64 (ik7 : Int))) 200 (.int .i64 ((s2.length : Nat) : Int))) 201 (.int .i64 (ik6 : Int))) 208 (.int .i64 ((s2.length : Nat) : Int))) 209 (.int .i64 (ik7 : Int))) 216 (.int .i64 ((s2.length : Nat) : Int))) 217 (.int .i64 (ik8 : Int))) 250 rw7.1) 251 (.int .i64 (ik8 : Int))) 284 (.int .i64 (max (-1152921504606846976) (min x16 t18)))) := ⟨f, by rw [upd_self hf5, upd_self hf19, upd_self hf20, upd_self hf200, upd_self hf201, upd_self hf208, upd_self hf209, upd_self hf216, upd_self hf217, upd_self hf250, upd_self hf251, upd_self hf284]⟩
                  obtain ⟨x21, hx21, hm28⟩ := bind_some hm28
                  refine O.indexOwn (Int.toNat (ik7 : Int) + 1) Try.underlying22 sz3 (H.mtx 1 rfl) hrw7 hx21 rfl rfl rfl rfl ?_
                  intro b11 hob3 hp26
                  refine O.storeM (i0 := (ik8 : Int)) (x0 := x21) 1 0 (max (-1152921504606846976) (min x16 t18)) [(.int .i64 (max (-1152921504606846976) (min x16 t18)))] sz3 H rfl (idx_some hirw7).2.2 (idx_some hx14).2.2 hob3 hx21 rfl rfl rfl rfl rfl rfl rfl rfl (one_cons rfl one_nil) ?_
                  intro w36 H
                  clear hp19
                  clear hp20
                  clear hp21
                  clear hp22
                  clear hp23
                  clear hp24
                  clear hp25
                  clear hp26
                  refine WL.nil ?_
                  have hq : (z23.set (Int.toNat (ik7 : Int)) (x14.set (Int.toNat (ik8 : Int)) (max (-1152921504606846976) (min x16 t18)))) = s19 := Option.some.inj (show some (z23.set (Int.toNat (ik7 : Int)) (x14.set (Int.toNat (ik8 : Int)) (max (-1152921504606846976) (min x16 t18)))) = some s19 from hm28)
                  subst hq
                  exact ⟨v52, rc22, rfl, rfl, rfl, rfl, rfl, rfl, rfl, rfl, rfl, H⟩
                ·
                 refine W.cond_false (congrArg Value.bool hc5) ?_
                 refine W.skip ?_
                 have hq : z23 = s19 := Option.some.inj (show some z23 = some s19 from hm28)
                 subst hq
                 exact ⟨v52, rc22, rfl, rfl, rfl, rfl, rfl, rfl, rfl, rfl, rfl, H⟩
               ·
                rintro f w ⟨v56, rc26, hf5, hf19, hf20, hf200, hf201, hf208, hf209, hf216, hf217, H⟩
                obtain ⟨u68, rfl⟩ := up9 hf5 hf19 hf20 hf200 hf201 hf208 hf209 hf216 hf217
                have hq : s19 = s18 := Option.some.inj (show some s19 = some s18 from hm26)
                subst hq
                exact ⟨v56, rc26, rfl, rfl, rfl, rfl, rfl, rfl, rfl, rfl, rfl, H⟩
             ·
              rintro f w ⟨v55, rc25, hf5, hf19, hf20, hf200, hf201, hf208, hf209, hf216, hf217, H⟩
              obtain ⟨u69, rfl⟩ := up9 hf5 hf19 hf20 hf200 hf201 hf208 hf209 hf216 hf217
              refine W.region ?_
              refine O.add rfl rfl rfl rfl hinck8 ?_
              refine O.move (v := .int .i64 ((ik8 : Int) + 1)) rfl rfl rfl ?_
              refine WL.nil ?_
              obtain rfl := Option.some.inj hm25
              exact ⟨_, rfl, _, v55, rc25, rfl, rangeN_next hdropk8, rfl, rfl, rfl, rfl, rfl, rfl, rfl, rfl, rfl, H⟩
            ·
             rintro ik8 _ f w ⟨z23, v52, rc22, rfl, hdropk8, hf217, hf216, hf5, hf19, hf20, hf200, hf201, hf208, hf209, H⟩ hfin
             have hltk8 := rangeN_end hdropk8
             obtain ⟨u70, rfl⟩ := up9 hf217 hf216 hf5 hf19 hf20 hf200 hf201 hf208 hf209
             refine W.seq ?_
             refine W.region ?_
             refine O.lss rfl rfl rfl rfl ?_
             refine WL.nil ?_
             refine W.seq ?_
             refine W.cond_false (congrArg Value.bool (decide_eq_false hltk8)) ?_
             refine W.exit ?_
             have hq : z23 = s17 := hfin
             subst hq
             refine xT rfl ?_
             exact ⟨v52, rc22, rfl, rfl, rfl, rfl, rfl, rfl, H⟩
           ·
            rintro f w ⟨v54, rc24, hf5, hf19, hf200, hf201, hf208, hf209, H⟩
            obtain ⟨u71, rfl⟩ := up6 hf5 hf19 hf200 hf201 hf208 hf209
            have hq : s17 = s16 := Option.some.inj (show some s17 = some s16 from hm23)
            subst hq
            exact ⟨v54, rc24, rfl, rfl, rfl, rfl, rfl, rfl, H⟩
          ·
           rintro f w ⟨v50, rc20, hf5, hf19, hf200, hf201, hf208, hf209, H⟩
           obtain ⟨u72, rfl⟩ := up6 hf5 hf19 hf200 hf201 hf208 hf209
           refine W.region ?_
           refine O.add rfl rfl rfl rfl hinck7 ?_
           refine O.move (v := .int .i64 ((ik7 : Int) + 1)) rfl rfl rfl ?_
           refine WL.nil ?_
           obtain rfl := Option.some.inj hm22
           exact ⟨_, rfl, _, v50, rc20, rfl, rangeN_next hdropk7, rfl, rfl, rfl, rfl, rfl, rfl, H⟩
         ·
          rintro ik7 _ f w ⟨z20, v47, rc17, rfl, hdropk7, hf209, hf208, hf5, hf19, hf200, hf201, H⟩ hfin
          have hltk7 := rangeN_end hdropk7
          obtain ⟨u73, rfl⟩ := up6 hf209 hf208 hf5 hf19 hf200 hf201
          refine W.seq ?_
          refine W.region ?_
          refine O.lss rfl rfl rfl rfl ?_
          refine WL.nil ?_
          refine W.seq ?_
          refine W.cond_false (congrArg Value.bool (decide_eq_false hltk7)) ?_
          refine W.exit ?_
          have hq : z20 = s15 := hfin
          subst hq
          refine xT rfl ?_
          exact ⟨v47, rc17, rfl, rfl, rfl, H⟩
        ·
         rintro f w ⟨v49, rc19, hf5, hf200, hf201, H⟩
         obtain ⟨u74, rfl⟩ := up3 hf5 hf200 hf201
         have hq : s15 = s14 := Option.some.inj (show some s15 = some s14 from hm20)
         subst hq
         exact ⟨v49, rc19, rfl, rfl, rfl, H⟩
       ·
        rintro f w ⟨v45, rc15, hf5, hf200, hf201, H⟩
        obtain ⟨u75, rfl⟩ := up3 hf5 hf200 hf201
        refine W.region ?_
        refine O.add rfl rfl rfl rfl hinck6 ?_
        refine O.move (v := .int .i64 ((ik6 : Int) + 1)) rfl rfl rfl ?_
        refine WL.nil ?_
        obtain rfl := Option.some.inj hm19
        exact ⟨_, rfl, _, v45, rc15, rfl, rangeN_next hdropk6, rfl, rfl, rfl, H⟩
      ·
       rintro ik6 _ f w ⟨z17, v42, rc12, rfl, hdropk6, hf201, hf200, hf5, H⟩ hfin
       have hltk6 := rangeN_end hdropk6
       obtain ⟨u76, rfl⟩ := up3 hf201 hf200 hf5
       refine W.seq ?_
       refine W.region ?_
       refine O.lss rfl rfl rfl rfl ?_
       refine WL.nil ?_
       refine W.seq ?_
       refine W.cond_false (congrArg Value.bool (decide_eq_false hltk6)) ?_
       refine W.exit ?_
       have hq : z17 = s13 := hfin
       subst hq
       refine xT rfl ?_
       exact ⟨v42, rc12, rfl, H⟩
     ·
      rintro f w ⟨v44, rc14, hf5, H⟩
      obtain ⟨u77, rfl⟩ := up1 hf5
      refine W.seq ?_
      refine W.region ?_
      refine O.move (v := (.pointer (some ⟨b2, 0, none⟩))) rfl rfl rfl ?_
      refine O.assign (v := (.pointer (some ⟨b2, 0, none⟩))) rfl rfl rfl ?_
      refine WL.nil ?_
      refine W.ret ?_
      have hq : (s2, s13) = (r0, r1) := Option.some.inj (show some (s2, s13) = some (r0, r1) from hm)
      obtain ⟨he0, hq0⟩ := Prod.mk.inj hq; clear hq; subst he0
      subst hq0
      exact ends1 Try.results67 rfl ⟨_, _, rfl, H.pick [2, 0, 1] [boxI b2 118 [v11, v44], ownI (α := GPoint) v11 78 s2, mtxI (α := Int) v44 22 3 rc14 s13] rfl (by decide), _, _, _, _, rfl, rfl⟩

theorem c_noongunref02_graph_consistent {w0 : World} (pa0 : Addr) (va0_0 : Value) (va0_1 : Value) (a0 : GRefgraph) (ha0 : ∀ j c, ([va0_0, va0_1] : List Value)[j]? = some c → w0.cell? (pa0.add j) = some c) (ra0_0 : SliceR w0 va0_0 a0.points) (ra0_1 : SliceR w0 va0_1 a0.cost) {r0 : Bool} (hm : noongunref02_graph_consistent a0 = some r0) :
  Calls Try.prog 68 #[(.pointer (some pa0))] w0 (Ret w0 fun _ v => v = (.bool r0)) := by
 unfold noongunref02_graph_consistent at hm
 refine calls_of_W Try.func68 rfl Try.ntmps68 (Nat.le_of_ble_eq_true rfl) ?_
 have H := Inv.start (w := w0)
 refine W.seq ?_
 refine W.region ?_
 refine O.assign (v := (.bool false)) rfl rfl rfl ?_
 refine WL.nil ?_
 refine W.seq ?_
 refine W.seq ?_
 refine W.region ?_
 refine O.move (v := (.pointer (some pa0))) rfl rfl rfl ?_
 refine O.nilCheck rfl rfl rfl ?_
 refine O.fieldAddr fd118_0 rfl rfl rfl ?_
 refine O.load sc91 rfl rfl rfl (cells_mono ha0 H.base 0 _ rfl) ?_
 refine O.lenS Try.underlying91 (H.arg ra0_0) rfl rfl rfl ?_
 refine O.move (v := (.int .i64 0)) rfl rfl rfl ?_
 refine WL.nil ?_
 obtain ⟨o1, hm1, hm⟩ := bind_some hm
 refine W.via (fun f w => o1 = .next () ∧ Inv w0 w []) ?_ ?_
 ·
  refine W.block ?_
  have hbdik1 := (H.arg ra0_0).len_le
  refine W.rangeN (i := 0) hm1 (fun rem ik1 s f w => () = s ∧ (ik1 : Int) + rem = max 0 ((a0.points.length : Nat) : Int) ∧ f 9 = .int .i64 (ik1 : Int) ∧ f 8 = (.int .i64 ((a0.points.length : Nat) : Int)) ∧ f 0 = (.pointer (some pa0)) ∧ Inv w0 w []) ?_ ?_ ?_
  ·
   exact ⟨rfl, rangeN_start, rfl, rfl, rfl, H⟩
  ·
   rintro k ik1 _ st f w ⟨rfl, hdropk1, hf9, hf8, hf0, H⟩ hm2
   have hltk1 := rangeN_lt hdropk1
   obtain ⟨u1, rfl⟩ := up3 hf9 hf8 hf0
   have hinck1 := addI_lt hltk1 hbdik1
   refine W.seq ?_
   refine W.region ?_
   refine O.lss rfl rfl rfl rfl ?_
   refine WL.nil ?_
   refine W.seq ?_
   refine W.cond_true (congrArg Value.bool (decide_eq_true hltk1)) ?_
   refine W.skip ?_
   refine W.seq ?_
   refine W.block ?_
   refine W.seq ?_
   refine W.region ?_
   refine O.move (v := (.int .i64 (ik1 : Int))) rfl rfl rfl ?_
   refine O.assign (v := (.int .i64 (ik1 : Int))) rfl rfl rfl ?_
   refine WL.nil ?_
   refine W.seq ?_
   refine W.region ?_
   refine O.move (v := (.pointer (some pa0))) rfl rfl rfl ?_
   refine O.nilCheck rfl rfl rfl ?_
   refine O.fieldAddr fd118_1 rfl rfl rfl ?_
   refine O.load sc116 rfl rfl rfl (cells_mono ha0 H.base 1 _ rfl) ?_
   refine O.move (v := (.int .i64 (ik1 : Int))) rfl rfl rfl ?_
   obtain ⟨x1, hx1, hm2⟩ := bind_some hm2
   obtain ⟨p1, hp1, hrp1⟩ := fix_indexAddr Try.underlying116 sz22 ra0_1 hx1
   obtain ⟨v1, hs1, hc1⟩ := hp1.slice
   refine hrp1 rfl rfl rfl rfl ?_
   refine O.load sc22 rfl rfl rfl ((cells_mono hc1 H.base) 0 _ rfl) ?_
   refine O.move (v := (.int .i64 (ik1 : Int))) rfl rfl rfl ?_
   obtain ⟨x2, hx2, hm2⟩ := bind_some hm2
   obtain ⟨p2, hp2, hrp2⟩ := fix_indexAddr Try.underlying22 sz3 hs1 hx2
   refine hrp2 rfl rfl rfl rfl ?_
   refine O.load sc3 rfl rfl rfl ((hp2.mono H.base).flat 0 _ rfl) ?_
   refine O.lss rfl rfl rfl rfl ?_
   refine WL.nil ?_
   rcases ite_some hm2 with ⟨hc2, hm2⟩ | ⟨hc2, hm2⟩
   ·
    refine W.cond_true (congrArg Value.bool hc2) ?_
    refine W.seq ?_
    refine W.region ?_
    refine O.assign (v := (.bool false)) rfl rfl rfl ?_
    refine WL.nil ?_
    refine W.ret ?_
    obtain rfl := Option.some.inj hm2
    refine ⟨_, rfl, ?_⟩
    rintro rfl
    have hq : false = r0 := Option.some.inj (show some false = some r0 from hm)
    subst hq
    exact ends1 Try.results68 rfl ⟨_, rfl, H.base, rfl⟩
   ·
    refine W.cond_false (congrArg Value.bool hc2) ?_
    refine W.skip ?_
    refine W.region ?_
    refine O.add rfl rfl rfl rfl hinck1 ?_
    refine O.move (v := .int .i64 ((ik1 : Int) + 1)) rfl rfl rfl ?_
    refine WL.nil ?_
    obtain rfl := Option.some.inj hm2
    exact ⟨_, rfl, rfl, rangeN_next hdropk1, rfl, rfl, rfl, H⟩
  ·
   rintro ik1 _ f w ⟨rfl, hdropk1, hf9, hf8, hf0, H⟩ hfin
   have hltk1 := rangeN_end hdropk1
   obtain ⟨u2, rfl⟩ := up3 hf9 hf8 hf0
   refine W.seq ?_
   refine W.region ?_
   refine O.lss rfl rfl rfl rfl ?_
   refine WL.nil ?_
   refine W.seq ?_
   refine W.cond_false (congrArg Value.bool (decide_eq_false hltk1)) ?_
   refine W.exit ?_
   obtain rfl : Ctl.next () = o1 := hfin
   refine xT rfl ?_
   exact ⟨rfl, H⟩
 ·
  rintro f w ⟨rfl, H⟩
  refine W.seq ?_
  refine W.region ?_
  refine O.assign (v := (.bool true)) rfl rfl rfl ?_
  refine WL.nil ?_
  refine W.ret ?_
  have hq : true = r0 := Option.some.inj (show some true = some r0 from hm)
  subst hq
  exact ends1 Try.results68 rfl ⟨_, rfl, H.base, rfl⟩

theorem c_noongunlaw02_Light {w0 : World} (va0_0 : Value) (va0_1 : Value) (a0 : GNet) (ha0_0 : SliceR w0 va0_0 a0.Rates) (ha0_1 : SliceR w0 va0_1 a0.Sights) {r0 : Bool} (hm : noongunlaw02_Light a0 = some r0) :
  Calls Try.prog 14 #[(.agg #[va0_0, va0_1])] w0 (Ret w0 fun _ v => v = (.bool r0)) := by
 unfold noongunlaw02_Light at hm
 refine calls_of_W Try.func14 rfl Try.ntmps14 (Nat.le_of_ble_eq_true rfl) ?_
 have H := Inv.start (w := w0)
 refine W.seq ?_
 refine W.region ?_
 refine O.box [va0_0, va0_1] H rfl rfl rfl rfl ?_
 intro b1 w1 H hb1
 refine O.assign (v := (.bool false)) rfl rfl rfl ?_
 refine WL.nil ?_
 refine W.seq ?_
 refine W.region ?_
 refine O.fieldAddr fd25_0 rfl rfl rfl ?_
 refine O.load sc22 rfl rfl rfl (H.cell 0 rfl 0 _ rfl) ?_
 refine O.lenS Try.underlying22 (H.arg ha0_0) rfl rfl rfl ?_
 refine O.leq rfl rfl rfl rfl ?_
 refine O.move (v := (.bool (decide (((a0.Rates.length : Nat) : Int) ≤ 100)))) rfl rfl rfl ?_
 refine WL.cut 17 (fun f w => f 24 = .bool ((decide (((a0.Rates.length : Nat) : Int) ≤ 100)) && ((decide (((a0.Sights.length : Nat) : Int) ≤ 8)) || ((decide (30 < ((a0.Sights.length : Nat) : Int))) && (decide (((a0.Sights.length : Nat) : Int) ≤ 100))))) ∧ Inv w0 w [boxI b1 25 [va0_0, va0_1]]) ?_ ?_
 ·
  rcases bool_ft (decide (((a0.Rates.length : Nat) : Int) ≤ 100)) with hc1 | hc1
  ·
   refine WL.reset (i := 7) (v := .bool false) (congrArg Value.bool hc1) ?_
   refine O.skip rfl rfl ?_
   refine O.skip rfl rfl ?_
   refine O.skip rfl rfl ?_
   refine O.skip rfl rfl ?_
   refine O.skip rfl rfl ?_
   refine O.skip rfl rfl ?_
   refine O.skip rfl rfl ?_
   refine O.skip rfl rfl ?_
   refine O.skip rfl rfl ?_
   refine O.skip rfl rfl ?_
   refine O.skip rfl rfl ?_
   refine O.skip rfl rfl ?_
   refine O.skip rfl rfl ?_
   refine O.skip rfl rfl ?_
   refine O.skip rfl rfl ?_
   refine O.skip rfl rfl ?_
   refine O.pick_false (v := (.bool false)) rfl rfl rfl rfl ?_
   exact WL.nil ⟨congrArg Value.bool (and_f hc1), H⟩
  ·
   refine WL.reset (i := 7) (v := .bool true) (congrArg Value.bool hc1) ?_
   refine O.fieldAddr fd25_1 rfl rfl rfl ?_
   refine O.load sc23 rfl rfl rfl (H.cell 0 rfl 1 _ rfl) ?_
   refine O.lenS Try.underlying23 (H.arg ha0_1) rfl rfl rfl ?_
   refine O.leq rfl rfl rfl rfl ?_
   refine O.move (v := (.bool (decide (((a0.Sights.length : Nat) : Int) ≤ 8)))) rfl rfl rfl ?_
   refine WL.cut 11 (fun f w => f 7 = (.bool true) ∧ f 23 = .bool ((decide (((a0.Sights.length : Nat) : Int) ≤ 8)) || ((decide (30 < ((a0.Sights.length : Nat) : Int))) && (decide (((a0.Sights.length : Nat) : Int) ≤ 100)))) ∧ Inv w0 w [boxI b1 25 [va0_0, va0_1]]) ?_ ?_
   ·
    rcases bool_ft (decide (((a0.Sights.length : Nat) : Int) ≤ 8)) with hc2 | hc2
    ·
     refine WL.reset (i := 12) (v := .bool false) (congrArg Value.bool hc2) ?_
     refine O.fieldAddr fd25_1 rfl rfl rfl ?_
     refine O.load sc23 rfl rfl rfl (H.cell 0 rfl 1 _ rfl) ?_
     refine O.lenS Try.underlying23 (H.arg ha0_1) rfl rfl rfl ?_
     refine O.gtr rfl rfl rfl rfl ?_
     refine O.move (v := (.bool (decide (30 < ((a0.Sights.length : Nat) : Int))))) rfl rfl rfl ?_
     refine WL.cut 5 (fun f w => f 7 = (.bool true) ∧ f 12 = (.bool false) ∧ f 22 = .bool ((decide (30 < ((a0.Sights.length : Nat) : Int))) && (decide (((a0.Sights.length : Nat) : Int) ≤ 100))) ∧ Inv w0 w [boxI b1 25 [va0_0, va0_1]]) ?_ ?_
     ·
      rcases bool_ft (decide (30 < ((a0.Sights.length : Nat) : Int))) with hc3 | hc3
      ·
       refine WL.reset (i := 17) (v := .bool false) (congrArg Value.bool hc3) ?_
       refine O.skip rfl rfl ?_
       refine O.skip rfl rfl ?_
       refine O.skip rfl rfl ?_
       refine O.skip rfl rfl ?_
       refine O.pick_false (v := (.bool false)) rfl rfl rfl rfl ?_
       exact WL.nil ⟨rfl, rfl, congrArg Value.bool (and_f hc3), H⟩
      ·
       refine WL.reset (i := 17) (v := .bool true) (congrArg Value.bool hc3) ?_
       refine O.fieldAddr fd25_1 rfl rfl rfl ?_
       refine O.load sc23 rfl rfl rfl (H.cell 0 rfl 1 _ rfl) ?_
       refine O.lenS Try.underlying23 (H.arg ha0_1) rfl rfl rfl ?_
       refine O.leq rfl rfl rfl rfl ?_
       refine O.pick_true (v := (.bool (decide (((a0.Sights.length : Nat) : Int) ≤ 100)))) rfl rfl rfl rfl ?_
       exact WL.nil ⟨rfl, rfl, congrArg Value.bool (and_t hc3), H⟩
     ·
      rintro f w ⟨hf7, hf12, hf22, H⟩
      obtain ⟨u1, rfl⟩ := up3 hf7 hf12 hf22
      refine O.pick_false (v := (.bool ((decide (30 < ((a0.Sights.length : Nat) : Int))) && (decide (((a0.Sights.length : Nat) : Int) ≤ 100))))) rfl rfl rfl rfl ?_
      exact WL.nil ⟨rfl, congrArg Value.bool (or_f hc2), H⟩
    ·
     refine WL.reset (i := 12) (v := .bool true) (congrArg Value.bool hc2) ?_
     refine O.skip rfl rfl ?_
     refine O.skip rfl rfl ?_
     refine O.skip rfl rfl ?_
     refine O.skip rfl rfl ?_
     refine O.skip rfl rfl ?_
     refine O.skip rfl rfl ?_
     refine O.skip rfl rfl ?_
     refine O.skip rfl rfl ?_
     refine O.skip rfl rfl ?_
     refine O.skip rfl rfl ?_
     refine O.pick_true (v := (.bool true)) rfl rfl rfl rfl ?_
     exact WL.nil ⟨rfl, congrArg Value.bool (or_t hc2), H⟩
   ·
    rintro f w ⟨hf7, hf23, H⟩
    obtain ⟨u2, rfl⟩ := up2 hf7 hf23
    refine O.pick_true (v := (.bool ((decide (((a0.Sights.length : Nat) : Int) ≤ 8)) || ((decide (30 < ((a0.Sights.length : Nat) : Int))) && (decide (((a0.Sights.length : Nat) : Int) ≤ 100)))))) rfl rfl rfl rfl ?_
    exact WL.nil ⟨congrArg Value.bool (and_t hc1), H⟩
 ·
  rintro f w ⟨hf24, H⟩
  obtain ⟨u3, rfl⟩ := up1 hf24
  refine O.assign (v := (.bool ((decide (((a0.Rates.length : Nat) : Int) ≤ 100)) && ((decide (((a0.Sights.length : Nat) : Int) ≤ 8)) || ((decide (30 < ((a0.Sights.length : Nat) : Int))) && (decide (((a0.Sights.length : Nat) : Int) ≤ 100))))))) rfl rfl rfl ?_
  refine WL.nil ?_
  refine W.ret ?_
  have hq : ((decide (((a0.Rates.length : Nat) : Int) ≤ 100)) && ((decide (((a0.Sights.length : Nat) : Int) ≤ 8)) || ((decide (30 < ((a0.Sights.length : Nat) : Int))) && (decide (((a0.Sights.length : Nat) : Int) ≤ 100))))) = r0 := Option.some.inj (show some ((decide (((a0.Rates.length : Nat) : Int) ≤ 100)) && ((decide (((a0.Sights.length : Nat) : Int) ≤ 8)) || ((decide (30 < ((a0.Sights.length : Nat) : Int))) && (decide (((a0.Sights.length : Nat) : Int) ≤ 100))))) = some r0 from hm)
  subst hq
  exact ends1 Try.results14 rfl ⟨_, rfl, H.base, rfl⟩

theorem c_noongunlaw02_two {w0 : World}  {r0 : GNet} (hm : noongunlaw02_two  = some r0) :
  Calls Try.prog 53 #[] w0 (Ret w0 fun w v => ∃ vr0_0 : Value, ∃ vr0_1 : Value, v = (.agg #[vr0_0, vr0_1]) ∧ Inv w0 w [ownI (α := Int) vr0_0 3 r0.Rates, ownI (α := GSight) vr0_1 39 r0.Sights]) := by
 unfold noongunlaw02_two at hm
 refine calls_of_W Try.func53 rfl Try.ntmps53 (Nat.le_of_ble_eq_true rfl) ?_
 have H := Inv.start (w := w0)
 refine W.seq ?_
 refine W.region ?_
 refine O.alloc [(.slice none 0 0), (.slice none 0 0)] ze25 H rfl rfl rfl ?_
 intro b1 w1 H hb1
 have H := H.addNil (α := Int) (E := 3)
 have H := H.addNil (α := GSight) (E := 39)
 refine WL.nil ?_
 refine W.seq ?_
 refine W.region ?_
 refine O.buildSlice (α := Int) [(.int .i64 0), (.int .i64 10000)] [0, 10000] Try.underlying22 el3 H rfl rfl rfl rfl rfl rfl rfl ?_
 intro v1 w2 H hb2
 refine O.build (v := (.agg (Flat.cells (GSight.mk 0 1 0 100 100)).toArray)) (fun w => bd39_1_3_4 _ _ _ w) rfl rfl rfl ?_
 refine O.build (v := (.agg (Flat.cells (GSight.mk 1000000 1 0 150 160)).toArray)) (fun w => bd39_0_1_3_4 _ _ _ _ w) rfl rfl rfl ?_
 refine O.buildSlice (α := GSight) [(.agg (Flat.cells (GSight.mk 0 1 0 100 100)).toArray), (.agg (Flat.cells (GSight.mk 1000000 1 0 150 160)).toArray)] [(GSight.mk 0 1 0 100 100), (GSight.mk 1000000 1 0 150 160)] Try.underlying23 el39 H rfl rfl rfl rfl rfl rfl rfl ?_
 intro v2 w3 H hb3
 obtain ⟨ad1, cap1, hvad1, _⟩ := (H.own 3 rfl).shape
 obtain ⟨ad2, cap2, hvad2, _⟩ := (H.own 4 rfl).shape
 refine O.build (v := (.agg #[v1, v2])) (fun w => by rw [hvad1, hvad2]; exact bd25_0_1 _ _ _ _ _ _ w) rfl rfl rfl ?_
 refine O.store 0 0 [v1, v2] [v1, v2] sz25 H rfl rfl rfl rfl rfl rfl ⟨⟨rfl, rfl⟩, rfl⟩ (one_cons (SliceR.one (H.own 3 rfl)) (one_cons (SliceR.one (H.own 4 rfl)) one_nil)) ?_
 intro w4 H
 refine WL.nil ?_
 refine W.ret ?_
 have hq : (GNet.mk ([0, 10000] : List Int) ([(GSight.mk 0 1 0 100 100), (GSight.mk 1000000 1 0 150 160)] : List GSight)) = r0 := Option.some.inj (show some (GNet.mk ([0, 10000] : List Int) ([(GSight.mk 0 1 0 100 100), (GSight.mk 1000000 1 0 150 160)] : List GSight)) = some r0 from hm)
 subst hq
 exact ends1 Try.results53 ⟨_, rfl, run_loadVar_agg ag25 rfl (H.cell 0 rfl)⟩ ⟨_, rfl, H.base, ⟨_, _, rfl, H.pick [3, 4] [ownI (α := Int) v1 3 ([0, 10000] : List Int), ownI (α := GSight) v2 39 ([(GSight.mk 0 1 0 100 100), (GSight.mk 1000000 1 0 150 160)] : List GSight)] rfl (by decide)⟩⟩

theorem c_sight_within {w0 : World} (a0 : Int) (a1 : Int) (a2 : Int) {r0 : Bool} (hm : sight_within a0 a1 a2 = some r0) :
  Calls Try.prog 55 #[(.int .i64 a0), (.int .i64 a1), (.int .i64 a2)] w0 (Ret w0 fun _ v => v = (.bool r0)) := by
 unfold sight_within at hm
 refine calls_of_W Try.func55 rfl Try.ntmps55 (Nat.le_of_ble_eq_true rfl) ?_
 have H := Inv.start (w := w0)
 refine W.seq ?_
 refine W.region ?_
 refine O.assign (v := (.bool false)) rfl rfl rfl ?_
 refine WL.nil ?_
 refine W.seq ?_
 refine W.region ?_
 refine O.move (v := (.int .i64 a0)) rfl rfl rfl ?_
 refine O.move (v := (.int .i64 a1)) rfl rfl rfl ?_
 refine O.geq rfl rfl rfl rfl ?_
 refine O.move (v := (.bool (decide (a1 ≤ a0)))) rfl rfl rfl ?_
 refine WL.cut 4 (fun f w => f 14 = .bool ((decide (a1 ≤ a0)) && (decide (a0 ≤ a2))) ∧ Inv w0 w []) ?_ ?_
 ·
  rcases bool_ft (decide (a1 ≤ a0)) with hc1 | hc1
  ·
   refine WL.reset (i := 10) (v := .bool false) (congrArg Value.bool hc1) ?_
   refine O.skip rfl rfl ?_
   refine O.skip rfl rfl ?_
   refine O.skip rfl rfl ?_
   refine O.pick_false (v := (.bool false)) rfl rfl rfl rfl ?_
   exact WL.nil ⟨congrArg Value.bool (and_f hc1), H⟩
  ·
   refine WL.reset (i := 10) (v := .bool true) (congrArg Value.bool hc1) ?_
   refine O.move (v := (.int .i64 a0)) rfl rfl rfl ?_
   refine O.move (v := (.int .i64 a2)) rfl rfl rfl ?_
   refine O.leq rfl rfl rfl rfl ?_
   refine O.pick_true (v := (.bool (decide (a0 ≤ a2)))) rfl rfl rfl rfl ?_
   exact WL.nil ⟨congrArg Value.bool (and_t hc1), H⟩
 ·
  rintro f w ⟨hf14, H⟩
  obtain ⟨u1, rfl⟩ := up1 hf14
  refine O.assign (v := (.bool ((decide (a1 ≤ a0)) && (decide (a0 ≤ a2))))) rfl rfl rfl ?_
  refine WL.nil ?_
  refine W.ret ?_
  have hq : ((decide (a1 ≤ a0)) && (decide (a0 ≤ a2))) = r0 := Option.some.inj (show some ((decide (a1 ≤ a0)) && (decide (a0 ≤ a2))) = some r0 from hm)
  subst hq
  exact ends1 Try.results55 rfl ⟨_, rfl, H.base, rfl⟩

theorem c_sight_Valid_c1 {w0 : World} (a0 : Int) {r0 : Bool} (hm : sight_Valid_c1 a0 = some r0) :
  Calls Try.prog 75 #[(.int .i64 a0)] w0 (Ret w0 fun _ v => v = (.bool r0)) := by
 unfold sight_Valid_c1 at hm
 refine calls_of_W Try.func75 rfl Try.ntmps75 (Nat.le_of_ble_eq_true rfl) ?_
 have H := Inv.start (w := w0)
 refine W.seq ?_
 refine W.region ?_
 refine O.assign (v := (.bool false)) rfl rfl rfl ?_
 refine WL.nil ?_
 refine W.seq ?_
 refine W.region ?_
 refine O.move (v := (.int .i64 a0)) rfl rfl rfl ?_
 obtain ⟨t1, hy1, hm⟩ := bind_some hm
 refine O.call Try.call55 rfl rfl rfl (c_sight_within _ _ _ hy1) ?_
 rintro _ w1 hb1 rfl
 have H := H.ext hb1
 refine O.not rfl rfl rfl ?_
 refine O.assign (v := (.bool (!t1))) rfl rfl rfl ?_
 refine WL.nil ?_
 refine W.ret ?_
 have hq : (!t1) = r0 := Option.some.inj (show some (!t1) = some r0 from hm)
 subst hq
 exact ends1 Try.results75 rfl ⟨_, rfl, H.base, rfl⟩

theorem c_slices_IndexFunc_int {w0 : World} (va0 : Value) (a0 : (List Int)) (ha0 : SliceR w0 va0 a0) (va1 : Value) (a1 : Int → Option (Bool)) (ha1 : ∀ (w : World), Below w0.heap.size w0 w → ∀ (x0 : Int) (y0 : Bool), a1 x0 = some y0 → CallsV Try.prog va1 #[(.int .i64 x0)] w (Ret w fun _ v => v = (.bool y0))) {r0 : Int} (hm : slices_IndexFunc_int a0 a1 = some r0) :
  Calls Try.prog 94 #[va0, va1] w0 (Ret w0 fun _ v => v = (.int .i64 r0)) := by
 unfold slices_IndexFunc_int at hm
 refine calls_of_W Try.func94 rfl Try.ntmps94 (Nat.le_of_ble_eq_true rfl) ?_
 have H := Inv.start (w := w0)
 refine W.seq ?_
 refine W.region ?_
 refine O.assign (v := (.int .i64 0)) rfl rfl rfl ?_
 refine WL.nil ?_
 refine W.seq ?_
 refine W.seq ?_
 refine W.region ?_
 refine O.move (v := va0) rfl rfl rfl ?_
 refine O.lenS Try.underlying22 (H.arg ha0) rfl rfl rfl ?_
 refine O.move (v := (.int .i64 0)) rfl rfl rfl ?_
 refine WL.nil ?_
 obtain ⟨o1, hm1, hm⟩ := bind_some hm
 refine W.via (fun f w => o1 = .next () ∧ Inv w0 w []) ?_ ?_
 ·
  refine W.block ?_
  have hbdik1 := (H.arg ha0).len_le
  refine W.rangeN (i := 0) hm1 (fun rem ik1 s f w => () = s ∧ (ik1 : Int) + rem = max 0 ((a0.length : Nat) : Int) ∧ f 8 = .int .i64 (ik1 : Int) ∧ f 7 = (.int .i64 ((a0.length : Nat) : Int)) ∧ f 0 = va0 ∧ f 1 = va1 ∧ Inv w0 w []) ?_ ?_ ?_
  ·
   exact ⟨rfl, rangeN_start, rfl, rfl, rfl, rfl, H⟩
  ·
   rintro k ik1 _ st f w ⟨rfl, hdropk1, hf8, hf7, hf0, hf1, H⟩ hm2
   have hltk1 := rangeN_lt hdropk1
   obtain ⟨u1, rfl⟩ := up4 hf8 hf7 hf0 hf1
   have hinck1 := addI_lt hltk1 hbdik1
   refine W.seq ?_
   refine W.region ?_
   refine O.lss rfl rfl rfl rfl ?_
   refine WL.nil ?_
   refine W.seq ?_
   refine W.cond_true (congrArg Value.bool (decide_eq_true hltk1)) ?_
   refine W.skip ?_
   refine W.seq ?_
   refine W.block ?_
   refine W.seq ?_
   refine W.region ?_
   refine O.move (v := (.int .i64 (ik1 : Int))) rfl rfl rfl ?_
   refine O.assign (v := (.int .i64 (ik1 : Int))) rfl rfl rfl ?_
   refine WL.nil ?_
   refine W.seq ?_
   refine W.region ?_
   refine O.move (v := va1) rfl rfl rfl ?_
   refine O.move (v := va0) rfl rfl rfl ?_
   refine O.move (v := (.int .i64 (ik1 : Int))) rfl rfl rfl ?_
   obtain ⟨x1, hx1, hm2⟩ := bind_some hm2
   obtain ⟨p1, hp1, hrp1⟩ := fix_indexAddr Try.underlying22 sz3 ha0 hx1
   refine hrp1 rfl rfl rfl rfl ?_
   refine O.load sc3 rfl rfl rfl ((hp1.mono H.base).flat 0 _ rfl) ?_
   obtain ⟨t1, hy1, hm2⟩ := bind_some hm2
   refine O.callV rfl rfl rfl rfl (ha1 _ H.base _ _ hy1) ?_
   rintro _ w1 hb1 rfl
   have H := H.ext hb1
   refine WL.nil ?_
   rcases ite_some hm2 with ⟨hc1, hm2⟩ | ⟨hc1, hm2⟩
   ·
    refine W.cond_true (congrArg Value.bool hc1) ?_
    refine W.seq ?_
    refine W.region ?_
    refine O.move (v := (.int .i64 (ik1 : Int))) rfl rfl rfl ?_
    refine O.assign (v := (.int .i64 (ik1 : Int))) rfl rfl rfl ?_
    refine WL.nil ?_
    refine W.ret ?_
    obtain rfl := Option.some.inj hm2
    refine ⟨_, rfl, ?_⟩
    rintro rfl
    have hq : (ik1 : Int) = r0 := Option.some.inj (show some (ik1 : Int) = some r0 from hm)
    subst hq
    exact ends1 Try.results94 rfl ⟨_, rfl, H.base, rfl⟩
   ·
    refine W.cond_false (congrArg Value.bool hc1) ?_
    refine W.skip ?_
    refine W.region ?_
    refine O.add rfl rfl rfl rfl hinck1 ?_
    refine O.move (v := .int .i64 ((ik1 : Int) + 1)) rfl rfl rfl ?_
    refine WL.nil ?_
    obtain rfl := Option.some.inj hm2
    exact ⟨_, rfl, rfl, rangeN_next hdropk1, rfl, rfl, rfl, rfl, H⟩
  ·
   rintro ik1 _ f w ⟨rfl, hdropk1, hf8, hf7, hf0, hf1, H⟩ hfin
   have hltk1 := rangeN_end hdropk1
   obtain ⟨u2, rfl⟩ := up4 hf8 hf7 hf0 hf1
   refine W.seq ?_
   refine W.region ?_
   refine O.lss rfl rfl rfl rfl ?_
   refine WL.nil ?_
   refine W.seq ?_
   refine W.cond_false (congrArg Value.bool (decide_eq_false hltk1)) ?_
   refine W.exit ?_
   obtain rfl : Ctl.next () = o1 := hfin
   refine xT rfl ?_
   exact ⟨rfl, H⟩
 ·
  rintro f w ⟨rfl, H⟩
  refine W.seq ?_
  refine W.region ?_
  refine O.assign (v := (.int .i64 (-1))) rfl rfl rfl ?_
  refine WL.nil ?_
  refine W.ret ?_
  have hq : (-1) = r0 := Option.some.inj (show some (-1) = some r0 from hm)
  subst hq
  exact ends1 Try.results94 rfl ⟨_, rfl, H.base, rfl⟩

theorem c_slices_ContainsFunc_int {w0 : World} (va0 : Value) (a0 : (List Int)) (ha0 : SliceR w0 va0 a0) (va1 : Value) (a1 : Int → Option (Bool)) (ha1 : ∀ (w : World), Below w0.heap.size w0 w → ∀ (x0 : Int) (y0 : Bool), a1 x0 = some y0 → CallsV Try.prog va1 #[(.int .i64 x0)] w (Ret w fun _ v => v = (.bool y0))) {r0 : Bool} (hm : slices_ContainsFunc_int a0 a1 = some r0) :
  Calls Try.prog 69 #[va0, va1] w0 (Ret w0 fun _ v => v = (.bool r0)) := by
 unfold slices_ContainsFunc_int at hm
 refine calls_of_W Try.func69 rfl Try.ntmps69 (Nat.le_of_ble_eq_true rfl) ?_
 have H := Inv.start (w := w0)
 refine W.seq ?_
 refine W.region ?_
 refine O.assign (v := (.bool false)) rfl rfl rfl ?_
 refine WL.nil ?_
 refine W.seq ?_
 refine W.region ?_
 refine O.move (v := va0) rfl rfl rfl ?_
 refine O.move (v := va1) rfl rfl rfl ?_
 obtain ⟨t1, hy1, hm⟩ := bind_some hm
 refine O.call Try.call94 rfl rfl rfl (c_slices_IndexFunc_int _ _ (H.arg ha0) va1 a1 (fun w hw => ha1 w (H.base.trans (hw.mono H.base.size))) hy1) ?_
 rintro _ w1 hb1 rfl
 have H := H.ext hb1
 refine O.geq rfl rfl rfl rfl ?_
 refine O.assign (v := (.bool (decide (0 ≤ t1)))) rfl rfl rfl ?_
 refine WL.nil ?_
 refine W.ret ?_
 have hq : (decide (0 ≤ t1)) = r0 := Option.some.inj (show some (decide (0 ≤ t1)) = some r0 from hm)
 subst hq
 exact ends1 Try.results69 rfl ⟨_, rfl, H.base, rfl⟩

set_option maxRecDepth 20000 in
theorem c_sight_validSight {w0 : World} (a0 : GSight) (a1 : Int) {r0 : Bool} (hm : sight_validSight a0 a1 = some r0) :
  Calls Try.prog 64 #[(.agg (Flat.cells a0).toArray), (.int .i64 a1)] w0 (Ret w0 fun _ v => v = (.bool r0)) := by
 unfold sight_validSight at hm
 refine calls_of_W Try.func64 rfl Try.ntmps64 (Nat.le_of_ble_eq_true rfl) ?_
 have H := Inv.start (w := w0)
 refine W.seq ?_
 refine W.region ?_
 refine O.box [(.int .i64 a0.At), (.int .i64 a0.A), (.int .i64 a0.B), (.int .i64 a0.Lo), (.int .i64 a0.Hi)] H rfl rfl rfl rfl ?_
 intro b1 w1 H hb1
 refine O.assign (v := (.bool false)) rfl rfl rfl ?_
 refine WL.nil ?_
 refine W.seq ?_
 refine W.region ?_
 refine O.fieldAddr fd39_0 rfl rfl rfl ?_
 refine O.load sc3 rfl rfl rfl (H.cell 0 rfl 0 _ rfl) ?_
 obtain ⟨t1, hy1, hm⟩ := bind_some hm
 refine O.call Try.call55 rfl rfl rfl (c_sight_within _ _ _ hy1) ?_
 rintro _ w2 hb2 rfl
 have H := H.ext hb2
 refine O.move (v := (.bool t1)) rfl rfl rfl ?_
 obtain ⟨b2, hm1, hm⟩ := bind_some hm
 refine WL.cut 6 (fun f w => f 1 = (.int .i64 a1) ∧ f 2 = (.pointer (some ⟨b1, 0, none⟩)) ∧ f 14 = .bool b2 ∧ Inv w0 w [boxI b1 39 [(.int .i64 a0.At), (.int .i64 a0.A), (.int .i64 a0.B), (.int .i64 a0.Lo), (.int .i64 a0.Hi)]]) ?_ ?_
 ·
  rcases ite_some hm1 with ⟨hc1, hm1⟩ | ⟨hc1, hm1⟩
  ·
   refine WL.reset (i := 8) (v := .bool true) (congrArg Value.bool hc1) ?_
   refine O.fieldAddr fd39_1 rfl rfl rfl ?_
   refine O.load sc3 rfl rfl rfl (H.cell 0 rfl 1 _ rfl) ?_
   refine O.move (v := (.int .i64 a1)) rfl rfl rfl ?_
   obtain ⟨t2, ht2, hm1⟩ := bind_some hm1
   refine O.sub rfl rfl rfl rfl ht2 ?_
   obtain ⟨t3, hy2, hm1⟩ := bind_some hm1
   refine O.call Try.call55 rfl rfl rfl (c_sight_within _ _ _ hy2) ?_
   rintro _ w3 hb3 rfl
   have H := H.ext hb3
   refine O.pick_true (v := (.bool t3)) rfl rfl rfl rfl ?_
   refine WL.nil ?_
   have hq : t3 = b2 := Option.some.inj (show some t3 = some b2 from hm1)
   subst hq
   exact ⟨rfl, rfl, rfl, H⟩
  ·
   refine WL.reset (i := 8) (v := .bool false) (congrArg Value.bool hc1) ?_
   refine O.skip rfl rfl ?_
   refine O.skip rfl rfl ?_
   refine O.skip rfl rfl ?_
   refine O.skip rfl rfl ?_
   refine O.skip rfl rfl ?_
   refine O.pick_false (v := (.bool false)) rfl rfl rfl rfl ?_
   refine WL.nil ?_
   have hq : false = b2 := Option.some.inj (show some false = some b2 from hm1)
   subst hq
   exact ⟨rfl, rfl, rfl, H⟩
 ·
  rintro f w ⟨hf1, hf2, hf14, H⟩
  obtain ⟨u1, rfl⟩ := up3 hf1 hf2 hf14
  refine O.move (v := (.bool b2)) rfl rfl rfl ?_
  obtain ⟨b3, hm2, hm⟩ := bind_some hm
  refine WL.cut 6 (fun f w => f 2 = (.pointer (some ⟨b1, 0, none⟩)) ∧ f 21 = .bool b3 ∧ Inv w0 w [boxI b1 39 [(.int .i64 a0.At), (.int .i64 a0.A), (.int .i64 a0.B), (.int .i64 a0.Lo), (.int .i64 a0.Hi)]]) ?_ ?_
  ·
   rcases ite_some hm2 with ⟨hc2, hm2⟩ | ⟨hc2, hm2⟩
   ·
    refine WL.reset (i := 15) (v := .bool true) (congrArg Value.bool hc2) ?_
    refine O.fieldAddr fd39_2 rfl rfl rfl ?_
    refine O.load sc3 rfl rfl rfl (H.cell 0 rfl 2 _ rfl) ?_
    refine O.move (v := (.int .i64 a1)) rfl rfl rfl ?_
    obtain ⟨t4, ht4, hm2⟩ := bind_some hm2
    refine O.sub rfl rfl rfl rfl ht4 ?_
    obtain ⟨t5, hy3, hm2⟩ := bind_some hm2
    refine O.call Try.call55 rfl rfl rfl (c_sight_within _ _ _ hy3) ?_
    rintro _ w4 hb4 rfl
    have H := H.ext hb4
    refine O.pick_true (v := (.bool t5)) rfl rfl rfl rfl ?_
    refine WL.nil ?_
    have hq : t5 = b3 := Option.some.inj (show some t5 = some b3 from hm2)
    subst hq
    exact ⟨rfl, rfl, H⟩
   ·
    refine WL.reset (i := 15) (v := .bool false) (congrArg Value.bool hc2) ?_
    refine O.skip rfl rfl ?_
    refine O.skip rfl rfl ?_
    refine O.skip rfl rfl ?_
    refine O.skip rfl rfl ?_
    refine O.skip rfl rfl ?_
    refine O.pick_false (v := (.bool false)) rfl rfl rfl rfl ?_
    refine WL.nil ?_
    have hq : false = b3 := Option.some.inj (show some false = some b3 from hm2)
    subst hq
    exact ⟨rfl, rfl, H⟩
  ·
   rintro f w ⟨hf2, hf21, H⟩
   obtain ⟨u2, rfl⟩ := up2 hf2 hf21
   refine O.move (v := (.bool b3)) rfl rfl rfl ?_
   refine WL.cut 6 (fun f w => f 2 = (.pointer (some ⟨b1, 0, none⟩)) ∧ f 28 = .bool (b3 && (a0.A != a0.B)) ∧ Inv w0 w [boxI b1 39 [(.int .i64 a0.At), (.int .i64 a0.A), (.int .i64 a0.B), (.int .i64 a0.Lo), (.int .i64 a0.Hi)]]) ?_ ?_
   ·
    rcases bool_ft b3 with hc3 | hc3
    ·
     refine WL.reset (i := 22) (v := .bool false) (congrArg Value.bool hc3) ?_
     refine O.skip rfl rfl ?_
     refine O.skip rfl rfl ?_
     refine O.skip rfl rfl ?_
     refine O.skip rfl rfl ?_
     refine O.skip rfl rfl ?_
     refine O.pick_false (v := (.bool false)) rfl rfl rfl rfl ?_
     exact WL.nil ⟨rfl, congrArg Value.bool (and_f hc3), H⟩
    ·
     refine WL.reset (i := 22) (v := .bool true) (congrArg Value.bool hc3) ?_
     refine O.fieldAddr fd39_1 rfl rfl rfl ?_
     refine O.load sc3 rfl rfl rfl (H.cell 0 rfl 1 _ rfl) ?_
     refine O.fieldAddr fd39_2 rfl rfl rfl ?_
     refine O.load sc3 rfl rfl rfl (H.cell 0 rfl 2 _ rfl) ?_
     refine O.neq rfl rfl rfl rfl ?_
     refine O.pick_true (v := (.bool (a0.A != a0.B))) rfl rfl rfl rfl ?_
     exact WL.nil ⟨rfl, congrArg Value.bool (and_t hc3), H⟩
   ·
    rintro f w ⟨hf2, hf28, H⟩
    obtain ⟨u3, rfl⟩ := up2 hf2 hf28
    refine O.move (v := (.bool (b3 && (a0.A != a0.B)))) rfl rfl rfl ?_
    obtain ⟨b4, hm3, hm⟩ := bind_some hm
    refine WL.cut 6 (fun f w => f 2 = (.pointer (some ⟨b1, 0, none⟩)) ∧ f 35 = .bool b4 ∧ Inv w0 w [boxI b1 39 [(.int .i64 a0.At), (.int .i64 a0.A), (.int .i64 a0.B), (.int .i64 a0.Lo), (.int .i64 a0.Hi)]]) ?_ ?_
    ·
     rcases ite_some hm3 with ⟨hc4, hm3⟩ | ⟨hc4, hm3⟩
     ·
      refine WL.reset (i := 29) (v := .bool true) (congrArg Value.bool hc4) ?_
      refine O.fieldAddr fd39_3 rfl rfl rfl ?_
      refine O.load sc3 rfl rfl rfl (H.cell 0 rfl 3 _ rfl) ?_
      refine O.fieldAddr fd39_4 rfl rfl rfl ?_
      refine O.load sc3 rfl rfl rfl (H.cell 0 rfl 4 _ rfl) ?_
      obtain ⟨t6, hy4, hm3⟩ := bind_some hm3
      refine O.call Try.call55 rfl rfl rfl (c_sight_within _ _ _ hy4) ?_
      rintro _ w5 hb5 rfl
      have H := H.ext hb5
      refine O.pick_true (v := (.bool t6)) rfl rfl rfl rfl ?_
      refine WL.nil ?_
      have hq : t6 = b4 := Option.some.inj (show some t6 = some b4 from hm3)
      subst hq
      exact ⟨rfl, rfl, H⟩
     ·
      refine WL.reset (i := 29) (v := .bool false) (congrArg Value.bool hc4) ?_
      refine O.skip rfl rfl ?_
      refine O.skip rfl rfl ?_
      refine O.skip rfl rfl ?_
      refine O.skip rfl rfl ?_
      refine O.skip rfl rfl ?_
      refine O.pick_false (v := (.bool false)) rfl rfl rfl rfl ?_
      refine WL.nil ?_
      have hq : false = b4 := Option.some.inj (show some false = some b4 from hm3)
      subst hq
      exact ⟨rfl, rfl, H⟩
    ·
     rintro f w ⟨hf2, hf35, H⟩
     obtain ⟨u4, rfl⟩ := up2 hf2 hf35
     refine O.move (v := (.bool b4)) rfl rfl rfl ?_
     refine WL.cut 4 (fun f w => f 40 = .bool (b4 && (decide (a0.Hi ≤ 86400000))) ∧ Inv w0 w [boxI b1 39 [(.int .i64 a0.At), (.int .i64 a0.A), (.int .i64 a0.B), (.int .i64 a0.Lo), (.int .i64 a0.Hi)]]) ?_ ?_
     ·
      rcases bool_ft b4 with hc5 | hc5
      ·
       refine WL.reset (i := 36) (v := .bool false) (congrArg Value.bool hc5) ?_
       refine O.skip rfl rfl ?_
       refine O.skip rfl rfl ?_
       refine O.skip rfl rfl ?_
       refine O.pick_false (v := (.bool false)) rfl rfl rfl rfl ?_
       exact WL.nil ⟨congrArg Value.bool (and_f hc5), H⟩
      ·
       refine WL.reset (i := 36) (v := .bool true) (congrArg Value.bool hc5) ?_
       refine O.fieldAddr fd39_4 rfl rfl rfl ?_
       refine O.load sc3 rfl rfl rfl (H.cell 0 rfl 4 _ rfl) ?_
       refine O.leq rfl rfl rfl rfl ?_
       refine O.pick_true (v := (.bool (decide (a0.Hi ≤ 86400000)))) rfl rfl rfl rfl ?_
       exact WL.nil ⟨congrArg Value.bool (and_t hc5), H⟩
     ·
      rintro f w ⟨hf40, H⟩
      obtain ⟨u5, rfl⟩ := up1 hf40
      refine O.assign (v := (.bool (b4 && (decide (a0.Hi ≤ 86400000))))) rfl rfl rfl ?_
      refine WL.nil ?_
      refine W.ret ?_
      have hq : (b4 && (decide (a0.Hi ≤ 86400000))) = r0 := Option.some.inj (show some (b4 && (decide (a0.Hi ≤ 86400000))) = some r0 from hm)
      subst hq
      exact ends1 Try.results64 rfl ⟨_, rfl, H.base, rfl⟩

theorem c_sight_Valid_c2 {w0 : World} (a0 : GSight) (pc0 : Addr) (c0 : Int) (hc0 : ∀ j c, (Flat.cells c0)[j]? = some c → w0.cell? (pc0.add j) = some c) {r0 : Bool} (hm : sight_Valid_c2 a0 c0 = some r0) :
  Calls Try.prog 77 #[(.agg (Flat.cells a0).toArray), (.pointer (some pc0))] w0 (Ret w0 fun _ v => v = (.bool r0)) := by
 unfold sight_Valid_c2 at hm
 refine calls_of_W Try.func77 rfl Try.ntmps77 (Nat.le_of_ble_eq_true rfl) ?_
 have H := Inv.start (w := w0)
 refine W.seq ?_
 refine W.region ?_
 refine O.box [(.int .i64 a0.At), (.int .i64 a0.A), (.int .i64 a0.B), (.int .i64 a0.Lo), (.int .i64 a0.Hi)] H rfl rfl rfl rfl ?_
 intro b1 w1 H hb1
 refine O.assign (v := (.bool false)) rfl rfl rfl ?_
 refine WL.nil ?_
 refine W.seq ?_
 refine W.region ?_
 refine O.loadA [(.int .i64 a0.At), (.int .i64 a0.A), (.int .i64 a0.B), (.int .i64 a0.Lo), (.int .i64 a0.Hi)] ag39 rfl rfl rfl rfl (H.cell 0 rfl) ?_
 refine O.load sc3 rfl rfl rfl (cells_mono hc0 H.base 0 _ rfl) ?_
 obtain ⟨t1, hy1, hm⟩ := bind_some hm
 refine O.call Try.call64 rfl rfl rfl (c_sight_validSight a0 _ hy1) ?_
 rintro _ w2 hb2 rfl
 have H := H.ext hb2
 refine O.not rfl rfl rfl ?_
 refine O.assign (v := (.bool (!t1))) rfl rfl rfl ?_
 refine WL.nil ?_
 refine W.ret ?_
 have hq : (!t1) = r0 := Option.some.inj (show some (!t1) = some r0 from hm)
 subst hq
 exact ends1 Try.results77 rfl ⟨_, rfl, H.base, rfl⟩

theorem c_slices_IndexFunc_Sight {w0 : World} (va0 : Value) (a0 : (List GSight)) (ha0 : SliceR w0 va0 a0) (va1 : Value) (a1 : GSight → Option (Bool)) (ha1 : ∀ (w : World), Below w0.heap.size w0 w → ∀ (x0 : GSight) (y0 : Bool), a1 x0 = some y0 → CallsV Try.prog va1 #[(.agg (Flat.cells x0).toArray)] w (Ret w fun _ v => v = (.bool y0))) {r0 : Int} (hm : slices_IndexFunc_Sight a0 a1 = some r0) :
  Calls Try.prog 95 #[va0, va1] w0 (Ret w0 fun _ v => v = (.int .i64 r0)) := by
 unfold slices_IndexFunc_Sight at hm
 refine calls_of_W Try.func95 rfl Try.ntmps95 (Nat.le_of_ble_eq_true rfl) ?_
 have H := Inv.start (w := w0)
 refine W.seq ?_
 refine W.region ?_
 refine O.assign (v := (.int .i64 0)) rfl rfl rfl ?_
 refine WL.nil ?_
 refine W.seq ?_
 refine W.seq ?_
 refine W.region ?_
 refine O.move (v := va0) rfl rfl rfl ?_
 refine O.lenS Try.underlying23 (H.arg ha0) rfl rfl rfl ?_
 refine O.move (v := (.int .i64 0)) rfl rfl rfl ?_
 refine WL.nil ?_
 obtain ⟨o1, hm1, hm⟩ := bind_some hm
 refine W.via (fun f w => o1 = .next () ∧ Inv w0 w []) ?_ ?_
 ·
  refine W.block ?_
  have hbdik1 := (H.arg ha0).len_le
  refine W.rangeN (i := 0) hm1 (fun rem ik1 s f w => () = s ∧ (ik1 : Int) + rem = max 0 ((a0.length : Nat) : Int) ∧ f 8 = .int .i64 (ik1 : Int) ∧ f 7 = (.int .i64 ((a0.length : Nat) : Int)) ∧ f 0 = va0 ∧ f 1 = va1 ∧ Inv w0 w []) ?_ ?_ ?_
  ·
   exact ⟨rfl, rangeN_start, rfl, rfl, rfl, rfl, H⟩
  ·
   rintro k ik1 _ st f w ⟨rfl, hdropk1, hf8, hf7, hf0, hf1, H⟩ hm2
   have hltk1 := rangeN_lt hdropk1
   obtain ⟨u1, rfl⟩ := up4 hf8 hf7 hf0 hf1
   have hinck1 := addI_lt hltk1 hbdik1
   refine W.seq ?_
   refine W.region ?_
   refine O.lss rfl rfl rfl rfl ?_
   refine WL.nil ?_
   refine W.seq ?_
   refine W.cond_true (congrArg Value.bool (decide_eq_true hltk1)) ?_
   refine W.skip ?_
   refine W.seq ?_
   refine W.block ?_
   refine W.seq ?_
   refine W.region ?_
   refine O.move (v := (.int .i64 (ik1 : Int))) rfl rfl rfl ?_
   refine O.assign (v := (.int .i64 (ik1 : Int))) rfl rfl rfl ?_
   refine WL.nil ?_
   refine W.seq ?_
   refine W.region ?_
   refine O.move (v := va1) rfl rfl rfl ?_
   refine O.move (v := va0) rfl rfl rfl ?_
   refine O.move (v := (.int .i64 (ik1 : Int))) rfl rfl rfl ?_
   obtain ⟨x1, hx1, hm2⟩ := bind_some hm2
   obtain ⟨p1, hp1, hrp1⟩ := fix_indexAddr Try.underlying23 sz39 ha0 hx1
   refine hrp1 rfl rfl rfl rfl ?_
   refine O.loadA [(.int .i64 x1.At), (.int .i64 x1.A), (.int .i64 x1.B), (.int .i64 x1.Lo), (.int .i64 x1.Hi)] ag39 rfl rfl rfl rfl ((hp1.mono H.base).flat) ?_
   obtain ⟨t1, hy1, hm2⟩ := bind_some hm2
   refine O.callV rfl rfl rfl rfl (ha1 _ H.base x1 _ hy1) ?_
   rintro _ w1 hb1 rfl
   have H := H.ext hb1
   refine WL.nil ?_
   rcases ite_some hm2 with ⟨hc1, hm2⟩ | ⟨hc1, hm2⟩
   ·
    refine W.cond_true (congrArg Value.bool hc1) ?_
    refine W.seq ?_
    refine W.region ?_
    refine O.move (v := (.int .i64 (ik1 : Int))) rfl rfl rfl ?_
    refine O.assign (v := (.int .i64 (ik1 : Int))) rfl rfl rfl ?_
    refine WL.nil ?_
    refine W.ret ?_
    obtain rfl := Option.some.inj hm2
    refine ⟨_, rfl, ?_⟩
    rintro rfl
    have hq : (ik1 : Int) = r0 := Option.some.inj (show some (ik1 : Int) = some r0 from hm)
    subst hq
    exact ends1 Try.results95 rfl ⟨_, rfl, H.base, rfl⟩
   ·
    refine W.cond_false (congrArg Value.bool hc1) ?_
    refine W.skip ?_
    refine W.region ?_
    refine O.add rfl rfl rfl rfl hinck1 ?_
    refine O.move (v := .int .i64 ((ik1 : Int) + 1)) rfl rfl rfl ?_
    refine WL.nil ?_
    obtain rfl := Option.some.inj hm2
    exact ⟨_, rfl, rfl, rangeN_next hdropk1, rfl, rfl, rfl, rfl, H⟩
  ·
   rintro ik1 _ f w ⟨rfl, hdropk1, hf8, hf7, hf0, hf1, H⟩ hfin
   have hltk1 := rangeN_end hdropk1
   obtain ⟨u2, rfl⟩ := up4 hf8 hf7 hf0 hf1
   refine W.seq ?_
   refine W.region ?_
   refine O.lss rfl rfl rfl rfl ?_
   refine WL.nil ?_
   refine W.seq ?_
   refine W.cond_false (congrArg Value.bool (decide_eq_false hltk1)) ?_
   refine W.exit ?_
   obtain rfl : Ctl.next () = o1 := hfin
   refine xT rfl ?_
   exact ⟨rfl, H⟩
 ·
  rintro f w ⟨rfl, H⟩
  refine W.seq ?_
  refine W.region ?_
  refine O.assign (v := (.int .i64 (-1))) rfl rfl rfl ?_
  refine WL.nil ?_
  refine W.ret ?_
  have hq : (-1) = r0 := Option.some.inj (show some (-1) = some r0 from hm)
  subst hq
  exact ends1 Try.results95 rfl ⟨_, rfl, H.base, rfl⟩

theorem c_slices_ContainsFunc_Sight {w0 : World} (va0 : Value) (a0 : (List GSight)) (ha0 : SliceR w0 va0 a0) (va1 : Value) (a1 : GSight → Option (Bool)) (ha1 : ∀ (w : World), Below w0.heap.size w0 w → ∀ (x0 : GSight) (y0 : Bool), a1 x0 = some y0 → CallsV Try.prog va1 #[(.agg (Flat.cells x0).toArray)] w (Ret w fun _ v => v = (.bool y0))) {r0 : Bool} (hm : slices_ContainsFunc_Sight a0 a1 = some r0) :
  Calls Try.prog 76 #[va0, va1] w0 (Ret w0 fun _ v => v = (.bool r0)) := by
 unfold slices_ContainsFunc_Sight at hm
 refine calls_of_W Try.func76 rfl Try.ntmps76 (Nat.le_of_ble_eq_true rfl) ?_
 have H := Inv.start (w := w0)
 refine W.seq ?_
 refine W.region ?_
 refine O.assign (v := (.bool false)) rfl rfl rfl ?_
 refine WL.nil ?_
 refine W.seq ?_
 refine W.region ?_
 refine O.move (v := va0) rfl rfl rfl ?_
 refine O.move (v := va1) rfl rfl rfl ?_
 obtain ⟨t1, hy1, hm⟩ := bind_some hm
 refine O.call Try.call95 rfl rfl rfl (c_slices_IndexFunc_Sight _ _ (H.arg ha0) va1 a1 (fun w hw => ha1 w (H.base.trans (hw.mono H.base.size))) hy1) ?_
 rintro _ w1 hb1 rfl
 have H := H.ext hb1
 refine O.geq rfl rfl rfl rfl ?_
 refine O.assign (v := (.bool (decide (0 ≤ t1)))) rfl rfl rfl ?_
 refine WL.nil ?_
 refine W.ret ?_
 have hq : (decide (0 ≤ t1)) = r0 := Option.some.inj (show some (decide (0 ≤ t1)) = some r0 from hm)
 subst hq
 exact ends1 Try.results76 rfl ⟨_, rfl, H.base, rfl⟩

set_option maxRecDepth 20000 in
theorem c_sight_Valid {w0 : World} (va0_0 : Value) (va0_1 : Value) (a0 : GNet) (ha0_0 : SliceR w0 va0_0 a0.Rates) (ha0_1 : SliceR w0 va0_1 a0.Sights) {r0 : Bool} (hm : sight_Valid a0 = some r0) :
  Calls Try.prog 33 #[(.agg #[va0_0, va0_1])] w0 (Ret w0 fun _ v => v = (.bool r0)) := by
 unfold sight_Valid at hm
 refine calls_of_W Try.func33 rfl Try.ntmps33 (Nat.le_of_ble_eq_true rfl) ?_
 have H := Inv.start (w := w0)
 refine W.seq ?_
 refine W.region ?_
 refine O.box [va0_0, va0_1] H rfl rfl rfl rfl ?_
 intro b1 w1 H hb1
 refine O.assign (v := (.bool false)) rfl rfl rfl ?_
 refine WL.nil ?_
 refine W.seq ?_
 refine W.region ?_
 refine O.fieldAddr fd25_0 rfl rfl rfl ?_
 refine O.load sc22 rfl rfl rfl (H.cell 0 rfl 0 _ rfl) ?_
 refine O.lenS Try.underlying22 (H.arg ha0_0) rfl rfl rfl ?_
 refine O.alloc [(.int .i64 0)] ze3 H rfl rfl rfl ?_
 intro b2 w2 H hb2
 refine O.store 1 0 [(.int .i64 ((a0.Rates.length : Nat) : Int))] [(.int .i64 ((a0.Rates.length : Nat) : Int))] sz3 H rfl rfl rfl rfl rfl rfl ⟨⟨rfl, rfl⟩, rfl⟩ (one_cons rfl one_nil) ?_
 intro w3 H
 refine WL.nil ?_
 refine W.seq ?_
 refine W.region ?_
 refine O.assign (v := (.func (.func 75) #[] #[])) rfl rfl rfl ?_
 refine WL.nil ?_
 refine W.seq ?_
 refine W.seq ?_
 refine W.region ?_
 refine O.load sc3 rfl rfl rfl (H.cell 1 rfl 0 _ rfl) ?_
 obtain ⟨t1, hy1, hm⟩ := bind_some hm
 refine O.call Try.call55 rfl rfl rfl (c_sight_within _ _ _ hy1) ?_
 rintro _ w4 hb3 rfl
 have H := H.ext hb3
 refine O.not rfl rfl rfl ?_
 refine O.move (v := (.bool (!t1))) rfl rfl rfl ?_
 obtain ⟨b3, hm1, hm⟩ := bind_some hm
 refine WL.cut 6 (fun f w => f 1 = (.pointer (some ⟨b1, 0, none⟩)) ∧ f 3 = (.pointer (some ⟨b2, 0, none⟩)) ∧ f 4 = (.func (.func 75) #[] #[]) ∧ f 17 = .bool b3 ∧ Inv w0 w [boxI b1 25 [va0_0, va0_1], boxI b2 3 [(.int .i64 ((a0.Rates.length : Nat) : Int))]]) ?_ ?_
 ·
  rcases ite_some hm1 with ⟨hc1, hm1⟩ | ⟨hc1, hm1⟩
  ·
   refine WL.reset (i := 11) (v := .bool true) (congrArg Value.bool hc1) ?_
   refine O.skip rfl rfl ?_
   refine O.skip rfl rfl ?_
   refine O.skip rfl rfl ?_
   refine O.skip rfl rfl ?_
   refine O.skip rfl rfl ?_
   refine O.pick_true (v := (.bool true)) rfl rfl rfl rfl ?_
   refine WL.nil ?_
   have hq : true = b3 := Option.some.inj (show some true = some b3 from hm1)
   subst hq
   exact ⟨rfl, rfl, rfl, rfl, H⟩
  ·
   refine WL.reset (i := 11) (v := .bool false) (congrArg Value.bool hc1) ?_
   refine O.fieldAddr fd25_0 rfl rfl rfl ?_
   refine O.load sc22 rfl rfl rfl (H.cell 0 rfl 0 _ rfl) ?_
   obtain ⟨x1, hx1, hm1⟩ := bind_some hm1
   obtain ⟨p1, hp1, hrp1⟩ := fix_indexAddr Try.underlying22 sz3 ha0_0 hx1
   refine hrp1 rfl rfl rfl rfl ?_
   refine O.load sc3 rfl rfl rfl ((hp1.mono H.base).flat 0 _ rfl) ?_
   refine O.neq rfl rfl rfl rfl ?_
   refine O.pick_false (v := (.bool (x1 != 0))) rfl rfl rfl rfl ?_
   refine WL.nil ?_
   have hq : (x1 != 0) = b3 := Option.some.inj (show some (x1 != 0) = some b3 from hm1)
   subst hq
   exact ⟨rfl, rfl, rfl, rfl, H⟩
 ·
  rintro f w ⟨hf1, hf3, hf4, hf17, H⟩
  obtain ⟨u1, rfl⟩ := up4 hf1 hf3 hf4 hf17
  refine O.move (v := (.bool b3)) rfl rfl rfl ?_
  obtain ⟨b4, hm2, hm⟩ := bind_some hm
  refine WL.cut 5 (fun f w => f 1 = (.pointer (some ⟨b1, 0, none⟩)) ∧ f 3 = (.pointer (some ⟨b2, 0, none⟩)) ∧ f 23 = .bool b4 ∧ Inv w0 w [boxI b1 25 [va0_0, va0_1], boxI b2 3 [(.int .i64 ((a0.Rates.length : Nat) : Int))]]) ?_ ?_
  ·
   rcases ite_some hm2 with ⟨hc2, hm2⟩ | ⟨hc2, hm2⟩
   ·
    refine WL.reset (i := 18) (v := .bool true) (congrArg Value.bool hc2) ?_
    refine O.skip rfl rfl ?_
    refine O.skip rfl rfl ?_
    refine O.skip rfl rfl ?_
    refine O.skip rfl rfl ?_
    refine O.pick_true (v := (.bool true)) rfl rfl rfl rfl ?_
    refine WL.nil ?_
    have hq : true = b4 := Option.some.inj (show some true = some b4 from hm2)
    subst hq
    exact ⟨rfl, rfl, rfl, H⟩
   ·
    refine WL.reset (i := 18) (v := .bool false) (congrArg Value.bool hc2) ?_
    refine O.fieldAddr fd25_0 rfl rfl rfl ?_
    refine O.load sc22 rfl rfl rfl (H.cell 0 rfl 0 _ rfl) ?_
    refine O.move (v := (.func (.func 75) #[] #[])) rfl rfl rfl ?_
    obtain ⟨t2, hy2, hm2⟩ := bind_some hm2
    refine O.call Try.call69 rfl rfl rfl (c_slices_ContainsFunc_int _ _ (H.arg ha0_0) _ (fun x0 => sight_Valid_c1 x0) (fun w hw x0 _ hy => callsV_mk Try.call75 (c_sight_Valid_c1 x0 hy)) hy2) ?_
    rintro _ w5 hb4 rfl
    have H := H.ext hb4
    refine O.pick_false (v := (.bool t2)) rfl rfl rfl rfl ?_
    refine WL.nil ?_
    have hq : t2 = b4 := Option.some.inj (show some t2 = some b4 from hm2)
    subst hq
    exact ⟨rfl, rfl, rfl, H⟩
  ·
   rintro f w ⟨hf1, hf3, hf23, H⟩
   obtain ⟨u2, rfl⟩ := up3 hf1 hf3 hf23
   refine WL.nil ?_
   rcases ite_some hm with ⟨hc3, hm⟩ | ⟨hc3, hm⟩
   ·
    refine W.cond_true (congrArg Value.bool hc3) ?_
    refine W.seq ?_
    refine W.region ?_
    refine O.assign (v := (.bool false)) rfl rfl rfl ?_
    refine WL.nil ?_
    refine W.ret ?_
    have hq : false = r0 := Option.some.inj (show some false = some r0 from hm)
    subst hq
    exact ends1 Try.results33 rfl ⟨_, rfl, H.base, rfl⟩
   ·
    refine W.cond_false (congrArg Value.bool hc3) ?_
    refine W.skip ?_
    refine W.seq ?_
    refine W.region ?_
    refine O.fieldAddr fd25_1 rfl rfl rfl ?_
    refine O.load sc23 rfl rfl rfl (H.cell 0 rfl 1 _ rfl) ?_
    refine O.lenS Try.underlying23 (H.arg ha0_1) rfl rfl rfl ?_
    refine O.leq rfl rfl rfl rfl ?_
    refine O.move (v := (.bool (decide (((a0.Sights.length : Nat) : Int) ≤ 30)))) rfl rfl rfl ?_
    obtain ⟨b5, hm3, hm⟩ := bind_some hm
    refine WL.cut 6 (fun f w => f 34 = .bool b5 ∧ Inv w0 w [boxI b1 25 [va0_0, va0_1], boxI b2 3 [(.int .i64 ((a0.Rates.length : Nat) : Int))]]) ?_ ?_
    ·
     rcases ite_some hm3 with ⟨hc4, hm3⟩ | ⟨hc4, hm3⟩
     ·
      refine WL.reset (i := 28) (v := .bool true) (congrArg Value.bool hc4) ?_
      refine O.fieldAddr fd25_1 rfl rfl rfl ?_
      refine O.load sc23 rfl rfl rfl (H.cell 0 rfl 1 _ rfl) ?_
      refine O.makeFunc rfl rfl rfl rfl ?_
      obtain ⟨t3, hy3, hm3⟩ := bind_some hm3
      refine O.call Try.call76 rfl rfl rfl (c_slices_ContainsFunc_Sight _ _ (H.arg ha0_1) _ (fun x0 => sight_Valid_c2 x0 ((a0.Rates.length : Nat) : Int)) (fun w hw x0 _ hy => callsV_mk Try.call77 (c_sight_Valid_c2 x0 _ ((a0.Rates.length : Nat) : Int) (cells_mono (H.cell 1 rfl) hw) hy)) hy3) ?_
      rintro _ w6 hb5 rfl
      have H := H.ext hb5
      refine O.not rfl rfl rfl ?_
      refine O.pick_true (v := (.bool (!t3))) rfl rfl rfl rfl ?_
      refine WL.nil ?_
      have hq : (!t3) = b5 := Option.some.inj (show some (!t3) = some b5 from hm3)
      subst hq
      exact ⟨rfl, H⟩
     ·
      refine WL.reset (i := 28) (v := .bool false) (congrArg Value.bool hc4) ?_
      refine O.skip rfl rfl ?_
      refine O.skip rfl rfl ?_
      refine O.skip rfl rfl ?_
      refine O.skip rfl rfl ?_
      refine O.skip rfl rfl ?_
      refine O.pick_false (v := (.bool false)) rfl rfl rfl rfl ?_
      refine WL.nil ?_
      have hq : false = b5 := Option.some.inj (show some false = some b5 from hm3)
      subst hq
      exact ⟨rfl, H⟩
    ·
     rintro f w ⟨hf34, H⟩
     obtain ⟨u3, rfl⟩ := up1 hf34
     refine O.assign (v := (.bool b5)) rfl rfl rfl ?_
     refine WL.nil ?_
     refine W.ret ?_
     have hq : b5 = r0 := Option.some.inj (show some b5 = some r0 from hm)
     subst hq
     exact ends1 Try.results33 rfl ⟨_, rfl, H.base, rfl⟩

theorem c_sight_Consistent {w0 : World} (va0_0 : Value) (va0_1 : Value) (a0 : GNet) (ha0_0 : SliceR w0 va0_0 a0.Rates) (ha0_1 : SliceR w0 va0_1 a0.Sights) {r0 : Bool} {r1 : Int} (hm : sight_Consistent a0 = some (r0, r1)) :
  Calls Try.prog 20 #[(.agg #[va0_0, va0_1])] w0 (Ret w0 fun _ v => v = .tuple #[(.bool r0), (.int .i64 r1)]) := by
 unfold sight_Consistent at hm
 refine calls_of_W Try.func20 rfl Try.ntmps20 (Nat.le_of_ble_eq_true rfl) ?_
 have H := Inv.start (w := w0)
 refine W.seq ?_
 refine W.region ?_
 refine O.box [va0_0, va0_1] H rfl rfl rfl rfl ?_
 intro b1 w1 H hb1
 refine O.assign (v := (.bool false)) rfl rfl rfl ?_
 refine O.assign (v := (.int .i64 0)) rfl rfl rfl ?_
 refine WL.nil ?_
 refine W.seq ?_
 refine W.seq ?_
 refine W.region ?_
 refine O.loadA [va0_0, va0_1] ag25 rfl rfl rfl rfl (H.cell 0 rfl) ?_
 obtain ⟨t1, hy1, hm⟩ := bind_some hm
 refine O.call Try.call33 rfl rfl rfl (c_sight_Valid _ _ (GNet.mk a0.Rates a0.Sights) (H.arg ha0_0) (H.arg ha0_1) hy1) ?_
 rintro _ w2 hb2 rfl
 have H := H.ext hb2
 refine O.not rfl rfl rfl ?_
 refine WL.nil ?_
 rcases ite_some hm with ⟨hc1, hm⟩ | ⟨hc1, hm⟩
 ·
  refine W.cond_true (congrArg Value.bool hc1) ?_
  refine W.seq ?_
  refine W.region ?_
  refine O.assign (v := (.bool false)) rfl rfl rfl ?_
  refine O.assign (v := (.int .i64 1)) rfl rfl rfl ?_
  refine WL.nil ?_
  refine W.ret ?_
  have hq : (false, 1) = (r0, r1) := Option.some.inj (show some (false, 1) = some (r0, r1) from hm)
  obtain ⟨he0, hq0⟩ := Prod.mk.inj hq; clear hq; subst he0
  subst hq0
  exact ends2 Try.results20 rfl rfl ⟨_, rfl, H.base, rfl⟩
 ·
  refine W.cond_false (congrArg Value.bool hc1) ?_
  refine W.skip ?_
  refine W.seq ?_
  refine W.region ?_
  refine O.loadA [va0_0, va0_1] ag25 rfl rfl rfl rfl (H.cell 0 rfl) ?_
  obtain ⟨⟨t2, t3⟩, hy2, hm⟩ := bind_some hm
  refine O.call Try.call56 rfl rfl rfl (c_sight_graphOf _ _ (GNet.mk a0.Rates a0.Sights) (H.arg ha0_0) (H.arg ha0_1) _ _ (SliceR.nil (α := GPoint)) hy2) ?_
  rintro _ w3 hb3 ⟨b2, m1, v1, sg1, rfl, hq1, hM1⟩
  have H := H.addAll hb3 hM1
  obtain ⟨⟨t4, t5⟩, hy3, hm⟩ := bind_some hm
  refine O.call Try.call57 rfl rfl rfl (c_sight_graph_circle _ _ _ t2 sg1 (H.cell 1 rfl) (H.map 2 rfl) (H.own 3 rfl) (circle_perm hq1 hy3)) ?_
  rintro v2 w4 hb4 ⟨ho1, hq2⟩
  have H := H.addOwn hb4 ho1
  refine O.eqlNilB Try.underlying22 hq2 rfl rfl rfl rfl ?_
  refine O.assign (v := (.bool t4)) rfl rfl rfl ?_
  refine O.assign (v := (.int .i64 0)) rfl rfl rfl ?_
  refine WL.nil ?_
  refine W.ret ?_
  have hq : (t4, 0) = (r0, r1) := Option.some.inj (show some (t4, 0) = some (r0, r1) from hm)
  obtain ⟨he0, hq0⟩ := Prod.mk.inj hq; clear hq; subst he0
  subst hq0
  exact ends2 Try.results20 rfl rfl ⟨_, rfl, H.base, rfl⟩

theorem c_sight_clock_c1 {w0 : World} (a0 : Int) (pc0 : Addr) (vc0_0 : Value) (vc0_1 : Value) (c0 : GNet) (hc0 : ∀ j c, ([vc0_0, vc0_1] : List Value)[j]? = some c → w0.cell? (pc0.add j) = some c) (rc0_0 : SliceR w0 vc0_0 c0.Rates) (rc0_1 : SliceR w0 vc0_1 c0.Sights) {r0 : Bool} (hm : sight_clock_c1 a0 c0 = some r0) :
  Calls Try.prog 85 #[(.int .i64 a0), (.pointer (some pc0))] w0 (Ret w0 fun _ v => v = (.bool r0)) := by
 unfold sight_clock_c1 at hm
 refine calls_of_W Try.func85 rfl Try.ntmps85 (Nat.le_of_ble_eq_true rfl) ?_
 have H := Inv.start (w := w0)
 refine W.seq ?_
 refine W.region ?_
 refine O.assign (v := (.bool false)) rfl rfl rfl ?_
 refine WL.nil ?_
 refine W.seq ?_
 refine W.region ?_
 refine O.move (v := (.int .i64 a0)) rfl rfl rfl ?_
 refine O.fieldAddr fd25_0 rfl rfl rfl ?_
 refine O.load sc22 rfl rfl rfl (cells_mono hc0 H.base 0 _ rfl) ?_
 refine O.lenS Try.underlying22 (H.arg rc0_0) rfl rfl rfl ?_
 obtain ⟨t1, ht1, hm⟩ := bind_some hm
 refine O.sub rfl rfl rfl rfl ht1 ?_
 obtain ⟨t2, hy1, hm⟩ := bind_some hm
 refine O.call Try.call55 rfl rfl rfl (c_sight_within _ _ _ hy1) ?_
 rintro _ w1 hb1 rfl
 have H := H.ext hb1
 refine O.not rfl rfl rfl ?_
 refine O.assign (v := (.bool (!t2))) rfl rfl rfl ?_
 refine WL.nil ?_
 refine W.ret ?_
 have hq : (!t2) = r0 := Option.some.inj (show some (!t2) = some r0 from hm)
 subst hq
 exact ends1 Try.results85 rfl ⟨_, rfl, H.base, rfl⟩

theorem c_sight_clock {w0 : World} (va0_0 : Value) (va0_1 : Value) (a0 : GNet) (ha0_0 : SliceR w0 va0_0 a0.Rates) (ha0_1 : SliceR w0 va0_1 a0.Sights) (va1 : Value) (a1 : (List Int)) (ha1 : SliceR w0 va1 a1) {r0 : Int} (hm : sight_clock a0 a1 = some r0) :
  Calls Try.prog 54 #[(.agg #[va0_0, va0_1]), va1] w0 (Ret w0 fun _ v => v = (.int .i64 r0)) := by
 unfold sight_clock at hm
 refine calls_of_W Try.func54 rfl Try.ntmps54 (Nat.le_of_ble_eq_true rfl) ?_
 have H := Inv.start (w := w0)
 refine W.seq ?_
 refine W.region ?_
 refine O.box [va0_0, va0_1] H rfl rfl rfl rfl ?_
 intro b1 w1 H hb1
 refine O.assign (v := (.int .i64 0)) rfl rfl rfl ?_
 refine WL.nil ?_
 refine W.seq ?_
 refine W.block ?_
 refine W.seq ?_
 refine W.region ?_
 refine O.loadA [va0_0, va0_1] ag25 rfl rfl rfl rfl (H.cell 0 rfl) ?_
 obtain ⟨t1, hy1, hm⟩ := bind_some hm
 refine O.call Try.call33 rfl rfl rfl (c_sight_Valid _ _ (GNet.mk a0.Rates a0.Sights) (H.arg ha0_0) (H.arg ha0_1) hy1) ?_
 rintro _ w2 hb2 rfl
 have H := H.ext hb2
 refine O.not rfl rfl rfl ?_
 refine O.assign (v := (.bool (!t1))) rfl rfl rfl ?_
 refine WL.nil ?_
 rcases ite_some hm with ⟨hc1, hm⟩ | ⟨hc1, hm⟩
 ·
  refine W.cond_true (congrArg Value.bool hc1) ?_
  refine W.seq ?_
  refine W.region ?_
  refine O.assign (v := (.int .i64 1)) rfl rfl rfl ?_
  refine WL.nil ?_
  refine W.ret ?_
  have hq : 1 = r0 := Option.some.inj (show some 1 = some r0 from hm)
  subst hq
  exact ends1 Try.results54 rfl ⟨_, rfl, H.base, rfl⟩
 ·
  refine W.cond_false (congrArg Value.bool hc1) ?_
  refine W.seq ?_
  refine W.region ?_
  refine O.move (v := va1) rfl rfl rfl ?_
  refine O.makeFunc rfl rfl rfl rfl ?_
  obtain ⟨t2, hy2, hm⟩ := bind_some hm
  refine O.call Try.call69 rfl rfl rfl (c_slices_ContainsFunc_int _ _ (H.arg ha1) _ (fun x0 => sight_clock_c1 x0 (GNet.mk a0.Rates a0.Sights)) (fun w hw x0 _ hy => callsV_mk Try.call85 (c_sight_clock_c1 x0 _ _ _ (GNet.mk a0.Rates a0.Sights) (cells_mono (H.cell 0 rfl) hw) ((H.arg ha0_0).mono hw) ((H.arg ha0_1).mono hw) hy)) hy2) ?_
  rintro _ w3 hb3 rfl
  have H := H.ext hb3
  refine O.assign (v := (.bool t2)) rfl rfl rfl ?_
  refine WL.nil ?_
  rcases ite_some hm with ⟨hc2, hm⟩ | ⟨hc2, hm⟩
  ·
   refine W.cond_true (congrArg Value.bool hc2) ?_
   refine W.seq ?_
   refine W.region ?_
   refine O.assign (v := (.int .i64 5)) rfl rfl rfl ?_
   refine WL.nil ?_
   refine W.ret ?_
   have hq : 5 = r0 := Option.some.inj (show some 5 = some r0 from hm)
   subst hq
   exact ends1 Try.results54 rfl ⟨_, rfl, H.base, rfl⟩
  ·
   refine W.cond_false (congrArg Value.bool hc2) ?_
   refine W.skip ?_
   refine W.seq ?_
   refine W.region ?_
   refine O.assign (v := (.int .i64 0)) rfl rfl rfl ?_
   refine WL.nil ?_
   refine W.ret ?_
   have hq : 0 = r0 := Option.some.inj (show some 0 = some r0 from hm)
   subst hq
   exact ends1 Try.results54 rfl ⟨_, rfl, H.base, rfl⟩

set_option maxRecDepth 20000 in
theorem c_sight_between {w0 : World} (va0_0 : Value) (va0_1 : Value) (a0 : GNet) (ha0_0 : SliceR w0 va0_0 a0.Rates) (ha0_1 : SliceR w0 va0_1 a0.Sights) (a1 : Int) (a2 : Int) (a3 : Int) {r0 : GSpan} {r1 : Bool} (hm : sight_between a0 a1 a2 a3 = some (r0, r1)) :
  Calls Try.prog 58 #[(.agg #[va0_0, va0_1]), (.int .i64 a1), (.int .i64 a2), (.int .i64 a3)] w0 (Ret w0 fun _ v => v = .tuple #[(.agg (Flat.cells r0).toArray), (.bool r1)]) := by
 unfold sight_between at hm
 refine calls_of_W Try.func58 rfl Try.ntmps58 (Nat.le_of_ble_eq_true rfl) ?_
 have H := Inv.start (w := w0)
 refine W.seq ?_
 refine W.region ?_
 refine O.box [va0_0, va0_1] H rfl rfl rfl rfl ?_
 intro b1 w1 H hb1
 refine O.alloc [(.int .i64 0), (.int .i64 0)] ze30 H rfl rfl rfl ?_
 intro b2 w2 H hb2
 refine O.assign (v := (.bool false)) rfl rfl rfl ?_
 refine WL.nil ?_
 refine W.seq ?_
 refine W.seq ?_
 refine W.region ?_
 refine O.move (v := (.int .i64 a1)) rfl rfl rfl ?_
 refine O.move (v := (.int .i64 a2)) rfl rfl rfl ?_
 refine O.eql rfl rfl rfl rfl ?_
 refine WL.nil ?_
 rcases ite_some hm with ⟨hc1, hm⟩ | ⟨hc1, hm⟩
 ·
  refine W.cond_true (congrArg Value.bool hc1) ?_
  refine W.seq ?_
  refine W.region ?_
  refine O.build (v := (.agg (Flat.cells (GSpan.mk 0 0)).toArray)) (fun w => bd30_  w) rfl rfl rfl ?_
  refine O.store 1 0 [(.int .i64 0), (.int .i64 0)] [(.int .i64 0), (.int .i64 0)] sz30 H rfl rfl rfl rfl rfl rfl ⟨⟨rfl, rfl⟩, rfl⟩ (one_cons rfl (one_cons rfl one_nil)) ?_
  intro w3 H
  refine O.assign (v := (.bool true)) rfl rfl rfl ?_
  refine WL.nil ?_
  refine W.ret ?_
  have hq : ((GSpan.mk 0 0), true) = (r0, r1) := Option.some.inj (show some ((GSpan.mk 0 0), true) = some (r0, r1) from hm)
  obtain ⟨he0, hq0⟩ := Prod.mk.inj hq; clear hq; subst he0
  subst hq0
  exact ends2 Try.results58 ⟨_, rfl, run_loadVar_agg ag30 rfl (H.cell 1 rfl)⟩ rfl ⟨_, rfl, H.base, rfl⟩
 ·
  refine W.cond_false (congrArg Value.bool hc1) ?_
  refine W.skip ?_
  refine W.seq ?_
  refine W.region ?_
  refine O.move (v := (.int .i64 a1)) rfl rfl rfl ?_
  refine O.move (v := (.int .i64 a3)) rfl rfl rfl ?_
  obtain ⟨t1, hy1, hm⟩ := bind_some hm
  refine O.call Try.call91 rfl rfl rfl (c_sight_pointOf _ _ hy1) ?_
  rintro _ w4 hb3 rfl
  have H := H.ext hb3
  refine O.move (v := (.int .i64 a2)) rfl rfl rfl ?_
  refine O.move (v := (.int .i64 a3)) rfl rfl rfl ?_
  obtain ⟨t2, hy2, hm⟩ := bind_some hm
  refine O.call Try.call91 rfl rfl rfl (c_sight_pointOf _ _ hy2) ?_
  rintro _ w5 hb4 rfl
  have H := H.ext hb4
  refine O.alloc [(.int .i64 0), (.int .i64 0)] ze87 H rfl rfl rfl ?_
  intro b3 w6 H hb5
  refine O.alloc [(.int .i64 0), (.int .i64 0)] ze87 H rfl rfl rfl ?_
  intro b4 w7 H hb6
  refine O.store 2 0 [(.int .i64 t1.clock), (.int .i64 t1.at_)] [(.int .i64 t1.clock), (.int .i64 t1.at_)] sz87 H rfl rfl rfl rfl rfl rfl ⟨⟨rfl, rfl⟩, rfl⟩ (one_cons rfl (one_cons rfl one_nil)) ?_
  intro w8 H
  refine O.store 3 0 [(.int .i64 t2.clock), (.int .i64 t2.at_)] [(.int .i64 t2.clock), (.int .i64 t2.at_)] sz87 H rfl rfl rfl rfl rfl rfl ⟨⟨rfl, rfl⟩, rfl⟩ (one_cons rfl (one_cons rfl one_nil)) ?_
  intro w9 H
  refine WL.nil ?_
  refine W.seq ?_
  refine W.region ?_
  refine O.loadA [va0_0, va0_1] ag25 rfl rfl rfl rfl (H.cell 0 rfl) ?_
  refine O.loadA [(.int .i64 t1.clock), (.int .i64 t1.at_)] ag87 rfl rfl rfl rfl (H.cell 2 rfl) ?_
  refine O.loadA [(.int .i64 t2.clock), (.int .i64 t2.at_)] ag87 rfl rfl rfl rfl (H.cell 3 rfl) ?_
  refine O.buildSlice (α := GPoint) [(.agg (Flat.cells t1).toArray), (.agg (Flat.cells t2).toArray)] [t1, t2] Try.underlying100 el87 H rfl rfl rfl rfl rfl rfl rfl ?_
  intro v1 w10 H hb7
  obtain ⟨⟨t3, t4⟩, hy3, hm⟩ := bind_some hm
  refine O.call Try.call56 rfl rfl rfl (c_sight_graphOf _ _ (GNet.mk a0.Rates a0.Sights) (H.arg ha0_0) (H.arg ha0_1) _ _ (H.own 4 rfl) hy3) ?_
  rintro _ w11 hb8 ⟨b5, m1, v2, sg1, rfl, hq1, hM1⟩
  have H := H.addAll hb8 hM1
  refine O.assign (v := (.pointer (some ⟨b5, 0, none⟩))) rfl rfl rfl ?_
  refine WL.nil ?_
  refine W.seq ?_
  refine W.region ?_
  refine O.move (v := (.pointer (some ⟨b5, 0, none⟩))) rfl rfl rfl ?_
  refine O.loadA [(.int .i64 t2.clock), (.int .i64 t2.at_)] ag87 rfl rfl rfl rfl (H.cell 3 rfl) ?_
  refine O.loadA [(.int .i64 t1.clock), (.int .i64 t1.at_)] ag87 rfl rfl rfl rfl (H.cell 2 rfl) ?_
  obtain ⟨⟨t5, t6⟩, hy4, hm⟩ := bind_some hm
  refine O.call Try.call92 rfl rfl rfl (c_sight_graph_least _ _ _ t3 sg1 (H.cell 5 rfl) (H.map 6 rfl) (H.own 7 rfl) t2 t1 (least_perm hq1 hy4)) ?_
  rintro _ w12 hb9 rfl
  have H := H.ext hb9
  refine O.move (v := (.tuple #[(.int .i64 t5), (.bool t6)])) rfl rfl rfl ?_
  refine O.extract (v := (.int .i64 t5)) rfl rfl rfl rfl ?_
  refine O.extract (v := (.bool t6)) rfl rfl rfl rfl ?_
  refine O.assign (v := (.int .i64 t5)) rfl rfl rfl ?_
  refine O.assign (v := (.bool t6)) rfl rfl rfl ?_
  refine WL.nil ?_
  refine W.seq ?_
  refine W.region ?_
  refine O.move (v := (.pointer (some ⟨b5, 0, none⟩))) rfl rfl rfl ?_
  refine O.loadA [(.int .i64 t1.clock), (.int .i64 t1.at_)] ag87 rfl rfl rfl rfl (H.cell 2 rfl) ?_
  refine O.loadA [(.int .i64 t2.clock), (.int .i64 t2.at_)] ag87 rfl rfl rfl rfl (H.cell 3 rfl) ?_
  obtain ⟨⟨t7, t8⟩, hy5, hm⟩ := bind_some hm
  refine O.call Try.call92 rfl rfl rfl (c_sight_graph_least _ _ _ t3 sg1 (H.cell 5 rfl) (H.map 6 rfl) (H.own 7 rfl) t1 t2 (least_perm hq1 hy5)) ?_
  rintro _ w13 hb10 rfl
  have H := H.ext hb10
  refine O.move (v := (.tuple #[(.int .i64 t7), (.bool t8)])) rfl rfl rfl ?_
  refine O.extract (v := (.int .i64 t7)) rfl rfl rfl rfl ?_
  refine O.extract (v := (.bool t8)) rfl rfl rfl rfl ?_
  refine O.assign (v := (.int .i64 t7)) rfl rfl rfl ?_
  refine O.assign (v := (.bool t8)) rfl rfl rfl ?_
  refine WL.nil ?_
  refine W.seq ?_
  refine W.region ?_
  refine O.move (v := (.int .i64 t7)) rfl rfl rfl ?_
  obtain ⟨t9, ht9, hm⟩ := bind_some hm
  refine O.neg rfl rfl rfl ht9 ?_
  refine O.move (v := (.int .i64 t5)) rfl rfl rfl ?_
  refine O.build (v := (.agg (Flat.cells (GSpan.mk t9 t5)).toArray)) (fun w => bd30_0_1 _ _ w) rfl rfl rfl ?_
  refine O.move (v := (.bool t6)) rfl rfl rfl ?_
  refine O.move (v := (.bool t6)) rfl rfl rfl ?_
  refine WL.cut 2 (fun f w => f 8 = (.pointer (some ⟨b2, 0, none⟩)) ∧ f 49 = (.agg (Flat.cells (GSpan.mk t9 t5)).toArray) ∧ f 53 = .bool (t6 && t8) ∧ Inv w0 w [boxI b1 25 [va0_0, va0_1], boxI b2 30 [(.int .i64 0), (.int .i64 0)], boxI b3 87 [(.int .i64 t1.clock), (.int .i64 t1.at_)], boxI b4 87 [(.int .i64 t2.clock), (.int .i64 t2.at_)], ownI (α := GPoint) v1 87 ([t1, t2] : List GPoint), boxI b5 104 [(.map (some m1)), v2], mapI (K := GPoint) (V := Int) m1 t3, ownI (α := GEdge) v2 108 sg1]) ?_ ?_
  ·
   rcases bool_ft t6 with hc2 | hc2
   ·
    refine WL.reset (i := 51) (v := .bool false) (congrArg Value.bool hc2) ?_
    refine O.skip rfl rfl ?_
    refine O.pick_false (v := (.bool false)) rfl rfl rfl rfl ?_
    exact WL.nil ⟨rfl, rfl, congrArg Value.bool (and_f hc2), H⟩
   ·
    refine WL.reset (i := 51) (v := .bool true) (congrArg Value.bool hc2) ?_
    refine O.move (v := (.bool t8)) rfl rfl rfl ?_
    refine O.pick_true (v := (.bool t8)) rfl rfl rfl rfl ?_
    exact WL.nil ⟨rfl, rfl, congrArg Value.bool (and_t hc2), H⟩
  ·
   rintro f w ⟨hf8, hf49, hf53, H⟩
   obtain ⟨u1, rfl⟩ := up3 hf8 hf49 hf53
   refine O.store 1 0 [(.int .i64 t9), (.int .i64 t5)] [(.int .i64 t9), (.int .i64 t5)] sz30 H rfl rfl rfl rfl rfl rfl ⟨⟨rfl, rfl⟩, rfl⟩ (one_cons rfl (one_cons rfl one_nil)) ?_
   intro w14 H
   refine O.assign (v := (.bool (t6 && t8))) rfl rfl rfl ?_
   refine WL.nil ?_
   refine W.ret ?_
   have hq : ((GSpan.mk t9 t5), (t6 && t8)) = (r0, r1) := Option.some.inj (show some ((GSpan.mk t9 t5), (t6 && t8)) = some (r0, r1) from hm)
   obtain ⟨he0, hq0⟩ := Prod.mk.inj hq; clear hq; subst he0
   subst hq0
   exact ends2 Try.results58 ⟨_, rfl, run_loadVar_agg ag30 rfl (H.cell 1 rfl)⟩ rfl ⟨_, rfl, H.base, rfl⟩

set_option maxRecDepth 20000 in
theorem c_sight_Between {w0 : World} (va0_0 : Value) (va0_1 : Value) (a0 : GNet) (ha0_0 : SliceR w0 va0_0 a0.Rates) (ha0_1 : SliceR w0 va0_1 a0.Sights) (a1 : Int) (a2 : Int) (a3 : Int) {r0 : GSpan} {r1 : Int} (hm : sight_Between a0 a1 a2 a3 = some (r0, r1)) :
  Calls Try.prog 16 #[(.agg #[va0_0, va0_1]), (.int .i64 a1), (.int .i64 a2), (.int .i64 a3)] w0 (Ret w0 fun _ v => v = .tuple #[(.agg (Flat.cells r0).toArray), (.int .i64 r1)]) := by
 unfold sight_Between at hm
 refine calls_of_W Try.func16 rfl Try.ntmps16 (Nat.le_of_ble_eq_true rfl) ?_
 have H := Inv.start (w := w0)
 refine W.seq ?_
 refine W.region ?_
 refine O.box [va0_0, va0_1] H rfl rfl rfl rfl ?_
 intro b1 w1 H hb1
 refine O.alloc [(.int .i64 0), (.int .i64 0)] ze30 H rfl rfl rfl ?_
 intro b2 w2 H hb2
 refine O.assign (v := (.int .i64 0)) rfl rfl rfl ?_
 refine WL.nil ?_
 refine W.seq ?_
 refine W.seq ?_
 refine W.region ?_
 refine O.loadA [va0_0, va0_1] ag25 rfl rfl rfl rfl (H.cell 0 rfl) ?_
 refine O.move (v := (.int .i64 a1)) rfl rfl rfl ?_
 refine O.move (v := (.int .i64 a2)) rfl rfl rfl ?_
 refine O.buildSlice (α := Int) [(.int .i64 a1), (.int .i64 a2)] [a1, a2] Try.underlying22 el3 H rfl rfl rfl rfl rfl rfl rfl ?_
 intro v1 w3 H hb3
 obtain ⟨t1, hy1, hm⟩ := bind_some hm
 refine O.call Try.call54 rfl rfl rfl (c_sight_clock _ _ (GNet.mk a0.Rates a0.Sights) (H.arg ha0_0) (H.arg ha0_1) _ _ (H.own 2 rfl) hy1) ?_
 rintro _ w4 hb4 rfl
 have H := H.ext hb4
 refine O.assign (v := (.int .i64 t1)) rfl rfl rfl ?_
 refine WL.nil ?_
 refine W.seq ?_
 refine W.region ?_
 refine O.move (v := (.int .i64 t1)) rfl rfl rfl ?_
 refine O.neq rfl rfl rfl rfl ?_
 refine WL.nil ?_
 rcases ite_some hm with ⟨hc1, hm⟩ | ⟨hc1, hm⟩
 ·
  refine W.cond_true (congrArg Value.bool hc1) ?_
  refine W.seq ?_
  refine W.region ?_
  refine O.build (v := (.agg (Flat.cells (GSpan.mk 0 0)).toArray)) (fun w => bd30_  w) rfl rfl rfl ?_
  refine O.move (v := (.int .i64 t1)) rfl rfl rfl ?_
  refine O.store 1 0 [(.int .i64 0), (.int .i64 0)] [(.int .i64 0), (.int .i64 0)] sz30 H rfl rfl rfl rfl rfl rfl ⟨⟨rfl, rfl⟩, rfl⟩ (one_cons rfl (one_cons rfl one_nil)) ?_
  intro w5 H
  refine O.assign (v := (.int .i64 t1)) rfl rfl rfl ?_
  refine WL.nil ?_
  refine W.ret ?_
  have hq : ((GSpan.mk 0 0), t1) = (r0, r1) := Option.some.inj (show some ((GSpan.mk 0 0), t1) = some (r0, r1) from hm)
  obtain ⟨he0, hq0⟩ := Prod.mk.inj hq; clear hq; subst he0
  subst hq0
  exact ends2 Try.results16 ⟨_, rfl, run_loadVar_agg ag30 rfl (H.cell 1 rfl)⟩ rfl ⟨_, rfl, H.base, rfl⟩
 ·
  refine W.cond_false (congrArg Value.bool hc1) ?_
  refine W.skip ?_
  refine W.seq ?_
  refine W.seq ?_
  refine W.region ?_
  refine O.move (v := (.int .i64 a3)) rfl rfl rfl ?_
  obtain ⟨t2, hy2, hm⟩ := bind_some hm
  refine O.call Try.call55 rfl rfl rfl (c_sight_within _ _ _ hy2) ?_
  rintro _ w6 hb5 rfl
  have H := H.ext hb5
  refine O.not rfl rfl rfl ?_
  refine WL.nil ?_
  rcases ite_some hm with ⟨hc2, hm⟩ | ⟨hc2, hm⟩
  ·
   refine W.cond_true (congrArg Value.bool hc2) ?_
   refine W.seq ?_
   refine W.region ?_
   refine O.build (v := (.agg (Flat.cells (GSpan.mk 0 0)).toArray)) (fun w => bd30_  w) rfl rfl rfl ?_
   refine O.store 1 0 [(.int .i64 0), (.int .i64 0)] [(.int .i64 0), (.int .i64 0)] sz30 H rfl rfl rfl rfl rfl rfl ⟨⟨rfl, rfl⟩, rfl⟩ (one_cons rfl (one_cons rfl one_nil)) ?_
   intro w7 H
   refine O.assign (v := (.int .i64 7)) rfl rfl rfl ?_
   refine WL.nil ?_
   refine W.ret ?_
   have hq : ((GSpan.mk 0 0), 7) = (r0, r1) := Option.some.inj (show some ((GSpan.mk 0 0), 7) = some (r0, r1) from hm)
   obtain ⟨he0, hq0⟩ := Prod.mk.inj hq; clear hq; subst he0
   subst hq0
   exact ends2 Try.results16 ⟨_, rfl, run_loadVar_agg ag30 rfl (H.cell 1 rfl)⟩ rfl ⟨_, rfl, H.base, rfl⟩
  ·
   refine W.cond_false (congrArg Value.bool hc2) ?_
   refine W.skip ?_
   refine W.seq ?_
   refine W.seq ?_
   refine W.region ?_
   refine O.loadA [va0_0, va0_1] ag25 rfl rfl rfl rfl (H.cell 0 rfl) ?_
   obtain ⟨⟨t3, t4⟩, hy3, hm⟩ := bind_some hm
   refine O.call Try.call56 rfl rfl rfl (c_sight_graphOf _ _ (GNet.mk a0.Rates a0.Sights) (H.arg ha0_0) (H.arg ha0_1) _ _ (SliceR.nil (α := GPoint)) hy3) ?_
   rintro _ w8 hb6 ⟨b3, m1, v2, sg1, rfl, hq1, hM1⟩
   have H := H.addAll hb6 hM1
   obtain ⟨⟨t5, t6⟩, hy4, hm⟩ := bind_some hm
   refine O.call Try.call57 rfl rfl rfl (c_sight_graph_circle _ _ _ t3 sg1 (H.cell 3 rfl) (H.map 4 rfl) (H.own 5 rfl) (circle_perm hq1 hy4)) ?_
   rintro v3 w9 hb7 ⟨ho1, hq2⟩
   have H := H.addOwn hb7 ho1
   refine O.neqNilB Try.underlying22 hq2 rfl rfl rfl rfl ?_
   refine WL.nil ?_
   rcases ite_some hm with ⟨hc3, hm⟩ | ⟨hc3, hm⟩
   ·
    refine W.cond_true (congrArg Value.bool hc3) ?_
    refine W.seq ?_
    refine W.region ?_
    refine O.build (v := (.agg (Flat.cells (GSpan.mk 0 0)).toArray)) (fun w => bd30_  w) rfl rfl rfl ?_
    refine O.store 1 0 [(.int .i64 0), (.int .i64 0)] [(.int .i64 0), (.int .i64 0)] sz30 H rfl rfl rfl rfl rfl rfl ⟨⟨rfl, rfl⟩, rfl⟩ (one_cons rfl (one_cons rfl one_nil)) ?_
    intro w10 H
    refine O.assign (v := (.int .i64 9)) rfl rfl rfl ?_
    refine WL.nil ?_
    refine W.ret ?_
    have hq : ((GSpan.mk 0 0), 9) = (r0, r1) := Option.some.inj (show some ((GSpan.mk 0 0), 9) = some (r0, r1) from hm)
    obtain ⟨he0, hq0⟩ := Prod.mk.inj hq; clear hq; subst he0
    subst hq0
    exact ends2 Try.results16 ⟨_, rfl, run_loadVar_agg ag30 rfl (H.cell 1 rfl)⟩ rfl ⟨_, rfl, H.base, rfl⟩
   ·
    refine W.cond_false (congrArg Value.bool hc3) ?_
    refine W.skip ?_
    refine W.seq ?_
    refine W.region ?_
    refine O.loadA [va0_0, va0_1] ag25 rfl rfl rfl rfl (H.cell 0 rfl) ?_
    refine O.move (v := (.int .i64 a1)) rfl rfl rfl ?_
    refine O.move (v := (.int .i64 a2)) rfl rfl rfl ?_
    refine O.move (v := (.int .i64 a3)) rfl rfl rfl ?_
    obtain ⟨⟨t7, t8⟩, hy5, hm⟩ := bind_some hm
    refine O.call Try.call58 rfl rfl rfl (c_sight_between _ _ (GNet.mk a0.Rates a0.Sights) (H.arg ha0_0) (H.arg ha0_1) _ _ _ hy5) ?_
    rintro _ w11 hb8 rfl
    have H := H.ext hb8
    refine O.move (v := (.tuple #[(.agg (Flat.cells t7).toArray), (.bool t8)])) rfl rfl rfl ?_
    refine O.extract (v := (.agg (Flat.cells t7).toArray)) rfl rfl rfl rfl ?_
    refine O.extract (v := (.bool t8)) rfl rfl rfl rfl ?_
    refine O.alloc [(.int .i64 0), (.int .i64 0)] ze30 H rfl rfl rfl ?_
    intro b4 w12 H hb9
    refine O.store 7 0 [(.int .i64 t7.Lo), (.int .i64 t7.Hi)] [(.int .i64 t7.Lo), (.int .i64 t7.Hi)] sz30 H rfl rfl rfl rfl rfl rfl ⟨⟨rfl, rfl⟩, rfl⟩ (one_cons rfl (one_cons rfl one_nil)) ?_
    intro w13 H
    refine O.assign (v := (.bool t8)) rfl rfl rfl ?_
    refine WL.nil ?_
    refine W.seq ?_
    refine W.seq ?_
    refine W.region ?_
    refine O.move (v := (.bool t8)) rfl rfl rfl ?_
    refine O.not rfl rfl rfl ?_
    refine WL.nil ?_
    rcases ite_some hm with ⟨hc4, hm⟩ | ⟨hc4, hm⟩
    ·
     refine W.cond_true (congrArg Value.bool hc4) ?_
     refine W.seq ?_
     refine W.region ?_
     refine O.build (v := (.agg (Flat.cells (GSpan.mk 0 0)).toArray)) (fun w => bd30_  w) rfl rfl rfl ?_
     refine O.store 1 0 [(.int .i64 0), (.int .i64 0)] [(.int .i64 0), (.int .i64 0)] sz30 H rfl rfl rfl rfl rfl rfl ⟨⟨rfl, rfl⟩, rfl⟩ (one_cons rfl (one_cons rfl one_nil)) ?_
     intro w14 H
     refine O.assign (v := (.int .i64 8)) rfl rfl rfl ?_
     refine WL.nil ?_
     refine W.ret ?_
     have hq : ((GSpan.mk 0 0), 8) = (r0, r1) := Option.some.inj (show some ((GSpan.mk 0 0), 8) = some (r0, r1) from hm)
     obtain ⟨he0, hq0⟩ := Prod.mk.inj hq; clear hq; subst he0
     subst hq0
     exact ends2 Try.results16 ⟨_, rfl, run_loadVar_agg ag30 rfl (H.cell 1 rfl)⟩ rfl ⟨_, rfl, H.base, rfl⟩
    ·
     refine W.cond_false (congrArg Value.bool hc4) ?_
     refine W.skip ?_
     refine W.seq ?_
     refine W.region ?_
     refine O.loadA [(.int .i64 t7.Lo), (.int .i64 t7.Hi)] ag30 rfl rfl rfl rfl (H.cell 7 rfl) ?_
     refine O.store 1 0 [(.int .i64 t7.Lo), (.int .i64 t7.Hi)] [(.int .i64 t7.Lo), (.int .i64 t7.Hi)] sz30 H rfl rfl rfl rfl rfl rfl ⟨⟨rfl, rfl⟩, rfl⟩ (one_cons rfl (one_cons rfl one_nil)) ?_
     intro w15 H
     refine O.assign (v := (.int .i64 0)) rfl rfl rfl ?_
     refine WL.nil ?_
     refine W.ret ?_
     have hq : (t7, 0) = (r0, r1) := Option.some.inj (show some (t7, 0) = some (r0, r1) from hm)
     obtain ⟨he0, hq0⟩ := Prod.mk.inj hq; clear hq; subst he0
     subst hq0
     exact ends2 Try.results16 ⟨_, rfl, run_loadVar_agg ag30 rfl (H.cell 1 rfl)⟩ rfl ⟨_, rfl, H.base, rfl⟩

theorem c_sight_Error {w0 : World} (va0_0 : Value) (va0_1 : Value) (a0 : GNet) (ha0_0 : SliceR w0 va0_0 a0.Rates) (ha0_1 : SliceR w0 va0_1 a0.Sights) (a1 : Int) (a2 : Int) {r0 : GSpan} {r1 : Int} (hm : sight_Error a0 a1 a2 = some (r0, r1)) :
  Calls Try.prog 21 #[(.agg #[va0_0, va0_1]), (.int .i64 a1), (.int .i64 a2)] w0 (Ret w0 fun _ v => v = .tuple #[(.agg (Flat.cells r0).toArray), (.int .i64 r1)]) := by
 unfold sight_Error at hm
 refine calls_of_W Try.func21 rfl Try.ntmps21 (Nat.le_of_ble_eq_true rfl) ?_
 have H := Inv.start (w := w0)
 refine W.seq ?_
 refine W.region ?_
 refine O.box [va0_0, va0_1] H rfl rfl rfl rfl ?_
 intro b1 w1 H hb1
 refine O.alloc [(.int .i64 0), (.int .i64 0)] ze30 H rfl rfl rfl ?_
 intro b2 w2 H hb2
 refine O.assign (v := (.int .i64 0)) rfl rfl rfl ?_
 refine WL.nil ?_
 refine W.seq ?_
 refine W.region ?_
 refine O.loadA [va0_0, va0_1] ag25 rfl rfl rfl rfl (H.cell 0 rfl) ?_
 refine O.move (v := (.int .i64 a1)) rfl rfl rfl ?_
 refine O.move (v := (.int .i64 a2)) rfl rfl rfl ?_
 obtain ⟨⟨t1, t2⟩, hy1, hm⟩ := bind_some hm
 refine O.call Try.call16 rfl rfl rfl (c_sight_Between _ _ (GNet.mk a0.Rates a0.Sights) (H.arg ha0_0) (H.arg ha0_1) _ _ _ hy1) ?_
 rintro _ w3 hb3 rfl
 have H := H.ext hb3
 refine O.extract (v := (.agg (Flat.cells t1).toArray)) rfl rfl rfl rfl ?_
 refine O.extract (v := (.int .i64 t2)) rfl rfl rfl rfl ?_
 refine O.store 1 0 [(.int .i64 t1.Lo), (.int .i64 t1.Hi)] [(.int .i64 t1.Lo), (.int .i64 t1.Hi)] sz30 H rfl rfl rfl rfl rfl rfl ⟨⟨rfl, rfl⟩, rfl⟩ (one_cons rfl (one_cons rfl one_nil)) ?_
 intro w4 H
 refine O.assign (v := (.int .i64 t2)) rfl rfl rfl ?_
 refine WL.nil ?_
 refine W.ret ?_
 have hq : (t1, t2) = (r0, r1) := Option.some.inj (show some (t1, t2) = some (r0, r1) from hm)
 obtain ⟨he0, hq0⟩ := Prod.mk.inj hq; clear hq; subst he0
 subst hq0
 exact ends2 Try.results21 ⟨_, rfl, run_loadVar_agg ag30 rfl (H.cell 1 rfl)⟩ rfl ⟨_, rfl, H.base, rfl⟩

theorem c_sight_Proves_c1 {w0 : World} (a0 : Int) (pc0 : Addr) (vc0_0 : Value) (vc0_1 : Value) (c0 : GNet) (hc0 : ∀ j c, ([vc0_0, vc0_1] : List Value)[j]? = some c → w0.cell? (pc0.add j) = some c) (rc0_0 : SliceR w0 vc0_0 c0.Rates) (rc0_1 : SliceR w0 vc0_1 c0.Sights) {r0 : Bool} (hm : sight_Proves_c1 a0 c0 = some r0) :
  Calls Try.prog 70 #[(.int .i64 a0), (.pointer (some pc0))] w0 (Ret w0 fun _ v => v = (.bool r0)) := by
 unfold sight_Proves_c1 at hm
 refine calls_of_W Try.func70 rfl Try.ntmps70 (Nat.le_of_ble_eq_true rfl) ?_
 have H := Inv.start (w := w0)
 refine W.seq ?_
 refine W.region ?_
 refine O.assign (v := (.bool false)) rfl rfl rfl ?_
 refine WL.nil ?_
 refine W.seq ?_
 refine W.region ?_
 refine O.move (v := (.int .i64 a0)) rfl rfl rfl ?_
 refine O.fieldAddr fd25_1 rfl rfl rfl ?_
 refine O.load sc23 rfl rfl rfl (cells_mono hc0 H.base 1 _ rfl) ?_
 refine O.lenS Try.underlying23 (H.arg rc0_1) rfl rfl rfl ?_
 obtain ⟨t1, ht1, hm⟩ := bind_some hm
 refine O.mul rfl rfl rfl rfl ht1 ?_
 obtain ⟨t2, ht2, hm⟩ := bind_some hm
 refine O.sub rfl rfl rfl rfl ht2 ?_
 obtain ⟨t3, hy1, hm⟩ := bind_some hm
 refine O.call Try.call55 rfl rfl rfl (c_sight_within _ _ _ hy1) ?_
 rintro _ w1 hb1 rfl
 have H := H.ext hb1
 refine O.not rfl rfl rfl ?_
 refine O.assign (v := (.bool (!t3))) rfl rfl rfl ?_
 refine WL.nil ?_
 refine W.ret ?_
 have hq : (!t3) = r0 := Option.some.inj (show some (!t3) = some r0 from hm)
 subst hq
 exact ends1 Try.results70 rfl ⟨_, rfl, H.base, rfl⟩

set_option maxRecDepth 20000 in
theorem c_sight_Proves {w0 : World} (va0_0 : Value) (va0_1 : Value) (a0 : GNet) (ha0_0 : SliceR w0 va0_0 a0.Rates) (ha0_1 : SliceR w0 va0_1 a0.Sights) (va1 : Value) (a1 : (List Int)) (ha1 : SliceR w0 va1 a1) {r0 : Bool} (hm : sight_Proves a0 a1 = some r0) :
  Calls Try.prog 28 #[(.agg #[va0_0, va0_1]), va1] w0 (Ret w0 fun _ v => v = (.bool r0)) := by
 unfold sight_Proves at hm
 refine calls_of_W Try.func28 rfl Try.ntmps28 (Nat.le_of_ble_eq_true rfl) ?_
 have H := Inv.start (w := w0)
 refine W.seq ?_
 refine W.region ?_
 refine O.box [va0_0, va0_1] H rfl rfl rfl rfl ?_
 intro b1 w1 H hb1
 refine O.assign (v := (.bool false)) rfl rfl rfl ?_
 refine WL.nil ?_
 refine W.seq ?_
 refine W.seq ?_
 refine W.region ?_
 refine O.loadA [va0_0, va0_1] ag25 rfl rfl rfl rfl (H.cell 0 rfl) ?_
 obtain ⟨t1, hy1, hm⟩ := bind_some hm
 refine O.call Try.call33 rfl rfl rfl (c_sight_Valid _ _ (GNet.mk a0.Rates a0.Sights) (H.arg ha0_0) (H.arg ha0_1) hy1) ?_
 rintro _ w2 hb2 rfl
 have H := H.ext hb2
 refine O.not rfl rfl rfl ?_
 refine O.move (v := (.bool (!t1))) rfl rfl rfl ?_
 refine WL.cut 4 (fun f w => f 1 = va1 ∧ f 2 = (.pointer (some ⟨b1, 0, none⟩)) ∧ f 21 = .bool ((!t1) || (((a1.length : Nat) : Int) == 0)) ∧ Inv w0 w [boxI b1 25 [va0_0, va0_1]]) ?_ ?_
 ·
  rcases bool_ft (!t1) with hc1 | hc1
  ·
   refine WL.reset (i := 17) (v := .bool false) (congrArg Value.bool hc1) ?_
   refine O.move (v := va1) rfl rfl rfl ?_
   refine O.lenS Try.underlying22 (H.arg ha1) rfl rfl rfl ?_
   refine O.eql rfl rfl rfl rfl ?_
   refine O.pick_false (v := (.bool (((a1.length : Nat) : Int) == 0))) rfl rfl rfl rfl ?_
   exact WL.nil ⟨rfl, rfl, congrArg Value.bool (or_f hc1), H⟩
  ·
   refine WL.reset (i := 17) (v := .bool true) (congrArg Value.bool hc1) ?_
   refine O.skip rfl rfl ?_
   refine O.skip rfl rfl ?_
   refine O.skip rfl rfl ?_
   refine O.pick_true (v := (.bool true)) rfl rfl rfl rfl ?_
   exact WL.nil ⟨rfl, rfl, congrArg Value.bool (or_t hc1), H⟩
 ·
  rintro f w ⟨hf1, hf2, hf21, H⟩
  obtain ⟨u1, rfl⟩ := up3 hf1 hf2 hf21
  refine O.move (v := (.bool ((!t1) || (((a1.length : Nat) : Int) == 0)))) rfl rfl rfl ?_
  obtain ⟨b2, hm1, hm⟩ := bind_some hm
  refine WL.cut 4 (fun f w => f 1 = va1 ∧ f 2 = (.pointer (some ⟨b1, 0, none⟩)) ∧ f 26 = .bool b2 ∧ Inv w0 w [boxI b1 25 [va0_0, va0_1]]) ?_ ?_
  ·
   rcases ite_some hm1 with ⟨hc2, hm1⟩ | ⟨hc2, hm1⟩
   ·
    refine WL.reset (i := 22) (v := .bool true) (congrArg Value.bool hc2) ?_
    refine O.skip rfl rfl ?_
    refine O.skip rfl rfl ?_
    refine O.skip rfl rfl ?_
    refine O.pick_true (v := (.bool true)) rfl rfl rfl rfl ?_
    refine WL.nil ?_
    have hq : true = b2 := Option.some.inj (show some true = some b2 from hm1)
    subst hq
    exact ⟨rfl, rfl, rfl, H⟩
   ·
    refine WL.reset (i := 22) (v := .bool false) (congrArg Value.bool hc2) ?_
    refine O.move (v := va1) rfl rfl rfl ?_
    refine O.makeFunc rfl rfl rfl rfl ?_
    obtain ⟨t2, hy2, hm1⟩ := bind_some hm1
    refine O.call Try.call69 rfl rfl rfl (c_slices_ContainsFunc_int _ _ (H.arg ha1) _ (fun x0 => sight_Proves_c1 x0 (GNet.mk a0.Rates a0.Sights)) (fun w hw x0 _ hy => callsV_mk Try.call70 (c_sight_Proves_c1 x0 _ _ _ (GNet.mk a0.Rates a0.Sights) (cells_mono (H.cell 0 rfl) hw) ((H.arg ha0_0).mono hw) ((H.arg ha0_1).mono hw) hy)) hy2) ?_
    rintro _ w3 hb3 rfl
    have H := H.ext hb3
    refine O.pick_false (v := (.bool t2)) rfl rfl rfl rfl ?_
    refine WL.nil ?_
    have hq : t2 = b2 := Option.some.inj (show some t2 = some b2 from hm1)
    subst hq
    exact ⟨rfl, rfl, rfl, H⟩
  ·
   rintro f w ⟨hf1, hf2, hf26, H⟩
   obtain ⟨u2, rfl⟩ := up3 hf1 hf2 hf26
   refine WL.nil ?_
   rcases ite_some hm with ⟨hc3, hm⟩ | ⟨hc3, hm⟩
   ·
    refine W.cond_true (congrArg Value.bool hc3) ?_
    refine W.seq ?_
    refine W.region ?_
    refine O.assign (v := (.bool false)) rfl rfl rfl ?_
    refine WL.nil ?_
    refine W.ret ?_
    have hq : false = r0 := Option.some.inj (show some false = some r0 from hm)
    subst hq
    exact ends1 Try.results28 rfl ⟨_, rfl, H.base, rfl⟩
   ·
    refine W.cond_false (congrArg Value.bool hc3) ?_
    refine W.skip ?_
    refine W.seq ?_
    refine W.region ?_
    refine O.assign (v := (.int .i64 0)) rfl rfl rfl ?_
    refine WL.nil ?_
    refine W.seq ?_
    refine W.seq ?_
    refine W.region ?_
    refine O.move (v := va1) rfl rfl rfl ?_
    refine O.lenS Try.underlying22 (H.arg ha1) rfl rfl rfl ?_
    refine O.move (v := (.int .i64 0)) rfl rfl rfl ?_
    refine WL.nil ?_
    obtain ⟨o1, hm2, hm⟩ := bind_some hm
    refine W.via (fun f w => ∃ s1 : Int, o1 = .next s1 ∧ f 5 = (.int .i64 s1) ∧ Inv w0 w []) ?_ ?_
    ·
     refine W.block ?_
     have hbdik1 := (H.arg ha1).len_le
     refine W.rangeN (i := 0) hm2 (fun rem ik1 s f w => ∃ z2 : Int, z2 = s ∧ (ik1 : Int) + rem = max 0 ((a1.length : Nat) : Int) ∧ f 29 = .int .i64 (ik1 : Int) ∧ f 28 = (.int .i64 ((a1.length : Nat) : Int)) ∧ f 1 = va1 ∧ f 2 = (.pointer (some ⟨b1, 0, none⟩)) ∧ f 5 = (.int .i64 z2) ∧ f 27 = va1 ∧ Inv w0 w [boxI b1 25 [va0_0, va0_1]]) ?_ ?_ ?_
     ·
      exact ⟨_, rfl, rangeN_start, rfl, rfl, rfl, rfl, rfl, rfl, H⟩
     ·
      rintro k ik1 _ st f w ⟨z2, rfl, hdropk1, hf29, hf28, hf1, hf2, hf5, hf27, H⟩ hm3
      have hltk1 := rangeN_lt hdropk1
      obtain ⟨u3, rfl⟩ := up6 hf29 hf28 hf1 hf2 hf5 hf27
      have hinck1 := addI_lt hltk1 hbdik1
      refine W.seq ?_
      refine W.region ?_
      refine O.lss rfl rfl rfl rfl ?_
      refine WL.nil ?_
      refine W.seq ?_
      refine W.cond_true (congrArg Value.bool (decide_eq_true hltk1)) ?_
      refine W.skip ?_
      refine W.seq ?_
      refine W.block ?_
      refine W.seq ?_
      refine W.region ?_
      refine O.move (v := (.int .i64 (ik1 : Int))) rfl rfl rfl ?_
      obtain ⟨x1, hx1, hm3⟩ := bind_some hm3
      obtain ⟨p1, hp1, hrp1⟩ := fix_indexAddr Try.underlying22 sz3 ha1 hx1
      refine hrp1 rfl rfl rfl rfl ?_
      refine O.load sc3 rfl rfl rfl ((hp1.mono H.base).flat 0 _ rfl) ?_
      refine O.assign (v := (.int .i64 (ik1 : Int))) rfl rfl rfl ?_
      refine O.assign (v := (.int .i64 x1)) rfl rfl rfl ?_
      refine WL.nil ?_
      refine W.seq ?_
      refine W.region ?_
      refine O.loadA [va0_0, va0_1] ag25 rfl rfl rfl rfl (H.cell 0 rfl) ?_
      refine O.move (v := (.int .i64 x1)) rfl rfl rfl ?_
      obtain ⟨⟨t3, t4, t5⟩, hy3, hm3⟩ := bind_some hm3
      refine O.call Try.call71 rfl rfl rfl (c_sight_taken _ _ (GNet.mk a0.Rates a0.Sights) (H.arg ha0_0) (H.arg ha0_1) _ hy3) ?_
      rintro _ w4 hb4 rfl
      have H := H.ext hb4
      refine O.move (v := (.tuple #[(.agg (Flat.cells t3).toArray), (.agg (Flat.cells t4).toArray), (.int .i64 t5)])) rfl rfl rfl ?_
      refine O.extract (v := (.agg (Flat.cells t3).toArray)) rfl rfl rfl rfl ?_
      refine O.extract (v := (.agg (Flat.cells t4).toArray)) rfl rfl rfl rfl ?_
      refine O.extract (v := (.int .i64 t5)) rfl rfl rfl rfl ?_
      refine O.alloc [(.int .i64 0), (.int .i64 0)] ze87 H rfl rfl rfl ?_
      intro b3 w5 H hb5
      refine O.alloc [(.int .i64 0), (.int .i64 0)] ze87 H rfl rfl rfl ?_
      intro b4 w6 H hb6
      refine O.store 1 0 [(.int .i64 t3.clock), (.int .i64 t3.at_)] [(.int .i64 t3.clock), (.int .i64 t3.at_)] sz87 H rfl rfl rfl rfl rfl rfl ⟨⟨rfl, rfl⟩, rfl⟩ (one_cons rfl (one_cons rfl one_nil)) ?_
      intro w7 H
      refine O.store 2 0 [(.int .i64 t4.clock), (.int .i64 t4.at_)] [(.int .i64 t4.clock), (.int .i64 t4.at_)] sz87 H rfl rfl rfl rfl rfl rfl ⟨⟨rfl, rfl⟩, rfl⟩ (one_cons rfl (one_cons rfl one_nil)) ?_
      intro w8 H
      refine O.assign (v := (.int .i64 t5)) rfl rfl rfl ?_
      refine WL.nil ?_
      refine W.seq ?_
      obtain ⟨t6, ht6, hm3⟩ := bind_some hm3
      obtain ⟨t7, ht7, hm3⟩ := bind_some hm3
      obtain ⟨x2, hx2, hm3⟩ := bind_some hm3
      obtain ⟨p2, hp2, hrp2⟩ := fix_indexAddr Try.underlying22 sz3 ha1 hx2
      obtain ⟨⟨t8, t9, t10⟩, hy4, hm3⟩ := bind_some hm3
      have H := H.addGone
      have H := H.addGone
      refine W.drawD 18 [[], [], [], [2], [], [4], [2, 3, 4, 5], [1, 2, 3, 4, 5, 6], [1, 2, 3, 4, 5, 6, 7], [0, 1, 2, 3, 4, 5, 6, 7, 8], [0, 1, 2, 3, 4, 5, 6, 7, 8, 9], [0, 1, 2, 3, 4, 5, 6, 7, 8, 9, 10], [0, 1, 2, 3, 4, 5, 6, 7, 8, 9, 10], [0, 1, 2, 3, 4, 5, 6, 7, 8, 9, 10], [], [], [0, 1, 2, 3, 4, 5, 6, 7, 8, 9, 10, 11, 14, 15], [0, 1, 2, 3, 4, 5, 6, 7, 8, 9, 10, 11, 12, 14, 15, 16]] [[9, 10, 11, 12, 13, 16, 17], [7, 8, 9, 10, 11, 12, 13, 16, 17], [3, 6, 7, 8, 9, 10, 11, 12, 13, 16, 17], [6, 7, 8, 9, 10, 11, 12, 13, 16, 17], [5, 6, 7, 8, 9, 10, 11, 12, 13, 16, 17], [6, 7, 8, 9, 10, 11, 12, 13, 16, 17], [7, 8, 9, 10, 11, 12, 13, 16, 17], [8, 9, 10, 11, 12, 13, 16, 17], [9, 10, 11, 12, 13, 16, 17], [10, 11, 12, 13, 16, 17], [11, 12, 13, 16, 17], [16, 17], [17], [], [16, 17], [16, 17], [17], []] (fun S f w => ∃ b5 : Nat, ∃ b6 : Nat, Inv w0 w [] ∧ f 1 = va1 ∧ f 2 = (.pointer (some ⟨b1, 0, none⟩)) ∧ f 5 = (.int .i64 z2) ∧ f 6 = (.int .i64 (ik1 : Int)) ∧ f 9 = (.pointer (some ⟨b4, 0, none⟩)) ∧ f 10 = (.int .i64 t5) ∧ f 27 = va1 ∧ f 28 = (.int .i64 ((a1.length : Nat) : Int)) ∧ f 29 = (.int .i64 (ik1 : Int)) ∧ (S 0 = true → f 42 = (.agg #[va0_0, va0_1])) ∧ (S 1 = true → f 43 = va1) ∧ (S 2 = true → f 44 = (.int .i64 (ik1 : Int))) ∧ (S 3 = true → f 45 = (.int .i64 t6)) ∧ (S 4 = true → f 46 = va1) ∧ (S 5 = true → f 47 = (.int .i64 ((a1.length : Nat) : Int))) ∧ (S 6 = true → f 48 = (.int .i64 t7)) ∧ (S 7 = true → f 49 = (.pointer (some p2))) ∧ (S 8 = true → f 50 = (.int .i64 x2)) ∧ (S 9 = true → f 51 = (.tuple #[(.agg (Flat.cells t8).toArray), (.agg (Flat.cells t9).toArray), (.int .i64 t10)])) ∧ (S 10 = true → f 41 = (.tuple #[(.agg (Flat.cells t8).toArray), (.agg (Flat.cells t9).toArray), (.int .i64 t10)])) ∧ (S 11 = true → f 52 = (.agg (Flat.cells t8).toArray)) ∧ (S 12 = true → f 53 = (.agg (Flat.cells t9).toArray)) ∧ (S 13 = true → f 54 = (.int .i64 t10)) ∧ (S 14 = true → f 11 = (.pointer (some ⟨b5, 0, none⟩))) ∧ (S 15 = true → f 12 = (.pointer (some ⟨b6, 0, none⟩))) ∧ (S 16 = true → S 14 = true) ∧ (S 16 = true → S 15 = true) ∧ (S 17 = true → S 14 = true) ∧ (S 17 = true → S 15 = true) ∧ (S 17 = true → S 16 = true) ∧ (S 14 = false → S 15 = false → S 16 = false → S 17 = false → Inv w0 w [boxI b1 25 [va0_0, va0_1], boxI b3 87 [(.int .i64 t3.clock), (.int .i64 t3.at_)], boxI b4 87 [(.int .i64 t4.clock), (.int .i64 t4.at_)], goneI, goneI]) ∧ (S 14 = true → S 15 = false → S 16 = false → S 17 = false → Inv w0 w [boxI b1 25 [va0_0, va0_1], boxI b3 87 [(.int .i64 t3.clock), (.int .i64 t3.at_)], boxI b4 87 [(.int .i64 t4.clock), (.int .i64 t4.at_)], boxI b5 87 [(.int .i64 0), (.int .i64 0)], goneI]) ∧ (S 14 = false → S 15 = true → S 16 = false → S 17 = false → Inv w0 w [boxI b1 25 [va0_0, va0_1], boxI b3 87 [(.int .i64 t3.clock), (.int .i64 t3.at_)], boxI b4 87 [(.int .i64 t4.clock), (.int .i64 t4.at_)], goneI, boxI b6 87 [(.int .i64 0), (.int .i64 0)]]) ∧ (S 14 = true → S 15 = true → S 16 = false → S 17 = false → Inv w0 w [boxI b1 25 [va0_0, va0_1], boxI b3 87 [(.int .i64 t3.clock), (.int .i64 t3.at_)], boxI b4 87 [(.int .i64 t4.clock), (.int .i64 t4.at_)], boxI b5 87 [(.int .i64 0), (.int .i64 0)], boxI b6 87 [(.int .i64 0), (.int .i64 0)]]) ∧ (S 14 = true → S 15 = true → S 16 = true → S 17 = false → Inv w0 w [boxI b1 25 [va0_0, va0_1], boxI b3 87 [(.int .i64 t3.clock), (.int .i64 t3.at_)], boxI b4 87 [(.int .i64 t4.clock), (.int .i64 t4.at_)], boxI b5 87 [(.int .i64 t8.clock), (.int .i64 t8.at_)], boxI b6 87 [(.int .i64 0), (.int .i64 0)]]) ∧ (S 14 = true → S 15 = true → S 16 = true → S 17 = true → Inv w0 w [boxI b1 25 [va0_0, va0_1], boxI b3 87 [(.int .i64 t3.clock), (.int .i64 t3.at_)], boxI b4 87 [(.int .i64 t4.clock), (.int .i64 t4.at_)], boxI b5 87 [(.int .i64 t8.clock), (.int .i64 t8.at_)], boxI b6 87 [(.int .i64 t9.clock), (.int .i64 t9.at_)]])) fol (by kernel_rfl) ?_ ?_ ?_
      ·
       exact fun d _ => ⟨0, 0, ((H.ext (below_drawn d)).pick [] [] rfl (by decide)), rfl, rfl, rfl, rfl, rfl, rfl, rfl, rfl, rfl, nF, nF, nF, nF, nF, nF, nF, nF, nF, nF, nF, nF, nF, nF, nF, nF, nF, nF, nF, nF, nF, (fun _ _ _ _ => H.ext (below_drawn d)), (fun a _ _ _ => nF a), (fun _ a _ _ => nF a), (fun a _ _ _ => nF a), (fun a _ _ _ => nF a), (fun a _ _ _ => nF a)⟩
      ·
       refine ⟨?_, ⟨?_, ⟨?_, ⟨?_, ⟨?_, ⟨?_, ⟨?_, ⟨?_, ⟨?_, ⟨?_, ⟨?_, ⟨?_, ⟨?_, ⟨?_, ⟨?_, ⟨?_, ⟨?_, ⟨?_, trivial⟩⟩⟩⟩⟩⟩⟩⟩⟩⟩⟩⟩⟩⟩⟩⟩⟩⟩
       ·
        rintro S f w hS - ⟨e9, e10, e11, e12, e13, e16, e17, -⟩ ⟨b5, b6, B, hf1, hf2, hf5, hf6, hf9, hf10, hf27, hf28, hf29, hd0, hd1, hd2, hd3, hd4, hd5, hd6, hd7, hd8, hd9, hd10, hd11, hd12, hd13, hd14, hd15, C16_14, C16_15, C17_14, C17_15, C17_16, W0, W1, W2, W3, W4, W5⟩
        obtain ⟨u4, rfl⟩ := up1 hf2
        rcases bool_ft (S 14) with e14 | e14
        ·
         rcases bool_ft (S 15) with e15 | e15
         ·
          have H := W0 e14 e15 e16 e17
          refine O.loadA [va0_0, va0_1] ag25 rfl rfl rfl rfl (H.cell 0 rfl) ?_
          exact WL.nil ⟨b5, b6, B, hf1, rfl, hf5, hf6, hf9, hf10, hf27, hf28, hf29, (fun _ => rfl), hd1, hd2, hd3, hd4, hd5, hd6, hd7, hd8, hd9, hd10, hd11, hd12, hd13, hd14, hd15, C16_14, C16_15, C17_14, C17_15, C17_16, (fun _ _ _ _ => H), (fun a _ _ _ => nX e14 a), (fun _ a _ _ => nX e15 a), (fun a _ _ _ => nX e14 a), (fun a _ _ _ => nX e14 a), (fun a _ _ _ => nX e14 a)⟩
         ·
          have H := W2 e14 e15 e16 e17
          refine O.loadA [va0_0, va0_1] ag25 rfl rfl rfl rfl (H.cell 0 rfl) ?_
          exact WL.nil ⟨b5, b6, B, hf1, rfl, hf5, hf6, hf9, hf10, hf27, hf28, hf29, (fun _ => rfl), hd1, hd2, hd3, hd4, hd5, hd6, hd7, hd8, hd9, hd10, hd11, hd12, hd13, hd14, hd15, C16_14, C16_15, C17_14, C17_15, C17_16, (fun _ a _ _ => nT e15 a), (fun a _ _ _ => nX e14 a), (fun _ _ _ _ => H), (fun a _ _ _ => nX e14 a), (fun a _ _ _ => nX e14 a), (fun a _ _ _ => nX e14 a)⟩
        ·
         rcases bool_ft (S 15) with e15 | e15
         ·
          have H := W1 e14 e15 e16 e17
          refine O.loadA [va0_0, va0_1] ag25 rfl rfl rfl rfl (H.cell 0 rfl) ?_
          exact WL.nil ⟨b5, b6, B, hf1, rfl, hf5, hf6, hf9, hf10, hf27, hf28, hf29, (fun _ => rfl), hd1, hd2, hd3, hd4, hd5, hd6, hd7, hd8, hd9, hd10, hd11, hd12, hd13, hd14, hd15, C16_14, C16_15, C17_14, C17_15, C17_16, (fun a _ _ _ => nT e14 a), (fun _ _ _ _ => H), (fun a _ _ _ => nT e14 a), (fun _ a _ _ => nX e15 a), (fun _ a _ _ => nX e15 a), (fun _ a _ _ => nX e15 a)⟩
         ·
          have H := W3 e14 e15 e16 e17
          refine O.loadA [va0_0, va0_1] ag25 rfl rfl rfl rfl (H.cell 0 rfl) ?_
          exact WL.nil ⟨b5, b6, B, hf1, rfl, hf5, hf6, hf9, hf10, hf27, hf28, hf29, (fun _ => rfl), hd1, hd2, hd3, hd4, hd5, hd6, hd7, hd8, hd9, hd10, hd11, hd12, hd13, hd14, hd15, C16_14, C16_15, C17_14, C17_15, C17_16, (fun a _ _ _ => nT e14 a), (fun _ a _ _ => nT e15 a), (fun a _ _ _ => nT e14 a), (fun _ _ _ _ => H), (fun _ _ a _ => nX e16 a), (fun _ _ a _ => nX e16 a)⟩
       ·
        rintro S f w hS - ⟨e7, e8, e9, e10, e11, e12, e13, e16, e17, -⟩ ⟨b5, b6, B, hf1, hf2, hf5, hf6, hf9, hf10, hf27, hf28, hf29, hd0, hd1, t⟩
        obtain ⟨u5, rfl⟩ := up1 hf1
        have H := B
        refine O.move (v := va1) rfl rfl rfl ?_
        exact WL.nil ⟨b5, b6, B, rfl, hf2, hf5, hf6, hf9, hf10, hf27, hf28, hf29, hd0, (fun _ => rfl), t⟩
       ·
        rintro S f w hS - ⟨e3, e6, e7, e8, e9, e10, e11, e12, e13, e16, e17, -⟩ ⟨b5, b6, B, hf1, hf2, hf5, hf6, hf9, hf10, hf27, hf28, hf29, hd0, hd1, hd2, t⟩
        obtain ⟨u6, rfl⟩ := up1 hf6
        have H := B
        refine O.move (v := (.int .i64 (ik1 : Int))) rfl rfl rfl ?_
        exact WL.nil ⟨b5, b6, B, hf1, hf2, hf5, rfl, hf9, hf10, hf27, hf28, hf29, hd0, hd1, (fun _ => rfl), t⟩
       ·
        rintro S f w hS ⟨e2, -⟩ ⟨e6, e7, e8, e9, e10, e11, e12, e13, e16, e17, -⟩ ⟨b5, b6, B, hf1, hf2, hf5, hf6, hf9, hf10, hf27, hf28, hf29, hd0, hd1, hd2, hd3, t⟩
        have hf44 := hd2 e2
        obtain ⟨u7, rfl⟩ := up1 hf44
        have H := B
        refine O.add rfl rfl rfl rfl ht6 ?_
        exact WL.nil ⟨b5, b6, B, hf1, hf2, hf5, hf6, hf9, hf10, hf27, hf28, hf29, hd0, hd1, hd2, (fun _ => rfl), t⟩
       ·
        rintro S f w hS - ⟨e5, e6, e7, e8, e9, e10, e11, e12, e13, e16, e17, -⟩ ⟨b5, b6, B, hf1, hf2, hf5, hf6, hf9, hf10, hf27, hf28, hf29, hd0, hd1, hd2, hd3, hd4, t⟩
        obtain ⟨u8, rfl⟩ := up1 hf1
        have H := B
        refine O.move (v := va1) rfl rfl rfl ?_
        exact WL.nil ⟨b5, b6, B, rfl, hf2, hf5, hf6, hf9, hf10, hf27, hf28, hf29, hd0, hd1, hd2, hd3, (fun _ => rfl), t⟩
       ·
        rintro S f w hS ⟨e4, -⟩ ⟨e6, e7, e8, e9, e10, e11, e12, e13, e16, e17, -⟩ ⟨b5, b6, B, hf1, hf2, hf5, hf6, hf9, hf10, hf27, hf28, hf29, hd0, hd1, hd2, hd3, hd4, hd5, t⟩
        have hf46 := hd4 e4
        obtain ⟨u9, rfl⟩ := up1 hf46
        have H := B
        refine O.lenS Try.underlying22 (H.arg ha1) rfl rfl rfl ?_
        exact WL.nil ⟨b5, b6, B, hf1, hf2, hf5, hf6, hf9, hf10, hf27, hf28, hf29, hd0, hd1, hd2, hd3, hd4, (fun _ => rfl), t⟩
       ·
        rintro S f w hS ⟨e2, e3, e4, e5, -⟩ ⟨e7, e8, e9, e10, e11, e12, e13, e16, e17, -⟩ ⟨b5, b6, B, hf1, hf2, hf5, hf6, hf9, hf10, hf27, hf28, hf29, hd0, hd1, hd2, hd3, hd4, hd5, hd6, t⟩
        have hf45 := hd3 e3
        have hf47 := hd5 e5
        obtain ⟨u10, rfl⟩ := up2 hf45 hf47
        have H := B
        refine O.rem rfl rfl rfl rfl ht7 ?_
        exact WL.nil ⟨b5, b6, B, hf1, hf2, hf5, hf6, hf9, hf10, hf27, hf28, hf29, hd0, hd1, hd2, hd3, hd4, hd5, (fun _ => rfl), t⟩
       ·
        rintro S f w hS ⟨e1, e2, e3, e4, e5, e6, -⟩ ⟨e8, e9, e10, e11, e12, e13, e16, e17, -⟩ ⟨b5, b6, B, hf1, hf2, hf5, hf6, hf9, hf10, hf27, hf28, hf29, hd0, hd1, hd2, hd3, hd4, hd5, hd6, hd7, t⟩
        have hf43 := hd1 e1
        have hf48 := hd6 e6
        obtain ⟨u11, rfl⟩ := up2 hf43 hf48
        have H := B
        refine hrp2 rfl rfl rfl rfl ?_
        exact WL.nil ⟨b5, b6, B, hf1, hf2, hf5, hf6, hf9, hf10, hf27, hf28, hf29, hd0, hd1, hd2, hd3, hd4, hd5, hd6, (fun _ => rfl), t⟩
       ·
        rintro S f w hS ⟨e1, e2, e3, e4, e5, e6, e7, -⟩ ⟨e9, e10, e11, e12, e13, e16, e17, -⟩ ⟨b5, b6, B, hf1, hf2, hf5, hf6, hf9, hf10, hf27, hf28, hf29, hd0, hd1, hd2, hd3, hd4, hd5, hd6, hd7, hd8, t⟩
        have hf49 := hd7 e7
        obtain ⟨u12, rfl⟩ := up1 hf49
        have H := B
        refine O.load sc3 rfl rfl rfl ((hp2.mono H.base).flat 0 _ rfl) ?_
        exact WL.nil ⟨b5, b6, B, hf1, hf2, hf5, hf6, hf9, hf10, hf27, hf28, hf29, hd0, hd1, hd2, hd3, hd4, hd5, hd6, hd7, (fun _ => rfl), t⟩
       ·
        rintro S f w hS ⟨e0, e1, e2, e3, e4, e5, e6, e7, e8, -⟩ ⟨e10, e11, e12, e13, e16, e17, -⟩ ⟨b5, b6, B, hf1, hf2, hf5, hf6, hf9, hf10, hf27, hf28, hf29, hd0, hd1, hd2, hd3, hd4, hd5, hd6, hd7, hd8, hd9, hd10, hd11, hd12, hd13, hd14, hd15, C16_14, C16_15, C17_14, C17_15, C17_16, W0, W1, W2, W3, W4, W5⟩
        have hf42 := hd0 e0
        have hf50 := hd8 e8
        obtain ⟨u13, rfl⟩ := up2 hf42 hf50
        have H := B
        refine O.call Try.call71 rfl rfl rfl (c_sight_taken _ _ (GNet.mk a0.Rates a0.Sights) (H.arg ha0_0) (H.arg ha0_1) _ hy4) ?_
        rintro _ w9 hb7 rfl
        have H := H.ext hb7
        exact WL.nil ⟨b5, b6, H, hf1, hf2, hf5, hf6, hf9, hf10, hf27, hf28, hf29, hd0, hd1, hd2, hd3, hd4, hd5, hd6, hd7, hd8, (fun _ => rfl), hd10, hd11, hd12, hd13, hd14, hd15, C16_14, C16_15, C17_14, C17_15, C17_16, (fun g0 g1 g2 g3 => (W0 g0 g1 g2 g3).ext hb7), (fun g0 g1 g2 g3 => (W1 g0 g1 g2 g3).ext hb7), (fun g0 g1 g2 g3 => (W2 g0 g1 g2 g3).ext hb7), (fun g0 g1 g2 g3 => (W3 g0 g1 g2 g3).ext hb7), (fun g0 g1 g2 g3 => (W4 g0 g1 g2 g3).ext hb7), (fun g0 g1 g2 g3 => (W5 g0 g1 g2 g3).ext hb7)⟩
       ·
        rintro S f w hS ⟨e0, e1, e2, e3, e4, e5, e6, e7, e8, e9, -⟩ ⟨e11, e12, e13, e16, e17, -⟩ ⟨b5, b6, B, hf1, hf2, hf5, hf6, hf9, hf10, hf27, hf28, hf29, hd0, hd1, hd2, hd3, hd4, hd5, hd6, hd7, hd8, hd9, hd10, t⟩
        have hf51 := hd9 e9
        obtain ⟨u14, rfl⟩ := up1 hf51
        have H := B
        refine O.move (v := (.tuple #[(.agg (Flat.cells t8).toArray), (.agg (Flat.cells t9).toArray), (.int .i64 t10)])) rfl rfl rfl ?_
        exact WL.nil ⟨b5, b6, B, hf1, hf2, hf5, hf6, hf9, hf10, hf27, hf28, hf29, hd0, hd1, hd2, hd3, hd4, hd5, hd6, hd7, hd8, hd9, (fun _ => rfl), t⟩
       ·
        rintro S f w hS ⟨e0, e1, e2, e3, e4, e5, e6, e7, e8, e9, e10, -⟩ ⟨e16, e17, -⟩ ⟨b5, b6, B, hf1, hf2, hf5, hf6, hf9, hf10, hf27, hf28, hf29, hd0, hd1, hd2, hd3, hd4, hd5, hd6, hd7, hd8, hd9, hd10, hd11, t⟩
        have hf41 := hd10 e10
        obtain ⟨u15, rfl⟩ := up1 hf41
        have H := B
        refine O.extract (v := (.agg (Flat.cells t8).toArray)) rfl rfl rfl rfl ?_
        exact WL.nil ⟨b5, b6, B, hf1, hf2, hf5, hf6, hf9, hf10, hf27, hf28, hf29, hd0, hd1, hd2, hd3, hd4, hd5, hd6, hd7, hd8, hd9, hd10, (fun _ => rfl), t⟩
       ·
        rintro S f w hS ⟨e0, e1, e2, e3, e4, e5, e6, e7, e8, e9, e10, -⟩ ⟨e17, -⟩ ⟨b5, b6, B, hf1, hf2, hf5, hf6, hf9, hf10, hf27, hf28, hf29, hd0, hd1, hd2, hd3, hd4, hd5, hd6, hd7, hd8, hd9, hd10, hd11, hd12, t⟩
        have hf41 := hd10 e10
        obtain ⟨u16, rfl⟩ := up1 hf41
        have H := B
        refine O.extract (v := (.agg (Flat.cells t9).toArray)) rfl rfl rfl rfl ?_
        exact WL.nil ⟨b5, b6, B, hf1, hf2, hf5, hf6, hf9, hf10, hf27, hf28, hf29, hd0, hd1, hd2, hd3, hd4, hd5, hd6, hd7, hd8, hd9, hd10, hd11, (fun _ => rfl), t⟩
       ·
        rintro S f w hS ⟨e0, e1, e2, e3, e4, e5, e6, e7, e8, e9, e10, -⟩ - ⟨b5, b6, B, hf1, hf2, hf5, hf6, hf9, hf10, hf27, hf28, hf29, hd0, hd1, hd2, hd3, hd4, hd5, hd6, hd7, hd8, hd9, hd10, hd11, hd12, hd13, t⟩
        have hf41 := hd10 e10
        obtain ⟨u17, rfl⟩ := up1 hf41
        have H := B
        refine O.extract (v := (.int .i64 t10)) rfl rfl rfl rfl ?_
        exact WL.nil ⟨b5, b6, B, hf1, hf2, hf5, hf6, hf9, hf10, hf27, hf28, hf29, hd0, hd1, hd2, hd3, hd4, hd5, hd6, hd7, hd8, hd9, hd10, hd11, hd12, (fun _ => rfl), t⟩
       ·
        rintro S f w hS - ⟨e16, e17, -⟩ ⟨_, b6, B, hf1, hf2, hf5, hf6, hf9, hf10, hf27, hf28, hf29, hd0, hd1, hd2, hd3, hd4, hd5, hd6, hd7, hd8, hd9, hd10, hd11, hd12, hd13, hd14, hd15, C16_14, C16_15, C17_14, C17_15, C17_16, W0, W1, W2, W3, W4, W5⟩
        rcases bool_ft (S 15) with e15 | e15
        ·
         have H := W0 hS e15 e16 e17
         refine O.alloc [(.int .i64 0), (.int .i64 0)] ze87 H rfl rfl rfl ?_
         intro b5 w10 H hb8
         refine WL.nil ?_
         have H := H.pick [0, 1, 2, 5, 4] [boxI b1 25 [va0_0, va0_1], boxI b3 87 [(.int .i64 t3.clock), (.int .i64 t3.at_)], boxI b4 87 [(.int .i64 t4.clock), (.int .i64 t4.at_)], boxI b5 87 [(.int .i64 0), (.int .i64 0)], goneI] rfl (by decide)
         exact ⟨b5, b6, (H.pick [] [] rfl (by decide)), hf1, hf2, hf5, hf6, hf9, hf10, hf27, hf28, hf29, hd0, hd1, hd2, hd3, hd4, hd5, hd6, hd7, hd8, hd9, hd10, hd11, hd12, hd13, (fun _ => rfl), hd15, (fun _ => rfl), C16_15, (fun _ => rfl), C17_15, C17_16, (fun a _ _ _ => nG a), (fun _ _ _ _ => H), (fun a _ _ _ => nG a), (fun _ a _ _ => nX e15 a), (fun _ a _ _ => nX e15 a), (fun _ a _ _ => nX e15 a)⟩
        ·
         have H := W2 hS e15 e16 e17
         refine O.alloc [(.int .i64 0), (.int .i64 0)] ze87 H rfl rfl rfl ?_
         intro b5 w10 H hb8
         refine WL.nil ?_
         have H := H.pick [0, 1, 2, 5, 4] [boxI b1 25 [va0_0, va0_1], boxI b3 87 [(.int .i64 t3.clock), (.int .i64 t3.at_)], boxI b4 87 [(.int .i64 t4.clock), (.int .i64 t4.at_)], boxI b5 87 [(.int .i64 0), (.int .i64 0)], boxI b6 87 [(.int .i64 0), (.int .i64 0)]] rfl (by decide)
         exact ⟨b5, b6, (H.pick [] [] rfl (by decide)), hf1, hf2, hf5, hf6, hf9, hf10, hf27, hf28, hf29, hd0, hd1, hd2, hd3, hd4, hd5, hd6, hd7, hd8, hd9, hd10, hd11, hd12, hd13, (fun _ => rfl), hd15, (fun _ => rfl), C16_15, (fun _ => rfl), C17_15, C17_16, (fun a _ _ _ => nG a), (fun _ a _ _ => nT e15 a), (fun a _ _ _ => nG a), (fun _ _ _ _ => H), (fun _ _ a _ => nX e16 a), (fun _ _ a _ => nX e16 a)⟩
       ·
        rintro S f w hS - ⟨e16, e17, -⟩ ⟨b5, _, B, hf1, hf2, hf5, hf6, hf9, hf10, hf27, hf28, hf29, hd0, hd1, hd2, hd3, hd4, hd5, hd6, hd7, hd8, hd9, hd10, hd11, hd12, hd13, hd14, hd15, C16_14, C16_15, C17_14, C17_15, C17_16, W0, W1, W2, W3, W4, W5⟩
        rcases bool_ft (S 14) with e14 | e14
        ·
         have H := W0 e14 hS e16 e17
         refine O.alloc [(.int .i64 0), (.int .i64 0)] ze87 H rfl rfl rfl ?_
         intro b6 w11 H hb9
         refine WL.nil ?_
         have H := H.pick [0, 1, 2, 3, 5] [boxI b1 25 [va0_0, va0_1], boxI b3 87 [(.int .i64 t3.clock), (.int .i64 t3.at_)], boxI b4 87 [(.int .i64 t4.clock), (.int .i64 t4.at_)], goneI, boxI b6 87 [(.int .i64 0), (.int .i64 0)]] rfl (by decide)
         exact ⟨b5, b6, (H.pick [] [] rfl (by decide)), hf1, hf2, hf5, hf6, hf9, hf10, hf27, hf28, hf29, hd0, hd1, hd2, hd3, hd4, hd5, hd6, hd7, hd8, hd9, hd10, hd11, hd12, hd13, hd14, (fun _ => rfl), C16_14, (fun _ => rfl), C17_14, (fun _ => rfl), C17_16, (fun _ a _ _ => nG a), (fun a _ _ _ => nX e14 a), (fun _ _ _ _ => H), (fun a _ _ _ => nX e14 a), (fun a _ _ _ => nX e14 a), (fun a _ _ _ => nX e14 a)⟩
        ·
         have H := W1 e14 hS e16 e17
         refine O.alloc [(.int .i64 0), (.int .i64 0)] ze87 H rfl rfl rfl ?_
         intro b6 w11 H hb9
         refine WL.nil ?_
         have H := H.pick [0, 1, 2, 3, 5] [boxI b1 25 [va0_0, va0_1], boxI b3 87 [(.int .i64 t3.clock), (.int .i64 t3.at_)], boxI b4 87 [(.int .i64 t4.clock), (.int .i64 t4.at_)], boxI b5 87 [(.int .i64 0), (.int .i64 0)], boxI b6 87 [(.int .i64 0), (.int .i64 0)]] rfl (by decide)
         exact ⟨b5, b6, (H.pick [] [] rfl (by decide)), hf1, hf2, hf5, hf6, hf9, hf10, hf27, hf28, hf29, hd0, hd1, hd2, hd3, hd4, hd5, hd6, hd7, hd8, hd9, hd10, hd11, hd12, hd13, hd14, (fun _ => rfl), C16_14, (fun _ => rfl), C17_14, (fun _ => rfl), C17_16, (fun a _ _ _ => nT e14 a), (fun _ a _ _ => nG a), (fun a _ _ _ => nT e14 a), (fun _ _ _ _ => H), (fun _ _ a _ => nX e16 a), (fun _ _ a _ => nX e16 a)⟩
       ·
        rintro S f w hS ⟨e0, e1, e2, e3, e4, e5, e6, e7, e8, e9, e10, e11, e14, e15, -⟩ ⟨e17, -⟩ ⟨b5, b6, B, hf1, hf2, hf5, hf6, hf9, hf10, hf27, hf28, hf29, hd0, hd1, hd2, hd3, hd4, hd5, hd6, hd7, hd8, hd9, hd10, hd11, hd12, hd13, hd14, hd15, C16_14, C16_15, C17_14, C17_15, C17_16, W0, W1, W2, W3, W4, W5⟩
        have hf11 := hd14 e14
        have hf52 := hd11 e11
        obtain ⟨u18, rfl⟩ := up2 hf11 hf52
        have H := W3 e14 e15 hS e17
        refine O.store 3 0 [(.int .i64 t8.clock), (.int .i64 t8.at_)] [(.int .i64 t8.clock), (.int .i64 t8.at_)] sz87 H rfl rfl rfl rfl rfl rfl ⟨⟨rfl, rfl⟩, rfl⟩ (one_cons rfl (one_cons rfl one_nil)) ?_
        intro w12 H
        exact WL.nil ⟨b5, b6, (H.pick [] [] rfl (by decide)), hf1, hf2, hf5, hf6, hf9, hf10, hf27, hf28, hf29, hd0, hd1, hd2, hd3, hd4, hd5, hd6, hd7, hd8, hd9, hd10, hd11, hd12, hd13, hd14, hd15, (fun _ => e14), (fun _ => e15), C17_14, C17_15, (fun _ => rfl), (fun a _ _ _ => nT e14 a), (fun _ a _ _ => nT e15 a), (fun a _ _ _ => nT e14 a), (fun _ _ a _ => nG a), (fun _ _ _ _ => H), (fun _ _ _ a => nX e17 a)⟩
       ·
        rintro S f w hS ⟨e0, e1, e2, e3, e4, e5, e6, e7, e8, e9, e10, e11, e12, e14, e15, e16, -⟩ - ⟨b5, b6, B, hf1, hf2, hf5, hf6, hf9, hf10, hf27, hf28, hf29, hd0, hd1, hd2, hd3, hd4, hd5, hd6, hd7, hd8, hd9, hd10, hd11, hd12, hd13, hd14, hd15, C16_14, C16_15, C17_14, C17_15, C17_16, W0, W1, W2, W3, W4, W5⟩
        have hf12 := hd15 e15
        have hf53 := hd12 e12
        obtain ⟨u19, rfl⟩ := up2 hf12 hf53
        have H := W4 e14 e15 e16 hS
        refine O.store 4 0 [(.int .i64 t9.clock), (.int .i64 t9.at_)] [(.int .i64 t9.clock), (.int .i64 t9.at_)] sz87 H rfl rfl rfl rfl rfl rfl ⟨⟨rfl, rfl⟩, rfl⟩ (one_cons rfl (one_cons rfl one_nil)) ?_
        intro w13 H
        exact WL.nil ⟨b5, b6, (H.pick [] [] rfl (by decide)), hf1, hf2, hf5, hf6, hf9, hf10, hf27, hf28, hf29, hd0, hd1, hd2, hd3, hd4, hd5, hd6, hd7, hd8, hd9, hd10, hd11, hd12, hd13, hd14, hd15, C16_14, C16_15, (fun _ => e14), (fun _ => e15), (fun _ => e16), (fun a _ _ _ => nT e14 a), (fun _ a _ _ => nT e15 a), (fun a _ _ _ => nT e14 a), (fun _ _ a _ => nT e16 a), (fun _ _ _ a => nG a), (fun _ _ _ _ => H)⟩
      ·
       rintro S f w ⟨e0, e1, e2, e3, e4, e5, e6, e7, e8, e9, e10, e11, e12, e13, e14, e15, e16, e17, -⟩ ⟨b5, b6, B, hf1, hf2, hf5, hf6, hf9, hf10, hf27, hf28, hf29, hd0, hd1, hd2, hd3, hd4, hd5, hd6, hd7, hd8, hd9, hd10, hd11, hd12, hd13, hd14, hd15, C16_14, C16_15, C17_14, C17_15, C17_16, W0, W1, W2, W3, W4, W5⟩
       have hf11 := hd14 e14
       have hf54 := hd13 e13
       have H := W5 e14 e15 e16 e17
       obtain ⟨u20, rfl⟩ : ∃ u20, f = (upd (upd (upd (upd (upd (upd (upd (upd (upd (upd u20 1 va1) 2 (.pointer (some ⟨b1, 0, none⟩))) 5 (.int .i64 z2)) 9 (.pointer (some ⟨b4, 0, none⟩))) 10 (.int .i64 t5)) 11 (.pointer (some ⟨b5, 0, none⟩))) 27 va1) 28 (.int .i64 ((a1.length : Nat) : Int))) 29 (.int .i64 (ik1 : Int))) 54 (.int .i64 t10)) := ⟨f, by rw [upd_self hf1, upd_self hf2, upd_self hf5, upd_self hf9, upd_self hf10, upd_self hf11, upd_self hf27, upd_self hf28, upd_self hf29, upd_self hf54]⟩
       refine O.assign (v := (.int .i64 t10)) rfl rfl rfl ?_
       refine WL.nil ?_
       refine W.seq ?_
       refine W.seq ?_
       refine W.region ?_
       refine O.fieldAddr fd87_0 rfl rfl rfl ?_
       refine O.load sc3 rfl rfl rfl (H.cell 2 rfl 0 _ rfl) ?_
       refine O.fieldAddr fd87_0 rfl rfl rfl ?_
       refine O.load sc3 rfl rfl rfl (H.cell 3 rfl 0 _ rfl) ?_
       refine O.neq rfl rfl rfl rfl ?_
       refine WL.nil ?_
       rcases ite_some hm3 with ⟨hc4, hm3⟩ | ⟨hc4, hm3⟩
       ·
        refine W.cond_true (congrArg Value.bool hc4) ?_
        refine W.seq ?_
        refine W.region ?_
        refine O.assign (v := (.bool false)) rfl rfl rfl ?_
        refine WL.nil ?_
        refine W.ret ?_
        obtain rfl := Option.some.inj hm3
        refine ⟨_, rfl, ?_⟩
        rintro rfl
        have hq : false = r0 := Option.some.inj (show some false = some r0 from hm)
        subst hq
        exact ends1 Try.results28 rfl ⟨_, rfl, H.base, rfl⟩
       ·
        refine W.cond_false (congrArg Value.bool hc4) ?_
        refine W.skip ?_
        refine W.region ?_
        refine O.move (v := (.int .i64 z2)) rfl rfl rfl ?_
        refine O.move (v := (.int .i64 t5)) rfl rfl rfl ?_
        refine O.loadA [va0_0, va0_1] ag25 rfl rfl rfl rfl (H.cell 0 rfl) ?_
        refine O.fieldAddr fd87_0 rfl rfl rfl ?_
        refine O.load sc3 rfl rfl rfl (H.cell 2 rfl 0 _ rfl) ?_
        refine O.fieldAddr fd87_1 rfl rfl rfl ?_
        refine O.load sc3 rfl rfl rfl (H.cell 2 rfl 1 _ rfl) ?_
        refine O.fieldAddr fd87_1 rfl rfl rfl ?_
        refine O.load sc3 rfl rfl rfl (H.cell 3 rfl 1 _ rfl) ?_
        obtain ⟨t11, ht11, hm3⟩ := bind_some hm3
        refine O.sub rfl rfl rfl rfl ht11 ?_
        obtain ⟨t12, hy5, hm3⟩ := bind_some hm3
        refine O.call Try.call72 rfl rfl rfl (c_sight_carry _ _ (GNet.mk a0.Rates a0.Sights) (H.arg ha0_0) (H.arg ha0_1) _ _ hy5) ?_
        rintro _ w14 hb10 rfl
        have H := H.ext hb10
        obtain ⟨t13, ht13, hm3⟩ := bind_some hm3
        refine O.add rfl rfl rfl rfl ht13 ?_
        obtain ⟨t14, ht14, hm3⟩ := bind_some hm3
        refine O.add rfl rfl rfl rfl ht14 ?_
        refine O.assign (v := (.int .i64 t14)) rfl rfl rfl ?_
        refine WL.nil ?_
        refine W.region ?_
        refine O.add rfl rfl rfl rfl hinck1 ?_
        refine O.move (v := .int .i64 ((ik1 : Int) + 1)) rfl rfl rfl ?_
        refine WL.nil ?_
        have H := H.keep [0] [boxI b1 25 [va0_0, va0_1]] rfl (by decide)
        obtain rfl := Option.some.inj hm3
        exact ⟨_, rfl, _, rfl, rangeN_next hdropk1, rfl, rfl, rfl, rfl, rfl, rfl, H⟩
     ·
      rintro ik1 _ f w ⟨z2, rfl, hdropk1, hf29, hf28, hf1, hf2, hf5, hf27, H⟩ hfin
      have hltk1 := rangeN_end hdropk1
      obtain ⟨u21, rfl⟩ := up6 hf29 hf28 hf1 hf2 hf5 hf27
      refine W.seq ?_
      refine W.region ?_
      refine O.lss rfl rfl rfl rfl ?_
      refine WL.nil ?_
      refine W.seq ?_
      refine W.cond_false (congrArg Value.bool (decide_eq_false hltk1)) ?_
      refine W.exit ?_
      obtain rfl : Ctl.next z2 = o1 := hfin
      have H := H.keep [] [] rfl (by decide)
      refine xT rfl ?_
      exact ⟨_, rfl, rfl, H⟩
    ·
     rintro f w ⟨s1, rfl, hf5, H⟩
     obtain ⟨u22, rfl⟩ := up1 hf5
     refine W.seq ?_
     refine W.region ?_
     refine O.move (v := (.int .i64 s1)) rfl rfl rfl ?_
     refine O.lss rfl rfl rfl rfl ?_
     refine O.assign (v := (.bool (decide (s1 < 0)))) rfl rfl rfl ?_
     refine WL.nil ?_
     refine W.ret ?_
     have hq : (decide (s1 < 0)) = r0 := Option.some.inj (show some (decide (s1 < 0)) = some r0 from hm)
     subst hq
     exact ends1 Try.results28 rfl ⟨_, rfl, H.base, rfl⟩

set_option maxRecDepth 20000 in
theorem c_noongunlaw02_awake {w0 : World}  {r0 : Bool} (hm : noongunlaw02_awake  = some r0) :
  Calls Try.prog 15 #[] w0 (Ret w0 fun _ v => v = (.bool r0)) := by
 unfold noongunlaw02_awake at hm
 refine calls_of_W Try.func15 rfl Try.ntmps15 (Nat.le_of_ble_eq_true rfl) ?_
 have H := Inv.start (w := w0)
 refine W.seq ?_
 refine W.region ?_
 refine O.assign (v := (.bool false)) rfl rfl rfl ?_
 refine WL.nil ?_
 refine W.seq ?_
 refine W.region ?_
 obtain ⟨t1, hy1, hm⟩ := bind_some hm
 refine O.call Try.call53 rfl rfl rfl (c_noongunlaw02_two  hy1) ?_
 rintro _ w1 hb1 ⟨v1, v2, rfl, ho1⟩
 have H := H.addAll hb1 ho1
 refine O.alloc [(.slice none 0 0), (.slice none 0 0)] ze25 H rfl rfl rfl ?_
 intro b1 w2 H hb2
 have H := H.addNil (α := Int) (E := 3)
 have H := H.addNil (α := GSight) (E := 39)
 refine O.store 2 0 [v1, v2] [v1, v2] sz25 H rfl rfl rfl rfl rfl rfl ⟨⟨rfl, rfl⟩, rfl⟩ (one_cons (SliceR.one (H.own 0 rfl)) (one_cons (SliceR.one (H.own 1 rfl)) one_nil)) ?_
 intro w3 H
 refine WL.nil ?_
 refine W.seq ?_
 refine W.region ?_
 refine O.loadA [v1, v2] ag25 rfl rfl rfl rfl (H.cell 2 rfl) ?_
 obtain ⟨⟨t2, t3⟩, hy2, hm⟩ := bind_some hm
 refine O.call Try.call20 rfl rfl rfl (c_sight_Consistent _ _ (GNet.mk t1.Rates t1.Sights) (H.own 0 rfl) (H.own 1 rfl) hy2) ?_
 rintro _ w4 hb3 rfl
 have H := H.ext hb3
 refine O.move (v := (.tuple #[(.bool t2), (.int .i64 t3)])) rfl rfl rfl ?_
 refine O.extract (v := (.bool t2)) rfl rfl rfl rfl ?_
 refine O.extract (v := (.int .i64 t3)) rfl rfl rfl rfl ?_
 refine O.assign (v := (.bool t2)) rfl rfl rfl ?_
 refine O.assign (v := (.int .i64 t3)) rfl rfl rfl ?_
 refine WL.nil ?_
 refine W.seq ?_
 refine W.region ?_
 refine O.fieldAddr fd25_1 rfl rfl rfl ?_
 refine O.load sc23 rfl rfl rfl (H.cell 2 rfl 1 _ rfl) ?_
 obtain ⟨t4, ht4, hm⟩ := bind_some hm
 refine O.sliceHs Try.underlying23 sz39 (H.own 1 rfl) ht4 rfl rfl rfl rfl ?_
 intro v3 hs1
 refine O.fieldAddr fd25_1 rfl rfl rfl ?_
 refine O.store 2 1 [v3] [v1, v3] sz23 H rfl rfl rfl rfl rfl (SliceR.cells1 (hs1 _ (H.own 1 rfl))) ⟨⟨rfl, rfl⟩, rfl⟩ (one_cons (SliceR.one (hs1 _ (H.own 1 rfl))) one_nil) ?_
 intro w5 H
 refine WL.nil ?_
 refine W.seq ?_
 refine W.region ?_
 refine O.loadA [v1, v3] ag25 rfl rfl rfl rfl (H.cell 2 rfl) ?_
 obtain ⟨⟨t5, t6⟩, hy3, hm⟩ := bind_some hm
 refine O.call Try.call21 rfl rfl rfl (c_sight_Error _ _ (GNet.mk t1.Rates t4) (H.own 0 rfl) (hs1 _ (H.own 1 rfl)) _ _ hy3) ?_
 rintro _ w6 hb4 rfl
 have H := H.ext hb4
 refine O.move (v := (.tuple #[(.agg (Flat.cells t5).toArray), (.int .i64 t6)])) rfl rfl rfl ?_
 refine O.extract (v := (.agg (Flat.cells t5).toArray)) rfl rfl rfl rfl ?_
 refine O.extract (v := (.int .i64 t6)) rfl rfl rfl rfl ?_
 refine O.alloc [(.int .i64 0), (.int .i64 0)] ze30 H rfl rfl rfl ?_
 intro b2 w7 H hb5
 refine O.store 5 0 [(.int .i64 t5.Lo), (.int .i64 t5.Hi)] [(.int .i64 t5.Lo), (.int .i64 t5.Hi)] sz30 H rfl rfl rfl rfl rfl rfl ⟨⟨rfl, rfl⟩, rfl⟩ (one_cons rfl (one_cons rfl one_nil)) ?_
 intro w8 H
 refine O.assign (v := (.int .i64 t6)) rfl rfl rfl ?_
 refine WL.nil ?_
 refine W.seq ?_
 refine W.region ?_
 refine O.move (v := (.int .i64 t3)) rfl rfl rfl ?_
 refine O.eql rfl rfl rfl rfl ?_
 refine O.move (v := (.bool (t3 == 0))) rfl rfl rfl ?_
 refine WL.cut 3 (fun f w => f 4 = (.pointer (some ⟨b2, 0, none⟩)) ∧ f 5 = (.int .i64 t6) ∧ f 26 = .bool ((t3 == 0) && (!t2)) ∧ Inv w0 w [ownI (α := Int) v1 3 t1.Rates, ownI (α := GSight) v2 39 t1.Sights, boxI b1 25 [v1, v3], ownI (α := Int) (.slice none 0 0) 3 ([] : List Int), ownI (α := GSight) (.slice none 0 0) 39 ([] : List GSight), boxI b2 30 [(.int .i64 t5.Lo), (.int .i64 t5.Hi)]]) ?_ ?_
 ·
  rcases bool_ft (t3 == 0) with hc1 | hc1
  ·
   refine WL.reset (i := 23) (v := .bool false) (congrArg Value.bool hc1) ?_
   refine O.skip rfl rfl ?_
   refine O.skip rfl rfl ?_
   refine O.pick_false (v := (.bool false)) rfl rfl rfl rfl ?_
   exact WL.nil ⟨rfl, rfl, congrArg Value.bool (and_f hc1), H⟩
  ·
   refine WL.reset (i := 23) (v := .bool true) (congrArg Value.bool hc1) ?_
   refine O.move (v := (.bool t2)) rfl rfl rfl ?_
   refine O.not rfl rfl rfl ?_
   refine O.pick_true (v := (.bool (!t2))) rfl rfl rfl rfl ?_
   exact WL.nil ⟨rfl, rfl, congrArg Value.bool (and_t hc1), H⟩
 ·
  rintro f w ⟨hf4, hf5, hf26, H⟩
  obtain ⟨u1, rfl⟩ := up3 hf4 hf5 hf26
  refine O.move (v := (.bool ((t3 == 0) && (!t2)))) rfl rfl rfl ?_
  obtain ⟨b3, hm1, hm⟩ := bind_some hm
  refine WL.cut 4 (fun f w => f 4 = (.pointer (some ⟨b2, 0, none⟩)) ∧ f 5 = (.int .i64 t6) ∧ f 31 = .bool b3 ∧ Inv w0 w [ownI (α := Int) v1 3 t1.Rates, ownI (α := GSight) v2 39 t1.Sights, boxI b1 25 [v1, v3], ownI (α := Int) (.slice none 0 0) 3 ([] : List Int), ownI (α := GSight) (.slice none 0 0) 39 ([] : List GSight), boxI b2 30 [(.int .i64 t5.Lo), (.int .i64 t5.Hi)]]) ?_ ?_
  ·
   rcases ite_some hm1 with ⟨hc2, hm1⟩ | ⟨hc2, hm1⟩
   ·
    refine WL.reset (i := 27) (v := .bool true) (congrArg Value.bool hc2) ?_
    obtain ⟨t7, hy4, hm1⟩ := bind_some hm1
    refine O.call Try.call53 rfl rfl rfl (c_noongunlaw02_two  hy4) ?_
    rintro _ w9 hb6 ⟨v4, v5, rfl, ho2⟩
    have H := H.addAll hb6 ho2
    refine O.buildSlice (α := Int) [(.int .i64 0), (.int .i64 3)] [0, 3] Try.underlying22 el3 H rfl rfl rfl rfl rfl rfl rfl ?_
    intro v6 w10 H hb7
    obtain ⟨t8, hy5, hm1⟩ := bind_some hm1
    refine O.call Try.call28 rfl rfl rfl (c_sight_Proves _ _ t7 (H.own 6 rfl) (H.own 7 rfl) _ _ (H.own 8 rfl) hy5) ?_
    rintro _ w11 hb8 rfl
    have H := H.ext hb8
    refine O.pick_true (v := (.bool t8)) rfl rfl rfl rfl ?_
    refine WL.nil ?_
    have H := H.keep [0, 1, 2, 3, 4, 5] [ownI (α := Int) v1 3 t1.Rates, ownI (α := GSight) v2 39 t1.Sights, boxI b1 25 [v1, v3], ownI (α := Int) (.slice none 0 0) 3 ([] : List Int), ownI (α := GSight) (.slice none 0 0) 39 ([] : List GSight), boxI b2 30 [(.int .i64 t5.Lo), (.int .i64 t5.Hi)]] rfl (by decide)
    have hq : t8 = b3 := Option.some.inj (show some t8 = some b3 from hm1)
    subst hq
    exact ⟨rfl, rfl, rfl, H⟩
   ·
    refine WL.reset (i := 27) (v := .bool false) (congrArg Value.bool hc2) ?_
    refine O.skip rfl rfl ?_
    refine O.skip rfl rfl ?_
    refine O.skip rfl rfl ?_
    refine O.pick_false (v := (.bool false)) rfl rfl rfl rfl ?_
    refine WL.nil ?_
    have hq : false = b3 := Option.some.inj (show some false = some b3 from hm1)
    subst hq
    exact ⟨rfl, rfl, rfl, H⟩
  ·
   rintro f w ⟨hf4, hf5, hf31, H⟩
   obtain ⟨u2, rfl⟩ := up3 hf4 hf5 hf31
   refine O.move (v := (.bool b3)) rfl rfl rfl ?_
   refine WL.cut 3 (fun f w => f 4 = (.pointer (some ⟨b2, 0, none⟩)) ∧ f 35 = .bool (b3 && (t6 == 0)) ∧ Inv w0 w [ownI (α := Int) v1 3 t1.Rates, ownI (α := GSight) v2 39 t1.Sights, boxI b1 25 [v1, v3], ownI (α := Int) (.slice none 0 0) 3 ([] : List Int), ownI (α := GSight) (.slice none 0 0) 39 ([] : List GSight), boxI b2 30 [(.int .i64 t5.Lo), (.int .i64 t5.Hi)]]) ?_ ?_
   ·
    rcases bool_ft b3 with hc3 | hc3
    ·
     refine WL.reset (i := 32) (v := .bool false) (congrArg Value.bool hc3) ?_
     refine O.skip rfl rfl ?_
     refine O.skip rfl rfl ?_
     refine O.pick_false (v := (.bool false)) rfl rfl rfl rfl ?_
     exact WL.nil ⟨rfl, congrArg Value.bool (and_f hc3), H⟩
    ·
     refine WL.reset (i := 32) (v := .bool true) (congrArg Value.bool hc3) ?_
     refine O.move (v := (.int .i64 t6)) rfl rfl rfl ?_
     refine O.eql rfl rfl rfl rfl ?_
     refine O.pick_true (v := (.bool (t6 == 0))) rfl rfl rfl rfl ?_
     exact WL.nil ⟨rfl, congrArg Value.bool (and_t hc3), H⟩
   ·
    rintro f w ⟨hf4, hf35, H⟩
    obtain ⟨u3, rfl⟩ := up2 hf4 hf35
    refine O.move (v := (.bool (b3 && (t6 == 0)))) rfl rfl rfl ?_
    refine WL.cut 4 (fun f w => f 40 = .bool ((b3 && (t6 == 0)) && (t5 == (GSpan.mk 90 110))) ∧ Inv w0 w [ownI (α := Int) v1 3 t1.Rates, ownI (α := GSight) v2 39 t1.Sights, boxI b1 25 [v1, v3], ownI (α := Int) (.slice none 0 0) 3 ([] : List Int), ownI (α := GSight) (.slice none 0 0) 39 ([] : List GSight), boxI b2 30 [(.int .i64 t5.Lo), (.int .i64 t5.Hi)]]) ?_ ?_
    ·
     rcases bool_ft (b3 && (t6 == 0)) with hc4 | hc4
     ·
      refine WL.reset (i := 36) (v := .bool false) (congrArg Value.bool hc4) ?_
      refine O.skip rfl rfl ?_
      refine O.skip rfl rfl ?_
      refine O.skip rfl rfl ?_
      refine O.pick_false (v := (.bool false)) rfl rfl rfl rfl ?_
      exact WL.nil ⟨congrArg Value.bool (and_f hc4), H⟩
     ·
      refine WL.reset (i := 36) (v := .bool true) (congrArg Value.bool hc4) ?_
      refine O.loadA [(.int .i64 t5.Lo), (.int .i64 t5.Hi)] ag30 rfl rfl rfl rfl (H.cell 5 rfl) ?_
      refine O.build (v := (.agg (Flat.cells (GSpan.mk 90 110)).toArray)) (fun w => bd30_0_1 _ _ w) rfl rfl rfl ?_
      refine O.eqlSt t5 (GSpan.mk 90 110) eq30 rfl rfl rfl rfl ?_
      refine O.pick_true (v := (.bool (t5 == (GSpan.mk 90 110)))) rfl rfl rfl rfl ?_
      exact WL.nil ⟨congrArg Value.bool (and_t hc4), H⟩
    ·
     rintro f w ⟨hf40, H⟩
     obtain ⟨u4, rfl⟩ := up1 hf40
     refine O.assign (v := (.bool ((b3 && (t6 == 0)) && (t5 == (GSpan.mk 90 110))))) rfl rfl rfl ?_
     refine WL.nil ?_
     refine W.ret ?_
     have hq : ((b3 && (t6 == 0)) && (t5 == (GSpan.mk 90 110))) = r0 := Option.some.inj (show some ((b3 && (t6 == 0)) && (t5 == (GSpan.mk 90 110))) = some r0 from hm)
     subst hq
     exact ends1 Try.results15 rfl ⟨_, rfl, H.base, rfl⟩

theorem c_sight_named {w0 : World} (va0_0 : Value) (va0_1 : Value) (a0 : GNet) (ha0_0 : SliceR w0 va0_0 a0.Rates) (ha0_1 : SliceR w0 va0_1 a0.Sights) (a1 : Int) {r0 : Int} (hm : sight_named a0 a1 = some r0) :
  Calls Try.prog 83 #[(.agg #[va0_0, va0_1]), (.int .i64 a1)] w0 (Ret w0 fun _ v => v = (.int .i64 r0)) := by
 unfold sight_named at hm
 refine calls_of_W Try.func83 rfl Try.ntmps83 (Nat.le_of_ble_eq_true rfl) ?_
 have H := Inv.start (w := w0)
 refine W.seq ?_
 refine W.region ?_
 refine O.box [va0_0, va0_1] H rfl rfl rfl rfl ?_
 intro b1 w1 H hb1
 refine O.assign (v := (.int .i64 0)) rfl rfl rfl ?_
 refine WL.nil ?_
 refine W.seq ?_
 refine W.block ?_
 refine W.seq ?_
 refine W.region ?_
 refine O.loadA [va0_0, va0_1] ag25 rfl rfl rfl rfl (H.cell 0 rfl) ?_
 obtain ⟨t1, hy1, hm⟩ := bind_some hm
 refine O.call Try.call33 rfl rfl rfl (c_sight_Valid _ _ (GNet.mk a0.Rates a0.Sights) (H.arg ha0_0) (H.arg ha0_1) hy1) ?_
 rintro _ w2 hb2 rfl
 have H := H.ext hb2
 refine O.not rfl rfl rfl ?_
 refine O.assign (v := (.bool (!t1))) rfl rfl rfl ?_
 refine WL.nil ?_
 rcases ite_some hm with ⟨hc1, hm⟩ | ⟨hc1, hm⟩
 ·
  refine W.cond_true (congrArg Value.bool hc1) ?_
  refine W.seq ?_
  refine W.region ?_
  refine O.assign (v := (.int .i64 1)) rfl rfl rfl ?_
  refine WL.nil ?_
  refine W.ret ?_
  have hq : 1 = r0 := Option.some.inj (show some 1 = some r0 from hm)
  subst hq
  exact ends1 Try.results83 rfl ⟨_, rfl, H.base, rfl⟩
 ·
  refine W.cond_false (congrArg Value.bool hc1) ?_
  refine W.seq ?_
  refine W.region ?_
  refine O.move (v := (.int .i64 a1)) rfl rfl rfl ?_
  refine O.fieldAddr fd25_1 rfl rfl rfl ?_
  refine O.load sc23 rfl rfl rfl (H.cell 0 rfl 1 _ rfl) ?_
  refine O.lenS Try.underlying23 (H.arg ha0_1) rfl rfl rfl ?_
  obtain ⟨t2, ht2, hm⟩ := bind_some hm
  refine O.sub rfl rfl rfl rfl ht2 ?_
  obtain ⟨t3, hy2, hm⟩ := bind_some hm
  refine O.call Try.call55 rfl rfl rfl (c_sight_within _ _ _ hy2) ?_
  rintro _ w3 hb3 rfl
  have H := H.ext hb3
  refine O.not rfl rfl rfl ?_
  refine O.assign (v := (.bool (!t3))) rfl rfl rfl ?_
  refine WL.nil ?_
  rcases ite_some hm with ⟨hc2, hm⟩ | ⟨hc2, hm⟩
  ·
   refine W.cond_true (congrArg Value.bool hc2) ?_
   refine W.seq ?_
   refine W.region ?_
   refine O.assign (v := (.int .i64 5)) rfl rfl rfl ?_
   refine WL.nil ?_
   refine W.ret ?_
   have hq : 5 = r0 := Option.some.inj (show some 5 = some r0 from hm)
   subst hq
   exact ends1 Try.results83 rfl ⟨_, rfl, H.base, rfl⟩
  ·
   refine W.cond_false (congrArg Value.bool hc2) ?_
   refine W.skip ?_
   refine W.seq ?_
   refine W.region ?_
   refine O.assign (v := (.int .i64 0)) rfl rfl rfl ?_
   refine WL.nil ?_
   refine W.ret ?_
   have hq : 0 = r0 := Option.some.inj (show some 0 = some r0 from hm)
   subst hq
   exact ends1 Try.results83 rfl ⟨_, rfl, H.base, rfl⟩

end Go.Proofs
