/-
  The walks: each function does what its model says, where the model has a value. No other condition.
-/
import Derived.Test.YtmoofcflfbnceaaGreatDoorW1
namespace Go.Proofs
open Go.Fw Go.RowKit Go.Shelf Go.Maps
open Go.Proofs.Tryz
open Go.Fw.W renaming seq → Sq, region → Rg, skip → Sk, block → Bk, ret → Rt, cond_true → Ct, cond_false → Cf
open Go.Fw.WL renaming nil → Nl, reset → Rs, cut → Cu
open Go.Fw.PL renaming of → Pl
set_option maxRecDepth 20000 in
theorem c_ball_next {w0 : World} (a0 : GMast) (a1 : GBall) (a2 : GEvent) {r0 : GBall} {r1 : Int} (hm : ball_next a0 a1 a2 = some (r0, r1)) :
  Calls prog 108 #[(.agg (Flat.cells a0).toArray), (.agg (Flat.cells a1).toArray), (.agg (Flat.cells a2).toArray)] w0 (Ret w0 fun _ v => v = .tuple #[(.agg (Flat.cells r0).toArray), (vi r1)]) := by
 unfold ball_next at hm
 refine cW func108 ntmps108 ?_
 have H := Inv.start (w := w0)
 refine Sq (Rg (Bx [(vi a0.Noon), (vi a0.Half), (vi a0.Full), (vi a0.Late), (vi a0.Again), (vi a0.Wind)] H fun b1 w1 H hb1 => Bx [(vi a1.Place), (vi a1.Wind), (.bool a1.Flag), (vi a1.At)] H fun b2 w2 H hb2 => Bx [(vi a2.At), (vi a2.Kind), (vi a2.N)] H fun b3 w3 H hb3 => Al [(vi 0), (vi 0), (.bool false), (vi 0)] ze32 H fun b4 w4 H hb4 => As (vi 0) (Nl (Sq (Sq ?_)))))
 refine Rg (La [(vi a2.At), (vi a2.Kind), (vi a2.N)] ag70 (H.cell 2 rfl) ?_)
 obtain ⟨t1, hy1, hm⟩ := bind_some hm
 refine Ca call143 (c_ball_fine a2 hy1) ?_
 rintro _ w5 hb5 rfl
 have H := H.ext hb5
 refine O.not R R R (Mv (.bool (!t1)) ?_)
 refine Cu 6 (fun f w => f 3 = (pt b1) ∧ f 4 = (pt b2) ∧ f 5 = (pt b3) ∧ f 6 = (pt b4) ∧ f 18 = .bool ((!t1) || (decide (a2.At < a1.At))) ∧ Inv w0 w [boxI b1 52 [(vi a0.Noon), (vi a0.Half), (vi a0.Full), (vi a0.Late), (vi a0.Again), (vi a0.Wind)], boxI b2 32 [(vi a1.Place), (vi a1.Wind), (.bool a1.Flag), (vi a1.At)], boxI b3 70 [(vi a2.At), (vi a2.Kind), (vi a2.N)], boxI b4 32 [(vi 0), (vi 0), (.bool false), (vi 0)]]) ?_ ?_
 ·
  rcases bool_ft (!t1) with hc1 | hc1
  ·
   exact Rs (i := 12) (v := .bool false) (cb hc1) (Fa fd70_0 rfl (Ld _ sc3 (H.cell 2 rfl 0 _ rfl) (Fa fd32_3 rfl (Ld _ sc3 (H.cell 1 rfl 3 _ rfl) (Ls (Pf (.bool (decide (a2.At < a1.At))) (Nl ⟨rfl, rfl, rfl, rfl, cb (or_f hc1), H⟩)))))))
  ·
   exact Rs (i := 12) (v := .bool true) (cb hc1) (Sp (Sp (Sp (Sp (Sp (Pt (.bool true) (Nl ⟨rfl, rfl, rfl, rfl, cb (or_t hc1), H⟩)))))))
 ·
  rintro f w ⟨hf3, hf4, hf5, hf6, hf18, H⟩
  obtain ⟨u1, rfl⟩ := up5 hf3 hf4 hf5 hf6 hf18
  refine Nl ?_
  rcases ite_some hm with ⟨hc2, hm⟩ | ⟨hc2, hm⟩
  ·
   refine Ct (cb hc2) (Sq (Rg (Bd (v := (.agg (Flat.cells (GBall.mk 0 0 false 0)).toArray)) (fun w => bd32_  w) rfl (St 3 0 [(vi 0), (vi 0), (.bool false), (vi 0)] [(vi 0), (vi 0), (.bool false), (vi 0)] sz32 H R R (one_cons rfl (one_cons rfl (one_cons rfl (one_cons rfl one_nil)))) fun w6 H => As (vi 7) (Nl (Rt ?_))))))
   obtain ⟨rfl, rfl⟩ := j2 hm
   exact ends2 results108 ⟨_, rfl, run_loadVar_agg ag32 rfl (H.cell 3 rfl)⟩ rfl ⟨_, rfl, H.base, rfl⟩
  ·
   refine Cf (cb hc2) (Sk (Sq ?_))
   rcases ite_some hm with ⟨hc3, hm⟩ | ⟨hc3, hm⟩
   ·
    obtain ⟨wd1, rfl⟩ : ∃ x, x = w := ⟨w, rfl⟩
    refine W.draw 5 (fun k v wk => match k with | 0 => v = (.agg #[.nilFunc, .nilFunc, (.func (.func 188) #[] #[]), (.func (.func 189) #[] #[]), (.func (.func 190) #[] #[]), (.func (.func 192) #[] #[]), (.func (.func 193) #[] #[]), (.func (.func 194) #[] #[]), (.func (.func 195) #[] #[]), (.func (.func 196) #[] #[]), (.func (.func 197) #[] #[]), (.func (.func 198) #[] #[]), (.func (.func 199) #[] #[]), (.func (.func 200) #[] #[])]) | 1 => v = (.pointer (some (Addr.add (Addr.mk b3 0 none) 1))) | 2 => v = (vi a2.Kind) | 3 => v = (.agg #[(.func (.func 188) #[] #[]), (.func (.func 189) #[] #[])]) | 4 => ∃ b : Nat, v = .pointer (some ⟨b, 0, none⟩) ∧ Inv wd1 wk [boxI b 220 [.nilFunc, .nilFunc]] | _ => True) (by intro k v w w' h hb; match k, h with | 0, h => exact h | 1, h => exact h | 2, h => exact h | 3, h => exact h | 4, ⟨b, e, h⟩ => exact ⟨b, e, h.ext hb⟩ | _ + 5, h => exact h) fol (by kernel_rfl) ?_ ?_
    ·
     refine ⟨⟨⟨⟨⟨trivial, ?_⟩, ?_⟩, ?_⟩, ?_⟩, ?_⟩
     ·
      intro f wk hx hf hd
      have H := H.ext hx
      refine Ca call144 c_ball_rules ?_
      rintro _ w7 hb6 rfl
      have H := H.ext hb6
      exact Nl ⟨hb6, _, rfl, rfl⟩
     ·
      intro f wk hx hf hd
      have H := H.ext hx
      have hf5 : f 5 = (pt b3) := hf 5 rfl
      obtain ⟨u2, rfl⟩ := up1 hf5
      exact Fa fd70_1 rfl (Nl ⟨Below.refl _ _, _, rfl, rfl⟩)
     ·
      intro f wk hx hf hd
      have H := H.ext hx
      have hf21 : f 21 = (.pointer (some (Addr.add (Addr.mk b3 0 none) 1))) := hd 1 rfl
      obtain ⟨u3, rfl⟩ := up1 hf21
      exact Ld _ sc3 (H.cell 2 rfl 1 _ rfl) (Nl ⟨Below.refl _ _, _, rfl, rfl⟩)
     ·
      intro f wk hx hf hd
      have H := H.ext hx
      have hf20 : f 20 = (.agg #[.nilFunc, .nilFunc, (.func (.func 188) #[] #[]), (.func (.func 189) #[] #[]), (.func (.func 190) #[] #[]), (.func (.func 192) #[] #[]), (.func (.func 193) #[] #[]), (.func (.func 194) #[] #[]), (.func (.func 195) #[] #[]), (.func (.func 196) #[] #[]), (.func (.func 197) #[] #[]), (.func (.func 198) #[] #[]), (.func (.func 199) #[] #[]), (.func (.func 200) #[] #[])]) := hd 0 rfl
      have hf22 : f 22 = (vi a2.Kind) := hd 2 rfl
      obtain ⟨u4, rfl⟩ := up2 hf20 hf22
      exact O.indexC 1 ixf221_1_108 (eq_of_beq hc3) R R R R (Nl ⟨Below.refl _ _, _, rfl, rfl⟩)
     ·
      intro f wk hx hf hd
      have H := H.ext hx
      exact Al [.nilFunc, .nilFunc] ze220 (Inv.start (w := _)) fun b5 w8 H hb7 => Nl ⟨hb7, _, rfl, ⟨_, rfl, H.rebase hx⟩⟩
    ·
     intro f wk hx hf hmd hd
     have hf3 : f 3 = (pt b1) := hf 3 rfl
     have hf4 : f 4 = (pt b2) := hf 4 rfl
     have hf5 : f 5 = (pt b3) := hf 5 rfl
     have hf6 : f 6 = (pt b4) := hf 6 rfl
     obtain ⟨b5, hf8, ho8⟩ : ∃ b : Nat, f 8 = .pointer (some ⟨b, 0, none⟩) ∧ Inv wd1 wk [boxI b 220 [.nilFunc, .nilFunc]] := hd 4 rfl
     have hf23 : f 23 = (.agg #[(.func (.func 188) #[] #[]), (.func (.func 189) #[] #[])]) := hd 3 rfl
     have H := H.addAll hx ho8
     obtain ⟨u5, rfl⟩ := up6 hf3 hf4 hf5 hf6 hf8 hf23
     refine St 4 0 [(.func (.func 188) #[] #[]), (.func (.func 189) #[] #[])] [(.func (.func 188) #[] #[]), (.func (.func 189) #[] #[])] sz220 H R R (one_cons rfl (one_cons rfl one_nil)) fun w9 H => Nl (Sq (Sq (Rg (Fa fd220_0 rfl (Ld _ sc217 (H.cell 4 rfl 0 _ rfl) (La [(vi a0.Noon), (vi a0.Half), (vi a0.Full), (vi a0.Late), (vi a0.Again), (vi a0.Wind)] ag52 (H.cell 0 rfl) (La [(vi a1.Place), (vi a1.Wind), (.bool a1.Flag), (vi a1.At)] ag32 (H.cell 1 rfl) (Fa fd70_0 rfl (Ld _ sc3 (H.cell 2 rfl 0 _ rfl) ?_)))))))))
     obtain ⟨t2, hy2, hm⟩ := bind_some hm
     refine O.callV R R R R (callsV_mk call188 (c_ball_rules_c1 a0 a1 _ hy2)) ?_
     rintro _ w10 hb8 rfl
     have H := H.ext hb8
     refine O.not R R R (Nl ?_)
     rcases ite_some hm with ⟨hc4, hm⟩ | ⟨hc4, hm⟩
     ·
      refine Ct (cb hc4) (Sq (Rg (Bd (v := (.agg (Flat.cells (GBall.mk 0 0 false 0)).toArray)) (fun w => bd32_  w) rfl (St 3 0 [(vi 0), (vi 0), (.bool false), (vi 0)] [(vi 0), (vi 0), (.bool false), (vi 0)] sz32 H R R (one_cons rfl (one_cons rfl (one_cons rfl (one_cons rfl one_nil)))) fun w11 H => As (vi 9) (Nl (Rt ?_))))))
      obtain ⟨rfl, rfl⟩ := j2 hm
      exact ends2 results108 ⟨_, rfl, run_loadVar_agg ag32 rfl (H.cell 3 rfl)⟩ rfl ⟨_, rfl, H.base, rfl⟩
     ·
      refine Cf (cb hc4) (Sk (Sq (Rg (Fa fd220_1 rfl (Ld _ sc218 (H.cell 4 rfl 1 _ rfl) (Fa fd70_2 rfl (Ld _ sc3 (H.cell 2 rfl 2 _ rfl) ?_)))))))
      obtain ⟨t3, hy3, hm⟩ := bind_some hm
      refine O.callXV 1 H rfl call189 R R R R (c_ball_rules_c2 _ a1 (H.boxAt 1 rfl) _ hy3) ?_
      rintro _ w12 H rfl
      refine Nl (Sq (Rg (Fa fd70_0 rfl (Ld _ sc3 (H.cell 2 rfl 0 _ rfl) (Fa fd32_3 rfl (St 1 3 [(vi a2.At)] [(vi t3.Place), (vi t3.Wind), (.bool t3.Flag), (vi a2.At)] sz3 H R R (one_cons rfl one_nil) fun w13 H => Nl (Sq (Rg (La [(vi t3.Place), (vi t3.Wind), (.bool t3.Flag), (vi a2.At)] ag32 (H.cell 1 rfl) (St 3 0 [(vi t3.Place), (vi t3.Wind), (.bool t3.Flag), (vi a2.At)] [(vi t3.Place), (vi t3.Wind), (.bool t3.Flag), (vi a2.At)] sz32 H R R (one_cons rfl (one_cons rfl (one_cons rfl (one_cons rfl one_nil)))) fun w14 H => ?_))))))))))
      refine As (vi 0) (Nl (Rt ?_))
      obtain ⟨rfl, rfl⟩ := j2 hm
      exact ends2 results108 ⟨_, rfl, run_loadVar_agg ag32 rfl (H.cell 3 rfl)⟩ rfl ⟨_, rfl, H.base, rfl⟩
   ·
    rcases ite_some hm with ⟨hc5, hm⟩ | ⟨hc5, hm⟩
    ·
     obtain ⟨wd2, rfl⟩ : ∃ x, x = w := ⟨w, rfl⟩
     refine W.draw 5 (fun k v wk => match k with | 0 => v = (.agg #[.nilFunc, .nilFunc, (.func (.func 188) #[] #[]), (.func (.func 189) #[] #[]), (.func (.func 190) #[] #[]), (.func (.func 192) #[] #[]), (.func (.func 193) #[] #[]), (.func (.func 194) #[] #[]), (.func (.func 195) #[] #[]), (.func (.func 196) #[] #[]), (.func (.func 197) #[] #[]), (.func (.func 198) #[] #[]), (.func (.func 199) #[] #[]), (.func (.func 200) #[] #[])]) | 1 => v = (.pointer (some (Addr.add (Addr.mk b3 0 none) 1))) | 2 => v = (vi a2.Kind) | 3 => v = (.agg #[(.func (.func 190) #[] #[]), (.func (.func 192) #[] #[])]) | 4 => ∃ b : Nat, v = .pointer (some ⟨b, 0, none⟩) ∧ Inv wd2 wk [boxI b 220 [.nilFunc, .nilFunc]] | _ => True) (by intro k v w w' h hb; match k, h with | 0, h => exact h | 1, h => exact h | 2, h => exact h | 3, h => exact h | 4, ⟨b, e, h⟩ => exact ⟨b, e, h.ext hb⟩ | _ + 5, h => exact h) fol (by kernel_rfl) ?_ ?_
     ·
      refine ⟨⟨⟨⟨⟨trivial, ?_⟩, ?_⟩, ?_⟩, ?_⟩, ?_⟩
      ·
       intro f wk hx hf hd
       have H := H.ext hx
       refine Ca call144 c_ball_rules ?_
       rintro _ w15 hb9 rfl
       have H := H.ext hb9
       exact Nl ⟨hb9, _, rfl, rfl⟩
      ·
       intro f wk hx hf hd
       have H := H.ext hx
       have hf5 : f 5 = (pt b3) := hf 5 rfl
       obtain ⟨u6, rfl⟩ := up1 hf5
       exact Fa fd70_1 rfl (Nl ⟨Below.refl _ _, _, rfl, rfl⟩)
      ·
       intro f wk hx hf hd
       have H := H.ext hx
       have hf21 : f 21 = (.pointer (some (Addr.add (Addr.mk b3 0 none) 1))) := hd 1 rfl
       obtain ⟨u7, rfl⟩ := up1 hf21
       exact Ld _ sc3 (H.cell 2 rfl 1 _ rfl) (Nl ⟨Below.refl _ _, _, rfl, rfl⟩)
      ·
       intro f wk hx hf hd
       have H := H.ext hx
       have hf20 : f 20 = (.agg #[.nilFunc, .nilFunc, (.func (.func 188) #[] #[]), (.func (.func 189) #[] #[]), (.func (.func 190) #[] #[]), (.func (.func 192) #[] #[]), (.func (.func 193) #[] #[]), (.func (.func 194) #[] #[]), (.func (.func 195) #[] #[]), (.func (.func 196) #[] #[]), (.func (.func 197) #[] #[]), (.func (.func 198) #[] #[]), (.func (.func 199) #[] #[]), (.func (.func 200) #[] #[])]) := hd 0 rfl
       have hf22 : f 22 = (vi a2.Kind) := hd 2 rfl
       obtain ⟨u8, rfl⟩ := up2 hf20 hf22
       exact O.indexC 2 ixf221_2_108 (eq_of_beq hc5) R R R R (Nl ⟨Below.refl _ _, _, rfl, rfl⟩)
      ·
       intro f wk hx hf hd
       have H := H.ext hx
       exact Al [.nilFunc, .nilFunc] ze220 (Inv.start (w := _)) fun b6 w16 H hb10 => Nl ⟨hb10, _, rfl, ⟨_, rfl, H.rebase hx⟩⟩
     ·
      intro f wk hx hf hmd hd
      have hf3 : f 3 = (pt b1) := hf 3 rfl
      have hf4 : f 4 = (pt b2) := hf 4 rfl
      have hf5 : f 5 = (pt b3) := hf 5 rfl
      have hf6 : f 6 = (pt b4) := hf 6 rfl
      obtain ⟨b6, hf8, ho8⟩ : ∃ b : Nat, f 8 = .pointer (some ⟨b, 0, none⟩) ∧ Inv wd2 wk [boxI b 220 [.nilFunc, .nilFunc]] := hd 4 rfl
      have hf23 : f 23 = (.agg #[(.func (.func 190) #[] #[]), (.func (.func 192) #[] #[])]) := hd 3 rfl
      have H := H.addAll hx ho8
      obtain ⟨u9, rfl⟩ := up6 hf3 hf4 hf5 hf6 hf8 hf23
      refine St 4 0 [(.func (.func 190) #[] #[]), (.func (.func 192) #[] #[])] [(.func (.func 190) #[] #[]), (.func (.func 192) #[] #[])] sz220 H R R (one_cons rfl (one_cons rfl one_nil)) fun w17 H => Nl (Sq (Sq (Rg (Fa fd220_0 rfl (Ld _ sc217 (H.cell 4 rfl 0 _ rfl) (La [(vi a0.Noon), (vi a0.Half), (vi a0.Full), (vi a0.Late), (vi a0.Again), (vi a0.Wind)] ag52 (H.cell 0 rfl) (La [(vi a1.Place), (vi a1.Wind), (.bool a1.Flag), (vi a1.At)] ag32 (H.cell 1 rfl) (Fa fd70_0 rfl (Ld _ sc3 (H.cell 2 rfl 0 _ rfl) ?_)))))))))
      obtain ⟨t4, hy4, hm⟩ := bind_some hm
      refine O.callV R R R R (callsV_mk call190 (c_ball_rules_c3 a0 a1 _ hy4)) ?_
      rintro _ w18 hb11 rfl
      have H := H.ext hb11
      refine O.not R R R (Nl ?_)
      rcases ite_some hm with ⟨hc6, hm⟩ | ⟨hc6, hm⟩
      ·
       refine Ct (cb hc6) (Sq (Rg (Bd (v := (.agg (Flat.cells (GBall.mk 0 0 false 0)).toArray)) (fun w => bd32_  w) rfl (St 3 0 [(vi 0), (vi 0), (.bool false), (vi 0)] [(vi 0), (vi 0), (.bool false), (vi 0)] sz32 H R R (one_cons rfl (one_cons rfl (one_cons rfl (one_cons rfl one_nil)))) fun w19 H => As (vi 9) (Nl (Rt ?_))))))
       obtain ⟨rfl, rfl⟩ := j2 hm
       exact ends2 results108 ⟨_, rfl, run_loadVar_agg ag32 rfl (H.cell 3 rfl)⟩ rfl ⟨_, rfl, H.base, rfl⟩
      ·
       refine Cf (cb hc6) (Sk (Sq (Rg (Fa fd220_1 rfl (Ld _ sc218 (H.cell 4 rfl 1 _ rfl) (Fa fd70_2 rfl (Ld _ sc3 (H.cell 2 rfl 2 _ rfl) ?_)))))))
       obtain ⟨t5, hy5, hm⟩ := bind_some hm
       refine O.callXV 1 H rfl call192 R R R R (c_ball_rules_c4 _ a1 (H.boxAt 1 rfl) _ hy5) ?_
       rintro _ w20 H rfl
       refine Nl (Sq (Rg (Fa fd70_0 rfl (Ld _ sc3 (H.cell 2 rfl 0 _ rfl) (Fa fd32_3 rfl (St 1 3 [(vi a2.At)] [(vi t5.Place), (vi t5.Wind), (.bool t5.Flag), (vi a2.At)] sz3 H R R (one_cons rfl one_nil) fun w21 H => Nl (Sq (Rg (La [(vi t5.Place), (vi t5.Wind), (.bool t5.Flag), (vi a2.At)] ag32 (H.cell 1 rfl) (St 3 0 [(vi t5.Place), (vi t5.Wind), (.bool t5.Flag), (vi a2.At)] [(vi t5.Place), (vi t5.Wind), (.bool t5.Flag), (vi a2.At)] sz32 H R R (one_cons rfl (one_cons rfl (one_cons rfl (one_cons rfl one_nil)))) fun w22 H => ?_))))))))))
       refine As (vi 0) (Nl (Rt ?_))
       obtain ⟨rfl, rfl⟩ := j2 hm
       exact ends2 results108 ⟨_, rfl, run_loadVar_agg ag32 rfl (H.cell 3 rfl)⟩ rfl ⟨_, rfl, H.base, rfl⟩
    ·
     rcases ite_some hm with ⟨hc7, hm⟩ | ⟨hc7, hm⟩
     ·
      obtain ⟨wd3, rfl⟩ : ∃ x, x = w := ⟨w, rfl⟩
      refine W.draw 5 (fun k v wk => match k with | 0 => v = (.agg #[.nilFunc, .nilFunc, (.func (.func 188) #[] #[]), (.func (.func 189) #[] #[]), (.func (.func 190) #[] #[]), (.func (.func 192) #[] #[]), (.func (.func 193) #[] #[]), (.func (.func 194) #[] #[]), (.func (.func 195) #[] #[]), (.func (.func 196) #[] #[]), (.func (.func 197) #[] #[]), (.func (.func 198) #[] #[]), (.func (.func 199) #[] #[]), (.func (.func 200) #[] #[])]) | 1 => v = (.pointer (some (Addr.add (Addr.mk b3 0 none) 1))) | 2 => v = (vi a2.Kind) | 3 => v = (.agg #[(.func (.func 193) #[] #[]), (.func (.func 194) #[] #[])]) | 4 => ∃ b : Nat, v = .pointer (some ⟨b, 0, none⟩) ∧ Inv wd3 wk [boxI b 220 [.nilFunc, .nilFunc]] | _ => True) (by intro k v w w' h hb; match k, h with | 0, h => exact h | 1, h => exact h | 2, h => exact h | 3, h => exact h | 4, ⟨b, e, h⟩ => exact ⟨b, e, h.ext hb⟩ | _ + 5, h => exact h) fol (by kernel_rfl) ?_ ?_
      ·
       refine ⟨⟨⟨⟨⟨trivial, ?_⟩, ?_⟩, ?_⟩, ?_⟩, ?_⟩
       ·
        intro f wk hx hf hd
        have H := H.ext hx
        refine Ca call144 c_ball_rules ?_
        rintro _ w23 hb12 rfl
        have H := H.ext hb12
        exact Nl ⟨hb12, _, rfl, rfl⟩
       ·
        intro f wk hx hf hd
        have H := H.ext hx
        have hf5 : f 5 = (pt b3) := hf 5 rfl
        obtain ⟨u10, rfl⟩ := up1 hf5
        exact Fa fd70_1 rfl (Nl ⟨Below.refl _ _, _, rfl, rfl⟩)
       ·
        intro f wk hx hf hd
        have H := H.ext hx
        have hf21 : f 21 = (.pointer (some (Addr.add (Addr.mk b3 0 none) 1))) := hd 1 rfl
        obtain ⟨u11, rfl⟩ := up1 hf21
        exact Ld _ sc3 (H.cell 2 rfl 1 _ rfl) (Nl ⟨Below.refl _ _, _, rfl, rfl⟩)
       ·
        intro f wk hx hf hd
        have H := H.ext hx
        have hf20 : f 20 = (.agg #[.nilFunc, .nilFunc, (.func (.func 188) #[] #[]), (.func (.func 189) #[] #[]), (.func (.func 190) #[] #[]), (.func (.func 192) #[] #[]), (.func (.func 193) #[] #[]), (.func (.func 194) #[] #[]), (.func (.func 195) #[] #[]), (.func (.func 196) #[] #[]), (.func (.func 197) #[] #[]), (.func (.func 198) #[] #[]), (.func (.func 199) #[] #[]), (.func (.func 200) #[] #[])]) := hd 0 rfl
        have hf22 : f 22 = (vi a2.Kind) := hd 2 rfl
        obtain ⟨u12, rfl⟩ := up2 hf20 hf22
        exact O.indexC 3 ixf221_3_108 (eq_of_beq hc7) R R R R (Nl ⟨Below.refl _ _, _, rfl, rfl⟩)
       ·
        intro f wk hx hf hd
        have H := H.ext hx
        exact Al [.nilFunc, .nilFunc] ze220 (Inv.start (w := _)) fun b7 w24 H hb13 => Nl ⟨hb13, _, rfl, ⟨_, rfl, H.rebase hx⟩⟩
      ·
       intro f wk hx hf hmd hd
       have hf3 : f 3 = (pt b1) := hf 3 rfl
       have hf4 : f 4 = (pt b2) := hf 4 rfl
       have hf5 : f 5 = (pt b3) := hf 5 rfl
       have hf6 : f 6 = (pt b4) := hf 6 rfl
       obtain ⟨b7, hf8, ho8⟩ : ∃ b : Nat, f 8 = .pointer (some ⟨b, 0, none⟩) ∧ Inv wd3 wk [boxI b 220 [.nilFunc, .nilFunc]] := hd 4 rfl
       have hf23 : f 23 = (.agg #[(.func (.func 193) #[] #[]), (.func (.func 194) #[] #[])]) := hd 3 rfl
       have H := H.addAll hx ho8
       obtain ⟨u13, rfl⟩ := up6 hf3 hf4 hf5 hf6 hf8 hf23
       refine St 4 0 [(.func (.func 193) #[] #[]), (.func (.func 194) #[] #[])] [(.func (.func 193) #[] #[]), (.func (.func 194) #[] #[])] sz220 H R R (one_cons rfl (one_cons rfl one_nil)) fun w25 H => Nl (Sq (Sq (Rg (Fa fd220_0 rfl (Ld _ sc217 (H.cell 4 rfl 0 _ rfl) (La [(vi a0.Noon), (vi a0.Half), (vi a0.Full), (vi a0.Late), (vi a0.Again), (vi a0.Wind)] ag52 (H.cell 0 rfl) (La [(vi a1.Place), (vi a1.Wind), (.bool a1.Flag), (vi a1.At)] ag32 (H.cell 1 rfl) (Fa fd70_0 rfl (Ld _ sc3 (H.cell 2 rfl 0 _ rfl) ?_)))))))))
       obtain ⟨t6, hy6, hm⟩ := bind_some hm
       refine O.callV R R R R (callsV_mk call193 (c_ball_rules_c5 a0 a1 _ hy6)) ?_
       rintro _ w26 hb14 rfl
       have H := H.ext hb14
       refine O.not R R R (Nl ?_)
       rcases ite_some hm with ⟨hc8, hm⟩ | ⟨hc8, hm⟩
       ·
        refine Ct (cb hc8) (Sq (Rg (Bd (v := (.agg (Flat.cells (GBall.mk 0 0 false 0)).toArray)) (fun w => bd32_  w) rfl (St 3 0 [(vi 0), (vi 0), (.bool false), (vi 0)] [(vi 0), (vi 0), (.bool false), (vi 0)] sz32 H R R (one_cons rfl (one_cons rfl (one_cons rfl (one_cons rfl one_nil)))) fun w27 H => As (vi 9) (Nl (Rt ?_))))))
        obtain ⟨rfl, rfl⟩ := j2 hm
        exact ends2 results108 ⟨_, rfl, run_loadVar_agg ag32 rfl (H.cell 3 rfl)⟩ rfl ⟨_, rfl, H.base, rfl⟩
       ·
        refine Cf (cb hc8) (Sk (Sq (Rg (Fa fd220_1 rfl (Ld _ sc218 (H.cell 4 rfl 1 _ rfl) (Fa fd70_2 rfl (Ld _ sc3 (H.cell 2 rfl 2 _ rfl) ?_)))))))
        obtain ⟨t7, hy7, hm⟩ := bind_some hm
        refine O.callXV 1 H rfl call194 R R R R (c_ball_rules_c6 _ a1 (H.boxAt 1 rfl) _ hy7) ?_
        rintro _ w28 H rfl
        refine Nl (Sq (Rg (Fa fd70_0 rfl (Ld _ sc3 (H.cell 2 rfl 0 _ rfl) (Fa fd32_3 rfl (St 1 3 [(vi a2.At)] [(vi t7.Place), (vi t7.Wind), (.bool t7.Flag), (vi a2.At)] sz3 H R R (one_cons rfl one_nil) fun w29 H => Nl (Sq (Rg (La [(vi t7.Place), (vi t7.Wind), (.bool t7.Flag), (vi a2.At)] ag32 (H.cell 1 rfl) (St 3 0 [(vi t7.Place), (vi t7.Wind), (.bool t7.Flag), (vi a2.At)] [(vi t7.Place), (vi t7.Wind), (.bool t7.Flag), (vi a2.At)] sz32 H R R (one_cons rfl (one_cons rfl (one_cons rfl (one_cons rfl one_nil)))) fun w30 H => ?_))))))))))
        refine As (vi 0) (Nl (Rt ?_))
        obtain ⟨rfl, rfl⟩ := j2 hm
        exact ends2 results108 ⟨_, rfl, run_loadVar_agg ag32 rfl (H.cell 3 rfl)⟩ rfl ⟨_, rfl, H.base, rfl⟩
     ·
      rcases ite_some hm with ⟨hc9, hm⟩ | ⟨hc9, hm⟩
      ·
       obtain ⟨wd4, rfl⟩ : ∃ x, x = w := ⟨w, rfl⟩
       refine W.draw 5 (fun k v wk => match k with | 0 => v = (.agg #[.nilFunc, .nilFunc, (.func (.func 188) #[] #[]), (.func (.func 189) #[] #[]), (.func (.func 190) #[] #[]), (.func (.func 192) #[] #[]), (.func (.func 193) #[] #[]), (.func (.func 194) #[] #[]), (.func (.func 195) #[] #[]), (.func (.func 196) #[] #[]), (.func (.func 197) #[] #[]), (.func (.func 198) #[] #[]), (.func (.func 199) #[] #[]), (.func (.func 200) #[] #[])]) | 1 => v = (.pointer (some (Addr.add (Addr.mk b3 0 none) 1))) | 2 => v = (vi a2.Kind) | 3 => v = (.agg #[(.func (.func 195) #[] #[]), (.func (.func 196) #[] #[])]) | 4 => ∃ b : Nat, v = .pointer (some ⟨b, 0, none⟩) ∧ Inv wd4 wk [boxI b 220 [.nilFunc, .nilFunc]] | _ => True) (by intro k v w w' h hb; match k, h with | 0, h => exact h | 1, h => exact h | 2, h => exact h | 3, h => exact h | 4, ⟨b, e, h⟩ => exact ⟨b, e, h.ext hb⟩ | _ + 5, h => exact h) fol (by kernel_rfl) ?_ ?_
       ·
        refine ⟨⟨⟨⟨⟨trivial, ?_⟩, ?_⟩, ?_⟩, ?_⟩, ?_⟩
        ·
         intro f wk hx hf hd
         have H := H.ext hx
         refine Ca call144 c_ball_rules ?_
         rintro _ w31 hb15 rfl
         have H := H.ext hb15
         exact Nl ⟨hb15, _, rfl, rfl⟩
        ·
         intro f wk hx hf hd
         have H := H.ext hx
         have hf5 : f 5 = (pt b3) := hf 5 rfl
         obtain ⟨u14, rfl⟩ := up1 hf5
         exact Fa fd70_1 rfl (Nl ⟨Below.refl _ _, _, rfl, rfl⟩)
        ·
         intro f wk hx hf hd
         have H := H.ext hx
         have hf21 : f 21 = (.pointer (some (Addr.add (Addr.mk b3 0 none) 1))) := hd 1 rfl
         obtain ⟨u15, rfl⟩ := up1 hf21
         exact Ld _ sc3 (H.cell 2 rfl 1 _ rfl) (Nl ⟨Below.refl _ _, _, rfl, rfl⟩)
        ·
         intro f wk hx hf hd
         have H := H.ext hx
         have hf20 : f 20 = (.agg #[.nilFunc, .nilFunc, (.func (.func 188) #[] #[]), (.func (.func 189) #[] #[]), (.func (.func 190) #[] #[]), (.func (.func 192) #[] #[]), (.func (.func 193) #[] #[]), (.func (.func 194) #[] #[]), (.func (.func 195) #[] #[]), (.func (.func 196) #[] #[]), (.func (.func 197) #[] #[]), (.func (.func 198) #[] #[]), (.func (.func 199) #[] #[]), (.func (.func 200) #[] #[])]) := hd 0 rfl
         have hf22 : f 22 = (vi a2.Kind) := hd 2 rfl
         obtain ⟨u16, rfl⟩ := up2 hf20 hf22
         exact O.indexC 4 ixf221_4_108 (eq_of_beq hc9) R R R R (Nl ⟨Below.refl _ _, _, rfl, rfl⟩)
        ·
         intro f wk hx hf hd
         have H := H.ext hx
         exact Al [.nilFunc, .nilFunc] ze220 (Inv.start (w := _)) fun b8 w32 H hb16 => Nl ⟨hb16, _, rfl, ⟨_, rfl, H.rebase hx⟩⟩
       ·
        intro f wk hx hf hmd hd
        have hf3 : f 3 = (pt b1) := hf 3 rfl
        have hf4 : f 4 = (pt b2) := hf 4 rfl
        have hf5 : f 5 = (pt b3) := hf 5 rfl
        have hf6 : f 6 = (pt b4) := hf 6 rfl
        obtain ⟨b8, hf8, ho8⟩ : ∃ b : Nat, f 8 = .pointer (some ⟨b, 0, none⟩) ∧ Inv wd4 wk [boxI b 220 [.nilFunc, .nilFunc]] := hd 4 rfl
        have hf23 : f 23 = (.agg #[(.func (.func 195) #[] #[]), (.func (.func 196) #[] #[])]) := hd 3 rfl
        have H := H.addAll hx ho8
        obtain ⟨u17, rfl⟩ := up6 hf3 hf4 hf5 hf6 hf8 hf23
        refine St 4 0 [(.func (.func 195) #[] #[]), (.func (.func 196) #[] #[])] [(.func (.func 195) #[] #[]), (.func (.func 196) #[] #[])] sz220 H R R (one_cons rfl (one_cons rfl one_nil)) fun w33 H => Nl (Sq (Sq (Rg (Fa fd220_0 rfl (Ld _ sc217 (H.cell 4 rfl 0 _ rfl) (La [(vi a0.Noon), (vi a0.Half), (vi a0.Full), (vi a0.Late), (vi a0.Again), (vi a0.Wind)] ag52 (H.cell 0 rfl) (La [(vi a1.Place), (vi a1.Wind), (.bool a1.Flag), (vi a1.At)] ag32 (H.cell 1 rfl) (Fa fd70_0 rfl (Ld _ sc3 (H.cell 2 rfl 0 _ rfl) ?_)))))))))
        obtain ⟨t8, hy8, hm⟩ := bind_some hm
        refine O.callV R R R R (callsV_mk call195 (c_ball_rules_c7 a0 a1 _ hy8)) ?_
        rintro _ w34 hb17 rfl
        have H := H.ext hb17
        refine O.not R R R (Nl ?_)
        rcases ite_some hm with ⟨hc10, hm⟩ | ⟨hc10, hm⟩
        ·
         refine Ct (cb hc10) (Sq (Rg (Bd (v := (.agg (Flat.cells (GBall.mk 0 0 false 0)).toArray)) (fun w => bd32_  w) rfl (St 3 0 [(vi 0), (vi 0), (.bool false), (vi 0)] [(vi 0), (vi 0), (.bool false), (vi 0)] sz32 H R R (one_cons rfl (one_cons rfl (one_cons rfl (one_cons rfl one_nil)))) fun w35 H => As (vi 9) (Nl (Rt ?_))))))
         obtain ⟨rfl, rfl⟩ := j2 hm
         exact ends2 results108 ⟨_, rfl, run_loadVar_agg ag32 rfl (H.cell 3 rfl)⟩ rfl ⟨_, rfl, H.base, rfl⟩
        ·
         refine Cf (cb hc10) (Sk (Sq (Rg (Fa fd220_1 rfl (Ld _ sc218 (H.cell 4 rfl 1 _ rfl) (Fa fd70_2 rfl (Ld _ sc3 (H.cell 2 rfl 2 _ rfl) ?_)))))))
         obtain ⟨t9, hy9, hm⟩ := bind_some hm
         refine O.callXV 1 H rfl call196 R R R R (c_ball_rules_c8 _ a1 (H.boxAt 1 rfl) _ hy9) ?_
         rintro _ w36 H rfl
         refine Nl (Sq (Rg (Fa fd70_0 rfl (Ld _ sc3 (H.cell 2 rfl 0 _ rfl) (Fa fd32_3 rfl (St 1 3 [(vi a2.At)] [(vi t9.Place), (vi t9.Wind), (.bool t9.Flag), (vi a2.At)] sz3 H R R (one_cons rfl one_nil) fun w37 H => Nl (Sq (Rg (La [(vi t9.Place), (vi t9.Wind), (.bool t9.Flag), (vi a2.At)] ag32 (H.cell 1 rfl) (St 3 0 [(vi t9.Place), (vi t9.Wind), (.bool t9.Flag), (vi a2.At)] [(vi t9.Place), (vi t9.Wind), (.bool t9.Flag), (vi a2.At)] sz32 H R R (one_cons rfl (one_cons rfl (one_cons rfl (one_cons rfl one_nil)))) fun w38 H => ?_))))))))))
         refine As (vi 0) (Nl (Rt ?_))
         obtain ⟨rfl, rfl⟩ := j2 hm
         exact ends2 results108 ⟨_, rfl, run_loadVar_agg ag32 rfl (H.cell 3 rfl)⟩ rfl ⟨_, rfl, H.base, rfl⟩
      ·
       rcases ite_some hm with ⟨hc11, hm⟩ | ⟨hc11, hm⟩
       ·
        obtain ⟨wd5, rfl⟩ : ∃ x, x = w := ⟨w, rfl⟩
        refine W.draw 5 (fun k v wk => match k with | 0 => v = (.agg #[.nilFunc, .nilFunc, (.func (.func 188) #[] #[]), (.func (.func 189) #[] #[]), (.func (.func 190) #[] #[]), (.func (.func 192) #[] #[]), (.func (.func 193) #[] #[]), (.func (.func 194) #[] #[]), (.func (.func 195) #[] #[]), (.func (.func 196) #[] #[]), (.func (.func 197) #[] #[]), (.func (.func 198) #[] #[]), (.func (.func 199) #[] #[]), (.func (.func 200) #[] #[])]) | 1 => v = (.pointer (some (Addr.add (Addr.mk b3 0 none) 1))) | 2 => v = (vi a2.Kind) | 3 => v = (.agg #[(.func (.func 197) #[] #[]), (.func (.func 198) #[] #[])]) | 4 => ∃ b : Nat, v = .pointer (some ⟨b, 0, none⟩) ∧ Inv wd5 wk [boxI b 220 [.nilFunc, .nilFunc]] | _ => True) (by intro k v w w' h hb; match k, h with | 0, h => exact h | 1, h => exact h | 2, h => exact h | 3, h => exact h | 4, ⟨b, e, h⟩ => exact ⟨b, e, h.ext hb⟩ | _ + 5, h => exact h) fol (by kernel_rfl) ?_ ?_
        ·
         refine ⟨⟨⟨⟨⟨trivial, ?_⟩, ?_⟩, ?_⟩, ?_⟩, ?_⟩
         ·
          intro f wk hx hf hd
          have H := H.ext hx
          refine Ca call144 c_ball_rules ?_
          rintro _ w39 hb18 rfl
          have H := H.ext hb18
          exact Nl ⟨hb18, _, rfl, rfl⟩
         ·
          intro f wk hx hf hd
          have H := H.ext hx
          have hf5 : f 5 = (pt b3) := hf 5 rfl
          obtain ⟨u18, rfl⟩ := up1 hf5
          exact Fa fd70_1 rfl (Nl ⟨Below.refl _ _, _, rfl, rfl⟩)
         ·
          intro f wk hx hf hd
          have H := H.ext hx
          have hf21 : f 21 = (.pointer (some (Addr.add (Addr.mk b3 0 none) 1))) := hd 1 rfl
          obtain ⟨u19, rfl⟩ := up1 hf21
          exact Ld _ sc3 (H.cell 2 rfl 1 _ rfl) (Nl ⟨Below.refl _ _, _, rfl, rfl⟩)
         ·
          intro f wk hx hf hd
          have H := H.ext hx
          have hf20 : f 20 = (.agg #[.nilFunc, .nilFunc, (.func (.func 188) #[] #[]), (.func (.func 189) #[] #[]), (.func (.func 190) #[] #[]), (.func (.func 192) #[] #[]), (.func (.func 193) #[] #[]), (.func (.func 194) #[] #[]), (.func (.func 195) #[] #[]), (.func (.func 196) #[] #[]), (.func (.func 197) #[] #[]), (.func (.func 198) #[] #[]), (.func (.func 199) #[] #[]), (.func (.func 200) #[] #[])]) := hd 0 rfl
          have hf22 : f 22 = (vi a2.Kind) := hd 2 rfl
          obtain ⟨u20, rfl⟩ := up2 hf20 hf22
          exact O.indexC 5 ixf221_5_108 (eq_of_beq hc11) R R R R (Nl ⟨Below.refl _ _, _, rfl, rfl⟩)
         ·
          intro f wk hx hf hd
          have H := H.ext hx
          exact Al [.nilFunc, .nilFunc] ze220 (Inv.start (w := _)) fun b9 w40 H hb19 => Nl ⟨hb19, _, rfl, ⟨_, rfl, H.rebase hx⟩⟩
        ·
         intro f wk hx hf hmd hd
         have hf3 : f 3 = (pt b1) := hf 3 rfl
         have hf4 : f 4 = (pt b2) := hf 4 rfl
         have hf5 : f 5 = (pt b3) := hf 5 rfl
         have hf6 : f 6 = (pt b4) := hf 6 rfl
         obtain ⟨b9, hf8, ho8⟩ : ∃ b : Nat, f 8 = .pointer (some ⟨b, 0, none⟩) ∧ Inv wd5 wk [boxI b 220 [.nilFunc, .nilFunc]] := hd 4 rfl
         have hf23 : f 23 = (.agg #[(.func (.func 197) #[] #[]), (.func (.func 198) #[] #[])]) := hd 3 rfl
         have H := H.addAll hx ho8
         obtain ⟨u21, rfl⟩ := up6 hf3 hf4 hf5 hf6 hf8 hf23
         refine St 4 0 [(.func (.func 197) #[] #[]), (.func (.func 198) #[] #[])] [(.func (.func 197) #[] #[]), (.func (.func 198) #[] #[])] sz220 H R R (one_cons rfl (one_cons rfl one_nil)) fun w41 H => Nl (Sq (Sq (Rg (Fa fd220_0 rfl (Ld _ sc217 (H.cell 4 rfl 0 _ rfl) (La [(vi a0.Noon), (vi a0.Half), (vi a0.Full), (vi a0.Late), (vi a0.Again), (vi a0.Wind)] ag52 (H.cell 0 rfl) (La [(vi a1.Place), (vi a1.Wind), (.bool a1.Flag), (vi a1.At)] ag32 (H.cell 1 rfl) (Fa fd70_0 rfl (Ld _ sc3 (H.cell 2 rfl 0 _ rfl) ?_)))))))))
         obtain ⟨t10, hy10, hm⟩ := bind_some hm
         refine O.callV R R R R (callsV_mk call197 (c_ball_rules_c9 a0 a1 _ hy10)) ?_
         rintro _ w42 hb20 rfl
         have H := H.ext hb20
         refine O.not R R R (Nl ?_)
         rcases ite_some hm with ⟨hc12, hm⟩ | ⟨hc12, hm⟩
         ·
          refine Ct (cb hc12) (Sq (Rg (Bd (v := (.agg (Flat.cells (GBall.mk 0 0 false 0)).toArray)) (fun w => bd32_  w) rfl (St 3 0 [(vi 0), (vi 0), (.bool false), (vi 0)] [(vi 0), (vi 0), (.bool false), (vi 0)] sz32 H R R (one_cons rfl (one_cons rfl (one_cons rfl (one_cons rfl one_nil)))) fun w43 H => As (vi 9) (Nl (Rt ?_))))))
          obtain ⟨rfl, rfl⟩ := j2 hm
          exact ends2 results108 ⟨_, rfl, run_loadVar_agg ag32 rfl (H.cell 3 rfl)⟩ rfl ⟨_, rfl, H.base, rfl⟩
         ·
          refine Cf (cb hc12) (Sk (Sq (Rg (Fa fd220_1 rfl (Ld _ sc218 (H.cell 4 rfl 1 _ rfl) (Fa fd70_2 rfl (Ld _ sc3 (H.cell 2 rfl 2 _ rfl) ?_)))))))
          obtain ⟨t11, hy11, hm⟩ := bind_some hm
          refine O.callXV 1 H rfl call198 R R R R (c_ball_rules_c10 _ a1 (H.boxAt 1 rfl) _ hy11) ?_
          rintro _ w44 H rfl
          refine Nl (Sq (Rg (Fa fd70_0 rfl (Ld _ sc3 (H.cell 2 rfl 0 _ rfl) (Fa fd32_3 rfl (St 1 3 [(vi a2.At)] [(vi t11.Place), (vi t11.Wind), (.bool t11.Flag), (vi a2.At)] sz3 H R R (one_cons rfl one_nil) fun w45 H => Nl (Sq (Rg (La [(vi t11.Place), (vi t11.Wind), (.bool t11.Flag), (vi a2.At)] ag32 (H.cell 1 rfl) (St 3 0 [(vi t11.Place), (vi t11.Wind), (.bool t11.Flag), (vi a2.At)] [(vi t11.Place), (vi t11.Wind), (.bool t11.Flag), (vi a2.At)] sz32 H R R (one_cons rfl (one_cons rfl (one_cons rfl (one_cons rfl one_nil)))) fun w46 H => ?_))))))))))
          refine As (vi 0) (Nl (Rt ?_))
          obtain ⟨rfl, rfl⟩ := j2 hm
          exact ends2 results108 ⟨_, rfl, run_loadVar_agg ag32 rfl (H.cell 3 rfl)⟩ rfl ⟨_, rfl, H.base, rfl⟩
       ·
        rcases ite_some hm with ⟨hc13, hm⟩ | ⟨hc13, hm⟩
        ·
         obtain ⟨wd6, rfl⟩ : ∃ x, x = w := ⟨w, rfl⟩
         refine W.draw 5 (fun k v wk => match k with | 0 => v = (.agg #[.nilFunc, .nilFunc, (.func (.func 188) #[] #[]), (.func (.func 189) #[] #[]), (.func (.func 190) #[] #[]), (.func (.func 192) #[] #[]), (.func (.func 193) #[] #[]), (.func (.func 194) #[] #[]), (.func (.func 195) #[] #[]), (.func (.func 196) #[] #[]), (.func (.func 197) #[] #[]), (.func (.func 198) #[] #[]), (.func (.func 199) #[] #[]), (.func (.func 200) #[] #[])]) | 1 => v = (.pointer (some (Addr.add (Addr.mk b3 0 none) 1))) | 2 => v = (vi a2.Kind) | 3 => v = (.agg #[(.func (.func 199) #[] #[]), (.func (.func 200) #[] #[])]) | 4 => ∃ b : Nat, v = .pointer (some ⟨b, 0, none⟩) ∧ Inv wd6 wk [boxI b 220 [.nilFunc, .nilFunc]] | _ => True) (by intro k v w w' h hb; match k, h with | 0, h => exact h | 1, h => exact h | 2, h => exact h | 3, h => exact h | 4, ⟨b, e, h⟩ => exact ⟨b, e, h.ext hb⟩ | _ + 5, h => exact h) fol (by kernel_rfl) ?_ ?_
         ·
          refine ⟨⟨⟨⟨⟨trivial, ?_⟩, ?_⟩, ?_⟩, ?_⟩, ?_⟩
          ·
           intro f wk hx hf hd
           have H := H.ext hx
           refine Ca call144 c_ball_rules ?_
           rintro _ w47 hb21 rfl
           have H := H.ext hb21
           exact Nl ⟨hb21, _, rfl, rfl⟩
          ·
           intro f wk hx hf hd
           have H := H.ext hx
           have hf5 : f 5 = (pt b3) := hf 5 rfl
           obtain ⟨u22, rfl⟩ := up1 hf5
           exact Fa fd70_1 rfl (Nl ⟨Below.refl _ _, _, rfl, rfl⟩)
          ·
           intro f wk hx hf hd
           have H := H.ext hx
           have hf21 : f 21 = (.pointer (some (Addr.add (Addr.mk b3 0 none) 1))) := hd 1 rfl
           obtain ⟨u23, rfl⟩ := up1 hf21
           exact Ld _ sc3 (H.cell 2 rfl 1 _ rfl) (Nl ⟨Below.refl _ _, _, rfl, rfl⟩)
          ·
           intro f wk hx hf hd
           have H := H.ext hx
           have hf20 : f 20 = (.agg #[.nilFunc, .nilFunc, (.func (.func 188) #[] #[]), (.func (.func 189) #[] #[]), (.func (.func 190) #[] #[]), (.func (.func 192) #[] #[]), (.func (.func 193) #[] #[]), (.func (.func 194) #[] #[]), (.func (.func 195) #[] #[]), (.func (.func 196) #[] #[]), (.func (.func 197) #[] #[]), (.func (.func 198) #[] #[]), (.func (.func 199) #[] #[]), (.func (.func 200) #[] #[])]) := hd 0 rfl
           have hf22 : f 22 = (vi a2.Kind) := hd 2 rfl
           obtain ⟨u24, rfl⟩ := up2 hf20 hf22
           exact O.indexC 6 ixf221_6_108 (eq_of_beq hc13) R R R R (Nl ⟨Below.refl _ _, _, rfl, rfl⟩)
          ·
           intro f wk hx hf hd
           have H := H.ext hx
           exact Al [.nilFunc, .nilFunc] ze220 (Inv.start (w := _)) fun b10 w48 H hb22 => Nl ⟨hb22, _, rfl, ⟨_, rfl, H.rebase hx⟩⟩
         ·
          intro f wk hx hf hmd hd
          have hf3 : f 3 = (pt b1) := hf 3 rfl
          have hf4 : f 4 = (pt b2) := hf 4 rfl
          have hf5 : f 5 = (pt b3) := hf 5 rfl
          have hf6 : f 6 = (pt b4) := hf 6 rfl
          obtain ⟨b10, hf8, ho8⟩ : ∃ b : Nat, f 8 = .pointer (some ⟨b, 0, none⟩) ∧ Inv wd6 wk [boxI b 220 [.nilFunc, .nilFunc]] := hd 4 rfl
          have hf23 : f 23 = (.agg #[(.func (.func 199) #[] #[]), (.func (.func 200) #[] #[])]) := hd 3 rfl
          have H := H.addAll hx ho8
          obtain ⟨u25, rfl⟩ := up6 hf3 hf4 hf5 hf6 hf8 hf23
          refine St 4 0 [(.func (.func 199) #[] #[]), (.func (.func 200) #[] #[])] [(.func (.func 199) #[] #[]), (.func (.func 200) #[] #[])] sz220 H R R (one_cons rfl (one_cons rfl one_nil)) fun w49 H => Nl (Sq (Sq (Rg (Fa fd220_0 rfl (Ld _ sc217 (H.cell 4 rfl 0 _ rfl) (La [(vi a0.Noon), (vi a0.Half), (vi a0.Full), (vi a0.Late), (vi a0.Again), (vi a0.Wind)] ag52 (H.cell 0 rfl) (La [(vi a1.Place), (vi a1.Wind), (.bool a1.Flag), (vi a1.At)] ag32 (H.cell 1 rfl) (Fa fd70_0 rfl (Ld _ sc3 (H.cell 2 rfl 0 _ rfl) ?_)))))))))
          obtain ⟨t12, hy12, hm⟩ := bind_some hm
          refine O.callV R R R R (callsV_mk call199 (c_ball_rules_c11 a0 a1 _ hy12)) ?_
          rintro _ w50 hb23 rfl
          have H := H.ext hb23
          refine O.not R R R (Nl ?_)
          rcases ite_some hm with ⟨hc14, hm⟩ | ⟨hc14, hm⟩
          ·
           refine Ct (cb hc14) (Sq (Rg (Bd (v := (.agg (Flat.cells (GBall.mk 0 0 false 0)).toArray)) (fun w => bd32_  w) rfl (St 3 0 [(vi 0), (vi 0), (.bool false), (vi 0)] [(vi 0), (vi 0), (.bool false), (vi 0)] sz32 H R R (one_cons rfl (one_cons rfl (one_cons rfl (one_cons rfl one_nil)))) fun w51 H => As (vi 9) (Nl (Rt ?_))))))
           obtain ⟨rfl, rfl⟩ := j2 hm
           exact ends2 results108 ⟨_, rfl, run_loadVar_agg ag32 rfl (H.cell 3 rfl)⟩ rfl ⟨_, rfl, H.base, rfl⟩
          ·
           refine Cf (cb hc14) (Sk (Sq (Rg (Fa fd220_1 rfl (Ld _ sc218 (H.cell 4 rfl 1 _ rfl) (Fa fd70_2 rfl (Ld _ sc3 (H.cell 2 rfl 2 _ rfl) ?_)))))))
           obtain ⟨t13, hy13, hm⟩ := bind_some hm
           refine O.callXV 1 H rfl call200 R R R R (c_ball_rules_c12 _ a1 (H.boxAt 1 rfl) _ hy13) ?_
           rintro _ w52 H rfl
           refine Nl (Sq (Rg (Fa fd70_0 rfl (Ld _ sc3 (H.cell 2 rfl 0 _ rfl) (Fa fd32_3 rfl (St 1 3 [(vi a2.At)] [(vi t13.Place), (vi t13.Wind), (.bool t13.Flag), (vi a2.At)] sz3 H R R (one_cons rfl one_nil) fun w53 H => Nl (Sq (Rg (La [(vi t13.Place), (vi t13.Wind), (.bool t13.Flag), (vi a2.At)] ag32 (H.cell 1 rfl) (St 3 0 [(vi t13.Place), (vi t13.Wind), (.bool t13.Flag), (vi a2.At)] [(vi t13.Place), (vi t13.Wind), (.bool t13.Flag), (vi a2.At)] sz32 H R R (one_cons rfl (one_cons rfl (one_cons rfl (one_cons rfl one_nil)))) fun w54 H => ?_))))))))))
           refine As (vi 0) (Nl (Rt ?_))
           obtain ⟨rfl, rfl⟩ := j2 hm
           exact ends2 results108 ⟨_, rfl, run_loadVar_agg ag32 rfl (H.cell 3 rfl)⟩ rfl ⟨_, rfl, H.base, rfl⟩
        ·
         cases hm

theorem c_ball_Next {w0 : World} (a0 : GMast) (a1 : GBall) (a2 : GEvent) {r0 : GBall} {r1 : Int} (hm : ball_Next a0 a1 a2 = some (r0, r1)) :
  Calls prog 80 #[(.agg (Flat.cells a0).toArray), (.agg (Flat.cells a1).toArray), (.agg (Flat.cells a2).toArray)] w0 (Ret w0 fun _ v => v = .tuple #[(.agg (Flat.cells r0).toArray), (vi r1)]) := by
 unfold ball_Next at hm
 refine cW func80 ntmps80 ?_
 have H := Inv.start (w := w0)
 refine Sq (Rg (Bx [(vi a0.Noon), (vi a0.Half), (vi a0.Full), (vi a0.Late), (vi a0.Again), (vi a0.Wind)] H fun b1 w1 H hb1 => Bx [(vi a1.Place), (vi a1.Wind), (.bool a1.Flag), (vi a1.At)] H fun b2 w2 H hb2 => Bx [(vi a2.At), (vi a2.Kind), (vi a2.N)] H fun b3 w3 H hb3 => Al [(vi 0), (vi 0), (.bool false), (vi 0)] ze32 H fun b4 w4 H hb4 => As (vi 0) (Nl (Sq (Sq ?_)))))
 refine Rg (La [(vi a0.Noon), (vi a0.Half), (vi a0.Full), (vi a0.Late), (vi a0.Again), (vi a0.Wind)] ag52 (H.cell 0 rfl) ?_)
 obtain ⟨t1, hy1, hm⟩ := bind_some hm
 refine Ca call37 (c_ball_ValidMast a0 hy1) ?_
 rintro _ w5 hb5 rfl
 have H := H.ext hb5
 refine O.not R R R (Mv (.bool (!t1)) ?_)
 obtain ⟨b5, hm1, hm⟩ := bind_some hm
 refine Cu 4 (fun f w => f 3 = (pt b1) ∧ f 4 = (pt b2) ∧ f 5 = (pt b3) ∧ f 6 = (pt b4) ∧ f 15 = .bool b5 ∧ Inv w0 w [boxI b1 52 [(vi a0.Noon), (vi a0.Half), (vi a0.Full), (vi a0.Late), (vi a0.Again), (vi a0.Wind)], boxI b2 32 [(vi a1.Place), (vi a1.Wind), (.bool a1.Flag), (vi a1.At)], boxI b3 70 [(vi a2.At), (vi a2.Kind), (vi a2.N)], boxI b4 32 [(vi 0), (vi 0), (.bool false), (vi 0)]]) ?_ ?_
 ·
  rcases ite_some hm1 with ⟨hc1, hm1⟩ | ⟨hc1, hm1⟩
  ·
   refine Rs (i := 11) (v := .bool true) (cb hc1) (Sp (Sp (Sp (Pt (.bool true) (Nl ?_)))))
   obtain rfl := sj hm1
   exact ⟨rfl, rfl, rfl, rfl, rfl, H⟩
  ·
   refine Rs (i := 11) (v := .bool false) (cb hc1) (La [(vi a1.Place), (vi a1.Wind), (.bool a1.Flag), (vi a1.At)] ag32 (H.cell 1 rfl) ?_)
   obtain ⟨t2, hy2, hm1⟩ := bind_some hm1
   refine Ca call107 (c_ball_validBall a1 hy2) ?_
   rintro _ w6 hb6 rfl
   have H := H.ext hb6
   refine O.not R R R (Pf (.bool (!t2)) (Nl ?_))
   obtain rfl := sj hm1
   exact ⟨rfl, rfl, rfl, rfl, rfl, H⟩
 ·
  rintro f w ⟨hf3, hf4, hf5, hf6, hf15, H⟩
  obtain ⟨u1, rfl⟩ := up5 hf3 hf4 hf5 hf6 hf15
  refine Nl ?_
  rcases ite_some hm with ⟨hc2, hm⟩ | ⟨hc2, hm⟩
  ·
   refine Ct (cb hc2) (Sq (Rg (Bd (v := (.agg (Flat.cells (GBall.mk 0 0 false 0)).toArray)) (fun w => bd32_  w) rfl (St 3 0 [(vi 0), (vi 0), (.bool false), (vi 0)] [(vi 0), (vi 0), (.bool false), (vi 0)] sz32 H R R (one_cons rfl (one_cons rfl (one_cons rfl (one_cons rfl one_nil)))) fun w7 H => As (vi 1) (Nl (Rt ?_))))))
   obtain ⟨rfl, rfl⟩ := j2 hm
   exact ends2 results80 ⟨_, rfl, run_loadVar_agg ag32 rfl (H.cell 3 rfl)⟩ rfl ⟨_, rfl, H.base, rfl⟩
  ·
   refine Cf (cb hc2) (Sk (Sq (Rg (La [(vi a0.Noon), (vi a0.Half), (vi a0.Full), (vi a0.Late), (vi a0.Again), (vi a0.Wind)] ag52 (H.cell 0 rfl) (La [(vi a1.Place), (vi a1.Wind), (.bool a1.Flag), (vi a1.At)] ag32 (H.cell 1 rfl) (La [(vi a2.At), (vi a2.Kind), (vi a2.N)] ag70 (H.cell 2 rfl) ?_))))))
   obtain ⟨⟨t3, t4⟩, hy3, hm⟩ := bind_some hm
   refine Ca call108 (c_ball_next a0 a1 a2 hy3) ?_
   rintro _ w8 hb7 rfl
   have H := H.ext hb7
   refine Xt (.agg (Flat.cells t3).toArray) (Xt (vi t4) (St 3 0 [(vi t3.Place), (vi t3.Wind), (.bool t3.Flag), (vi t3.At)] [(vi t3.Place), (vi t3.Wind), (.bool t3.Flag), (vi t3.At)] sz32 H R R (one_cons rfl (one_cons rfl (one_cons rfl (one_cons rfl one_nil)))) fun w9 H => As (vi t4) (Nl (Rt ?_))))
   obtain ⟨rfl, rfl⟩ := j2 hm
   exact ends2 results80 ⟨_, rfl, run_loadVar_agg ag32 rfl (H.cell 3 rfl)⟩ rfl ⟨_, rfl, H.base, rfl⟩

set_option maxRecDepth 20000 in
theorem c_station_session_event {w0 : World} (X0 : Nat → Prop) (b0 : Nat) (va0_0 : Value) (va0_1 : Value) (va0_2 : Value) (va0_3 : Value) (va0_4 : Value) (a0 : GSession) (H0 : InvD X0 w0 w0 [boxI b0 61 (cI a0.inside va0_0 va0_1 va0_2 va0_3 va0_4), o3 va0_0 a0.inside.net.Rates, o92 va0_1 a0.inside.net.Sights, o70 va0_2 a0.inside.log, o3 va0_3 a0.inside.verdicts, o74 va0_4 a0.inside.ledger]) (hT : ∀ w', BelowX X0 w0 w' → EnvS prog 0 4 5 7 w') (va1 : Value) (a1 : (List ByteArray)) (ha1 : ∀ w', BelowX X0 w0 w' → SliceR w' va1 a1) {r0 : Ref (GSession × ByteArray)} (hm : station_session_event a0 a1 = some r0) :
  Calls prog 42 #[(pt b0), va1] w0 (PPost 87 X0 w0 r0 (fun r v L1 => ∃ u0 u1 u2 u3 u4 : Value, L1 = [boxI b0 61 (cI r.1.inside u0 u1 u2 u3 u4), o3 u0 r.1.inside.net.Rates, o92 u1 r.1.inside.net.Sights, o70 u2 r.1.inside.log, o3 u3 r.1.inside.verdicts, o74 u4 r.1.inside.ledger] ∧ v = (.string r.2))) := by
 unfold station_session_event at hm
 refine calls_of_WP func42 rfl ntmps42 (Nat.le_of_ble_eq_true rfl) ?_
 have H := H0
 refine Sq (Rg (As (.string (bs [])) (Nl (Sq (Rg (Mv va1 ?_))))))
 obtain ⟨t1, hy1, hm⟩ := bind_some hm
 refine Ca call73 (c_station_values (hT _ H.baseX) _ _ (ha1 _ H.baseX) hy1) ?_
 rintro v1 w1 hb1 ho1
 have H := H.addOwn hb1 ho1
 refine As v1 (Nl (Sq ?_))
 obtain ⟨x1, hx1, hm⟩ := bind_some hm
 obtain ⟨p1, hp1, hrp1⟩ := fix_indexAddr underlying26 sz3 (H.own 6 rfl) hx1
 obtain ⟨x2, hx2, hm⟩ := bind_some hm
 obtain ⟨p2, hp2, hrp2⟩ := fix_indexAddr underlying26 sz3 (H.own 6 rfl) hx2
 obtain ⟨x3, hx3, hm⟩ := bind_some hm
 obtain ⟨p3, hp3, hrp3⟩ := fix_indexAddr underlying26 sz3 (H.own 6 rfl) hx3
 refine W.drawA (d := 6) 10 [0, 1, 2, 3, 4, 5, 6, 7, 8, 9] (fun b9 w9 => InvD X0 w0 w9 [boxI b0 61 (cI a0.inside va0_0 va0_1 va0_2 va0_3 va0_4), o3 va0_0 a0.inside.net.Rates, o92 va0_1 a0.inside.net.Sights, o70 va0_2 a0.inside.log, o3 va0_3 a0.inside.verdicts, o74 va0_4 a0.inside.ledger, o3 v1 t1, boxI b9 70 [(vi 0), (vi 0), (vi 0)]]) (fun f => f 0 = (pt b0) ∧ f 20 = (.agg (Flat.cells (GEvent.mk x1 x2 x3)).toArray)) fol (by kernel_rfl) rfl ?_ ?_ ?_
 ·
  exact Pl (fun b w8 _ hx => match b, hx with | none, hx => by exact Mv v1 (Nl ⟨rfl, hx⟩) | some _, ⟨bb, hv, hx, H⟩ => by exact Mv v1 (Nl ⟨rfl, bb, hv, hx, H⟩)) (Pl (fun b w8 _ hx => match b, hx with | none, hx => by exact hrp1 R R R R (Nl ⟨rfl, hx⟩) | some _, ⟨bb, hv, hx, H⟩ => by exact hrp1 R R R R (Nl ⟨rfl, bb, hv, hx, H⟩)) (Pl (fun b w8 _ hx => match b, hx with | none, hx => by have hp1 := hp1.mono hx; exact Ld _ sc3 (hp1.flat 0 _ rfl) (Nl ⟨rfl, hx⟩) | some _, ⟨bb, hv, hx, H⟩ => by have hp1 := hp1.mono hx; exact Ld _ sc3 (hp1.flat 0 _ rfl) (Nl ⟨rfl, bb, hv, hx, H⟩)) (Pl (fun b w8 _ hx => match b, hx with | none, hx => by exact Mv v1 (Nl ⟨rfl, hx⟩) | some _, ⟨bb, hv, hx, H⟩ => by exact Mv v1 (Nl ⟨rfl, bb, hv, hx, H⟩)) (Pl (fun b w8 _ hx => match b, hx with | none, hx => by exact hrp2 R R R R (Nl ⟨rfl, hx⟩) | some _, ⟨bb, hv, hx, H⟩ => by exact hrp2 R R R R (Nl ⟨rfl, bb, hv, hx, H⟩)) (Pl (fun b w8 _ hx => match b, hx with | none, hx => by have hp2 := hp2.mono hx; exact Ld _ sc3 (hp2.flat 0 _ rfl) (Nl ⟨rfl, hx⟩) | some _, ⟨bb, hv, hx, H⟩ => by have hp2 := hp2.mono hx; exact Ld _ sc3 (hp2.flat 0 _ rfl) (Nl ⟨rfl, bb, hv, hx, H⟩)) (Pl (fun b w8 _ hx => match b, hx with | none, hx => by exact Mv v1 (Nl ⟨rfl, hx⟩) | some _, ⟨bb, hv, hx, H⟩ => by exact Mv v1 (Nl ⟨rfl, bb, hv, hx, H⟩)) (Pl (fun b w8 _ hx => match b, hx with | none, hx => by exact hrp3 R R R R (Nl ⟨rfl, hx⟩) | some _, ⟨bb, hv, hx, H⟩ => by exact hrp3 R R R R (Nl ⟨rfl, bb, hv, hx, H⟩)) (Pl (fun b w8 _ hx => match b, hx with | none, hx => by have hp3 := hp3.mono hx; exact Ld _ sc3 (hp3.flat 0 _ rfl) (Nl ⟨rfl, hx⟩) | some _, ⟨bb, hv, hx, H⟩ => by have hp3 := hp3.mono hx; exact Ld _ sc3 (hp3.flat 0 _ rfl) (Nl ⟨rfl, bb, hv, hx, H⟩)) (Pl (fun b w8 _ hx => match b, hx with | none, hx => by exact Bd (v := (.agg (Flat.cells (GEvent.mk x1 x2 x3)).toArray)) (fun w => bd70_0_1_2 _ _ _ w) rfl (Nl ⟨rfl, hx⟩) | some _, ⟨bb, hv, hx, H⟩ => by exact Bd (v := (.agg (Flat.cells (GEvent.mk x1 x2 x3)).toArray)) (fun w => bd70_0_1_2 _ _ _ w) rfl (Nl ⟨rfl, bb, hv, hx, H⟩)) (PL.nil ⟨rfl, rfl⟩))))))))))
 ·
  rintro f _ w hx
  have H := H.ext hx
  exact Al [(vi 0), (vi 0), (vi 0)] ze70 H (fun b _ H hb => Nl ⟨_, rfl, b, rfl, hx.trans (hb.mono hx.size), H⟩)
 ·
  rintro f w b1 ⟨hf0, hf20⟩ hmd hx H
  have hp1 := hp1.mono hx
  have hp2 := hp2.mono hx
  have hp3 := hp3.mono hx
  obtain ⟨u1, rfl⟩ := up2 hf0 hf20
  refine St 7 0 [(vi x1), (vi x2), (vi x3)] [(vi x1), (vi x2), (vi x3)] sz70 H R R (one_cons rfl (one_cons rfl (one_cons rfl one_nil))) fun w2 H => ?_
  clear hp1
  clear hp2
  clear hp3
  refine Nl (Sq ?_)
  obtain ⟨⟨t2, t3⟩, hy2, hm⟩ := bind_some hm
  have H := H.addGone
  refine W.drawD 17 [[], [0], [0, 1], [0, 1, 2], [0, 1, 2, 3], [], [5], [5, 6], [5, 6, 7], [5, 6, 7, 8], [], [0, 1, 2, 3, 4, 5, 6, 7, 8, 9, 10], [0, 1, 2, 3, 4, 5, 6, 7, 8, 9, 10, 11], [0, 1, 2, 3, 4, 5, 6, 7, 8, 9, 10, 11, 12], [0, 1, 2, 3, 4, 5, 6, 7, 8, 9, 10, 11, 12], [], [0, 1, 2, 3, 4, 5, 6, 7, 8, 9, 10, 11, 12, 13, 15]] [[1, 2, 3, 4, 11, 12, 13, 14, 16], [2, 3, 4, 11, 12, 13, 14, 16], [3, 4, 11, 12, 13, 14, 16], [4, 11, 12, 13, 14, 16], [11, 12, 13, 14, 16], [6, 7, 8, 9, 11, 12, 13, 14, 16], [7, 8, 9, 11, 12, 13, 14, 16], [8, 9, 11, 12, 13, 14, 16], [9, 11, 12, 13, 14, 16], [11, 12, 13, 14, 16], [11, 12, 13, 14, 16], [12, 13, 14, 16], [13, 14, 16], [16], [], [16], []] (fun S f w => ∃ b2 : Nat, (f 0 = (pt b0) ∧ f 6 = (pt b1)) ∧ InvD X0 w0 w [boxI b0 61 (cI a0.inside va0_0 va0_1 va0_2 va0_3 va0_4), o3 va0_0 a0.inside.net.Rates, o92 va0_1 a0.inside.net.Sights, o70 va0_2 a0.inside.log, o3 va0_3 a0.inside.verdicts, o74 va0_4 a0.inside.ledger, o3 v1 t1, boxI b1 70 [(vi x1), (vi x2), (vi x3)], cond (S 16) (boxI b2 32 [(vi t2.Place), (vi t2.Wind), (.bool t2.Flag), (vi t2.At)]) (cond (S 15) (boxI b2 32 [(vi 0), (vi 0), (.bool false), (vi 0)]) goneI)] ∧ (S 0 = true → f 22 = (pt b0)) ∧ (S 1 = true → f 23 = (pt b0)) ∧ (S 2 = true → f 24 = (.pointer (some (Addr.add (Addr.mk b0 0 none) 0)))) ∧ (S 3 = true → f 25 = (.pointer (some (Addr.add (Addr.add (Addr.mk b0 0 none) 0) 0)))) ∧ (S 4 = true → f 26 = (.agg (Flat.cells a0.inside.mast).toArray)) ∧ (S 5 = true → f 27 = (pt b0)) ∧ (S 6 = true → f 28 = (pt b0)) ∧ (S 7 = true → f 29 = (.pointer (some (Addr.add (Addr.mk b0 0 none) 0)))) ∧ (S 8 = true → f 30 = (.pointer (some (Addr.add (Addr.add (Addr.mk b0 0 none) 0) 10)))) ∧ (S 9 = true → f 31 = (.agg (Flat.cells a0.inside.state).toArray)) ∧ (S 10 = true → f 32 = (.agg (Flat.cells (GEvent.mk x1 x2 x3)).toArray)) ∧ (S 11 = true → f 33 = (.tuple #[(.agg (Flat.cells t2).toArray), (vi t3)])) ∧ (S 12 = true → f 21 = (.tuple #[(.agg (Flat.cells t2).toArray), (vi t3)])) ∧ (S 13 = true → f 34 = (.agg (Flat.cells t2).toArray)) ∧ (S 14 = true → f 35 = (vi t3)) ∧ (S 15 = true → f 7 = (pt b2))) fol (by kernel_rfl) ?_ ?_ ?_
  ·
   exact fun d _ => ⟨0, ⟨rfl, rfl⟩, H.ext (below_drawn d), nF, nF, nF, nF, nF, nF, nF, nF, nF, nF, nF, nF, nF, nF, nF, nF⟩
  ·
   refine ⟨?_, ⟨?_, ⟨?_, ⟨?_, ⟨?_, ⟨?_, ⟨?_, ⟨?_, ⟨?_, ⟨?_, ⟨?_, ⟨?_, ⟨?_, ⟨?_, ⟨?_, ⟨?_, ⟨?_, trivial⟩⟩⟩⟩⟩⟩⟩⟩⟩⟩⟩⟩⟩⟩⟩⟩⟩
   ·
    rintro S f w hS - ⟨e1, e2, e3, e4, e11, e12, e13, e14, e16, -⟩ ⟨b2, k, H, q0, t⟩
    obtain ⟨u2, rfl⟩ := up1 k.1
    exact Mv (pt b0) (Nl ⟨b2, k, H, (fun _ => rfl), t⟩)
   ·
    rintro S f w hS ⟨e0, -⟩ ⟨e2, e3, e4, e11, e12, e13, e14, e16, -⟩ ⟨b2, k, H, q0, q1, t⟩
    obtain ⟨u3, rfl⟩ := up1 (q0 e0)
    exact Nk rfl (Nl ⟨b2, k, H, q0, (fun _ => rfl), t⟩)
   ·
    rintro S f w hS ⟨e0, e1, -⟩ ⟨e3, e4, e11, e12, e13, e14, e16, -⟩ ⟨b2, k, H, q0, q1, q2, t⟩
    obtain ⟨u4, rfl⟩ := up1 (q1 e1)
    exact Fa fd61_0 rfl (Nl ⟨b2, k, H, q0, q1, (fun _ => rfl), t⟩)
   ·
    rintro S f w hS ⟨e0, e1, e2, -⟩ ⟨e4, e11, e12, e13, e14, e16, -⟩ ⟨b2, k, H, q0, q1, q2, q3, t⟩
    obtain ⟨u5, rfl⟩ := up1 (q2 e2)
    exact Fa fd54_0 rfl (Nl ⟨b2, k, H, q0, q1, q2, (fun _ => rfl), t⟩)
   ·
    rintro S f w hS ⟨e0, e1, e2, e3, -⟩ ⟨e11, e12, e13, e14, e16, -⟩ ⟨b2, k, H, q0, q1, q2, q3, q4, t⟩
    obtain ⟨u6, rfl⟩ := up1 (q3 e3)
    exact La (q := ⟨b0, 0, none⟩) [(vi a0.inside.mast.Noon), (vi a0.inside.mast.Half), (vi a0.inside.mast.Full), (vi a0.inside.mast.Late), (vi a0.inside.mast.Again), (vi a0.inside.mast.Wind)] ag52 (cell_part (o := 0) (k := 6) (H.cell 0 rfl) rfl) (Nl ⟨b2, k, H, q0, q1, q2, q3, (fun _ => rfl), t⟩)
   ·
    rintro S f w hS - ⟨e6, e7, e8, e9, e11, e12, e13, e14, e16, -⟩ ⟨b2, k, H, q0, q1, q2, q3, q4, q5, t⟩
    obtain ⟨u7, rfl⟩ := up1 k.1
    exact Mv (pt b0) (Nl ⟨b2, k, H, q0, q1, q2, q3, q4, (fun _ => rfl), t⟩)
   ·
    rintro S f w hS ⟨e5, -⟩ ⟨e7, e8, e9, e11, e12, e13, e14, e16, -⟩ ⟨b2, k, H, q0, q1, q2, q3, q4, q5, q6, t⟩
    obtain ⟨u8, rfl⟩ := up1 (q5 e5)
    exact Nk rfl (Nl ⟨b2, k, H, q0, q1, q2, q3, q4, q5, (fun _ => rfl), t⟩)
   ·
    rintro S f w hS ⟨e5, e6, -⟩ ⟨e8, e9, e11, e12, e13, e14, e16, -⟩ ⟨b2, k, H, q0, q1, q2, q3, q4, q5, q6, q7, t⟩
    obtain ⟨u9, rfl⟩ := up1 (q6 e6)
    exact Fa fd61_0 rfl (Nl ⟨b2, k, H, q0, q1, q2, q3, q4, q5, q6, (fun _ => rfl), t⟩)
   ·
    rintro S f w hS ⟨e5, e6, e7, -⟩ ⟨e9, e11, e12, e13, e14, e16, -⟩ ⟨b2, k, H, q0, q1, q2, q3, q4, q5, q6, q7, q8, t⟩
    obtain ⟨u10, rfl⟩ := up1 (q7 e7)
    exact Fa fd54_4 rfl (Nl ⟨b2, k, H, q0, q1, q2, q3, q4, q5, q6, q7, (fun _ => rfl), t⟩)
   ·
    rintro S f w hS ⟨e5, e6, e7, e8, -⟩ ⟨e11, e12, e13, e14, e16, -⟩ ⟨b2, k, H, q0, q1, q2, q3, q4, q5, q6, q7, q8, q9, t⟩
    obtain ⟨u11, rfl⟩ := up1 (q8 e8)
    exact La (q := ⟨b0, 10, none⟩) [(vi a0.inside.state.Place), (vi a0.inside.state.Wind), (.bool a0.inside.state.Flag), (vi a0.inside.state.At)] ag32 (cell_part (o := 10) (k := 4) (H.cell 0 rfl) rfl) (Nl ⟨b2, k, H, q0, q1, q2, q3, q4, q5, q6, q7, q8, (fun _ => rfl), t⟩)
   ·
    rintro S f w hS - ⟨e11, e12, e13, e14, e16, -⟩ ⟨b2, k, H, q0, q1, q2, q3, q4, q5, q6, q7, q8, q9, q10, t⟩
    obtain ⟨u12, rfl⟩ := up1 k.2
    exact La [(vi x1), (vi x2), (vi x3)] ag70 (H.cell 7 rfl) (Nl ⟨b2, k, H, q0, q1, q2, q3, q4, q5, q6, q7, q8, q9, (fun _ => rfl), t⟩)
   ·
    rintro S f w hS ⟨e0, e1, e2, e3, e4, e5, e6, e7, e8, e9, e10, -⟩ ⟨e12, e13, e14, e16, -⟩ ⟨b2, k, H, q0, q1, q2, q3, q4, q5, q6, q7, q8, q9, q10, q11, t⟩
    obtain ⟨u13, rfl⟩ := up3 (q4 e4) (q9 e9) (q10 e10)
    refine Ca call80 (c_ball_Next a0.inside.mast a0.inside.state (GEvent.mk x1 x2 x3) hy2) ?_
    rintro _ w3 hb2 rfl
    have H := H.ext hb2
    exact Nl ⟨b2, k, H, q0, q1, q2, q3, q4, q5, q6, q7, q8, q9, q10, (fun _ => rfl), t⟩
   ·
    rintro S f w hS ⟨e0, e1, e2, e3, e4, e5, e6, e7, e8, e9, e10, e11, -⟩ ⟨e13, e14, e16, -⟩ ⟨b2, k, H, q0, q1, q2, q3, q4, q5, q6, q7, q8, q9, q10, q11, q12, t⟩
    obtain ⟨u14, rfl⟩ := up1 (q11 e11)
    exact Mv (.tuple #[(.agg (Flat.cells t2).toArray), (vi t3)]) (Nl ⟨b2, k, H, q0, q1, q2, q3, q4, q5, q6, q7, q8, q9, q10, q11, (fun _ => rfl), t⟩)
   ·
    rintro S f w hS ⟨e0, e1, e2, e3, e4, e5, e6, e7, e8, e9, e10, e11, e12, -⟩ ⟨e16, -⟩ ⟨b2, k, H, q0, q1, q2, q3, q4, q5, q6, q7, q8, q9, q10, q11, q12, q13, t⟩
    obtain ⟨u15, rfl⟩ := up1 (q12 e12)
    exact Xt (.agg (Flat.cells t2).toArray) (Nl ⟨b2, k, H, q0, q1, q2, q3, q4, q5, q6, q7, q8, q9, q10, q11, q12, (fun _ => rfl), t⟩)
   ·
    rintro S f w hS ⟨e0, e1, e2, e3, e4, e5, e6, e7, e8, e9, e10, e11, e12, -⟩ - ⟨b2, k, H, q0, q1, q2, q3, q4, q5, q6, q7, q8, q9, q10, q11, q12, q13, q14, q15⟩
    obtain ⟨u16, rfl⟩ := up1 (q12 e12)
    exact Xt (vi t3) (Nl ⟨b2, k, H, q0, q1, q2, q3, q4, q5, q6, q7, q8, q9, q10, q11, q12, q13, (fun _ => rfl), q15⟩)
   ·
    rintro S f w hS - ⟨e16, -⟩ ⟨_, k, H, q0, q1, q2, q3, q4, q5, q6, q7, q8, q9, q10, q11, q12, q13, q14, q15⟩
    have H := (H.cF 8 e16 rfl).cF 8 hS rfl
    refine Al [(vi 0), (vi 0), (.bool false), (vi 0)] ze32 H fun b2 w4 H hb3 => ?_
    have H := H.pick [0, 1, 2, 3, 4, 5, 6, 7, 9] [boxI b0 61 (cI a0.inside va0_0 va0_1 va0_2 va0_3 va0_4), o3 va0_0 a0.inside.net.Rates, o92 va0_1 a0.inside.net.Sights, o70 va0_2 a0.inside.log, o3 va0_3 a0.inside.verdicts, o74 va0_4 a0.inside.ledger, o3 v1 t1, boxI b1 70 [(vi x1), (vi x2), (vi x3)], boxI b2 32 [(vi 0), (vi 0), (.bool false), (vi 0)]] rfl (by decide)
    exact Nl ⟨b2, k, (H.rF 8 e16 rfl), q0, q1, q2, q3, q4, q5, q6, q7, q8, q9, q10, q11, q12, q13, q14, (fun _ => rfl)⟩
   ·
    rintro S f w hS ⟨e0, e1, e2, e3, e4, e5, e6, e7, e8, e9, e10, e11, e12, e13, e15, -⟩ - ⟨b2, k, H, q0, q1, q2, q3, q4, q5, q6, q7, q8, q9, q10, q11, q12, q13, q14, q15⟩
    obtain ⟨u17, rfl⟩ := up2 (q15 e15) (q13 e13)
    have H := (H.cF 8 hS rfl).cT 8 e15 rfl
    exact St 8 0 [(vi t2.Place), (vi t2.Wind), (.bool t2.Flag), (vi t2.At)] [(vi t2.Place), (vi t2.Wind), (.bool t2.Flag), (vi t2.At)] sz32 H R R (one_cons rfl (one_cons rfl (one_cons rfl (one_cons rfl one_nil)))) fun w5 H => Nl ⟨b2, k, H, q0, q1, q2, q3, q4, q5, q6, q7, q8, q9, q10, q11, q12, q13, q14, q15⟩
  ·
   rintro S f w ⟨e0, e1, e2, e3, e4, e5, e6, e7, e8, e9, e10, e11, e12, e13, e14, e15, e16, -⟩ ⟨b2, k, H, q0, q1, q2, q3, q4, q5, q6, q7, q8, q9, q10, q11, q12, q13, q14, q15⟩
   have H : InvD X0 w0 w [boxI b0 61 (cI a0.inside va0_0 va0_1 va0_2 va0_3 va0_4), o3 va0_0 a0.inside.net.Rates, o92 va0_1 a0.inside.net.Sights, o70 va0_2 a0.inside.log, o3 va0_3 a0.inside.verdicts, o74 va0_4 a0.inside.ledger, o3 v1 t1, boxI b1 70 [(vi x1), (vi x2), (vi x3)], boxI b2 32 [(vi t2.Place), (vi t2.Wind), (.bool t2.Flag), (vi t2.At)]] := (H.cT 8 e16 rfl)
   obtain ⟨u18, rfl⟩ := up4 k.1 k.2 (q15 e15) (q14 e14)
   refine As (vi t3) (Nl (Sq (Rg (Mv (vi t3) ?_))))
   rcases mustB_some hm with ⟨hc1, rfl⟩ | ⟨hc1, hm⟩
   · exact Cn call76 (c_station_needs_no hc1) (fun w' hb => ⟨rfl, (H.ext hb).baseX⟩)
   refine Ca call76 (c_station_needs_ok hc1) ?_
   rintro _ w6 hb4 rfl
   have H := H.ext hb4
   refine Nl (Sq (Rg (Mv (pt b0) (Nk rfl (Fa fd61_0 rfl (Fa fd54_3 rfl (Ld _ sc35 (H.cell 0 rfl 9 _ rfl) (Ln underlying35 (H.own 3 rfl) (Ls ?_)))))))))
   rcases mustB_some hm with ⟨hc2, rfl⟩ | ⟨hc2, hm⟩
   · exact Cn call78 (c_station_must_no _ hc2) (fun w' hb => ⟨rfl, (H.ext hb).baseX⟩)
   refine Ca call78 (c_station_must_ok _ hc2) ?_
   rintro _ w7 hb5 rfl
   have H := H.ext hb5
   refine Nl (Sq ?_)
   obtain ⟨t4, ht4, hm⟩ := bind_some hm
   have H := H.addGone
   refine W.drawD 15 [[], [], [], [], [3], [3, 4], [3, 4, 5], [3, 4, 5, 6], [], [8], [3, 4, 5, 6, 7, 8, 9], [0, 2, 3, 4, 5, 6, 7, 8, 9, 10], [0, 2, 3, 4, 5, 6, 7, 8, 9, 10, 11], [0, 2, 3, 4, 5, 6, 7, 8, 9, 10, 11, 12], [0, 2, 3, 4, 5, 6, 7, 8, 9, 10, 11, 12, 13]] [[11, 12, 13, 14], [], [11, 12, 13, 14], [4, 5, 6, 7, 10, 11, 12, 13, 14], [5, 6, 7, 10, 11, 12, 13, 14], [6, 7, 10, 11, 12, 13, 14], [7, 10, 11, 12, 13, 14], [10, 11, 12, 13, 14], [9, 10, 11, 12, 13, 14], [10, 11, 12, 13, 14], [11, 12, 13, 14], [12, 13, 14], [13, 14], [14], []] (fun S f w => ∃ v2 : Value, ∃ v3 : Value, (f 0 = (pt b0) ∧ f 6 = (pt b1) ∧ f 7 = (pt b2)) ∧ InvD X0 w0 w [cond (S 14) (boxI b0 61 [(vi a0.inside.mast.Noon), (vi a0.inside.mast.Half), (vi a0.inside.mast.Full), (vi a0.inside.mast.Late), (vi a0.inside.mast.Again), (vi a0.inside.mast.Wind), (vi a0.inside.day), va0_0, va0_1, va0_2, (vi t2.Place), (vi t2.Wind), (.bool t2.Flag), (vi t2.At), va0_3, va0_4, (vi a0.inside.flags)]) (boxI b0 61 (cI a0.inside va0_0 va0_1 va0_2 va0_3 va0_4)), o3 va0_0 a0.inside.net.Rates, o92 va0_1 a0.inside.net.Sights, cond (S 10) (o70 v3 t4) (o70 va0_2 a0.inside.log), o3 va0_3 a0.inside.verdicts, o74 va0_4 a0.inside.ledger, o3 v1 t1, boxI b1 70 [(vi x1), (vi x2), (vi x3)], boxI b2 32 [(vi t2.Place), (vi t2.Wind), (.bool t2.Flag), (vi t2.At)], cond (S 9) (o70 v2 ([(GEvent.mk x1 x2 x3)] : List GEvent)) goneI] ∧ (S 0 = true → f 46 = (pt b0)) ∧ (S 1 = true → f 47 = (pt b0)) ∧ (S 2 = true → f 48 = (.agg (Flat.cells t2).toArray)) ∧ (S 3 = true → f 49 = (pt b0)) ∧ (S 4 = true → f 50 = (pt b0)) ∧ (S 5 = true → f 51 = (.pointer (some (Addr.add (Addr.mk b0 0 none) 0)))) ∧ (S 6 = true → f 52 = (.pointer (some (Addr.add (Addr.add (Addr.mk b0 0 none) 0) 9)))) ∧ (S 7 = true → f 53 = va0_2) ∧ (S 8 = true → f 54 = (.agg (Flat.cells (GEvent.mk x1 x2 x3)).toArray)) ∧ (S 9 = true → f 55 = v2) ∧ (S 10 = true → f 56 = v3) ∧ (S 11 = true → f 57 = (pt b0)) ∧ (S 12 = true → f 58 = (.pointer (some (Addr.add (Addr.mk b0 0 none) 0)))) ∧ (S 13 = true → f 59 = (.pointer (some (Addr.add (Addr.add (Addr.mk b0 0 none) 0) 10))))) fol (by kernel_rfl) ?_ ?_ ?_
   ·
    exact fun d _ => ⟨.nilFunc, .nilFunc, ⟨rfl, rfl, rfl⟩, H.ext (below_drawn d), nF, nF, nF, nF, nF, nF, nF, nF, nF, nF, nF, nF, nF, nF⟩
   ·
    refine ⟨?_, ⟨?_, ⟨?_, ⟨?_, ⟨?_, ⟨?_, ⟨?_, ⟨?_, ⟨?_, ⟨?_, ⟨?_, ⟨?_, ⟨?_, ⟨?_, ⟨?_, trivial⟩⟩⟩⟩⟩⟩⟩⟩⟩⟩⟩⟩⟩⟩⟩
    ·
     rintro S f w hS - ⟨e11, e12, e13, e14, -⟩ ⟨v2, v3, k, H, q0, t⟩
     obtain ⟨u19, rfl⟩ := up1 k.1
     exact Mv (pt b0) (Nl ⟨v2, v3, k, H, (fun _ => rfl), t⟩)
    ·
     rintro S f w hS - - ⟨v2, v3, k, H, q0, q1, t⟩
     obtain ⟨u20, rfl⟩ := up1 k.1
     exact Mv (pt b0) (Nl ⟨v2, v3, k, H, q0, (fun _ => rfl), t⟩)
    ·
     rintro S f w hS - ⟨e11, e12, e13, e14, -⟩ ⟨v2, v3, k, H, q0, q1, q2, t⟩
     obtain ⟨u21, rfl⟩ := up1 k.2.2
     exact La [(vi t2.Place), (vi t2.Wind), (.bool t2.Flag), (vi t2.At)] ag32 (H.cell 8 rfl) (Nl ⟨v2, v3, k, H, q0, q1, (fun _ => rfl), t⟩)
    ·
     rintro S f w hS - ⟨e4, e5, e6, e7, e10, e11, e12, e13, e14, -⟩ ⟨v2, v3, k, H, q0, q1, q2, q3, t⟩
     obtain ⟨u22, rfl⟩ := up1 k.1
     exact Mv (pt b0) (Nl ⟨v2, v3, k, H, q0, q1, q2, (fun _ => rfl), t⟩)
    ·
     rintro S f w hS ⟨e3, -⟩ ⟨e5, e6, e7, e10, e11, e12, e13, e14, -⟩ ⟨v2, v3, k, H, q0, q1, q2, q3, q4, t⟩
     obtain ⟨u23, rfl⟩ := up1 (q3 e3)
     exact Nk rfl (Nl ⟨v2, v3, k, H, q0, q1, q2, q3, (fun _ => rfl), t⟩)
    ·
     rintro S f w hS ⟨e3, e4, -⟩ ⟨e6, e7, e10, e11, e12, e13, e14, -⟩ ⟨v2, v3, k, H, q0, q1, q2, q3, q4, q5, t⟩
     obtain ⟨u24, rfl⟩ := up1 (q4 e4)
     exact Fa fd61_0 rfl (Nl ⟨v2, v3, k, H, q0, q1, q2, q3, q4, (fun _ => rfl), t⟩)
    ·
     rintro S f w hS ⟨e3, e4, e5, -⟩ ⟨e7, e10, e11, e12, e13, e14, -⟩ ⟨v2, v3, k, H, q0, q1, q2, q3, q4, q5, q6, t⟩
     obtain ⟨u25, rfl⟩ := up1 (q5 e5)
     exact Fa fd54_3 rfl (Nl ⟨v2, v3, k, H, q0, q1, q2, q3, q4, q5, (fun _ => rfl), t⟩)
    ·
     rintro S f w hS ⟨e3, e4, e5, e6, -⟩ ⟨e10, e11, e12, e13, e14, -⟩ ⟨v2, v3, k, H, q0, q1, q2, q3, q4, q5, q6, q7, t⟩
     obtain ⟨u26, rfl⟩ := up1 (q6 e6)
     have G := H
     have H := H.cF 0 e14 rfl
     exact Ld _ sc35 (H.cell 0 rfl 9 _ rfl) (Nl ⟨v2, v3, k, G, q0, q1, q2, q3, q4, q5, q6, (fun _ => rfl), t⟩)
    ·
     rintro S f w hS - ⟨e9, e10, e11, e12, e13, e14, -⟩ ⟨v2, v3, k, H, q0, q1, q2, q3, q4, q5, q6, q7, q8, t⟩
     obtain ⟨u27, rfl⟩ := up1 k.2.1
     exact La [(vi x1), (vi x2), (vi x3)] ag70 (H.cell 7 rfl) (Nl ⟨v2, v3, k, H, q0, q1, q2, q3, q4, q5, q6, q7, (fun _ => rfl), t⟩)
    ·
     rintro S f w hS ⟨e8, -⟩ ⟨e10, e11, e12, e13, e14, -⟩ ⟨_, v3, k, H, q0, q1, q2, q3, q4, q5, q6, q7, q8, q9, t⟩
     obtain ⟨u28, rfl⟩ := up1 (q8 e8)
     have H := H.cF 9 hS rfl
     refine Bs (α := GEvent) [(.agg (Flat.cells (GEvent.mk x1 x2 x3)).toArray)] [(GEvent.mk x1 x2 x3)] underlying35 el70 H fun v2 w8 H hb6 => ?_
     have H := H.pick [0, 1, 2, 3, 4, 5, 6, 7, 8, 10] [cond (S 14) (boxI b0 61 [(vi a0.inside.mast.Noon), (vi a0.inside.mast.Half), (vi a0.inside.mast.Full), (vi a0.inside.mast.Late), (vi a0.inside.mast.Again), (vi a0.inside.mast.Wind), (vi a0.inside.day), va0_0, va0_1, va0_2, (vi t2.Place), (vi t2.Wind), (.bool t2.Flag), (vi t2.At), va0_3, va0_4, (vi a0.inside.flags)]) (boxI b0 61 (cI a0.inside va0_0 va0_1 va0_2 va0_3 va0_4)), o3 va0_0 a0.inside.net.Rates, o92 va0_1 a0.inside.net.Sights, cond (S 10) (o70 v3 t4) (o70 va0_2 a0.inside.log), o3 va0_3 a0.inside.verdicts, o74 va0_4 a0.inside.ledger, o3 v1 t1, boxI b1 70 [(vi x1), (vi x2), (vi x3)], boxI b2 32 [(vi t2.Place), (vi t2.Wind), (.bool t2.Flag), (vi t2.At)], o70 v2 ([(GEvent.mk x1 x2 x3)] : List GEvent)] rfl (by decide)
     exact Nl ⟨v2, v3, k, H, q0, q1, q2, q3, q4, q5, q6, q7, q8, (fun _ => rfl), t⟩
    ·
     rintro S f w hS ⟨e3, e4, e5, e6, e7, e8, e9, -⟩ ⟨e11, e12, e13, e14, -⟩ ⟨v2, _, k, H, q0, q1, q2, q3, q4, q5, q6, q7, q8, q9, q10, t⟩
     obtain ⟨u29, rfl⟩ := up2 (q7 e7) (q9 e9)
     have H := (H.cF 3 hS rfl).cT 9 e9 rfl
     exact Ap 3 underlying35 el70 H rfl (H.own 9 rfl) ht4 fun v3 w9 H => Nl ⟨v2, v3, k, (H.rT 9 e9 rfl), q0, q1, q2, q3, q4, q5, q6, q7, q8, q9, (fun _ => rfl), t⟩
    ·
     rintro S f w hS ⟨e0, e2, e3, e4, e5, e6, e7, e8, e9, e10, -⟩ ⟨e12, e13, e14, -⟩ ⟨v2, v3, k, H, q0, q1, q2, q3, q4, q5, q6, q7, q8, q9, q10, q11, t⟩
     obtain ⟨u30, rfl⟩ := up1 (q0 e0)
     exact Nk rfl (Nl ⟨v2, v3, k, H, q0, q1, q2, q3, q4, q5, q6, q7, q8, q9, q10, (fun _ => rfl), t⟩)
    ·
     rintro S f w hS ⟨e0, e2, e3, e4, e5, e6, e7, e8, e9, e10, e11, -⟩ ⟨e13, e14, -⟩ ⟨v2, v3, k, H, q0, q1, q2, q3, q4, q5, q6, q7, q8, q9, q10, q11, q12, q13⟩
     obtain ⟨u31, rfl⟩ := up1 (q11 e11)
     exact Fa fd61_0 rfl (Nl ⟨v2, v3, k, H, q0, q1, q2, q3, q4, q5, q6, q7, q8, q9, q10, q11, (fun _ => rfl), q13⟩)
    ·
     rintro S f w hS ⟨e0, e2, e3, e4, e5, e6, e7, e8, e9, e10, e11, e12, -⟩ ⟨e14, -⟩ ⟨v2, v3, k, H, q0, q1, q2, q3, q4, q5, q6, q7, q8, q9, q10, q11, q12, q13⟩
     obtain ⟨u32, rfl⟩ := up1 (q12 e12)
     exact Fa fd54_4 rfl (Nl ⟨v2, v3, k, H, q0, q1, q2, q3, q4, q5, q6, q7, q8, q9, q10, q11, q12, (fun _ => rfl)⟩)
    ·
     rintro S f w hS ⟨e0, e2, e3, e4, e5, e6, e7, e8, e9, e10, e11, e12, e13, -⟩ - ⟨v2, v3, k, H, q0, q1, q2, q3, q4, q5, q6, q7, q8, q9, q10, q11, q12, q13⟩
     obtain ⟨u33, rfl⟩ := up2 (q2 e2) (q13 e13)
     have H := H.cF 0 hS rfl
     exact St 0 10 [(vi t2.Place), (vi t2.Wind), (.bool t2.Flag), (vi t2.At)] [(vi a0.inside.mast.Noon), (vi a0.inside.mast.Half), (vi a0.inside.mast.Full), (vi a0.inside.mast.Late), (vi a0.inside.mast.Again), (vi a0.inside.mast.Wind), (vi a0.inside.day), va0_0, va0_1, va0_2, (vi t2.Place), (vi t2.Wind), (.bool t2.Flag), (vi t2.At), va0_3, va0_4, (vi a0.inside.flags)] sz32 H R R (one_cons rfl (one_cons rfl (one_cons rfl (one_cons rfl one_nil)))) fun w10 H => Nl ⟨v2, v3, k, H, q0, q1, q2, q3, q4, q5, q6, q7, q8, q9, q10, q11, q12, q13⟩
   ·
    rintro S f w ⟨e0, e1, e2, e3, e4, e5, e6, e7, e8, e9, e10, e11, e12, e13, e14, -⟩ ⟨v2, v3, k, H, q0, q1, q2, q3, q4, q5, q6, q7, q8, q9, q10, q11, q12, q13⟩
    have H : InvD X0 w0 w [boxI b0 61 [(vi a0.inside.mast.Noon), (vi a0.inside.mast.Half), (vi a0.inside.mast.Full), (vi a0.inside.mast.Late), (vi a0.inside.mast.Again), (vi a0.inside.mast.Wind), (vi a0.inside.day), va0_0, va0_1, va0_2, (vi t2.Place), (vi t2.Wind), (.bool t2.Flag), (vi t2.At), va0_3, va0_4, (vi a0.inside.flags)], o3 va0_0 a0.inside.net.Rates, o92 va0_1 a0.inside.net.Sights, o70 v3 t4, o3 va0_3 a0.inside.verdicts, o74 va0_4 a0.inside.ledger, o3 v1 t1, boxI b1 70 [(vi x1), (vi x2), (vi x3)], boxI b2 32 [(vi t2.Place), (vi t2.Wind), (.bool t2.Flag), (vi t2.At)], o70 v2 ([(GEvent.mk x1 x2 x3)] : List GEvent)] := (((H.cT 0 e14 rfl).cT 3 e10 rfl).cT 9 e9 rfl)
    obtain ⟨u34, rfl⟩ := up4 k.1 k.2.2 (q1 e1) (q10 e10)
    refine Nk rfl (Fa fd61_0 rfl (Fa fd54_3 rfl (O.store 0 9 [v3] [(vi a0.inside.mast.Noon), (vi a0.inside.mast.Half), (vi a0.inside.mast.Full), (vi a0.inside.mast.Late), (vi a0.inside.mast.Again), (vi a0.inside.mast.Wind), (vi a0.inside.day), va0_0, va0_1, v3, (vi t2.Place), (vi t2.Wind), (.bool t2.Flag), (vi t2.At), va0_3, va0_4, (vi a0.inside.flags)] sz35 H R R R R R (SliceR.cells1 (H.own 3 rfl)) ⟨⟨rfl, rfl⟩, rfl⟩ (one_cons (SliceR.one (H.own 3 rfl)) one_nil) fun w11 H => Nl (Sq (Rg (Fa fd32_0 rfl (Ld _ sc3 (H.cell 8 rfl 0 _ rfl) (Bs (α := Int) [(vi t2.Place)] [t2.Place] underlying26 el3 H fun v4 w12 H hb7 => ?_))))))))
    obtain ⟨t5, hy3, hm⟩ := bind_some hm
    refine Ca call79 (c_station_said (hT _ H.baseX) _ _ _ (H.own 10 rfl) hy3) ?_
    rintro _ w13 hb8 rfl
    have H := H.ext hb8
    refine As (.string t5) (Nl (Rt ?_))
    obtain rfl : Ref.ok ((GSession.mk (GInside.mk a0.inside.mast a0.inside.day a0.inside.net t4 t2 a0.inside.verdicts a0.inside.ledger a0.inside.flags)), t5) = r0 := sj (show some (Ref.ok ((GSession.mk (GInside.mk a0.inside.mast a0.inside.day a0.inside.net t4 t2 a0.inside.verdicts a0.inside.ledger a0.inside.flags)), t5)) = some r0 from hm)
    exact ends1 results42 rfl ⟨_, _, rfl, H.pick [0, 1, 2, 3, 4, 5] [boxI b0 61 [(vi a0.inside.mast.Noon), (vi a0.inside.mast.Half), (vi a0.inside.mast.Full), (vi a0.inside.mast.Late), (vi a0.inside.mast.Again), (vi a0.inside.mast.Wind), (vi a0.inside.day), va0_0, va0_1, v3, (vi t2.Place), (vi t2.Wind), (.bool t2.Flag), (vi t2.At), va0_3, va0_4, (vi a0.inside.flags)], o3 va0_0 a0.inside.net.Rates, o92 va0_1 a0.inside.net.Sights, o70 v3 t4, o3 va0_3 a0.inside.verdicts, o74 va0_4 a0.inside.ledger] rfl (by decide), va0_0, va0_1, v3, va0_3, va0_4, rfl, rfl⟩

theorem it_ball_states_c1 {wi : World} {Kp : World → Prop} (pc0 : Addr) (vc0 : Value) (c0 : List GEvent) (pc1 : Addr) (c1 : GMast) {r : List (GBall × Int)} (hm : ball_states_c1 c0 c1 = some r)
    (hk : ∀ w, Kp w → (∀ j c, [vc0][j]? = some c → w.cell? (pc0.add j) = some c) ∧ SliceR w vc0 c0 ∧ (∀ j c, (Flat.cells c1)[j]? = some c → w.cell? (pc1.add j) = some c)) :
    IterAt prog 201 #[.pointer (some pc0), .pointer (some pc1)] (repP (α := GBall) (β := Int)) (fun ys => ys = r) Kp wi := by
  intro l J Jx hc h0
  refine cW func201 ntmps201 ?_
  have H := InvI.start hc h0
  have hK := hk _ (InvI.kp H)
  unfold ball_states_c1 at hm
  refine Sq (Rg (Al (Flat.cells (GBall.mk 0 0 false 0)) ze32 H fun b4 w1 H hb1 => Nl ?_))
  have hK := hk _ (InvI.kp H)
  refine Sq (Rg (O.load (q := pc0) (v := vc0) sc35 R R R (hK.1 0 _ rfl) (Ln underlying35 hK.2.1 (Mv (vi 0) (Nl (Bk ?_))))))
  refine W.loopL (l := c0) (fun rem f w => ∃ ik : Nat, c0.drop ik = rem ∧ f 11 = .int .i64 (ik : Int) ∧ f 10 = .int .i64 (c0.length : Int) ∧ f 9 = vc0 ∧ f 0 = .func (.yield l) #[] #[] ∧ f 2 = .pointer (some pc1) ∧ f 4 = .pointer (some ⟨b4, 0, none⟩) ∧
    ∃ (pre : List (GBall × Int)) (s : GBall) (l' : List (GBall × Int)), pre ++ l' = r ∧ ball_statesF c1 s rem = some l' ∧ ∃ C, InvI wi w [consI hc pre C, boxI b4 32 (Flat.cells s)]) ?_ ?_ ?_
  · exact ⟨0, List.drop_zero, rfl, rfl, rfl, rfl, rfl, rfl, [], _, r, rfl, hm, _, H⟩
  · rintro y xs f w ⟨ik, hd, hf11, hf10, hf9, hf0, hf2, hf4, pre, s, l', hpre, hm, C, H⟩
    have hlt := drop_lt hd; have hix := drop_idx hd
    obtain ⟨u1, rfl⟩ : ∃ u1, f = (upd (upd (upd (upd (upd (upd u1 11 (vi (ik : Int))) 10 (vi (c0.length : Int))) 9 vc0) 0 (.func (.yield l) #[] #[])) 2 (.pointer (some pc1))) 4 (pt b4)) :=
      ⟨f, by rw [upd_self hf11, upd_self hf10, upd_self hf9, upd_self hf0, upd_self hf2, upd_self hf4]⟩
    have hK := hk _ (InvI.kp H)
    have hinc := addI_lt hlt hK.2.1.len_le
    rw [ball_statesF] at hm
    obtain ⟨⟨s', e'⟩, hnext, hm⟩ := bind_some hm
    refine Sq (Rg (Ls (Nl (Sq (Ct (cb (decide_eq_true hlt)) (Sk (Sq (Bk (Sq (Rg (Ia underlying35 sz70 hK.2.1 hix fun p1 hp1 => La (Flat.cells y) ag70 (hp1.flat) ?_)))))))))))
    refine Al (Flat.cells (GEvent.mk 0 0 0)) ze70 H fun b6 w2 H hb2 => St 2 0 (Flat.cells y) (Flat.cells y) sz70 H R R (Flat.one y) fun w3 H => Nl ?_
    have hK := hk _ (InvI.kp H)
    refine Sq (Rg (La (q := pc1) (Flat.cells c1) ag52 (hK.2.2) (La (Flat.cells s) ag32 (H.cell 1 rfl) (La (Flat.cells y) ag70 (H.cell 2 rfl) (Ca call108 (c_ball_next c1 s y hnext) ?_)))))
    rintro _ w4 hb3 rfl
    have H := H.ext hb3
    refine Mv (.tuple #[.agg (Flat.cells s').toArray, .int .i64 e']) (Xt (.agg (Flat.cells s').toArray) (Xt (vi e') (Al (Flat.cells (GBall.mk 0 0 false 0)) ze32 H fun b7 w5 H hb4 => St 3 0 (Flat.cells s') (Flat.cells s') sz32 H R R (Flat.one s') fun w6 H => As (vi e') (Nl ?_))))
    have hS : ∃ rest, pre ++ (s', e') :: rest = r := by
      split at hm
      · obtain ⟨l2, _, h2⟩ := bind_some hm
        exact ⟨l2, by rw [← hpre, ← sj h2]⟩
      · exact ⟨[], by rw [← hpre, ← sj hm]⟩
    refine Sq (Sq (Rg (Mv (.func (.yield l) #[] #[]) (La (Flat.cells s') ag32 (H.cell 3 rfl) (Mv (vi e') ?_)))))
    refine O.yield (s', e') [.agg (Flat.cells s').toArray, .int .i64 e'] H hS R R R R R ?_ ?_
    · intro w' C' H
      refine O.not R R R (Mv (.bool false) (Mv (vi e') (Ne_ (Pf (.bool (e' != 0)) (Nl ?_)))))
      by_cases he : e' = 0
      · subst he
        rw [if_pos rfl] at hm
        obtain ⟨l2, hl2, h2⟩ := bind_some hm
        exact Cf rfl (Sk (Rg (La (Flat.cells s') ag32 (H.cell 3 rfl) (St 1 0 (Flat.cells s') (Flat.cells s') sz32 H R R (Flat.one s') fun w7 H => Nl (Rg (Ad hinc (Mv (vi ((ik : Int) + 1)) (Nl ⟨ik + 1, drop_next hd, rfl, rfl, rfl, rfl, rfl, rfl, pre ++ [(s', 0)], s', l2, by rw [← hpre, ← sj h2]; simp, hl2, _, H.pick [0, 1] [consI hc (pre ++ [(s', 0)]) C', boxI b4 32 (Flat.cells s')] rfl (by decide)⟩))))))))
      · rw [if_neg he] at hm
        refine Ct (cb (bne_iff_ne.2 he)) (Rt ?_)
        refine ends0 results201 ⟨_, _, rfl, .inl ⟨_, ?_, (H.items _ (List.mem_cons_self ..)).1⟩⟩
        rw [← hpre, ← sj hm]
    · intro w' C' H
      exact O.not R R R (Mv (.bool true) (Sp (Sp (Pt (.bool true) (Nl (Ct rfl (Rt (ends0 results201 ⟨_, _, rfl, .inr (H.items _ (List.mem_cons_self ..)).1⟩))))))))
  · rintro f w ⟨ik, hd, hf11, hf10, hf9, hf0, hf2, hf4, pre, s, l', hpre, hm, C, H⟩
    have hlt := drop_end hd
    obtain ⟨u1, rfl⟩ := up2 hf11 hf10
    refine Sq (Rg (Ls (Nl (Sq (Cf (cb (decide_eq_false hlt)) (W.exit (xT rfl ?_)))))))
    refine ends0 results201 ⟨_, C, rfl, .inl ⟨_, ?_, (H.items _ (List.mem_cons_self ..)).1⟩⟩
    rw [ball_statesF] at hm
    rw [← hpre, ← sj hm, List.append_nil]

theorem c_ball_states {w0 : World} (a0 : GMast) (va1 : Value) (a1 : (List GEvent)) (ha1 : SliceR w0 va1 a1) :
  Calls prog 145 #[(.agg (Flat.cells a0).toArray), va1] w0 (Ret w0 fun w v => ∃ b2 : Nat, ∃ b1 : Nat, v = (.func (.func 201) #[] #[(pt b2), (pt b1)]) ∧ Inv w0 w [boxI b2 35 [va1], boxI b1 52 [(vi a0.Noon), (vi a0.Half), (vi a0.Full), (vi a0.Late), (vi a0.Again), (vi a0.Wind)]]) := by
 refine cW func145 ntmps145 ?_
 have H := Inv.start (w := w0)
 refine Sq (Rg (Bx [(vi a0.Noon), (vi a0.Half), (vi a0.Full), (vi a0.Late), (vi a0.Again), (vi a0.Wind)] H fun b1 w1 H hb1 => O.box [va1] H R R R (SliceR.cells1 (H.arg ha1)) fun b2 w2 H hb2 => As (.nilFunc) (Nl (Sq (Rg (Mf (As (.func (.func 201) #[] #[(pt b2), (pt b1)]) (Nl (Rt ?_)))))))))
 exact ends1 results145 rfl ⟨_, rfl, H.base, ⟨_, _, rfl, H.pick [1, 0] [boxI b2 35 [va1], boxI b1 52 [(vi a0.Noon), (vi a0.Half), (vi a0.Full), (vi a0.Late), (vi a0.Again), (vi a0.Wind)]] rfl (by decide)⟩⟩

set_option maxRecDepth 20000 in
theorem c_ball_Run {w0 : World} (a0 : GMast) (va1 : Value) (a1 : (List GEvent)) (ha1 : SliceR w0 va1 a1) {r0 : GBall} {r1 : Int} {r2 : Int} (hm : ball_Run a0 a1 = some (r0, r1, r2)) :
  Calls prog 109 #[(.agg (Flat.cells a0).toArray), va1] w0 (Ret w0 fun _ v => v = .tuple #[(.agg (Flat.cells r0).toArray), (vi r1), (vi r2)]) := by
 unfold ball_Run at hm
 refine calls_of_WM func109 rfl ntmps109 (Nat.le_of_ble_eq_true rfl) ?_
 have H := Inv.startM (w0 := w0)
 have hmk : (fr0 #[(.agg (Flat.cells a0).toArray), va1]).marks = [] := rfl
 refine Sq (Rg (Bx [(vi a0.Noon), (vi a0.Half), (vi a0.Full), (vi a0.Late), (vi a0.Again), (vi a0.Wind)] H fun b1 w1 H hb1 => Al [(vi 0), (vi 0), (.bool false), (vi 0)] ze32 H fun b2 w2 H hb2 => Al [(vi 0)] ze3 H fun b3 w3 H hb3 => Al [(vi 0)] ze23 H fun b4 w4 H hb4 => Nl (Sq (Bk (Sq ?_)))))
 refine Rg (La [(vi a0.Noon), (vi a0.Half), (vi a0.Full), (vi a0.Late), (vi a0.Again), (vi a0.Wind)] ag52 (H.cell 1 rfl) ?_)
 obtain ⟨t1, hy1, hm⟩ := bind_some hm
 refine Ca call37 (c_ball_ValidMast a0 hy1) ?_
 rintro _ w5 hb5 rfl
 have H := H.ext hb5
 refine O.not R R R (As (.bool (!t1)) (Nl ?_))
 rcases ite_some hm with ⟨hc1, hm⟩ | ⟨hc1, hm⟩
 ·
  refine Ct (cb hc1) (Sq (Rg (Bd (v := (.agg (Flat.cells (GBall.mk 0 0 false 0)).toArray)) (fun w => bd32_  w) rfl (St 2 0 [(vi 0), (vi 0), (.bool false), (vi 0)] [(vi 0), (vi 0), (.bool false), (vi 0)] sz32 H R R (one_cons rfl (one_cons rfl (one_cons rfl (one_cons rfl one_nil)))) fun w6 H => St 3 0 [(vi 0)] [(vi 0)] sz3 H R R (one_cons rfl one_nil) fun w7 H => St 4 0 [(vi 1)] [(vi 1)] sz23 H R R (one_cons rfl one_nil) fun w8 H => Nl (Rt (endsM_mk H hmk fun w H _ => ?_))))))
  obtain ⟨rfl, rfl, rfl⟩ := j3 hm
  exact ends3 results109 ⟨_, rfl, run_loadVar_agg ag32 rfl (H.cell 2 rfl)⟩ ⟨_, rfl, run_loadVar_scalar sc3 (H.cell 3 rfl 0 _ rfl)⟩ ⟨_, rfl, run_loadVar_scalar sc23 (H.cell 4 rfl 0 _ rfl)⟩ ⟨_, rfl, H.base, rfl⟩
 ·
  refine Cf (cb hc1) (Sq (Rg (Mv va1 (Ln underlying35 (H.arg ha1) (Gt_ (As (.bool (decide (100 < ((a1.length : Nat) : Int)))) (Nl ?_)))))))
  rcases ite_some hm with ⟨hc2, hm⟩ | ⟨hc2, hm⟩
  ·
   refine Ct (cb hc2) (Sq (Rg (Bd (v := (.agg (Flat.cells (GBall.mk 0 0 false 0)).toArray)) (fun w => bd32_  w) rfl (St 2 0 [(vi 0), (vi 0), (.bool false), (vi 0)] [(vi 0), (vi 0), (.bool false), (vi 0)] sz32 H R R (one_cons rfl (one_cons rfl (one_cons rfl (one_cons rfl one_nil)))) fun w9 H => St 3 0 [(vi 0)] [(vi 0)] sz3 H R R (one_cons rfl one_nil) fun w10 H => St 4 0 [(vi 7)] [(vi 7)] sz23 H R R (one_cons rfl one_nil) fun w11 H => Nl (Rt (endsM_mk H hmk fun w H _ => ?_))))))
   obtain ⟨rfl, rfl, rfl⟩ := j3 hm
   exact ends3 results109 ⟨_, rfl, run_loadVar_agg ag32 rfl (H.cell 2 rfl)⟩ ⟨_, rfl, run_loadVar_scalar sc3 (H.cell 3 rfl 0 _ rfl)⟩ ⟨_, rfl, run_loadVar_scalar sc23 (H.cell 4 rfl 0 _ rfl)⟩ ⟨_, rfl, H.base, rfl⟩
  ·
   refine Cf (cb hc2) (Sk (Sq (Rg (Al [(vi 0), (vi 0), (.bool false), (vi 0)] ze32 H fun b5 w12 H hb6 => Nl (Sq (Rg (Al [(vi 0)] ze3 H fun b6 w13 H hb7 => St 6 0 [(vi 0)] [(vi 0)] sz3 H R R (one_cons rfl one_nil) fun w14 H => Nl ?_)))))))
   refine Sq (Sq (Rg (La [(vi a0.Noon), (vi a0.Half), (vi a0.Full), (vi a0.Late), (vi a0.Again), (vi a0.Wind)] ag52 (H.cell 1 rfl) (Mv va1 (Ca call145 (c_ball_states a0 _ _ (H.arg ha1)) ?_)))))
   rintro _ w15 hb8 ⟨b7, b8, rfl, hM1⟩
   have H := H.addAll hb8 hM1
   refine Nl ?_
   obtain ⟨xs1, hxs1, hm⟩ := bind_some hm
   obtain ⟨o1, hm1, hm⟩ := bind_some hm
   refine W.via (fun f w => ∃ s1 : Int, ∃ s2 : Int, ∃ s3 : Bool, ∃ s4 : Int, ∃ s5 : Int, ∃ ms1 : List Nat, o1 = .next (s1, s2, s3, s4, s5) ∧ f 4 = (pt b2) ∧ f 5 = (pt b3) ∧ f 6 = (pt b4) ∧ f 7 = (pt b5) ∧ f 8 = (pt b6) ∧ f.marks = ms1 ∧ Inv w0 w [marksI ms1, boxI b2 32 [(vi 0), (vi 0), (.bool false), (vi 0)], boxI b3 3 [(vi 0)], boxI b4 23 [(vi 0)], boxI b5 32 [(vi s1), (vi s2), (.bool s3), (vi s4)], boxI b6 3 [(vi s5)]]) ?_ ?_
   ·
    refine Bk ?_
    have H := H.keep [0, 2, 3, 4, 5, 6, 7, 8] [marksI [], boxI b2 32 [(vi 0), (vi 0), (.bool false), (vi 0)], boxI b3 3 [(vi 0)], boxI b4 23 [(vi 0)], boxI b5 32 [(vi 0), (vi 0), (.bool false), (vi 0)], boxI b6 3 [(vi 0)], boxI b7 35 [va1], boxI b8 52 [(vi a0.Noon), (vi a0.Half), (vi a0.Full), (vi a0.Late), (vi a0.Again), (vi a0.Wind)]] rfl (by decide)
    refine W.rangeFuncL (α := (GBall × Int)) (σ := Int × Int × Bool × Int × Int) (X := Ctl (Int × Int × Bool × Int × Int) (GBall × Int × Int)) (xs := xs1) (rep := (repP (α := GBall) (β := Int))) hm1 (fun s L => ∃ z6 : Int, ∃ z7 : Int, ∃ z8 : Bool, ∃ z9 : Int, ∃ z10 : Int, (z6, z7, z8, z9, z10) = s ∧ L = [boxI b2 32 [(vi 0), (vi 0), (.bool false), (vi 0)], boxI b3 3 [(vi 0)], boxI b4 23 [(vi 0)], boxI b5 32 [(vi z6), (vi z7), (.bool z8), (vi z9)], boxI b6 3 [(vi z10)], boxI b7 35 [va1], boxI b8 52 [(vi a0.Noon), (vi a0.Half), (vi a0.Full), (vi a0.Late), (vi a0.Again), (vi a0.Wind)]]) (fun y j L => match j with | some j => j = 1 ∧ (False) | none => ∃ q1 : Int, ∃ q2 : Int, y = Ctl.ret ((GBall.mk 0 0 false 0), q1, q2) ∧ L = [boxI b2 32 [(vi 0), (vi 0), (.bool false), (vi 0)], boxI b3 3 [(vi q1)], boxI b4 23 [(vi q2)]]) rfl call201 rfl (fun _ _ _ h => by rw [h]; rfl) (fun Kp W hs hk => it_ball_states_c1 _ _ a1 _ a0 hxs1 fun w1 hw => by obtain ⟨_, _, _, _, ⟨_, _, _, _, _, _, rfl⟩, H⟩ := hk w1 hw; exact ⟨H.cell 8 rfl, (H.arg ha1), H.cell 9 rfl⟩) H ⟨_, _, _, _, _, rfl, rfl⟩ ?_ ?_ ?_ ?_
    ·
     rintro _ rs lp lp2 iz x1 _ st _ w _ ⟨z6, z7, z8, z9, z10, rfl, rfl⟩ rfl hm2 H
     change W _ _ _ _ _ _ _ (upd (upd _ 24 (.agg (Flat.cells x1.1).toArray)) 25 (vi x1.2)) w
     refine Sq (Rg (Al [(vi 0), (vi 0), (.bool false), (vi 0)] ze32 H fun b9 w16 H hb9 => St 10 0 [(vi x1.1.Place), (vi x1.1.Wind), (.bool x1.1.Flag), (vi x1.1.At)] [(vi x1.1.Place), (vi x1.1.Wind), (.bool x1.1.Flag), (vi x1.1.At)] sz32 H R R (one_cons rfl (one_cons rfl (one_cons rfl (one_cons rfl one_nil)))) fun w17 H => Nl (Rg (As (vi x1.2) (Nl ?_)))))
     refine ⟨_, H, fun w hsl H => ?_⟩
     refine Bk (Sq (Sq (Rg (Mv (vi x1.2) (Ne_ (Nl ?_))))))
     rcases ite_some hm2 with ⟨hc3, hm2⟩ | ⟨hc3, hm2⟩
     ·
      refine Ct (cb hc3) (Sq ?_)
      refine W.drawD 5 [[], [], [], [0], [0, 1, 3]] [[3, 4], [4], [], [4], []] (fun S f w => (f 4 = (pt b2) ∧ f 5 = (pt b3) ∧ f 6 = (pt b4) ∧ f 7 = (pt b5) ∧ f 8 = (pt b6) ∧ f 10 = (vi x1.2) ∧ f 23 = (.func (.func 201) #[] #[(pt b7), (pt b8)])) ∧ Inv w0 w [rs, lp2, marksI [], boxI b2 32 [(vi 0), (vi 0), (.bool false), (vi 0)], cond (S 4) (boxI b3 3 [(vi z10)]) (boxI b3 3 [(vi 0)]), boxI b4 23 [(vi 0)], boxI b5 32 [(vi z6), (vi z7), (.bool z8), (vi z9)], boxI b6 3 [(vi z10)], boxI b7 35 [va1], boxI b8 52 [(vi a0.Noon), (vi a0.Half), (vi a0.Full), (vi a0.Late), (vi a0.Again), (vi a0.Wind)], boxI b9 32 [(vi x1.1.Place), (vi x1.1.Wind), (.bool x1.1.Flag), (vi x1.1.At)]] ∧ (S 0 = true → f 28 = (.agg (Flat.cells (GBall.mk 0 0 false 0)).toArray)) ∧ (S 1 = true → f 29 = (vi z10)) ∧ (S 2 = true → f 30 = (vi x1.2))) fol (by kernel_rfl) ?_ ?_ ?_
      ·
       exact fun d _ => ⟨⟨rfl, rfl, rfl, rfl, rfl, rfl, rfl⟩, H.ext (below_drawn d), nF, nF, nF⟩
      ·
       refine ⟨?_, ⟨?_, ⟨?_, ⟨?_, ⟨?_, trivial⟩⟩⟩⟩⟩
       ·
        rintro S f w hS - ⟨e3, e4, -⟩ ⟨k, H, hd0, t⟩
        exact Bd (v := (.agg (Flat.cells (GBall.mk 0 0 false 0)).toArray)) (fun w => bd32_  w) rfl (Nl ⟨k, H, (fun _ => rfl), t⟩)
       ·
        rintro S f w hS - ⟨e4, -⟩ ⟨k, H, hd0, hd1, hd2⟩
        obtain ⟨u1, rfl⟩ := up1 k.2.2.2.2.1
        exact Ld _ sc3 (H.cell 7 rfl 0 _ rfl) (Nl ⟨k, H, hd0, (fun _ => rfl), hd2⟩)
       ·
        rintro S f w hS - - ⟨k, H, hd0, hd1, hd2⟩
        obtain ⟨u2, rfl⟩ := up1 k.2.2.2.2.2.1
        exact Mv (vi x1.2) (Nl ⟨k, H, hd0, hd1, (fun _ => rfl)⟩)
       ·
        rintro S f w hS ⟨e0, -⟩ ⟨e4, -⟩ ⟨k, H, hd0, t⟩
        obtain ⟨u3, rfl⟩ := up2 k.1 (hd0 e0)
        exact St 3 0 [(vi 0), (vi 0), (.bool false), (vi 0)] [(vi 0), (vi 0), (.bool false), (vi 0)] sz32 H R R (one_cons rfl (one_cons rfl (one_cons rfl (one_cons rfl one_nil)))) fun w18 H => Nl ⟨k, H, hd0, t⟩
       ·
        rintro S f w hS ⟨e0, e1, e3, -⟩ - ⟨k, H, hd0, hd1, hd2⟩
        obtain ⟨u4, rfl⟩ := up2 k.2.1 (hd1 e1)
        have H := H.cF 4 hS rfl
        exact St 4 0 [(vi z10)] [(vi z10)] sz3 H R R (one_cons rfl one_nil) fun w19 H => Nl ⟨k, H, hd0, hd1, hd2⟩
      ·
       rintro S f w ⟨e0, e1, e2, e3, e4, -⟩ ⟨k, H, hd0, hd1, hd2⟩
       have H : Inv w0 w [rs, lp2, marksI [], boxI b2 32 [(vi 0), (vi 0), (.bool false), (vi 0)], boxI b3 3 [(vi z10)], boxI b4 23 [(vi 0)], boxI b5 32 [(vi z6), (vi z7), (.bool z8), (vi z9)], boxI b6 3 [(vi z10)], boxI b7 35 [va1], boxI b8 52 [(vi a0.Noon), (vi a0.Half), (vi a0.Full), (vi a0.Late), (vi a0.Again), (vi a0.Wind)], boxI b9 32 [(vi x1.1.Place), (vi x1.1.Wind), (.bool x1.1.Flag), (vi x1.1.At)]] := (H.cT 4 e4 rfl)
       obtain ⟨u5, rfl⟩ := up7 k.1 k.2.1 k.2.2.1 k.2.2.2.1 k.2.2.2.2.1 k.2.2.2.2.2.2 (hd2 e2)
       refine St 5 0 [(vi x1.2)] [(vi x1.2)] sz23 H R R (one_cons rfl one_nil) fun w20 H => Nl (Rt ?_)
       have H := H.keep [0, 1, 2, 3, 4, 5] [rs, lp2, marksI [], boxI b2 32 [(vi 0), (vi 0), (.bool false), (vi 0)], boxI b3 3 [(vi z10)], boxI b4 23 [(vi x1.2)]] rfl (by decide)
       obtain rfl := sj hm2
       refine ⟨_, rfl, fun _ => ⟨_, ⟨_, _, rfl, rfl⟩, H⟩⟩
     ·
      refine Cf (cb hc3) (Sk (Sq (Rg (La [(vi x1.1.Place), (vi x1.1.Wind), (.bool x1.1.Flag), (vi x1.1.At)] ag32 (H.cell 10 rfl) (St 6 0 [(vi x1.1.Place), (vi x1.1.Wind), (.bool x1.1.Flag), (vi x1.1.At)] [(vi x1.1.Place), (vi x1.1.Wind), (.bool x1.1.Flag), (vi x1.1.At)] sz32 H R R (one_cons rfl (one_cons rfl (one_cons rfl (one_cons rfl one_nil)))) fun w21 H => Nl (Rg (Ld _ sc3 (H.cell 7 rfl 0 _ rfl) ?_)))))))
      obtain ⟨t2, ht2, hm2⟩ := bind_some hm2
      refine Ad ht2 (St 7 0 [(vi t2)] [(vi t2)] sz3 H R R (one_cons rfl one_nil) fun w22 H => Nl ?_)
      have H := H.keep [0, 1, 2, 3, 4, 5, 6, 7, 8, 9] [rs, lp2, marksI [], boxI b2 32 [(vi 0), (vi 0), (.bool false), (vi 0)], boxI b3 3 [(vi 0)], boxI b4 23 [(vi 0)], boxI b5 32 [(vi x1.1.Place), (vi x1.1.Wind), (.bool x1.1.Flag), (vi x1.1.At)], boxI b6 3 [(vi t2)], boxI b7 35 [va1], boxI b8 52 [(vi a0.Noon), (vi a0.Half), (vi a0.Full), (vi a0.Late), (vi a0.Again), (vi a0.Wind)]] rfl (by decide)
      obtain rfl := sj hm2
      exact ⟨_, _, rfl, ⟨_, _, _, _, _, rfl, rfl⟩, H⟩
    ·
     rintro D1 _ _ w ⟨z6, z7, z8, z9, z10, rfl, rfl⟩ hfin H
     obtain rfl : Ctl.next (z6, z7, z8, z9, z10) = o1 := hfin
     have H := H.keep [0, 1, 2, 3, 4, 5] [marksI (D1 :: []), boxI b2 32 [(vi 0), (vi 0), (.bool false), (vi 0)], boxI b3 3 [(vi 0)], boxI b4 23 [(vi 0)], boxI b5 32 [(vi z6), (vi z7), (.bool z8), (vi z9)], boxI b6 3 [(vi z10)]] rfl (by decide)
     have hmk := congrArg (D1 :: ·) hmk
     exact ⟨_, _, _, _, _, _, rfl, rfl, rfl, rfl, rfl, rfl, hmk, H⟩
    ·
     rintro _ _ _ _ ⟨_, h⟩; exact h.elim
    ·
     rintro D1 _ w ⟨q1, q2, hy, rfl⟩ H
     subst hy
     have hmk := congrArg (D1 :: ·) hmk
     refine endsM_mk H hmk fun w H _ => ?_
     obtain ⟨rfl, rfl, rfl⟩ := j3 hm
     exact ends3 results109 ⟨_, rfl, run_loadVar_agg ag32 rfl (H.cell 1 rfl)⟩ ⟨_, rfl, run_loadVar_scalar sc3 (H.cell 2 rfl 0 _ rfl)⟩ ⟨_, rfl, run_loadVar_scalar sc23 (H.cell 3 rfl 0 _ rfl)⟩ ⟨_, rfl, H.base, rfl⟩
   ·
    rintro f w ⟨s1, s2, s3, s4, s5, ms1, rfl, hf4, hf5, hf6, hf7, hf8, hmk, H⟩
    obtain ⟨u6, rfl⟩ := up5 hf4 hf5 hf6 hf7 hf8
    refine Sq ?_
    refine W.drawS 2 [1] (fun w9 => Inv w0 w9 [marksI ms1, boxI b2 32 [(vi s1), (vi s2), (.bool s3), (vi s4)], boxI b3 3 [(vi 0)], boxI b4 23 [(vi 0)], boxI b5 32 [(vi s1), (vi s2), (.bool s3), (vi s4)], boxI b6 3 [(vi s5)]]) (fun f => f 4 = (pt b2) ∧ f 5 = (pt b3) ∧ f 6 = (pt b4) ∧ f 34 = (.agg (Flat.cells (GBall.mk s1 s2 s3 s4)).toArray) ∧ f 35 = (vi s5)) fol (by kernel_rfl) rfl ?_ ?_ ?_
    ·
     exact Pl (fun b w8 hb hx => match b, hb, hx with | none, _, hx => by have H := H.ext hx; exact La [(vi s1), (vi s2), (.bool s3), (vi s4)] ag32 (H.cell 4 rfl) (Nl ⟨rfl, hx⟩) | some _, hb, _ => absurd (hb rfl) (by decide)) (Pl (fun b w8 _ hx => match b, hx with | none, hx => by have H := H.ext hx; exact Ld _ sc3 (H.cell 5 rfl 0 _ rfl) (Nl ⟨rfl, hx⟩) | some _, H => Ld _ sc3 (H.cell 5 rfl 0 _ rfl) (Nl ⟨rfl, H⟩)) (PL.nil ⟨rfl, rfl, rfl, rfl, rfl⟩))
    ·
     rintro f ⟨hf4, hf5, hf6, hf34, hf35⟩ w hx
     obtain ⟨u7, rfl⟩ := up5 hf4 hf5 hf6 hf34 hf35
     have H := H.ext hx
     exact St 1 0 [(vi s1), (vi s2), (.bool s3), (vi s4)] [(vi s1), (vi s2), (.bool s3), (vi s4)] sz32 H R R (one_cons rfl (one_cons rfl (one_cons rfl (one_cons rfl one_nil)))) (fun _ H => Nl ⟨rfl, H⟩)
    ·
     rintro f w ⟨hf4, hf5, hf6, hf34, hf35⟩ hmd H
     have hmk := hmd.trans hmk
     obtain ⟨u8, rfl⟩ := up5 hf4 hf5 hf6 hf34 hf35
     refine St 2 0 [(vi s5)] [(vi s5)] sz3 H R R (one_cons rfl one_nil) fun w23 H => St 3 0 [(vi 0)] [(vi 0)] sz23 H R R (one_cons rfl one_nil) fun w24 H => Nl (Rt (endsM_mk H hmk fun w H _ => ?_))
     obtain ⟨rfl, rfl, rfl⟩ := j3 hm
     exact ends3 results109 ⟨_, rfl, run_loadVar_agg ag32 rfl (H.cell 1 rfl)⟩ ⟨_, rfl, run_loadVar_scalar sc3 (H.cell 2 rfl 0 _ rfl)⟩ ⟨_, rfl, run_loadVar_scalar sc23 (H.cell 3 rfl 0 _ rfl)⟩ ⟨_, rfl, H.base, rfl⟩

theorem c_slices_IndexFunc_Event {w0 : World} (va0 : Value) (a0 : (List GEvent)) (ha0 : SliceR w0 va0 a0) (va1 : Value) (a1 : GEvent → Option (Bool)) (ha1 : ∀ (w : World), Below w0.heap.size w0 w → ∀ (x0 : GEvent) (y0 : Bool), a1 x0 = some y0 → CallsV prog va1 #[(.agg (Flat.cells x0).toArray)] w (Ret w fun _ v => v = (.bool y0))) {r0 : Int} (hm : slices_IndexFunc_Event a0 a1 = some r0) :
  Calls prog 150 #[va0, va1] w0 (Ret w0 fun _ v => v = (vi r0)) := by
 unfold slices_IndexFunc_Event at hm
 refine cW func150 ntmps150 ?_
 have H := Inv.start (w := w0)
 refine Sq (Rg (As (vi 0) (Nl (Sq (Sq (Rg (Mv va0 (Ln underlying35 (H.arg ha0) (Mv (vi 0) (Nl ?_))))))))))
 obtain ⟨o1, hm1, hm⟩ := bind_some hm
 refine W.via (fun f w => o1 = .next () ∧ Inv w0 w []) ?_ ?_
 ·
  refine Bk ?_
  have hbdik1 := (H.arg ha0).len_le
  refine W.rangeN (i := 0) hm1 (fun rem ik1 s f w => () = s ∧ (ik1 : Int) + rem = max 0 ((a0.length : Nat) : Int) ∧ f 8 = .int .i64 (ik1 : Int) ∧ f 7 = (vi ((a0.length : Nat) : Int)) ∧ f 0 = va0 ∧ f 1 = va1 ∧ Inv w0 w []) ?_ ?_ ?_
  ·
   exact ⟨rfl, rangeN_start, rfl, rfl, rfl, rfl, H⟩
  ·
   rintro k ik1 _ st f w ⟨rfl, hdropk1, hf8, hf7, hf0, hf1, H⟩ hm2
   have hltk1 := rangeN_lt hdropk1
   obtain ⟨u1, rfl⟩ := up4 hf8 hf7 hf0 hf1
   have hinck1 := addI_lt hltk1 hbdik1
   refine Sq (Rg (Ls (Nl (Sq (Ct (cb (decide_eq_true hltk1)) (Sk (Sq (Bk (Sq (Rg (Mv (vi (ik1 : Int)) (As (vi (ik1 : Int)) (Nl ?_)))))))))))))
   refine Sq (Rg (Mv va1 (Mv va0 (Mv (vi (ik1 : Int)) ?_))))
   obtain ⟨x1, hx1, hm2⟩ := bind_some hm2
   obtain ⟨p1, hp1, hrp1⟩ := fix_indexAddr underlying35 sz70 ha0 hx1
   refine hrp1 R R R R (La [(vi x1.At), (vi x1.Kind), (vi x1.N)] ag70 ((hp1.mono H.base).flat) ?_)
   obtain ⟨t1, hy1, hm2⟩ := bind_some hm2
   refine O.callV R R R R (ha1 _ H.base x1 _ hy1) ?_
   rintro _ w1 hb1 rfl
   have H := H.ext hb1
   refine Nl ?_
   rcases ite_some hm2 with ⟨hc1, hm2⟩ | ⟨hc1, hm2⟩
   ·
    refine Ct (cb hc1) (Sq (Rg (Mv (vi (ik1 : Int)) (As (vi (ik1 : Int)) (Nl (Rt ?_))))))
    obtain rfl := sj hm2
    refine ⟨_, rfl, ?_⟩
    rintro rfl
    obtain rfl := sj hm
    exact ends1 results150 rfl ⟨_, rfl, H.base, rfl⟩
   ·
    refine Cf (cb hc1) (Sk (Rg (Ad hinck1 (Mv (vi ((ik1 : Int) + 1)) (Nl ?_)))))
    obtain rfl := sj hm2
    exact ⟨_, rfl, rfl, rangeN_next hdropk1, rfl, rfl, rfl, rfl, H⟩
  ·
   rintro ik1 _ f w ⟨rfl, hdropk1, hf8, hf7, hf0, hf1, H⟩ hfin
   have hltk1 := rangeN_end hdropk1
   obtain ⟨u2, rfl⟩ := up4 hf8 hf7 hf0 hf1
   refine Sq (Rg (Ls (Nl (Sq (Cf (cb (decide_eq_false hltk1)) (W.exit ?_))))))
   obtain rfl : Ctl.next () = o1 := hfin
   exact xT rfl ⟨rfl, H⟩
 ·
  rintro f w ⟨rfl, H⟩
  refine Sq (Rg (As (vi (-1)) (Nl (Rt ?_))))
  obtain rfl := sj hm
  exact ends1 results150 rfl ⟨_, rfl, H.base, rfl⟩

theorem c_slices_ContainsFunc_Event {w0 : World} (va0 : Value) (a0 : (List GEvent)) (ha0 : SliceR w0 va0 a0) (va1 : Value) (a1 : GEvent → Option (Bool)) (ha1 : ∀ (w : World), Below w0.heap.size w0 w → ∀ (x0 : GEvent) (y0 : Bool), a1 x0 = some y0 → CallsV prog va1 #[(.agg (Flat.cells x0).toArray)] w (Ret w fun _ v => v = (.bool y0))) {r0 : Bool} (hm : slices_ContainsFunc_Event a0 a1 = some r0) :
  Calls prog 147 #[va0, va1] w0 (Ret w0 fun _ v => v = (.bool r0)) := by
 unfold slices_ContainsFunc_Event at hm
 refine cW func147 ntmps147 ?_
 have H := Inv.start (w := w0)
 refine Sq (Rg (As (.bool false) (Nl (Sq (Rg (Mv va0 (Mv va1 ?_)))))))
 obtain ⟨t1, hy1, hm⟩ := bind_some hm
 refine Ca call150 (c_slices_IndexFunc_Event _ _ (H.arg ha0) va1 a1 (fun w hw => ha1 w (H.base.trans (hw.mono H.base.size))) hy1) ?_
 rintro _ w1 hb1 rfl
 have H := H.ext hb1
 refine Ge_ (As (.bool (decide (0 ≤ t1))) (Nl (Rt ?_)))
 obtain rfl := sj hm
 exact ends1 results147 rfl ⟨_, rfl, H.base, rfl⟩

theorem c_ball_verdict_c1_c1 {w0 : World} (a0 : GEvent) {r0 : Bool} (hm : ball_verdict_c1_c1 a0 = some r0) :
  Calls prog 148 #[(.agg (Flat.cells a0).toArray)] w0 (Ret w0 fun _ v => v = (.bool r0)) := by
 unfold ball_verdict_c1_c1 at hm
 refine cW func148 ntmps148 ?_
 have H := Inv.start (w := w0)
 refine Sq (Rg (Bx [(vi a0.At), (vi a0.Kind), (vi a0.N)] H fun b1 w1 H hb1 => As (.bool false) (Nl (Sq (Rg (Fa fd70_1 rfl (Ld _ sc3 (H.cell 0 rfl 1 _ rfl) (Eq_ (As (.bool (a0.Kind == 6)) (Nl (Rt ?_)))))))))))
 obtain rfl := sj hm
 exact ends1 results148 rfl ⟨_, rfl, H.base, rfl⟩

theorem c_ball_verdict_c1 {w0 : World} (va0 : Value) (a0 : (List GEvent)) (ha0 : SliceR w0 va0 a0) {r0 : Bool} (hm : ball_verdict_c1 a0 = some r0) :
  Calls prog 146 #[va0] w0 (Ret w0 fun _ v => v = (.bool r0)) := by
 unfold ball_verdict_c1 at hm
 refine cW func146 ntmps146 ?_
 have H := Inv.start (w := w0)
 refine Sq (Rg (As (.bool false) (Nl (Sq (Rg (Mv va0 ?_))))))
 obtain ⟨t1, hy1, hm⟩ := bind_some hm
 refine Ca call147 (c_slices_ContainsFunc_Event _ _ (H.arg ha0) _ (fun x0 => ball_verdict_c1_c1 x0) (fun w hw x0 _ hy => callsV_mk call148 (c_ball_verdict_c1_c1 x0 hy)) hy1) ?_
 rintro _ w1 hb1 rfl
 have H := H.ext hb1
 refine As (.bool t1) (Nl (Rt ?_))
 obtain rfl := sj hm
 exact ends1 results146 rfl ⟨_, rfl, H.base, rfl⟩

theorem c_ball_verdict_c2 {w0 : World} (a0 : Int) (a1 : Int) (pc0 : Addr) (c0 : GMast) (hc0 : ∀ j c, (Flat.cells c0)[j]? = some c → w0.cell? (pc0.add j) = some c) {r0 : Bool} (hm : ball_verdict_c2 a0 a1 c0 = some r0) :
  Calls prog 149 #[(vi a0), (vi a1), (.pointer (some pc0))] w0 (Ret w0 fun _ v => v = (.bool r0)) := by
 unfold ball_verdict_c2 at hm
 refine cW func149 ntmps149 ?_
 have H := Inv.start (w := w0)
 refine Sq (Rg (As (.bool false) (Nl (Sq (Rg (Mv (vi a0) (Mv (vi a1) (Fa fd52_3 rfl (Ld _ sc3 (cells_mono hc0 H.base 3 _ rfl) ?_)))))))))
 obtain ⟨t1, ht1, hm⟩ := bind_some hm
 refine Su ht1 (Mv (vi a1) (Fa fd52_3 rfl (Ld _ sc3 (cells_mono hc0 H.base 3 _ rfl) ?_)))
 obtain ⟨t2, ht2, hm⟩ := bind_some hm
 refine Ad ht2 ?_
 obtain ⟨t3, hy1, hm⟩ := bind_some hm
 refine Ca call56 (c_ball_within _ _ _ hy1) ?_
 rintro _ w1 hb1 rfl
 have H := H.ext hb1
 refine As (.bool t3) (Nl (Rt ?_))
 obtain rfl := sj hm
 exact ends1 results149 rfl ⟨_, rfl, H.base, rfl⟩

theorem c_ball_verdict_c3 {w0 : World} (a0 : GEvent) {r0 : Bool} (hm : ball_verdict_c3 a0 = some r0) :
  Calls prog 151 #[(.agg (Flat.cells a0).toArray)] w0 (Ret w0 fun _ v => v = (.bool r0)) := by
 unfold ball_verdict_c3 at hm
 refine cW func151 ntmps151 ?_
 have H := Inv.start (w := w0)
 refine Sq (Rg (Bx [(vi a0.At), (vi a0.Kind), (vi a0.N)] H fun b1 w1 H hb1 => As (.bool false) (Nl (Sq (Rg (Fa fd70_1 rfl (Ld _ sc3 (H.cell 0 rfl 1 _ rfl) (Eq_ (As (.bool (a0.Kind == 4)) (Nl (Rt ?_)))))))))))
 obtain rfl := sj hm
 exact ends1 results151 rfl ⟨_, rfl, H.base, rfl⟩

set_option maxRecDepth 20000 in
theorem c_ball_verdict {w0 : World} (a0 : GMast) (va1 : Value) (a1 : (List GEvent)) (ha1 : SliceR w0 va1 a1) {r0 : Int} {r1 : Int} (hm : ball_verdict a0 a1 = some (r0, r1)) :
  Calls prog 110 #[(.agg (Flat.cells a0).toArray), va1] w0 (Ret w0 fun _ v => v = .tuple #[(vi r0), (vi r1)]) := by
 unfold ball_verdict at hm
 refine cW func110 ntmps110 ?_
 have H := Inv.start (w := w0)
 refine Sq (Rg (Bx [(vi a0.Noon), (vi a0.Half), (vi a0.Full), (vi a0.Late), (vi a0.Again), (vi a0.Wind)] H fun b1 w1 H hb1 => As (vi 0) (As (vi 0) (Nl (Sq (Rg (As (.func (.func 146) #[] #[]) (Nl (Sq (Rg (Mf ?_)))))))))))
 refine As (.func (.func 149) #[] #[(pt b1)]) (Nl (Sq (Rg (Mv va1 ?_))))
 obtain ⟨t1, hy1, hm⟩ := bind_some hm
 refine Ca call150 (c_slices_IndexFunc_Event _ _ (H.arg ha1) _ (fun x0 => ball_verdict_c3 x0) (fun w hw x0 _ hy => callsV_mk call151 (c_ball_verdict_c3 x0 hy)) hy1) ?_
 rintro _ w2 hb2 rfl
 have H := H.ext hb2
 refine As (vi t1) (Nl (Sq (Bk (Sq (Rg (Mv (vi t1) (Ls (Mv (.bool (decide (t1 < 0))) ?_))))))))
 obtain ⟨b2, hm1, hm⟩ := bind_some hm
 refine Cu 4 (fun f w => f 1 = va1 ∧ f 2 = (pt b1) ∧ f 6 = (.func (.func 146) #[] #[]) ∧ f 7 = (.func (.func 149) #[] #[(pt b1)]) ∧ f 8 = (vi t1) ∧ f 19 = .bool b2 ∧ Inv w0 w [boxI b1 52 [(vi a0.Noon), (vi a0.Half), (vi a0.Full), (vi a0.Late), (vi a0.Again), (vi a0.Wind)]]) ?_ ?_
 ·
  rcases ite_some hm1 with ⟨hc1, hm1⟩ | ⟨hc1, hm1⟩
  ·
   refine Rs (i := 15) (v := .bool true) (cb hc1) (Mv (.func (.func 146) #[] #[]) (Mv va1 ?_))
   obtain ⟨t2, hy2, hm1⟩ := bind_some hm1
   refine O.callV R R R R (callsV_mk call146 (c_ball_verdict_c1 _ _ (H.arg ha1) hy2)) ?_
   rintro _ w3 hb3 rfl
   have H := H.ext hb3
   refine Pt (.bool t2) (Nl ?_)
   obtain rfl := sj hm1
   exact ⟨rfl, rfl, rfl, rfl, rfl, rfl, H⟩
  ·
   refine Rs (i := 15) (v := .bool false) (cb hc1) (Sp (Sp (Sp (Pf (.bool false) (Nl ?_)))))
   obtain rfl := sj hm1
   exact ⟨rfl, rfl, rfl, rfl, rfl, rfl, H⟩
 ·
  rintro f w ⟨hf1, hf2, hf6, hf7, hf8, hf19, H⟩
  obtain ⟨u1, rfl⟩ := up6 hf1 hf2 hf6 hf7 hf8 hf19
  refine As (.bool b2) (Nl ?_)
  rcases ite_some hm with ⟨hc2, hm⟩ | ⟨hc2, hm⟩
  ·
   refine Ct (cb hc2) (Sq (Rg (Mv (vi t1) (As (vi 4) (As (vi t1) (Nl (Rt ?_)))))))
   obtain ⟨rfl, rfl⟩ := j2 hm
   exact ends2 results110 R R ⟨_, rfl, H.base, rfl⟩
  ·
   refine Cf (cb hc2) (Sq (Rg (Mv (vi t1) (Ls (As (.bool (decide (t1 < 0))) (Nl ?_))))))
   rcases ite_some hm with ⟨hc3, hm⟩ | ⟨hc3, hm⟩
   ·
    refine Ct (cb hc3) (Sq (Rg (Mv (vi t1) (As (vi 5) (As (vi t1) (Nl (Rt ?_)))))))
    obtain ⟨rfl, rfl⟩ := j2 hm
    exact ends2 results110 R R ⟨_, rfl, H.base, rfl⟩
   ·
    refine Cf (cb hc3) (Sq ?_)
    obtain ⟨x1, hx1, hm⟩ := bind_some hm
    obtain ⟨p1, hp1, hrp1⟩ := fix_indexAddr underlying35 sz70 (H.arg ha1) hx1
    refine W.drawN 8 (fun f => f 1 = va1 ∧ f 2 = (pt b1) ∧ f 6 = (.func (.func 146) #[] #[]) ∧ f 7 = (.func (.func 149) #[] #[(pt b1)]) ∧ f 8 = (vi t1) ∧ f 26 = (.func (.func 149) #[] #[(pt b1)]) ∧ f 31 = (vi x1.At) ∧ f 33 = (vi a0.Noon)) fol (by kernel_rfl) ?_ ?_
    ·
     exact Pl (fun _ w8 _ hx => Mv (.func (.func 149) #[] #[(pt b1)]) (Nl ⟨rfl, hx⟩)) (Pl (fun _ w8 _ hx => Mv va1 (Nl ⟨rfl, hx⟩)) (Pl (fun _ w8 _ hx => Mv (vi t1) (Nl ⟨rfl, hx⟩)) (Pl (fun _ w8 _ hx => hrp1 R R R R (Nl ⟨rfl, hx⟩)) (Pl (fun _ w8 _ hx => Fa fd70_0 rfl (Nl ⟨rfl, hx⟩)) (Pl (fun _ w8 _ hx => by have hp1 := hp1.mono hx; exact Ld _ sc3 (hp1.flat 0 _ rfl) (Nl ⟨rfl, hx⟩)) (Pl (fun _ w8 _ hx => Fa fd52_0 rfl (Nl ⟨rfl, hx⟩)) (Pl (fun _ w8 _ hx => by have H := H.ext hx; exact Ld _ sc3 (H.cell 0 rfl 0 _ rfl) (Nl ⟨rfl, hx⟩)) (PL.nil ⟨rfl, rfl, rfl, rfl, rfl, rfl, rfl, rfl⟩))))))))
    ·
     rintro f w ⟨hf1, hf2, hf6, hf7, hf8, hf26, hf31, hf33⟩ hmd hx
     have H := H.ext hx
     have hp1 := hp1.mono hx
     obtain ⟨u2, rfl⟩ := up8 hf1 hf2 hf6 hf7 hf8 hf26 hf31 hf33
     obtain ⟨t3, hy3, hm⟩ := bind_some hm
     refine O.callV R R R R (callsV_mk call149 (c_ball_verdict_c2 _ _ _ a0 (H.cell 0 rfl) hy3)) ?_
     rintro _ w4 hb4 rfl
     have hp1 := hp1.mono hb4
     have H := H.ext hb4
     refine As (.bool t3) (Nl ?_)
     rcases ite_some hm with ⟨hc4, hm⟩ | ⟨hc4, hm⟩
     ·
      refine Ct (cb hc4) (Sq (Rg (Mv (vi t1) (As (vi 0) (As (vi t1) (Nl (Rt ?_)))))))
      obtain ⟨rfl, rfl⟩ := j2 hm
      exact ends2 results110 R R ⟨_, rfl, H.base, rfl⟩
     ·
      refine Cf (cb hc4) (Sq ?_)
      obtain ⟨s1, hm2, hm⟩ := bind_some hm
      refine W.via (fun f w => f 1 = va1 ∧ f 6 = (.func (.func 146) #[] #[]) ∧ f 8 = (vi t1) ∧ f 36 = (.bool s1) ∧ Inv w0 w []) ?_ ?_
      ·
       obtain ⟨x2, hx2, hm2⟩ := bind_some hm2
       obtain ⟨t4, ht4, hm2⟩ := bind_some hm2
       obtain ⟨t5, ht5, hm2⟩ := bind_some hm2
       rcases ite_some hm2 with ⟨hc5, hm2⟩ | ⟨hc5, hm2⟩
       ·
        obtain ⟨t6, ht6, hm2⟩ := bind_some hm2
        obtain ⟨v1, hs1, hrv1⟩ := fix_sliceH underlying35 sz70 ha1 ht6
        obtain ⟨t7, hy4, hm2⟩ := bind_some hm2
        rcases ite_some hm2 with ⟨hc6, hm2⟩ | ⟨hc6, hm2⟩
        ·
         obtain ⟨x3, hx3, hm2⟩ := bind_some hm2
         obtain ⟨t8, ht8, hm2⟩ := bind_some hm2
         obtain ⟨t9, hy5, hm2⟩ := bind_some hm2
         refine W.draw 35 (fun k v wk => match k with | 0 => v = va1 | 1 => v = (vi t1) | 2 => ∃ p2 : Addr, v = (.pointer (some p2)) ∧ ElemAt wk p2 x2 | 3 => ∃ p2 : Addr, v = (.pointer (some (Addr.add p2 0))) ∧ ElemAt wk p2 x2 | 4 => v = (vi x2.At) | 5 => v = (.pointer (some (Addr.add (Addr.mk b1 0 none) 0))) | 6 => v = (vi a0.Noon) | 7 => v = (.pointer (some (Addr.add (Addr.mk b1 0 none) 4))) | 8 => v = (vi a0.Again) | 9 => v = (vi t4) | 10 => v = (.pointer (some (Addr.add (Addr.mk b1 0 none) 1))) | 11 => v = (vi a0.Half) | 12 => v = (vi t5) | 13 => v = (.bool (decide (t5 ≤ x2.At))) | 14 => v = (.bool true) | 15 => v = (.func (.func 146) #[] #[]) | 16 => v = va1 | 17 => v = (vi t1) | 18 => v = v1 | 19 => v = (.bool t7) | 20 => v = (.bool t7) | 21 => v = (.bool true) | 22 => v = (.func (.func 149) #[] #[(pt b1)]) | 23 => v = va1 | 24 => v = (vi t1) | 25 => ∃ p3 : Addr, v = (.pointer (some p3)) ∧ ElemAt wk p3 x3 | 26 => ∃ p3 : Addr, v = (.pointer (some (Addr.add p3 0))) ∧ ElemAt wk p3 x3 | 27 => v = (vi x3.At) | 28 => v = (.pointer (some (Addr.add (Addr.mk b1 0 none) 0))) | 29 => v = (vi a0.Noon) | 30 => v = (.pointer (some (Addr.add (Addr.mk b1 0 none) 4))) | 31 => v = (vi a0.Again) | 32 => v = (vi t8) | 33 => v = (.bool t9) | 34 => v = (.bool t9) | _ => True) (by intro k v w w' h hb; match k, h with | 0, h => exact h | 1, h => exact h | 2, ⟨p, e, hp⟩ => exact ⟨p, e, hp.mono hb⟩ | 3, ⟨p, e, hp⟩ => exact ⟨p, e, hp.mono hb⟩ | 4, h => exact h | 5, h => exact h | 6, h => exact h | 7, h => exact h | 8, h => exact h | 9, h => exact h | 10, h => exact h | 11, h => exact h | 12, h => exact h | 13, h => exact h | 14, h => exact h | 15, h => exact h | 16, h => exact h | 17, h => exact h | 18, h => exact h | 19, h => exact h | 20, h => exact h | 21, h => exact h | 22, h => exact h | 23, h => exact h | 24, h => exact h | 25, ⟨p, e, hp⟩ => exact ⟨p, e, hp.mono hb⟩ | 26, ⟨p, e, hp⟩ => exact ⟨p, e, hp.mono hb⟩ | 27, h => exact h | 28, h => exact h | 29, h => exact h | 30, h => exact h | 31, h => exact h | 32, h => exact h | 33, h => exact h | 34, h => exact h | _ + 35, h => exact h) fol (by kernel_rfl) ?_ ?_
         ·
          refine ⟨⟨⟨⟨⟨⟨⟨⟨⟨⟨⟨⟨⟨⟨⟨⟨⟨⟨⟨⟨⟨⟨⟨⟨⟨⟨⟨⟨⟨⟨⟨⟨⟨⟨⟨trivial, ?_⟩, ?_⟩, ?_⟩, ?_⟩, ?_⟩, ?_⟩, ?_⟩, ?_⟩, ?_⟩, ?_⟩, ?_⟩, ?_⟩, ?_⟩, ?_⟩, ?_⟩, ?_⟩, ?_⟩, ?_⟩, ?_⟩, ?_⟩, ?_⟩, ?_⟩, ?_⟩, ?_⟩, ?_⟩, ?_⟩, ?_⟩, ?_⟩, ?_⟩, ?_⟩, ?_⟩, ?_⟩, ?_⟩, ?_⟩, ?_⟩
          ·
           intro f wk hx hf hd
           have H := H.ext hx
           have hf1 : f 1 = va1 := hf 1 rfl
           obtain ⟨u3, rfl⟩ := up1 hf1
           exact Mv va1 (Nl ⟨Below.refl _ _, _, rfl, rfl⟩)
          ·
           intro f wk hx hf hd
           have H := H.ext hx
           have hf8 : f 8 = (vi t1) := hf 8 rfl
           obtain ⟨u4, rfl⟩ := up1 hf8
           exact Mv (vi t1) (Nl ⟨Below.refl _ _, _, rfl, rfl⟩)
          ·
           intro f wk hx hf hd
           have H := H.ext hx
           have hf37 : f 37 = va1 := hd 0 rfl
           have hf38 : f 38 = (vi t1) := hd 1 rfl
           obtain ⟨u5, rfl⟩ := up2 hf37 hf38
           exact Ia underlying35 sz70 (H.arg ha1) hx2 fun p2 hp2 => Nl ⟨Below.refl _ _, _, rfl, ⟨_, rfl, hp2⟩⟩
          ·
           intro f wk hx hf hd
           have H := H.ext hx
           obtain ⟨p2, hf39, hp2⟩ : ∃ p2 : Addr, f 39 = (.pointer (some p2)) ∧ ElemAt wk p2 x2 := hd 2 rfl
           obtain ⟨u6, rfl⟩ := up1 hf39
           exact Fa fd70_0 rfl (Nl ⟨Below.refl _ _, _, rfl, ⟨_, rfl, hp2⟩⟩)
          ·
           intro f wk hx hf hd
           have H := H.ext hx
           obtain ⟨p2, hf40, hp2⟩ : ∃ p2 : Addr, f 40 = (.pointer (some (Addr.add p2 0))) ∧ ElemAt wk p2 x2 := hd 3 rfl
           obtain ⟨u7, rfl⟩ := up1 hf40
           exact Ld _ sc3 (hp2.flat 0 _ rfl) (Nl ⟨Below.refl _ _, _, rfl, rfl⟩)
          ·
           intro f wk hx hf hd
           have H := H.ext hx
           have hf2 : f 2 = (pt b1) := hf 2 rfl
           obtain ⟨u8, rfl⟩ := up1 hf2
           exact Fa fd52_0 rfl (Nl ⟨Below.refl _ _, _, rfl, rfl⟩)
          ·
           intro f wk hx hf hd
           have H := H.ext hx
           have hf42 : f 42 = (.pointer (some (Addr.add (Addr.mk b1 0 none) 0))) := hd 5 rfl
           obtain ⟨u9, rfl⟩ := up1 hf42
           exact Ld _ sc3 (H.cell 0 rfl 0 _ rfl) (Nl ⟨Below.refl _ _, _, rfl, rfl⟩)
          ·
           intro f wk hx hf hd
           have H := H.ext hx
           have hf2 : f 2 = (pt b1) := hf 2 rfl
           obtain ⟨u10, rfl⟩ := up1 hf2
           exact Fa fd52_4 rfl (Nl ⟨Below.refl _ _, _, rfl, rfl⟩)
          ·
           intro f wk hx hf hd
           have H := H.ext hx
           have hf44 : f 44 = (.pointer (some (Addr.add (Addr.mk b1 0 none) 4))) := hd 7 rfl
           obtain ⟨u11, rfl⟩ := up1 hf44
           exact Ld _ sc3 (H.cell 0 rfl 4 _ rfl) (Nl ⟨Below.refl _ _, _, rfl, rfl⟩)
          ·
           intro f wk hx hf hd
           have H := H.ext hx
           have hf43 : f 43 = (vi a0.Noon) := hd 6 rfl
           have hf45 : f 45 = (vi a0.Again) := hd 8 rfl
           obtain ⟨u12, rfl⟩ := up2 hf43 hf45
           exact Ad ht4 (Nl ⟨Below.refl _ _, _, rfl, rfl⟩)
          ·
           intro f wk hx hf hd
           have H := H.ext hx
           have hf2 : f 2 = (pt b1) := hf 2 rfl
           obtain ⟨u13, rfl⟩ := up1 hf2
           exact Fa fd52_1 rfl (Nl ⟨Below.refl _ _, _, rfl, rfl⟩)
          ·
           intro f wk hx hf hd
           have H := H.ext hx
           have hf47 : f 47 = (.pointer (some (Addr.add (Addr.mk b1 0 none) 1))) := hd 10 rfl
           obtain ⟨u14, rfl⟩ := up1 hf47
           exact Ld _ sc3 (H.cell 0 rfl 1 _ rfl) (Nl ⟨Below.refl _ _, _, rfl, rfl⟩)
          ·
           intro f wk hx hf hd
           have H := H.ext hx
           have hf46 : f 46 = (vi t4) := hd 9 rfl
           have hf48 : f 48 = (vi a0.Half) := hd 11 rfl
           obtain ⟨u15, rfl⟩ := up2 hf46 hf48
           exact Su ht5 (Nl ⟨Below.refl _ _, _, rfl, rfl⟩)
          ·
           intro f wk hx hf hd
           have H := H.ext hx
           have hf41 : f 41 = (vi x2.At) := hd 4 rfl
           have hf49 : f 49 = (vi t5) := hd 12 rfl
           obtain ⟨u16, rfl⟩ := up2 hf41 hf49
           exact Ge_ (Nl ⟨Below.refl _ _, _, rfl, rfl⟩)
          ·
           intro f wk hx hf hd
           have H := H.ext hx
           have hf50 : f 50 = (.bool (decide (t5 ≤ x2.At))) := hd 13 rfl
           obtain ⟨u17, rfl⟩ := up1 hf50
           exact Mv (.bool (decide (t5 ≤ x2.At))) (Nl ⟨Below.refl _ _, _, rfl, cb hc5⟩)
          ·
           intro f wk hx hf hd
           have H := H.ext hx
           have hf6 : f 6 = (.func (.func 146) #[] #[]) := hf 6 rfl
           have hf51 : f 51 = (.bool true) := hd 14 rfl
           obtain ⟨u18, rfl⟩ := up2 hf6 hf51
           exact Mv (.func (.func 146) #[] #[]) (Nl ⟨Below.refl _ _, _, rfl, rfl⟩)
          ·
           intro f wk hx hf hd
           have H := H.ext hx
           have hf1 : f 1 = va1 := hf 1 rfl
           have hf51 : f 51 = (.bool true) := hd 14 rfl
           obtain ⟨u19, rfl⟩ := up2 hf1 hf51
           exact Mv va1 (Nl ⟨Below.refl _ _, _, rfl, rfl⟩)
          ·
           intro f wk hx hf hd
           have H := H.ext hx
           have hf8 : f 8 = (vi t1) := hf 8 rfl
           have hf51 : f 51 = (.bool true) := hd 14 rfl
           obtain ⟨u20, rfl⟩ := up2 hf8 hf51
           exact Mv (vi t1) (Nl ⟨Below.refl _ _, _, rfl, rfl⟩)
          ·
           intro f wk hx hf hd
           have H := H.ext hx
           have hf51 : f 51 = (.bool true) := hd 14 rfl
           have hf53 : f 53 = va1 := hd 16 rfl
           have hf54 : f 54 = (vi t1) := hd 17 rfl
           obtain ⟨u21, rfl⟩ := up3 hf51 hf53 hf54
           exact hrv1 R R R R (Nl ⟨Below.refl _ _, _, rfl, rfl⟩)
          ·
           intro f wk hx hf hd
           have H := H.ext hx
           have hf51 : f 51 = (.bool true) := hd 14 rfl
           have hf52 : f 52 = (.func (.func 146) #[] #[]) := hd 15 rfl
           have hf55 : f 55 = v1 := hd 18 rfl
           obtain ⟨u22, rfl⟩ := up3 hf51 hf52 hf55
           refine O.callV R R R R (callsV_mk call146 (c_ball_verdict_c1 _ _ (H.arg hs1) hy4)) ?_
           rintro _ w5 hb5 rfl
           have H := H.ext hb5
           exact Nl ⟨hb5, _, rfl, rfl⟩
          ·
           intro f wk hx hf hd
           have H := H.ext hx
           have hf51 : f 51 = (.bool true) := hd 14 rfl
           have hf56 : f 56 = (.bool t7) := hd 19 rfl
           obtain ⟨u23, rfl⟩ := up2 hf51 hf56
           exact Pt (.bool t7) (Nl ⟨Below.refl _ _, _, rfl, rfl⟩)
          ·
           intro f wk hx hf hd
           have H := H.ext hx
           have hf57 : f 57 = (.bool t7) := hd 20 rfl
           obtain ⟨u24, rfl⟩ := up1 hf57
           exact Mv (.bool t7) (Nl ⟨Below.refl _ _, _, rfl, cb hc6⟩)
          ·
           intro f wk hx hf hd
           have H := H.ext hx
           have hf7 : f 7 = (.func (.func 149) #[] #[(pt b1)]) := hf 7 rfl
           have hf58 : f 58 = (.bool true) := hd 21 rfl
           obtain ⟨u25, rfl⟩ := up2 hf7 hf58
           exact Mv (.func (.func 149) #[] #[(pt b1)]) (Nl ⟨Below.refl _ _, _, rfl, rfl⟩)
          ·
           intro f wk hx hf hd
           have H := H.ext hx
           have hf1 : f 1 = va1 := hf 1 rfl
           have hf58 : f 58 = (.bool true) := hd 21 rfl
           obtain ⟨u26, rfl⟩ := up2 hf1 hf58
           exact Mv va1 (Nl ⟨Below.refl _ _, _, rfl, rfl⟩)
          ·
           intro f wk hx hf hd
           have H := H.ext hx
           have hf8 : f 8 = (vi t1) := hf 8 rfl
           have hf58 : f 58 = (.bool true) := hd 21 rfl
           obtain ⟨u27, rfl⟩ := up2 hf8 hf58
           exact Mv (vi t1) (Nl ⟨Below.refl _ _, _, rfl, rfl⟩)
          ·
           intro f wk hx hf hd
           have H := H.ext hx
           have hf58 : f 58 = (.bool true) := hd 21 rfl
           have hf60 : f 60 = va1 := hd 23 rfl
           have hf61 : f 61 = (vi t1) := hd 24 rfl
           obtain ⟨u28, rfl⟩ := up3 hf58 hf60 hf61
           exact Ia underlying35 sz70 (H.arg ha1) hx3 fun p3 hp3 => Nl ⟨Below.refl _ _, _, rfl, ⟨_, rfl, hp3⟩⟩
          ·
           intro f wk hx hf hd
           have H := H.ext hx
           have hf58 : f 58 = (.bool true) := hd 21 rfl
           obtain ⟨p3, hf62, hp3⟩ : ∃ p3 : Addr, f 62 = (.pointer (some p3)) ∧ ElemAt wk p3 x3 := hd 25 rfl
           obtain ⟨u29, rfl⟩ := up2 hf58 hf62
           exact Fa fd70_0 rfl (Nl ⟨Below.refl _ _, _, rfl, ⟨_, rfl, hp3⟩⟩)
          ·
           intro f wk hx hf hd
           have H := H.ext hx
           have hf58 : f 58 = (.bool true) := hd 21 rfl
           obtain ⟨p3, hf63, hp3⟩ : ∃ p3 : Addr, f 63 = (.pointer (some (Addr.add p3 0))) ∧ ElemAt wk p3 x3 := hd 26 rfl
           obtain ⟨u30, rfl⟩ := up2 hf58 hf63
           exact Ld _ sc3 (hp3.flat 0 _ rfl) (Nl ⟨Below.refl _ _, _, rfl, rfl⟩)
          ·
           intro f wk hx hf hd
           have H := H.ext hx
           have hf2 : f 2 = (pt b1) := hf 2 rfl
           have hf58 : f 58 = (.bool true) := hd 21 rfl
           obtain ⟨u31, rfl⟩ := up2 hf2 hf58
           exact Fa fd52_0 rfl (Nl ⟨Below.refl _ _, _, rfl, rfl⟩)
          ·
           intro f wk hx hf hd
           have H := H.ext hx
           have hf58 : f 58 = (.bool true) := hd 21 rfl
           have hf65 : f 65 = (.pointer (some (Addr.add (Addr.mk b1 0 none) 0))) := hd 28 rfl
           obtain ⟨u32, rfl⟩ := up2 hf58 hf65
           exact Ld _ sc3 (H.cell 0 rfl 0 _ rfl) (Nl ⟨Below.refl _ _, _, rfl, rfl⟩)
          ·
           intro f wk hx hf hd
           have H := H.ext hx
           have hf2 : f 2 = (pt b1) := hf 2 rfl
           have hf58 : f 58 = (.bool true) := hd 21 rfl
           obtain ⟨u33, rfl⟩ := up2 hf2 hf58
           exact Fa fd52_4 rfl (Nl ⟨Below.refl _ _, _, rfl, rfl⟩)
          ·
           intro f wk hx hf hd
           have H := H.ext hx
           have hf58 : f 58 = (.bool true) := hd 21 rfl
           have hf67 : f 67 = (.pointer (some (Addr.add (Addr.mk b1 0 none) 4))) := hd 30 rfl
           obtain ⟨u34, rfl⟩ := up2 hf58 hf67
           exact Ld _ sc3 (H.cell 0 rfl 4 _ rfl) (Nl ⟨Below.refl _ _, _, rfl, rfl⟩)
          ·
           intro f wk hx hf hd
           have H := H.ext hx
           have hf58 : f 58 = (.bool true) := hd 21 rfl
           have hf66 : f 66 = (vi a0.Noon) := hd 29 rfl
           have hf68 : f 68 = (vi a0.Again) := hd 31 rfl
           obtain ⟨u35, rfl⟩ := up3 hf58 hf66 hf68
           exact Ad ht8 (Nl ⟨Below.refl _ _, _, rfl, rfl⟩)
          ·
           intro f wk hx hf hd
           have H := H.ext hx
           have hf58 : f 58 = (.bool true) := hd 21 rfl
           have hf59 : f 59 = (.func (.func 149) #[] #[(pt b1)]) := hd 22 rfl
           have hf64 : f 64 = (vi x3.At) := hd 27 rfl
           have hf69 : f 69 = (vi t8) := hd 32 rfl
           obtain ⟨u36, rfl⟩ := up4 hf58 hf59 hf64 hf69
           refine O.callV R R R R (callsV_mk call149 (c_ball_verdict_c2 _ _ _ a0 (H.cell 0 rfl) hy5)) ?_
           rintro _ w6 hb6 rfl
           have H := H.ext hb6
           exact Nl ⟨hb6, _, rfl, rfl⟩
          ·
           intro f wk hx hf hd
           have H := H.ext hx
           have hf58 : f 58 = (.bool true) := hd 21 rfl
           have hf70 : f 70 = (.bool t9) := hd 33 rfl
           obtain ⟨u37, rfl⟩ := up2 hf58 hf70
           exact Pt (.bool t9) (Nl ⟨Below.refl _ _, _, rfl, rfl⟩)
         ·
          intro f wk hx hf hmd hd
          have hf1 : f 1 = va1 := hf 1 rfl
          have hf6 : f 6 = (.func (.func 146) #[] #[]) := hf 6 rfl
          have hf8 : f 8 = (vi t1) := hf 8 rfl
          have hf71 : f 71 = (.bool t9) := hd 34 rfl
          have H := H.ext hx
          have hp1 := hp1.mono hx
          obtain ⟨u38, rfl⟩ := up4 hf1 hf6 hf8 hf71
          refine As (.bool t9) (Nl ?_)
          have H := H.keep [] [] rfl (by decide)
          obtain rfl := sj hm2
          exact ⟨rfl, rfl, rfl, rfl, H⟩
        ·
         refine W.draw 35 (fun k v wk => match k with | 0 => v = va1 | 1 => v = (vi t1) | 2 => ∃ p2 : Addr, v = (.pointer (some p2)) ∧ ElemAt wk p2 x2 | 3 => ∃ p2 : Addr, v = (.pointer (some (Addr.add p2 0))) ∧ ElemAt wk p2 x2 | 4 => v = (vi x2.At) | 5 => v = (.pointer (some (Addr.add (Addr.mk b1 0 none) 0))) | 6 => v = (vi a0.Noon) | 7 => v = (.pointer (some (Addr.add (Addr.mk b1 0 none) 4))) | 8 => v = (vi a0.Again) | 9 => v = (vi t4) | 10 => v = (.pointer (some (Addr.add (Addr.mk b1 0 none) 1))) | 11 => v = (vi a0.Half) | 12 => v = (vi t5) | 13 => v = (.bool (decide (t5 ≤ x2.At))) | 14 => v = (.bool true) | 15 => v = (.func (.func 146) #[] #[]) | 16 => v = va1 | 17 => v = (vi t1) | 18 => v = v1 | 19 => v = (.bool t7) | 20 => v = (.bool t7) | 21 => v = (.bool false) | 22 => v = undef | 23 => v = undef | 24 => v = undef | 25 => v = undef | 26 => v = undef | 27 => v = undef | 28 => v = undef | 29 => v = undef | 30 => v = undef | 31 => v = undef | 32 => v = undef | 33 => v = undef | 34 => v = (.bool false) | _ => True) (by intro k v w w' h hb; match k, h with | 0, h => exact h | 1, h => exact h | 2, ⟨p, e, hp⟩ => exact ⟨p, e, hp.mono hb⟩ | 3, ⟨p, e, hp⟩ => exact ⟨p, e, hp.mono hb⟩ | 4, h => exact h | 5, h => exact h | 6, h => exact h | 7, h => exact h | 8, h => exact h | 9, h => exact h | 10, h => exact h | 11, h => exact h | 12, h => exact h | 13, h => exact h | 14, h => exact h | 15, h => exact h | 16, h => exact h | 17, h => exact h | 18, h => exact h | 19, h => exact h | 20, h => exact h | 21, h => exact h | 22, h => exact h | 23, h => exact h | 24, h => exact h | 25, h => exact h | 26, h => exact h | 27, h => exact h | 28, h => exact h | 29, h => exact h | 30, h => exact h | 31, h => exact h | 32, h => exact h | 33, h => exact h | 34, h => exact h | _ + 35, h => exact h) fol (by kernel_rfl) ?_ ?_
         ·
          refine ⟨⟨⟨⟨⟨⟨⟨⟨⟨⟨⟨⟨⟨⟨⟨⟨⟨⟨⟨⟨⟨⟨⟨⟨⟨⟨⟨⟨⟨⟨⟨⟨⟨⟨⟨trivial, ?_⟩, ?_⟩, ?_⟩, ?_⟩, ?_⟩, ?_⟩, ?_⟩, ?_⟩, ?_⟩, ?_⟩, ?_⟩, ?_⟩, ?_⟩, ?_⟩, ?_⟩, ?_⟩, ?_⟩, ?_⟩, ?_⟩, ?_⟩, ?_⟩, ?_⟩, ?_⟩, ?_⟩, ?_⟩, ?_⟩, ?_⟩, ?_⟩, ?_⟩, ?_⟩, ?_⟩, ?_⟩, ?_⟩, ?_⟩, ?_⟩
          ·
           intro f wk hx hf hd
           have H := H.ext hx
           have hf1 : f 1 = va1 := hf 1 rfl
           obtain ⟨u39, rfl⟩ := up1 hf1
           exact Mv va1 (Nl ⟨Below.refl _ _, _, rfl, rfl⟩)
          ·
           intro f wk hx hf hd
           have H := H.ext hx
           have hf8 : f 8 = (vi t1) := hf 8 rfl
           obtain ⟨u40, rfl⟩ := up1 hf8
           exact Mv (vi t1) (Nl ⟨Below.refl _ _, _, rfl, rfl⟩)
          ·
           intro f wk hx hf hd
           have H := H.ext hx
           have hf37 : f 37 = va1 := hd 0 rfl
           have hf38 : f 38 = (vi t1) := hd 1 rfl
           obtain ⟨u41, rfl⟩ := up2 hf37 hf38
           exact Ia underlying35 sz70 (H.arg ha1) hx2 fun p2 hp2 => Nl ⟨Below.refl _ _, _, rfl, ⟨_, rfl, hp2⟩⟩
          ·
           intro f wk hx hf hd
           have H := H.ext hx
           obtain ⟨p2, hf39, hp2⟩ : ∃ p2 : Addr, f 39 = (.pointer (some p2)) ∧ ElemAt wk p2 x2 := hd 2 rfl
           obtain ⟨u42, rfl⟩ := up1 hf39
           exact Fa fd70_0 rfl (Nl ⟨Below.refl _ _, _, rfl, ⟨_, rfl, hp2⟩⟩)
          ·
           intro f wk hx hf hd
           have H := H.ext hx
           obtain ⟨p2, hf40, hp2⟩ : ∃ p2 : Addr, f 40 = (.pointer (some (Addr.add p2 0))) ∧ ElemAt wk p2 x2 := hd 3 rfl
           obtain ⟨u43, rfl⟩ := up1 hf40
           exact Ld _ sc3 (hp2.flat 0 _ rfl) (Nl ⟨Below.refl _ _, _, rfl, rfl⟩)
          ·
           intro f wk hx hf hd
           have H := H.ext hx
           have hf2 : f 2 = (pt b1) := hf 2 rfl
           obtain ⟨u44, rfl⟩ := up1 hf2
           exact Fa fd52_0 rfl (Nl ⟨Below.refl _ _, _, rfl, rfl⟩)
          ·
           intro f wk hx hf hd
           have H := H.ext hx
           have hf42 : f 42 = (.pointer (some (Addr.add (Addr.mk b1 0 none) 0))) := hd 5 rfl
           obtain ⟨u45, rfl⟩ := up1 hf42
           exact Ld _ sc3 (H.cell 0 rfl 0 _ rfl) (Nl ⟨Below.refl _ _, _, rfl, rfl⟩)
          ·
           intro f wk hx hf hd
           have H := H.ext hx
           have hf2 : f 2 = (pt b1) := hf 2 rfl
           obtain ⟨u46, rfl⟩ := up1 hf2
           exact Fa fd52_4 rfl (Nl ⟨Below.refl _ _, _, rfl, rfl⟩)
          ·
           intro f wk hx hf hd
           have H := H.ext hx
           have hf44 : f 44 = (.pointer (some (Addr.add (Addr.mk b1 0 none) 4))) := hd 7 rfl
           obtain ⟨u47, rfl⟩ := up1 hf44
           exact Ld _ sc3 (H.cell 0 rfl 4 _ rfl) (Nl ⟨Below.refl _ _, _, rfl, rfl⟩)
          ·
           intro f wk hx hf hd
           have H := H.ext hx
           have hf43 : f 43 = (vi a0.Noon) := hd 6 rfl
           have hf45 : f 45 = (vi a0.Again) := hd 8 rfl
           obtain ⟨u48, rfl⟩ := up2 hf43 hf45
           exact Ad ht4 (Nl ⟨Below.refl _ _, _, rfl, rfl⟩)
          ·
           intro f wk hx hf hd
           have H := H.ext hx
           have hf2 : f 2 = (pt b1) := hf 2 rfl
           obtain ⟨u49, rfl⟩ := up1 hf2
           exact Fa fd52_1 rfl (Nl ⟨Below.refl _ _, _, rfl, rfl⟩)
          ·
           intro f wk hx hf hd
           have H := H.ext hx
           have hf47 : f 47 = (.pointer (some (Addr.add (Addr.mk b1 0 none) 1))) := hd 10 rfl
           obtain ⟨u50, rfl⟩ := up1 hf47
           exact Ld _ sc3 (H.cell 0 rfl 1 _ rfl) (Nl ⟨Below.refl _ _, _, rfl, rfl⟩)
          ·
           intro f wk hx hf hd
           have H := H.ext hx
           have hf46 : f 46 = (vi t4) := hd 9 rfl
           have hf48 : f 48 = (vi a0.Half) := hd 11 rfl
           obtain ⟨u51, rfl⟩ := up2 hf46 hf48
           exact Su ht5 (Nl ⟨Below.refl _ _, _, rfl, rfl⟩)
          ·
           intro f wk hx hf hd
           have H := H.ext hx
           have hf41 : f 41 = (vi x2.At) := hd 4 rfl
           have hf49 : f 49 = (vi t5) := hd 12 rfl
           obtain ⟨u52, rfl⟩ := up2 hf41 hf49
           exact Ge_ (Nl ⟨Below.refl _ _, _, rfl, rfl⟩)
          ·
           intro f wk hx hf hd
           have H := H.ext hx
           have hf50 : f 50 = (.bool (decide (t5 ≤ x2.At))) := hd 13 rfl
           obtain ⟨u53, rfl⟩ := up1 hf50
           exact Mv (.bool (decide (t5 ≤ x2.At))) (Nl ⟨Below.refl _ _, _, rfl, cb hc5⟩)
          ·
           intro f wk hx hf hd
           have H := H.ext hx
           have hf6 : f 6 = (.func (.func 146) #[] #[]) := hf 6 rfl
           have hf51 : f 51 = (.bool true) := hd 14 rfl
           obtain ⟨u54, rfl⟩ := up2 hf6 hf51
           exact Mv (.func (.func 146) #[] #[]) (Nl ⟨Below.refl _ _, _, rfl, rfl⟩)
          ·
           intro f wk hx hf hd
           have H := H.ext hx
           have hf1 : f 1 = va1 := hf 1 rfl
           have hf51 : f 51 = (.bool true) := hd 14 rfl
           obtain ⟨u55, rfl⟩ := up2 hf1 hf51
           exact Mv va1 (Nl ⟨Below.refl _ _, _, rfl, rfl⟩)
          ·
           intro f wk hx hf hd
           have H := H.ext hx
           have hf8 : f 8 = (vi t1) := hf 8 rfl
           have hf51 : f 51 = (.bool true) := hd 14 rfl
           obtain ⟨u56, rfl⟩ := up2 hf8 hf51
           exact Mv (vi t1) (Nl ⟨Below.refl _ _, _, rfl, rfl⟩)
          ·
           intro f wk hx hf hd
           have H := H.ext hx
           have hf51 : f 51 = (.bool true) := hd 14 rfl
           have hf53 : f 53 = va1 := hd 16 rfl
           have hf54 : f 54 = (vi t1) := hd 17 rfl
           obtain ⟨u57, rfl⟩ := up3 hf51 hf53 hf54
           exact hrv1 R R R R (Nl ⟨Below.refl _ _, _, rfl, rfl⟩)
          ·
           intro f wk hx hf hd
           have H := H.ext hx
           have hf51 : f 51 = (.bool true) := hd 14 rfl
           have hf52 : f 52 = (.func (.func 146) #[] #[]) := hd 15 rfl
           have hf55 : f 55 = v1 := hd 18 rfl
           obtain ⟨u58, rfl⟩ := up3 hf51 hf52 hf55
           refine O.callV R R R R (callsV_mk call146 (c_ball_verdict_c1 _ _ (H.arg hs1) hy4)) ?_
           rintro _ w5 hb5 rfl
           have H := H.ext hb5
           exact Nl ⟨hb5, _, rfl, rfl⟩
          ·
           intro f wk hx hf hd
           have H := H.ext hx
           have hf51 : f 51 = (.bool true) := hd 14 rfl
           have hf56 : f 56 = (.bool t7) := hd 19 rfl
           obtain ⟨u59, rfl⟩ := up2 hf51 hf56
           exact Pt (.bool t7) (Nl ⟨Below.refl _ _, _, rfl, rfl⟩)
          ·
           intro f wk hx hf hd
           have H := H.ext hx
           have hf57 : f 57 = (.bool t7) := hd 20 rfl
           obtain ⟨u60, rfl⟩ := up1 hf57
           exact Mv (.bool t7) (Nl ⟨Below.refl _ _, _, rfl, cb hc6⟩)
          ·
           intro f wk hx hf hd
           have H := H.ext hx
           have hf58 : f 58 = (.bool false) := hd 21 rfl
           obtain ⟨u61, rfl⟩ := up1 hf58
           exact Sp (Nl ⟨Below.refl _ _, _, rfl, rfl⟩)
          ·
           intro f wk hx hf hd
           have H := H.ext hx
           have hf58 : f 58 = (.bool false) := hd 21 rfl
           obtain ⟨u62, rfl⟩ := up1 hf58
           exact Sp (Nl ⟨Below.refl _ _, _, rfl, rfl⟩)
          ·
           intro f wk hx hf hd
           have H := H.ext hx
           have hf58 : f 58 = (.bool false) := hd 21 rfl
           obtain ⟨u63, rfl⟩ := up1 hf58
           exact Sp (Nl ⟨Below.refl _ _, _, rfl, rfl⟩)
          ·
           intro f wk hx hf hd
           have H := H.ext hx
           have hf58 : f 58 = (.bool false) := hd 21 rfl
           obtain ⟨u64, rfl⟩ := up1 hf58
           exact Sp (Nl ⟨Below.refl _ _, _, rfl, rfl⟩)
          ·
           intro f wk hx hf hd
           have H := H.ext hx
           have hf58 : f 58 = (.bool false) := hd 21 rfl
           obtain ⟨u65, rfl⟩ := up1 hf58
           exact Sp (Nl ⟨Below.refl _ _, _, rfl, rfl⟩)
          ·
           intro f wk hx hf hd
           have H := H.ext hx
           have hf58 : f 58 = (.bool false) := hd 21 rfl
           obtain ⟨u66, rfl⟩ := up1 hf58
           exact Sp (Nl ⟨Below.refl _ _, _, rfl, rfl⟩)
          ·
           intro f wk hx hf hd
           have H := H.ext hx
           have hf58 : f 58 = (.bool false) := hd 21 rfl
           obtain ⟨u67, rfl⟩ := up1 hf58
           exact Sp (Nl ⟨Below.refl _ _, _, rfl, rfl⟩)
          ·
           intro f wk hx hf hd
           have H := H.ext hx
           have hf58 : f 58 = (.bool false) := hd 21 rfl
           obtain ⟨u68, rfl⟩ := up1 hf58
           exact Sp (Nl ⟨Below.refl _ _, _, rfl, rfl⟩)
          ·
           intro f wk hx hf hd
           have H := H.ext hx
           have hf58 : f 58 = (.bool false) := hd 21 rfl
           obtain ⟨u69, rfl⟩ := up1 hf58
           exact Sp (Nl ⟨Below.refl _ _, _, rfl, rfl⟩)
          ·
           intro f wk hx hf hd
           have H := H.ext hx
           have hf58 : f 58 = (.bool false) := hd 21 rfl
           obtain ⟨u70, rfl⟩ := up1 hf58
           exact Sp (Nl ⟨Below.refl _ _, _, rfl, rfl⟩)
          ·
           intro f wk hx hf hd
           have H := H.ext hx
           have hf58 : f 58 = (.bool false) := hd 21 rfl
           obtain ⟨u71, rfl⟩ := up1 hf58
           exact Sp (Nl ⟨Below.refl _ _, _, rfl, rfl⟩)
          ·
           intro f wk hx hf hd
           have H := H.ext hx
           have hf58 : f 58 = (.bool false) := hd 21 rfl
           obtain ⟨u72, rfl⟩ := up1 hf58
           exact Sp (Nl ⟨Below.refl _ _, _, rfl, rfl⟩)
          ·
           intro f wk hx hf hd
           have H := H.ext hx
           have hf58 : f 58 = (.bool false) := hd 21 rfl
           have hf70 : f 70 = undef := hd 33 rfl
           obtain ⟨u73, rfl⟩ := up2 hf58 hf70
           exact Pf (.bool false) (Nl ⟨Below.refl _ _, _, rfl, rfl⟩)
         ·
          intro f wk hx hf hmd hd
          have hf1 : f 1 = va1 := hf 1 rfl
          have hf6 : f 6 = (.func (.func 146) #[] #[]) := hf 6 rfl
          have hf8 : f 8 = (vi t1) := hf 8 rfl
          have hf71 : f 71 = (.bool false) := hd 34 rfl
          have H := H.ext hx
          have hp1 := hp1.mono hx
          obtain ⟨u74, rfl⟩ := up4 hf1 hf6 hf8 hf71
          refine As (.bool false) (Nl ?_)
          have H := H.keep [] [] rfl (by decide)
          obtain rfl := sj hm2
          exact ⟨rfl, rfl, rfl, rfl, H⟩
       ·
        refine W.draw 35 (fun k v wk => match k with | 0 => v = va1 | 1 => v = (vi t1) | 2 => ∃ p2 : Addr, v = (.pointer (some p2)) ∧ ElemAt wk p2 x2 | 3 => ∃ p2 : Addr, v = (.pointer (some (Addr.add p2 0))) ∧ ElemAt wk p2 x2 | 4 => v = (vi x2.At) | 5 => v = (.pointer (some (Addr.add (Addr.mk b1 0 none) 0))) | 6 => v = (vi a0.Noon) | 7 => v = (.pointer (some (Addr.add (Addr.mk b1 0 none) 4))) | 8 => v = (vi a0.Again) | 9 => v = (vi t4) | 10 => v = (.pointer (some (Addr.add (Addr.mk b1 0 none) 1))) | 11 => v = (vi a0.Half) | 12 => v = (vi t5) | 13 => v = (.bool (decide (t5 ≤ x2.At))) | 14 => v = (.bool false) | 15 => v = undef | 16 => v = undef | 17 => v = undef | 18 => v = undef | 19 => v = undef | 20 => v = (.bool false) | 21 => v = (.bool false) | 22 => v = undef | 23 => v = undef | 24 => v = undef | 25 => v = undef | 26 => v = undef | 27 => v = undef | 28 => v = undef | 29 => v = undef | 30 => v = undef | 31 => v = undef | 32 => v = undef | 33 => v = undef | 34 => v = (.bool false) | _ => True) (by intro k v w w' h hb; match k, h with | 0, h => exact h | 1, h => exact h | 2, ⟨p, e, hp⟩ => exact ⟨p, e, hp.mono hb⟩ | 3, ⟨p, e, hp⟩ => exact ⟨p, e, hp.mono hb⟩ | 4, h => exact h | 5, h => exact h | 6, h => exact h | 7, h => exact h | 8, h => exact h | 9, h => exact h | 10, h => exact h | 11, h => exact h | 12, h => exact h | 13, h => exact h | 14, h => exact h | 15, h => exact h | 16, h => exact h | 17, h => exact h | 18, h => exact h | 19, h => exact h | 20, h => exact h | 21, h => exact h | 22, h => exact h | 23, h => exact h | 24, h => exact h | 25, h => exact h | 26, h => exact h | 27, h => exact h | 28, h => exact h | 29, h => exact h | 30, h => exact h | 31, h => exact h | 32, h => exact h | 33, h => exact h | 34, h => exact h | _ + 35, h => exact h) fol (by kernel_rfl) ?_ ?_
        ·
         refine ⟨⟨⟨⟨⟨⟨⟨⟨⟨⟨⟨⟨⟨⟨⟨⟨⟨⟨⟨⟨⟨⟨⟨⟨⟨⟨⟨⟨⟨⟨⟨⟨⟨⟨⟨trivial, ?_⟩, ?_⟩, ?_⟩, ?_⟩, ?_⟩, ?_⟩, ?_⟩, ?_⟩, ?_⟩, ?_⟩, ?_⟩, ?_⟩, ?_⟩, ?_⟩, ?_⟩, ?_⟩, ?_⟩, ?_⟩, ?_⟩, ?_⟩, ?_⟩, ?_⟩, ?_⟩, ?_⟩, ?_⟩, ?_⟩, ?_⟩, ?_⟩, ?_⟩, ?_⟩, ?_⟩, ?_⟩, ?_⟩, ?_⟩, ?_⟩
         ·
          intro f wk hx hf hd
          have H := H.ext hx
          have hf1 : f 1 = va1 := hf 1 rfl
          obtain ⟨u75, rfl⟩ := up1 hf1
          exact Mv va1 (Nl ⟨Below.refl _ _, _, rfl, rfl⟩)
         ·
          intro f wk hx hf hd
          have H := H.ext hx
          have hf8 : f 8 = (vi t1) := hf 8 rfl
          obtain ⟨u76, rfl⟩ := up1 hf8
          exact Mv (vi t1) (Nl ⟨Below.refl _ _, _, rfl, rfl⟩)
         ·
          intro f wk hx hf hd
          have H := H.ext hx
          have hf37 : f 37 = va1 := hd 0 rfl
          have hf38 : f 38 = (vi t1) := hd 1 rfl
          obtain ⟨u77, rfl⟩ := up2 hf37 hf38
          exact Ia underlying35 sz70 (H.arg ha1) hx2 fun p2 hp2 => Nl ⟨Below.refl _ _, _, rfl, ⟨_, rfl, hp2⟩⟩
         ·
          intro f wk hx hf hd
          have H := H.ext hx
          obtain ⟨p2, hf39, hp2⟩ : ∃ p2 : Addr, f 39 = (.pointer (some p2)) ∧ ElemAt wk p2 x2 := hd 2 rfl
          obtain ⟨u78, rfl⟩ := up1 hf39
          exact Fa fd70_0 rfl (Nl ⟨Below.refl _ _, _, rfl, ⟨_, rfl, hp2⟩⟩)
         ·
          intro f wk hx hf hd
          have H := H.ext hx
          obtain ⟨p2, hf40, hp2⟩ : ∃ p2 : Addr, f 40 = (.pointer (some (Addr.add p2 0))) ∧ ElemAt wk p2 x2 := hd 3 rfl
          obtain ⟨u79, rfl⟩ := up1 hf40
          exact Ld _ sc3 (hp2.flat 0 _ rfl) (Nl ⟨Below.refl _ _, _, rfl, rfl⟩)
         ·
          intro f wk hx hf hd
          have H := H.ext hx
          have hf2 : f 2 = (pt b1) := hf 2 rfl
          obtain ⟨u80, rfl⟩ := up1 hf2
          exact Fa fd52_0 rfl (Nl ⟨Below.refl _ _, _, rfl, rfl⟩)
         ·
          intro f wk hx hf hd
          have H := H.ext hx
          have hf42 : f 42 = (.pointer (some (Addr.add (Addr.mk b1 0 none) 0))) := hd 5 rfl
          obtain ⟨u81, rfl⟩ := up1 hf42
          exact Ld _ sc3 (H.cell 0 rfl 0 _ rfl) (Nl ⟨Below.refl _ _, _, rfl, rfl⟩)
         ·
          intro f wk hx hf hd
          have H := H.ext hx
          have hf2 : f 2 = (pt b1) := hf 2 rfl
          obtain ⟨u82, rfl⟩ := up1 hf2
          exact Fa fd52_4 rfl (Nl ⟨Below.refl _ _, _, rfl, rfl⟩)
         ·
          intro f wk hx hf hd
          have H := H.ext hx
          have hf44 : f 44 = (.pointer (some (Addr.add (Addr.mk b1 0 none) 4))) := hd 7 rfl
          obtain ⟨u83, rfl⟩ := up1 hf44
          exact Ld _ sc3 (H.cell 0 rfl 4 _ rfl) (Nl ⟨Below.refl _ _, _, rfl, rfl⟩)
         ·
          intro f wk hx hf hd
          have H := H.ext hx
          have hf43 : f 43 = (vi a0.Noon) := hd 6 rfl
          have hf45 : f 45 = (vi a0.Again) := hd 8 rfl
          obtain ⟨u84, rfl⟩ := up2 hf43 hf45
          exact Ad ht4 (Nl ⟨Below.refl _ _, _, rfl, rfl⟩)
         ·
          intro f wk hx hf hd
          have H := H.ext hx
          have hf2 : f 2 = (pt b1) := hf 2 rfl
          obtain ⟨u85, rfl⟩ := up1 hf2
          exact Fa fd52_1 rfl (Nl ⟨Below.refl _ _, _, rfl, rfl⟩)
         ·
          intro f wk hx hf hd
          have H := H.ext hx
          have hf47 : f 47 = (.pointer (some (Addr.add (Addr.mk b1 0 none) 1))) := hd 10 rfl
          obtain ⟨u86, rfl⟩ := up1 hf47
          exact Ld _ sc3 (H.cell 0 rfl 1 _ rfl) (Nl ⟨Below.refl _ _, _, rfl, rfl⟩)
         ·
          intro f wk hx hf hd
          have H := H.ext hx
          have hf46 : f 46 = (vi t4) := hd 9 rfl
          have hf48 : f 48 = (vi a0.Half) := hd 11 rfl
          obtain ⟨u87, rfl⟩ := up2 hf46 hf48
          exact Su ht5 (Nl ⟨Below.refl _ _, _, rfl, rfl⟩)
         ·
          intro f wk hx hf hd
          have H := H.ext hx
          have hf41 : f 41 = (vi x2.At) := hd 4 rfl
          have hf49 : f 49 = (vi t5) := hd 12 rfl
          obtain ⟨u88, rfl⟩ := up2 hf41 hf49
          exact Ge_ (Nl ⟨Below.refl _ _, _, rfl, rfl⟩)
         ·
          intro f wk hx hf hd
          have H := H.ext hx
          have hf50 : f 50 = (.bool (decide (t5 ≤ x2.At))) := hd 13 rfl
          obtain ⟨u89, rfl⟩ := up1 hf50
          exact Mv (.bool (decide (t5 ≤ x2.At))) (Nl ⟨Below.refl _ _, _, rfl, cb hc5⟩)
         ·
          intro f wk hx hf hd
          have H := H.ext hx
          have hf51 : f 51 = (.bool false) := hd 14 rfl
          obtain ⟨u90, rfl⟩ := up1 hf51
          exact Sp (Nl ⟨Below.refl _ _, _, rfl, rfl⟩)
         ·
          intro f wk hx hf hd
          have H := H.ext hx
          have hf51 : f 51 = (.bool false) := hd 14 rfl
          obtain ⟨u91, rfl⟩ := up1 hf51
          exact Sp (Nl ⟨Below.refl _ _, _, rfl, rfl⟩)
         ·
          intro f wk hx hf hd
          have H := H.ext hx
          have hf51 : f 51 = (.bool false) := hd 14 rfl
          obtain ⟨u92, rfl⟩ := up1 hf51
          exact Sp (Nl ⟨Below.refl _ _, _, rfl, rfl⟩)
         ·
          intro f wk hx hf hd
          have H := H.ext hx
          have hf51 : f 51 = (.bool false) := hd 14 rfl
          obtain ⟨u93, rfl⟩ := up1 hf51
          exact Sp (Nl ⟨Below.refl _ _, _, rfl, rfl⟩)
         ·
          intro f wk hx hf hd
          have H := H.ext hx
          have hf51 : f 51 = (.bool false) := hd 14 rfl
          obtain ⟨u94, rfl⟩ := up1 hf51
          exact Sp (Nl ⟨Below.refl _ _, _, rfl, rfl⟩)
         ·
          intro f wk hx hf hd
          have H := H.ext hx
          have hf51 : f 51 = (.bool false) := hd 14 rfl
          have hf56 : f 56 = undef := hd 19 rfl
          obtain ⟨u95, rfl⟩ := up2 hf51 hf56
          exact Pf (.bool false) (Nl ⟨Below.refl _ _, _, rfl, rfl⟩)
         ·
          intro f wk hx hf hd
          have H := H.ext hx
          have hf57 : f 57 = (.bool false) := hd 20 rfl
          obtain ⟨u96, rfl⟩ := up1 hf57
          exact Mv (.bool false) (Nl ⟨Below.refl _ _, _, rfl, rfl⟩)
         ·
          intro f wk hx hf hd
          have H := H.ext hx
          have hf58 : f 58 = (.bool false) := hd 21 rfl
          obtain ⟨u97, rfl⟩ := up1 hf58
          exact Sp (Nl ⟨Below.refl _ _, _, rfl, rfl⟩)
         ·
          intro f wk hx hf hd
          have H := H.ext hx
          have hf58 : f 58 = (.bool false) := hd 21 rfl
          obtain ⟨u98, rfl⟩ := up1 hf58
          exact Sp (Nl ⟨Below.refl _ _, _, rfl, rfl⟩)
         ·
          intro f wk hx hf hd
          have H := H.ext hx
          have hf58 : f 58 = (.bool false) := hd 21 rfl
          obtain ⟨u99, rfl⟩ := up1 hf58
          exact Sp (Nl ⟨Below.refl _ _, _, rfl, rfl⟩)
         ·
          intro f wk hx hf hd
          have H := H.ext hx
          have hf58 : f 58 = (.bool false) := hd 21 rfl
          obtain ⟨u100, rfl⟩ := up1 hf58
          exact Sp (Nl ⟨Below.refl _ _, _, rfl, rfl⟩)
         ·
          intro f wk hx hf hd
          have H := H.ext hx
          have hf58 : f 58 = (.bool false) := hd 21 rfl
          obtain ⟨u101, rfl⟩ := up1 hf58
          exact Sp (Nl ⟨Below.refl _ _, _, rfl, rfl⟩)
         ·
          intro f wk hx hf hd
          have H := H.ext hx
          have hf58 : f 58 = (.bool false) := hd 21 rfl
          obtain ⟨u102, rfl⟩ := up1 hf58
          exact Sp (Nl ⟨Below.refl _ _, _, rfl, rfl⟩)
         ·
          intro f wk hx hf hd
          have H := H.ext hx
          have hf58 : f 58 = (.bool false) := hd 21 rfl
          obtain ⟨u103, rfl⟩ := up1 hf58
          exact Sp (Nl ⟨Below.refl _ _, _, rfl, rfl⟩)
         ·
          intro f wk hx hf hd
          have H := H.ext hx
          have hf58 : f 58 = (.bool false) := hd 21 rfl
          obtain ⟨u104, rfl⟩ := up1 hf58
          exact Sp (Nl ⟨Below.refl _ _, _, rfl, rfl⟩)
         ·
          intro f wk hx hf hd
          have H := H.ext hx
          have hf58 : f 58 = (.bool false) := hd 21 rfl
          obtain ⟨u105, rfl⟩ := up1 hf58
          exact Sp (Nl ⟨Below.refl _ _, _, rfl, rfl⟩)
         ·
          intro f wk hx hf hd
          have H := H.ext hx
          have hf58 : f 58 = (.bool false) := hd 21 rfl
          obtain ⟨u106, rfl⟩ := up1 hf58
          exact Sp (Nl ⟨Below.refl _ _, _, rfl, rfl⟩)
         ·
          intro f wk hx hf hd
          have H := H.ext hx
          have hf58 : f 58 = (.bool false) := hd 21 rfl
          obtain ⟨u107, rfl⟩ := up1 hf58
          exact Sp (Nl ⟨Below.refl _ _, _, rfl, rfl⟩)
         ·
          intro f wk hx hf hd
          have H := H.ext hx
          have hf58 : f 58 = (.bool false) := hd 21 rfl
          obtain ⟨u108, rfl⟩ := up1 hf58
          exact Sp (Nl ⟨Below.refl _ _, _, rfl, rfl⟩)
         ·
          intro f wk hx hf hd
          have H := H.ext hx
          have hf58 : f 58 = (.bool false) := hd 21 rfl
          have hf70 : f 70 = undef := hd 33 rfl
          obtain ⟨u109, rfl⟩ := up2 hf58 hf70
          exact Pf (.bool false) (Nl ⟨Below.refl _ _, _, rfl, rfl⟩)
        ·
         intro f wk hx hf hmd hd
         have hf1 : f 1 = va1 := hf 1 rfl
         have hf6 : f 6 = (.func (.func 146) #[] #[]) := hf 6 rfl
         have hf8 : f 8 = (vi t1) := hf 8 rfl
         have hf71 : f 71 = (.bool false) := hd 34 rfl
         have H := H.ext hx
         have hp1 := hp1.mono hx
         obtain ⟨u110, rfl⟩ := up4 hf1 hf6 hf8 hf71
         refine As (.bool false) (Nl ?_)
         have H := H.keep [] [] rfl (by decide)
         obtain rfl := sj hm2
         exact ⟨rfl, rfl, rfl, rfl, H⟩
      ·
       rintro f w ⟨hf1, hf6, hf8, hf36, H⟩
       obtain ⟨u111, rfl⟩ := up4 hf1 hf6 hf8 hf36
       rcases ite_some hm with ⟨hc7, hm⟩ | ⟨hc7, hm⟩
       ·
        refine Ct (cb hc7) (Sq (Rg (Mv (vi t1) (As (vi 3) (As (vi t1) (Nl (Rt ?_)))))))
        obtain ⟨rfl, rfl⟩ := j2 hm
        exact ends2 results110 R R ⟨_, rfl, H.base, rfl⟩
       ·
        refine Cf (cb hc7) (Sq (Rg (Mv (.func (.func 146) #[] #[]) (Mv va1 (Mv (vi t1) ?_)))))
        obtain ⟨t10, ht10, hm⟩ := bind_some hm
        obtain ⟨v2, hs2, hrv2⟩ := fix_sliceL underlying35 sz70 ha1 ht10
        refine hrv2 R R R R ?_
        obtain ⟨t11, hy6, hm⟩ := bind_some hm
        refine O.callV R R R R (callsV_mk call146 (c_ball_verdict_c1 _ _ (H.arg hs2) hy6)) ?_
        rintro _ w7 hb7 rfl
        have H := H.ext hb7
        refine As (.bool t11) (Nl ?_)
        rcases ite_some hm with ⟨hc8, hm⟩ | ⟨hc8, hm⟩
        ·
         refine Ct (cb hc8) (Sq (Rg (Mv (vi t1) (As (vi 1) (As (vi t1) (Nl (Rt ?_)))))))
         obtain ⟨rfl, rfl⟩ := j2 hm
         exact ends2 results110 R R ⟨_, rfl, H.base, rfl⟩
        ·
         refine Cf (cb hc8) (Sk (Sq (Rg (Mv (vi t1) (As (vi 2) (As (vi t1) (Nl (Rt ?_))))))))
         obtain ⟨rfl, rfl⟩ := j2 hm
         exact ends2 results110 R R ⟨_, rfl, H.base, rfl⟩

theorem c_ball_Verdict {w0 : World} (a0 : GMast) (va1 : Value) (a1 : (List GEvent)) (ha1 : SliceR w0 va1 a1) {r0 : Int} {r1 : Int} (hm : ball_Verdict a0 a1 = some (r0, r1)) :
  Calls prog 81 #[(.agg (Flat.cells a0).toArray), va1] w0 (Ret w0 fun _ v => v = .tuple #[(vi r0), (vi r1)]) := by
 unfold ball_Verdict at hm
 refine cW func81 ntmps81 ?_
 have H := Inv.start (w := w0)
 refine Sq (Rg (Bx [(vi a0.Noon), (vi a0.Half), (vi a0.Full), (vi a0.Late), (vi a0.Again), (vi a0.Wind)] H fun b1 w1 H hb1 => As (vi 0) (As (vi 0) (Nl (Sq (Sq (Rg (La [(vi a0.Noon), (vi a0.Half), (vi a0.Full), (vi a0.Late), (vi a0.Again), (vi a0.Wind)] ag52 (H.cell 0 rfl) (Mv va1 ?_)))))))))
 obtain ⟨⟨t1, t2, t3⟩, hy1, hm⟩ := bind_some hm
 refine Ca call109 (c_ball_Run a0 _ _ (H.arg ha1) hy1) ?_
 rintro _ w2 hb2 rfl
 have H := H.ext hb2
 refine Mv (.tuple #[(.agg (Flat.cells t1).toArray), (vi t2), (vi t3)]) (Xt (.agg (Flat.cells t1).toArray) (Xt (vi t2) (Xt (vi t3) (Al [(vi 0), (vi 0), (.bool false), (vi 0)] ze32 H fun b2 w3 H hb3 => St 1 0 [(vi t1.Place), (vi t1.Wind), (.bool t1.Flag), (vi t1.At)] [(vi t1.Place), (vi t1.Wind), (.bool t1.Flag), (vi t1.At)] sz32 H R R (one_cons rfl (one_cons rfl (one_cons rfl (one_cons rfl one_nil)))) fun w4 H => As (vi t2) (As (vi t3) (Nl (Sq (Rg (Mv (vi t3) ?_)))))))))
 refine Ne_ (Nl ?_)
 rcases ite_some hm with ⟨hc1, hm⟩ | ⟨hc1, hm⟩
 ·
  refine Ct (cb hc1) (Sq (Rg (Mv (vi t3) (As (vi 0) (As (vi t3) (Nl (Rt ?_)))))))
  obtain ⟨rfl, rfl⟩ := j2 hm
  exact ends2 results81 R R ⟨_, rfl, H.base, rfl⟩
 ·
  refine Cf (cb hc1) (Sk (Sq (Rg (La [(vi a0.Noon), (vi a0.Half), (vi a0.Full), (vi a0.Late), (vi a0.Again), (vi a0.Wind)] ag52 (H.cell 0 rfl) (Mv va1 ?_)))))
  obtain ⟨⟨t4, t5⟩, hy2, hm⟩ := bind_some hm
  refine Ca call110 (c_ball_verdict a0 _ _ (H.arg ha1) hy2) ?_
  rintro _ w5 hb4 rfl
  have H := H.ext hb4
  refine Mv (.tuple #[(vi t4), (vi t5)]) (Xt (vi t4) (Xt (vi t5) (As (vi t4) (As (vi t5) (Nl (Sq (Rg (Mv (vi t4) (As (vi t4) (As (vi 0) (Nl (Rt ?_))))))))))))
  obtain ⟨rfl, rfl⟩ := j2 hm
  exact ends2 results81 R R ⟨_, rfl, H.base, rfl⟩

theorem c_ball_Word {w0 : World} (a0 : Int) {r0 : ByteArray} (hm : ball_Word a0 = some r0) :
  Calls prog 82 #[(vi a0)] w0 (Ret w0 fun _ v => v = (.string r0)) := by
 unfold ball_Word at hm
 refine cW func82 ntmps82 ?_
 have H := Inv.start (w := w0)
 refine Sq (Rg (As (.string (bs [])) (Nl (Sq (Sq (Rg (Mv (vi a0) ?_)))))))
 obtain ⟨t1, hy1, hm⟩ := bind_some hm
 refine Ca call56 (c_ball_within _ _ _ hy1) ?_
 rintro _ w1 hb1 rfl
 have H := H.ext hb1
 refine O.not R R R (Nl ?_)
 rcases ite_some hm with ⟨hc1, hm⟩ | ⟨hc1, hm⟩
 ·
  refine Ct (cb hc1) (Sq (Rg (As (.string (bs [])) (Nl (Rt ?_)))))
  obtain rfl := sj hm
  exact ends1 results82 rfl ⟨_, rfl, H.base, rfl⟩
 ·
  refine Cf (cb hc1) (Sk (Sq (Rg (Bd (v := (.agg #[(.string (bs [103, 111, 111, 100])), (.string (bs [119, 114, 111, 110, 103])), (.string (bs [102, 97, 108, 115, 101])), (.string (bs [97, 103, 97, 105, 110])), (.string (bs [116, 111, 108, 100])), (.string (bs [115, 105, 108, 101, 110, 116]))])) (fun w => bd171_s82 w) rfl (Mv (vi a0) ?_)))))
  obtain ⟨x1, hx1, hm⟩ := bind_some hm
  refine O.arrIdxS (l := ([(bs [103, 111, 111, 100]), (bs [119, 114, 111, 110, 103]), (bs [102, 97, 108, 115, 101]), (bs [97, 103, 97, 105, 110]), (bs [116, 111, 108, 100]), (bs [115, 105, 108, 101, 110, 116])] : List ByteArray)) underlying171 sz9 sc9 rfl hx1 R R R R (As (.string x1) (Nl (Rt ?_)))
  obtain rfl := sj hm
  exact ends1 results82 rfl ⟨_, rfl, H.base, rfl⟩

theorem c_station_session_close {w0 : World} (X0 : Nat → Prop) (b0 : Nat) (va0_0 : Value) (va0_1 : Value) (va0_2 : Value) (va0_3 : Value) (va0_4 : Value) (a0 : GSession) (H0 : InvD X0 w0 w0 [boxI b0 61 (cI a0.inside va0_0 va0_1 va0_2 va0_3 va0_4), o3 va0_0 a0.inside.net.Rates, o92 va0_1 a0.inside.net.Sights, o70 va0_2 a0.inside.log, o3 va0_3 a0.inside.verdicts, o74 va0_4 a0.inside.ledger]) (va1 : Value) (a1 : (List ByteArray)) (ha1 : ∀ w', BelowX X0 w0 w' → SliceR w' va1 a1) {r0 : Ref (GSession × ByteArray)} (hm : station_session_close a0 a1 = some r0) :
  Calls prog 43 #[(pt b0), va1] w0 (PPost 87 X0 w0 r0 (fun r v L1 => ∃ u0 u1 u2 u3 u4 : Value, L1 = [boxI b0 61 (cI r.1.inside u0 u1 u2 u3 u4), o3 u0 r.1.inside.net.Rates, o92 u1 r.1.inside.net.Sights, o70 u2 r.1.inside.log, o3 u3 r.1.inside.verdicts, o74 u4 r.1.inside.ledger] ∧ v = (.string r.2))) := by
 unfold station_session_close at hm
 refine calls_of_WP func43 rfl ntmps43 (Nat.le_of_ble_eq_true rfl) ?_
 have H := H0
 refine Sq (Rg (As (.string (bs [])) (Nl (Sq (Rg (Mv (pt b0) (Nk rfl (Fa fd61_0 rfl (Fa fd54_1 rfl (Ld _ sc3 (H.cell 0 rfl 6 _ rfl) (Ls ?_)))))))))))
 rcases mustB_some hm with ⟨hc1, rfl⟩ | ⟨hc1, hm⟩
 · exact Cn call78 (c_station_must_no _ hc1) (fun w' hb => ⟨rfl, (H.ext hb).baseX⟩)
 refine Ca call78 (c_station_must_ok _ hc1) ?_
 rintro _ w1 hb1 rfl
 have H := H.ext hb1
 refine Nl (Sq ?_)
 obtain ⟨⟨t1, t2⟩, hy1, hm⟩ := bind_some hm
 refine W.drawN 15 (fun f => f 0 = (pt b0) ∧ f 5 = (vi t1) ∧ f 27 = (vi t2)) fol (by kernel_rfl) ?_ ?_
 ·
  refine Pl (fun _ w8 _ hx => Mv (pt b0) (Nl ⟨rfl, hx⟩)) (Pl (fun _ w8 _ hx => Nk rfl (Nl ⟨rfl, hx⟩)) (Pl (fun _ w8 _ hx => Fa fd61_0 rfl (Nl ⟨rfl, hx⟩)) (Pl (fun _ w8 _ hx => Fa fd54_0 rfl (Nl ⟨rfl, hx⟩)) (Pl (fun _ w8 _ hx => by have H := H.ext hx; exact La (q := ⟨b0, 0, none⟩) [(vi a0.inside.mast.Noon), (vi a0.inside.mast.Half), (vi a0.inside.mast.Full), (vi a0.inside.mast.Late), (vi a0.inside.mast.Again), (vi a0.inside.mast.Wind)] ag52 (cell_part (o := 0) (k := 6) (H.cell 0 rfl) rfl) (Nl ⟨rfl, hx⟩)) (Pl (fun _ w8 _ hx => Mv (pt b0) (Nl ⟨rfl, hx⟩)) (Pl (fun _ w8 _ hx => Nk rfl (Nl ⟨rfl, hx⟩)) (Pl (fun _ w8 _ hx => Fa fd61_0 rfl (Nl ⟨rfl, hx⟩)) (Pl (fun _ w8 _ hx => Fa fd54_3 rfl (Nl ⟨rfl, hx⟩)) (Pl (fun _ w8 _ hx => by have H := H.ext hx; exact Ld _ sc35 (H.cell 0 rfl 9 _ rfl) (Nl ⟨rfl, hx⟩)) (Pl (fun _ w8 _ hx => by have H := H.ext hx; exact Ca call81 (c_ball_Verdict a0.inside.mast _ _ (H.own 3 rfl) hy1) (by rintro _ _ hb rfl; exact Nl ⟨rfl, hx.trans (hb.mono hx.size)⟩)) (Pl (fun _ w8 _ hx => Mv (.tuple #[(vi t1), (vi t2)]) (Nl ⟨rfl, hx⟩)) (Pl (fun _ w8 _ hx => Xt (vi t1) (Nl ⟨rfl, hx⟩)) (Pl (fun _ w8 _ hx => Xt (vi t2) (Nl ⟨rfl, hx⟩)) ?_)))))))))))))
  exact Pl (fun _ w8 _ hx => As (vi t1) (Nl ⟨rfl, hx⟩)) (PL.nil ⟨rfl, rfl, rfl⟩)
 ·
  rintro f w ⟨hf0, hf5, hf27⟩ hmd hx
  have H := H.ext hx
  obtain ⟨u1, rfl⟩ := up3 hf0 hf5 hf27
  refine As (vi t2) (Nl (Sq (Rg (Mv (vi t2) ?_))))
  rcases mustB_some hm with ⟨hc2, rfl⟩ | ⟨hc2, hm⟩
  · exact Cn call76 (c_station_needs_no hc2) (fun w' hb => ⟨rfl, (H.ext hb).baseX⟩)
  refine Ca call76 (c_station_needs_ok hc2) ?_
  rintro _ w2 hb2 rfl
  have H := H.ext hb2
  refine Nl (Sq (Rg (Mv (pt b0) (Mv (pt b0) (Nk rfl (Fa fd61_0 rfl (Fa fd54_5 rfl (Ld _ sc26 (H.cell 0 rfl 14 _ rfl) (Mv (vi t1) (Bs (α := Int) [(vi t1)] [t1] underlying26 el3 H fun v1 w3 H hb3 => ?_))))))))))
  obtain ⟨t3, ht3, hm⟩ := bind_some hm
  refine Ap 4 underlying26 el3 H rfl (H.own 6 rfl) ht3 fun v2 w4 H => Nk rfl (Fa fd61_0 rfl (Fa fd54_5 rfl (O.store 0 14 [v2] (cI a0.inside va0_0 va0_1 va0_2 v2 va0_4) sz26 H R R R R R (SliceR.cells1 (H.own 4 rfl)) ⟨⟨rfl, rfl⟩, rfl⟩ (one_cons (SliceR.one (H.own 4 rfl)) one_nil) fun w5 H => Nl (Sq (Rg (Mv (pt b0) (Mv (pt b0) (Mv (pt b0) (Mv (pt b0) ?_)))))))))
  refine Nk rfl (Fa fd61_0 rfl (Fa fd54_1 rfl (Ld _ sc3 (H.cell 0 rfl 6 _ rfl) ?_)))
  obtain ⟨t4, ht4, hm⟩ := bind_some hm
  refine Ad ht4 (Bd (v := (.agg (Flat.cells (GBall.mk 0 0 false 0)).toArray)) (fun w => bd32_  w) rfl (Nk rfl (Fa fd61_0 rfl (Fa fd54_1 rfl (St 0 6 [(vi t4)] [(vi a0.inside.mast.Noon), (vi a0.inside.mast.Half), (vi a0.inside.mast.Full), (vi a0.inside.mast.Late), (vi a0.inside.mast.Again), (vi a0.inside.mast.Wind), (vi t4), va0_0, va0_1, va0_2, (vi a0.inside.state.Place), (vi a0.inside.state.Wind), (.bool a0.inside.state.Flag), (vi a0.inside.state.At), v2, va0_4, (vi a0.inside.flags)] sz3 H R R (one_cons rfl one_nil) fun w6 H => Nk rfl (Fa fd61_0 rfl (Fa fd54_3 rfl ?_)))))))
  have H := H.addNil (α := GEvent) (E := 70)
  refine St 0 9 [(.slice none 0 0)] [(vi a0.inside.mast.Noon), (vi a0.inside.mast.Half), (vi a0.inside.mast.Full), (vi a0.inside.mast.Late), (vi a0.inside.mast.Again), (vi a0.inside.mast.Wind), (vi t4), va0_0, va0_1, (.slice none 0 0), (vi a0.inside.state.Place), (vi a0.inside.state.Wind), (.bool a0.inside.state.Flag), (vi a0.inside.state.At), v2, va0_4, (vi a0.inside.flags)] sz35 H R R (one_cons rfl one_nil) fun w7 H => Nk rfl (Fa fd61_0 rfl (Fa fd54_4 rfl (St 0 10 [(vi 0), (vi 0), (.bool false), (vi 0)] [(vi a0.inside.mast.Noon), (vi a0.inside.mast.Half), (vi a0.inside.mast.Full), (vi a0.inside.mast.Late), (vi a0.inside.mast.Again), (vi a0.inside.mast.Wind), (vi t4), va0_0, va0_1, (.slice none 0 0), (vi 0), (vi 0), (.bool false), (vi 0), v2, va0_4, (vi a0.inside.flags)] sz32 H R R (one_cons rfl (one_cons rfl (one_cons rfl (one_cons rfl one_nil)))) fun w8 H => Nl (Sq (Rg (Mv (vi t1) ?_))))))
  obtain ⟨t5, hy2, hm⟩ := bind_some hm
  refine Ca call82 (c_ball_Word _ hy2) ?_
  rintro _ w9 hb4 rfl
  have H := H.ext hb4
  refine As (.string t5) (Nl (Rt ?_))
  obtain rfl : Ref.ok ((GSession.mk (GInside.mk a0.inside.mast t4 a0.inside.net [] (GBall.mk 0 0 false 0) t3 a0.inside.ledger a0.inside.flags)), t5) = r0 := sj (show some (Ref.ok ((GSession.mk (GInside.mk a0.inside.mast t4 a0.inside.net [] (GBall.mk 0 0 false 0) t3 a0.inside.ledger a0.inside.flags)), t5)) = some r0 from hm)
  have H := H.addNil (α := GEvent) (E := 70)
  exact ends1 results43 rfl ⟨_, _, rfl, H.pick [0, 1, 2, 8, 4, 5] [boxI b0 61 [(vi a0.inside.mast.Noon), (vi a0.inside.mast.Half), (vi a0.inside.mast.Full), (vi a0.inside.mast.Late), (vi a0.inside.mast.Again), (vi a0.inside.mast.Wind), (vi t4), va0_0, va0_1, (.slice none 0 0), (vi 0), (vi 0), (.bool false), (vi 0), v2, va0_4, (vi a0.inside.flags)], o3 va0_0 a0.inside.net.Rates, o92 va0_1 a0.inside.net.Sights, o70 (.slice none 0 0) ([] : List GEvent), o3 v2 t3, o74 va0_4 a0.inside.ledger] rfl (by decide), va0_0, va0_1, (.slice none 0 0), v2, va0_4, rfl, rfl⟩

theorem c_slices_IndexFunc_Entry {w0 : World} (va0 : Value) (a0 : (List GEntry)) (ha0 : SliceR w0 va0 a0) (va1 : Value) (a1 : GEntry → Option (Bool)) (ha1 : ∀ (w : World), Below w0.heap.size w0 w → ∀ (x0 : GEntry) (y0 : Bool), a1 x0 = some y0 → CallsV prog va1 #[(.agg (Flat.cells x0).toArray)] w (Ret w fun _ v => v = (.bool y0))) {r0 : Int} (hm : slices_IndexFunc_Entry a0 a1 = some r0) :
  Calls prog 219 #[va0, va1] w0 (Ret w0 fun _ v => v = (vi r0)) := by
 unfold slices_IndexFunc_Entry at hm
 refine cW func219 ntmps219 ?_
 have H := Inv.start (w := w0)
 refine Sq (Rg (As (vi 0) (Nl (Sq (Sq (Rg (Mv va0 (Ln underlying38 (H.arg ha0) (Mv (vi 0) (Nl ?_))))))))))
 obtain ⟨o1, hm1, hm⟩ := bind_some hm
 refine W.via (fun f w => o1 = .next () ∧ Inv w0 w []) ?_ ?_
 ·
  refine Bk ?_
  have hbdik1 := (H.arg ha0).len_le
  refine W.rangeN (i := 0) hm1 (fun rem ik1 s f w => () = s ∧ (ik1 : Int) + rem = max 0 ((a0.length : Nat) : Int) ∧ f 8 = .int .i64 (ik1 : Int) ∧ f 7 = (vi ((a0.length : Nat) : Int)) ∧ f 0 = va0 ∧ f 1 = va1 ∧ Inv w0 w []) ?_ ?_ ?_
  ·
   exact ⟨rfl, rangeN_start, rfl, rfl, rfl, rfl, H⟩
  ·
   rintro k ik1 _ st f w ⟨rfl, hdropk1, hf8, hf7, hf0, hf1, H⟩ hm2
   have hltk1 := rangeN_lt hdropk1
   obtain ⟨u1, rfl⟩ := up4 hf8 hf7 hf0 hf1
   have hinck1 := addI_lt hltk1 hbdik1
   refine Sq (Rg (Ls (Nl (Sq (Ct (cb (decide_eq_true hltk1)) (Sk (Sq (Bk (Sq (Rg (Mv (vi (ik1 : Int)) (As (vi (ik1 : Int)) (Nl ?_)))))))))))))
   refine Sq (Rg (Mv va1 (Mv va0 (Mv (vi (ik1 : Int)) ?_))))
   obtain ⟨x1, hx1, hm2⟩ := bind_some hm2
   obtain ⟨p1, hp1, hrp1⟩ := fix_indexAddr underlying38 sz74 ha0 hx1
   refine hrp1 R R R R (La [(vi x1.Day), (.bool x1.Found), (vi x1.Error)] ag74 ((hp1.mono H.base).flat) ?_)
   obtain ⟨t1, hy1, hm2⟩ := bind_some hm2
   refine O.callV R R R R (ha1 _ H.base x1 _ hy1) ?_
   rintro _ w1 hb1 rfl
   have H := H.ext hb1
   refine Nl ?_
   rcases ite_some hm2 with ⟨hc1, hm2⟩ | ⟨hc1, hm2⟩
   ·
    refine Ct (cb hc1) (Sq (Rg (Mv (vi (ik1 : Int)) (As (vi (ik1 : Int)) (Nl (Rt ?_))))))
    obtain rfl := sj hm2
    refine ⟨_, rfl, ?_⟩
    rintro rfl
    obtain rfl := sj hm
    exact ends1 results219 rfl ⟨_, rfl, H.base, rfl⟩
   ·
    refine Cf (cb hc1) (Sk (Rg (Ad hinck1 (Mv (vi ((ik1 : Int) + 1)) (Nl ?_)))))
    obtain rfl := sj hm2
    exact ⟨_, rfl, rfl, rangeN_next hdropk1, rfl, rfl, rfl, rfl, H⟩
  ·
   rintro ik1 _ f w ⟨rfl, hdropk1, hf8, hf7, hf0, hf1, H⟩ hfin
   have hltk1 := rangeN_end hdropk1
   obtain ⟨u2, rfl⟩ := up4 hf8 hf7 hf0 hf1
   refine Sq (Rg (Ls (Nl (Sq (Cf (cb (decide_eq_false hltk1)) (W.exit ?_))))))
   obtain rfl : Ctl.next () = o1 := hfin
   exact xT rfl ⟨rfl, H⟩
 ·
  rintro f w ⟨rfl, H⟩
  refine Sq (Rg (As (vi (-1)) (Nl (Rt ?_))))
  obtain rfl := sj hm
  exact ends1 results219 rfl ⟨_, rfl, H.base, rfl⟩

theorem c_slices_ContainsFunc_Entry {w0 : World} (va0 : Value) (a0 : (List GEntry)) (ha0 : SliceR w0 va0 a0) (va1 : Value) (a1 : GEntry → Option (Bool)) (ha1 : ∀ (w : World), Below w0.heap.size w0 w → ∀ (x0 : GEntry) (y0 : Bool), a1 x0 = some y0 → CallsV prog va1 #[(.agg (Flat.cells x0).toArray)] w (Ret w fun _ v => v = (.bool y0))) {r0 : Bool} (hm : slices_ContainsFunc_Entry a0 a1 = some r0) :
  Calls prog 202 #[va0, va1] w0 (Ret w0 fun _ v => v = (.bool r0)) := by
 unfold slices_ContainsFunc_Entry at hm
 refine cW func202 ntmps202 ?_
 have H := Inv.start (w := w0)
 refine Sq (Rg (As (.bool false) (Nl (Sq (Rg (Mv va0 (Mv va1 ?_)))))))
 obtain ⟨t1, hy1, hm⟩ := bind_some hm
 refine Ca call219 (c_slices_IndexFunc_Entry _ _ (H.arg ha0) va1 a1 (fun w hw => ha1 w (H.base.trans (hw.mono H.base.size))) hy1) ?_
 rintro _ w1 hb1 rfl
 have H := H.ext hb1
 refine Ge_ (As (.bool (decide (0 ≤ t1))) (Nl (Rt ?_)))
 obtain rfl := sj hm
 exact ends1 results202 rfl ⟨_, rfl, H.base, rfl⟩

theorem c_ledger_within {w0 : World} (a0 : Int) (a1 : Int) (a2 : Int) {r0 : Bool} (hm : ledger_within a0 a1 a2 = some r0) :
  Calls prog 204 #[(vi a0), (vi a1), (vi a2)] w0 (Ret w0 fun _ v => v = (.bool r0)) := by
 unfold ledger_within at hm
 refine cW func204 ntmps204 ?_
 have H := Inv.start (w := w0)
 refine Sq (Rg (As (.bool false) (Nl (Sq (Rg (Mv (vi a0) (Mv (vi a1) (Ge_ (Mv (.bool (decide (a1 ≤ a0))) ?_)))))))))
 refine Cu 4 (fun f w => f 14 = .bool ((decide (a1 ≤ a0)) && (decide (a0 ≤ a2))) ∧ Inv w0 w []) ?_ ?_
 ·
  rcases bool_ft (decide (a1 ≤ a0)) with hc1 | hc1
  ·
   exact Rs (i := 10) (v := .bool false) (cb hc1) (Sp (Sp (Sp (Pf (.bool false) (Nl ⟨cb (and_f hc1), H⟩)))))
  ·
   exact Rs (i := 10) (v := .bool true) (cb hc1) (Mv (vi a0) (Mv (vi a2) (Le_ (Pt (.bool (decide (a0 ≤ a2))) (Nl ⟨cb (and_t hc1), H⟩)))))
 ·
  rintro f w ⟨hf14, H⟩
  obtain ⟨u1, rfl⟩ := up1 hf14
  refine As (.bool ((decide (a1 ≤ a0)) && (decide (a0 ≤ a2)))) (Nl (Rt ?_))
  obtain rfl := sj hm
  exact ends1 results204 rfl ⟨_, rfl, H.base, rfl⟩

theorem c_ledger_fine {w0 : World} (a0 : GEntry) {r0 : Bool} (hm : ledger_fine a0 = some r0) :
  Calls prog 153 #[(.agg (Flat.cells a0).toArray)] w0 (Ret w0 fun _ v => v = (.bool r0)) := by
 unfold ledger_fine at hm
 refine cW func153 ntmps153 ?_
 have H := Inv.start (w := w0)
 refine Sq (Rg (Bx [(vi a0.Day), (.bool a0.Found), (vi a0.Error)] H fun b1 w1 H hb1 => As (.bool false) (Nl (Sq (Rg (Fa fd74_0 rfl (Ld _ sc3 (H.cell 0 rfl 0 _ rfl) ?_)))))))
 obtain ⟨t1, hy1, hm⟩ := bind_some hm
 refine Ca call204 (c_ledger_within _ _ _ hy1) ?_
 rintro _ w2 hb2 rfl
 have H := H.ext hb2
 refine Mv (.bool t1) ?_
 obtain ⟨b2, hm1, hm⟩ := bind_some hm
 refine Cu 4 (fun f w => f 10 = .bool b2 ∧ Inv w0 w [boxI b1 74 [(vi a0.Day), (.bool a0.Found), (vi a0.Error)]]) ?_ ?_
 ·
  rcases ite_some hm1 with ⟨hc1, hm1⟩ | ⟨hc1, hm1⟩
  ·
   refine Rs (i := 6) (v := .bool true) (cb hc1) (Fa fd74_2 rfl (Ld _ sc3 (H.cell 0 rfl 2 _ rfl) ?_))
   obtain ⟨t2, hy2, hm1⟩ := bind_some hm1
   refine Ca call204 (c_ledger_within _ _ _ hy2) ?_
   rintro _ w3 hb3 rfl
   have H := H.ext hb3
   refine Pt (.bool t2) (Nl ?_)
   obtain rfl := sj hm1
   exact ⟨rfl, H⟩
  ·
   refine Rs (i := 6) (v := .bool false) (cb hc1) (Sp (Sp (Sp (Pf (.bool false) (Nl ?_)))))
   obtain rfl := sj hm1
   exact ⟨rfl, H⟩
 ·
  rintro f w ⟨hf10, H⟩
  obtain ⟨u1, rfl⟩ := up1 hf10
  refine As (.bool b2) (Nl (Rt ?_))
  obtain rfl := sj hm
  exact ends1 results153 rfl ⟨_, rfl, H.base, rfl⟩

theorem c_ledger_Valid_c1 {w0 : World} (a0 : GEntry) {r0 : Bool} (hm : ledger_Valid_c1 a0 = some r0) :
  Calls prog 203 #[(.agg (Flat.cells a0).toArray)] w0 (Ret w0 fun _ v => v = (.bool r0)) := by
 unfold ledger_Valid_c1 at hm
 refine cW func203 ntmps203 ?_
 have H := Inv.start (w := w0)
 refine Sq (Rg (Bx [(vi a0.Day), (.bool a0.Found), (vi a0.Error)] H fun b1 w1 H hb1 => As (.bool false) (Nl (Sq (Rg (La [(vi a0.Day), (.bool a0.Found), (vi a0.Error)] ag74 (H.cell 0 rfl) ?_))))))
 obtain ⟨t1, hy1, hm⟩ := bind_some hm
 refine Ca call153 (c_ledger_fine a0 hy1) ?_
 rintro _ w2 hb2 rfl
 have H := H.ext hb2
 refine O.not R R R (As (.bool (!t1)) (Nl (Rt ?_)))
 obtain rfl := sj hm
 exact ends1 results203 rfl ⟨_, rfl, H.base, rfl⟩

theorem c_ledger_Valid {w0 : World} (va0 : Value) (a0 : (List GEntry)) (ha0 : SliceR w0 va0 a0) {r0 : Bool} (hm : ledger_Valid a0 = some r0) :
  Calls prog 152 #[va0] w0 (Ret w0 fun _ v => v = (.bool r0)) := by
 unfold ledger_Valid at hm
 refine cW func152 ntmps152 ?_
 have H := Inv.start (w := w0)
 refine Sq (Rg (As (.bool false) (Nl (Sq (Rg (Mv va0 (Ln underlying38 (H.arg ha0) (Le_ (Mv (.bool (decide (((a0.length : Nat) : Int) ≤ 1000))) ?_)))))))))
 obtain ⟨b1, hm1, hm⟩ := bind_some hm
 refine Cu 4 (fun f w => f 10 = .bool b1 ∧ Inv w0 w []) ?_ ?_
 ·
  rcases ite_some hm1 with ⟨hc1, hm1⟩ | ⟨hc1, hm1⟩
  ·
   refine Rs (i := 6) (v := .bool true) (cb hc1) (Mv va0 ?_)
   obtain ⟨t1, hy1, hm1⟩ := bind_some hm1
   refine Ca call202 (c_slices_ContainsFunc_Entry _ _ (H.arg ha0) _ (fun x0 => ledger_Valid_c1 x0) (fun w hw x0 _ hy => callsV_mk call203 (c_ledger_Valid_c1 x0 hy)) hy1) ?_
   rintro _ w1 hb1 rfl
   have H := H.ext hb1
   refine O.not R R R (Pt (.bool (!t1)) (Nl ?_))
   obtain rfl := sj hm1
   exact ⟨rfl, H⟩
  ·
   refine Rs (i := 6) (v := .bool false) (cb hc1) (Sp (Sp (Sp (Pf (.bool false) (Nl ?_)))))
   obtain rfl := sj hm1
   exact ⟨rfl, H⟩
 ·
  rintro f w ⟨hf10, H⟩
  obtain ⟨u1, rfl⟩ := up1 hf10
  refine As (.bool b1) (Nl (Rt ?_))
  obtain rfl := sj hm
  exact ends1 results152 rfl ⟨_, rfl, H.base, rfl⟩

theorem c_slices_Clone_Entry {w0 : World} (va0 : Value) (a0 : (List GEntry)) (ha0 : SliceR w0 va0 a0) {r0 : (List GEntry)} (hm : slices_Clone_Entry a0 = some r0) :
  Calls prog 22 #[va0] w0 (Ret w0 fun w v => OwnR w0 w v 74 r0) := by
 unfold slices_Clone_Entry at hm
 refine cW func22 ntmps22 ?_
 have H := Inv.start (w := w0)
 refine Sq (Rg ?_)
 have H := H.addNil (α := GEntry) (E := 74)
 refine As (.slice none 0 0) (Nl (Sq (Sq (Rg (Mv va0 ?_)))))
 rcases ha0.nil_or with ⟨rfl, rfl⟩ | ⟨ad, cap, rfl⟩
 ·
  replace hm : (some ([] : List GEntry)) = some r0 := by simpa [appI] using hm
  refine En underlying38 (Rs (i := 4) (v := .bool true) rfl (Nl (Ct rfl (Sq (Rg ?_)))))
  have H := H.addNil (α := GEntry) (E := 74)
  refine As (.slice none 0 0) (Nl (Rt ?_))
  obtain rfl := sj hm
  exact ends1 results22 rfl ⟨_, rfl, H.base, H.ownR 1 rfl⟩
 ·
  refine En underlying38 (Rs (i := 4) (v := .bool false) rfl (Nl (Cf rfl (Sk (Sq (Rg (O.buildEmpty (α := GEntry) underlying38 el74 H R R fun b1 w1 H hb1 => Mv (.slice (some ad) a0.length cap) ?_)))))))
  obtain ⟨t1, ht1, hm⟩ := bind_some hm
  refine Ap 1 underlying38 el74 H rfl (H.arg ha0) ht1 fun v1 w2 H => As v1 (Nl (Rt ?_))
  obtain rfl := sj hm
  exact ends1 results22 rfl ⟨_, rfl, H.base, H.ownR 1 rfl⟩

end Go.Proofs
namespace Go.Proofs
open Go.Fw Go.RowKit Go.Shelf Go.Maps
open Go.Proofs.Tryz
open Go.Fw.W renaming seq → Sq, region → Rg, skip → Sk, block → Bk, ret → Rt, cond_true → Ct, cond_false → Cf
open Go.Fw.WL renaming nil → Nl, reset → Rs, cut → Cu
open Go.Fw.PL renaming of → Pl
set_option maxRecDepth 20000 in
theorem c_ledger_Added {w0 : World} (va0 : Value) (a0 : (List GEntry)) (ha0 : SliceR w0 va0 a0) (a1 : GEntry) {r0 : (List GEntry)} {r1 : Int} (hm : ledger_Added a0 a1 = some (r0, r1)) :
  Calls prog 111 #[va0, (.agg (Flat.cells a1).toArray)] w0 (Ret w0 fun w v => ∃ vr0 : Value, v = .tuple #[vr0, (vi r1)] ∧ OwnR w0 w vr0 74 r0) := by
 unfold ledger_Added at hm
 refine cW func111 ntmps111 ?_
 have H := Inv.start (w := w0)
 refine Sq (Rg (Bx [(vi a1.Day), (.bool a1.Found), (vi a1.Error)] H fun b1 w1 H hb1 => ?_))
 have H := H.addNil (α := GEntry) (E := 74)
 refine As (.slice none 0 0) (As (vi 0) (Nl (Sq (Bk (Sq (Rg (Mv va0 ?_)))))))
 obtain ⟨t1, hy1, hm⟩ := bind_some hm
 refine Ca call152 (c_ledger_Valid _ _ (H.arg ha0) hy1) ?_
 rintro _ w2 hb2 rfl
 have H := H.ext hb2
 refine O.not R R R (Mv (.bool (!t1)) ?_)
 obtain ⟨b2, hm1, hm⟩ := bind_some hm
 refine Cu 4 (fun f w => f 0 = va0 ∧ f 3 = (pt b1) ∧ f 14 = .bool b2 ∧ Inv w0 w [boxI b1 74 [(vi a1.Day), (.bool a1.Found), (vi a1.Error)], o74 (.slice none 0 0) ([] : List GEntry)]) ?_ ?_
 ·
  rcases ite_some hm1 with ⟨hc1, hm1⟩ | ⟨hc1, hm1⟩
  ·
   refine Rs (i := 10) (v := .bool true) (cb hc1) (Sp (Sp (Sp (Pt (.bool true) (Nl ?_)))))
   obtain rfl := sj hm1
   exact ⟨rfl, rfl, rfl, H⟩
  ·
   refine Rs (i := 10) (v := .bool false) (cb hc1) (La [(vi a1.Day), (.bool a1.Found), (vi a1.Error)] ag74 (H.cell 0 rfl) ?_)
   obtain ⟨t2, hy2, hm1⟩ := bind_some hm1
   refine Ca call153 (c_ledger_fine a1 hy2) ?_
   rintro _ w3 hb3 rfl
   have H := H.ext hb3
   refine O.not R R R (Pf (.bool (!t2)) (Nl ?_))
   obtain rfl := sj hm1
   exact ⟨rfl, rfl, rfl, H⟩
 ·
  rintro f w ⟨hf0, hf3, hf14, H⟩
  obtain ⟨u1, rfl⟩ := up3 hf0 hf3 hf14
  refine As (.bool b2) (Nl ?_)
  rcases ite_some hm with ⟨hc2, hm⟩ | ⟨hc2, hm⟩
  ·
   refine Ct (cb hc2) (Sq (Rg ?_))
   have H := H.addNil (α := GEntry) (E := 74)
   refine As (.slice none 0 0) (As (vi 1) (Nl (Rt ?_)))
   obtain ⟨rfl, rfl⟩ := j2 hm
   exact ends2 results111 R R ⟨_, rfl, H.base, ⟨_, rfl, H.ownR 2 rfl⟩⟩
  ·
   refine Cf (cb hc2) (Sq (Rg (Mv va0 (Ln underlying38 (H.arg ha0) (Eq_ (As (.bool (((a0.length : Nat) : Int) == 1000)) (Nl ?_)))))))
   rcases ite_some hm with ⟨hc3, hm⟩ | ⟨hc3, hm⟩
   ·
    refine Ct (cb hc3) (Sq (Rg ?_))
    have H := H.addNil (α := GEntry) (E := 74)
    refine As (.slice none 0 0) (As (vi 4) (Nl (Rt ?_)))
    obtain ⟨rfl, rfl⟩ := j2 hm
    exact ends2 results111 R R ⟨_, rfl, H.base, ⟨_, rfl, H.ownR 2 rfl⟩⟩
   ·
    refine Cf (cb hc3) (Sk (Sq ?_))
    obtain ⟨t3, hy3, hm⟩ := bind_some hm
    obtain ⟨wd1, rfl⟩ : ∃ x, x = w := ⟨w, rfl⟩
    refine W.draw 4 (fun k v wk => match k with | 0 => v = va0 | 1 => OwnR wd1 wk v 74 t3 | 2 => v = (.agg (Flat.cells a1).toArray) | 3 => OwnR wd1 wk v 74 ([a1] : List GEntry) | _ => True) (by intro k v w w' h hb; match k, h with | 0, h => exact h | 1, h => exact OwnR.mono h hb | 2, h => exact h | 3, h => exact OwnR.mono h hb | _ + 4, h => exact h) fol (by kernel_rfl) ?_ ?_
    ·
     refine ⟨⟨⟨⟨trivial, ?_⟩, ?_⟩, ?_⟩, ?_⟩
     ·
      intro f wk hx hf hd
      have H := H.ext hx
      have hf0 : f 0 = va0 := hf 0 rfl
      obtain ⟨u2, rfl⟩ := up1 hf0
      exact Mv va0 (Nl ⟨Below.refl _ _, _, rfl, rfl⟩)
     ·
      intro f wk hx hf hd
      have H := H.ext hx
      have hf19 : f 19 = va0 := hd 0 rfl
      obtain ⟨u3, rfl⟩ := up1 hf19
      refine Ca call22 (c_slices_Clone_Entry _ _ (H.arg ha0) hy3) ?_
      rintro v1 w4 hb4 ho1
      have H := H.addOwn hb4 ho1
      exact Nl ⟨hb4, _, rfl, OwnR.base ho1 hx.size⟩
     ·
      intro f wk hx hf hd
      have H := H.ext hx
      have hf3 : f 3 = (pt b1) := hf 3 rfl
      obtain ⟨u4, rfl⟩ := up1 hf3
      exact La [(vi a1.Day), (.bool a1.Found), (vi a1.Error)] ag74 (H.cell 0 rfl) (Nl ⟨Below.refl _ _, _, rfl, rfl⟩)
     ·
      intro f wk hx hf hd
      have H := H.ext hx
      have hf21 : f 21 = (.agg (Flat.cells a1).toArray) := hd 2 rfl
      obtain ⟨u5, rfl⟩ := up1 hf21
      exact Bs (α := GEntry) [(.agg (Flat.cells a1).toArray)] [a1] underlying38 el74 (Inv.start (w := _)) fun v2 w5 H hb5 => Nl ⟨hb5, _, rfl, (H.ownR 0 rfl).base hx.size⟩
    ·
     intro f wk hx hf hmd hd
     have ho20 : OwnR wd1 wk (f 20) 74 t3 := hd 1 rfl
     obtain ⟨v1, hf20⟩ : ∃ v1, f 20 = v1 := ⟨_, rfl⟩
     rw [hf20] at ho20
     have ho22 : OwnR wd1 wk (f 22) 74 ([a1] : List GEntry) := hd 3 rfl
     obtain ⟨v2, hf22⟩ : ∃ v2, f 22 = v2 := ⟨_, rfl⟩
     rw [hf22] at ho22
     have H := H.addOwn hx ho20
     obtain ⟨u6, rfl⟩ := up2 hf20 hf22
     obtain ⟨t4, ht4, hm⟩ := bind_some hm
     refine Ap 2 underlying38 el74 H rfl ho22.sliceR ht4 fun v3 w6 H => As v3 (As (vi 0) (Nl (Rt ?_)))
     obtain ⟨rfl, rfl⟩ := j2 hm
     exact ends2 results111 R R ⟨_, rfl, H.base, ⟨_, rfl, H.ownR 2 rfl⟩⟩

set_option maxRecDepth 20000 in
theorem c_station_session_enter {w0 : World} (X0 : Nat → Prop) (b0 : Nat) (va0_0 : Value) (va0_1 : Value) (va0_2 : Value) (va0_3 : Value) (va0_4 : Value) (a0 : GSession) (H0 : InvD X0 w0 w0 [boxI b0 61 (cI a0.inside va0_0 va0_1 va0_2 va0_3 va0_4), o3 va0_0 a0.inside.net.Rates, o92 va0_1 a0.inside.net.Sights, o70 va0_2 a0.inside.log, o3 va0_3 a0.inside.verdicts, o74 va0_4 a0.inside.ledger]) (hT : ∀ w', BelowX X0 w0 w' → EnvS prog 0 4 5 7 w') (a1 : GEntry) {r0 : Ref (GSession × ByteArray)} (hm : station_session_enter a0 a1 = some r0) :
  Calls prog 83 #[(pt b0), (.agg (Flat.cells a1).toArray)] w0 (PPost 87 X0 w0 r0 (fun r v L1 => ∃ u0 u1 u2 u3 u4 : Value, L1 = [boxI b0 61 (cI r.1.inside u0 u1 u2 u3 u4), o3 u0 r.1.inside.net.Rates, o92 u1 r.1.inside.net.Sights, o70 u2 r.1.inside.log, o3 u3 r.1.inside.verdicts, o74 u4 r.1.inside.ledger] ∧ v = (.string r.2))) := by
 unfold station_session_enter at hm
 refine calls_of_WP func83 rfl ntmps83 (Nat.le_of_ble_eq_true rfl) ?_
 have H := H0
 refine Sq (Rg (Bx [(vi a1.Day), (.bool a1.Found), (vi a1.Error)] H fun b1 w1 H hb1 => As (.string (bs [])) (Nl (Sq ?_))))
 obtain ⟨⟨t1, t2⟩, hy1, hm⟩ := bind_some hm
 have H := H.addGone
 refine W.drawD 11 [[], [0], [0, 1], [0, 1, 2], [0, 1, 2, 3], [], [0, 1, 2, 3, 4, 5], [0, 1, 2, 3, 4, 5, 6], [0, 1, 2, 3, 4, 5, 6, 7], [0, 1, 2, 3, 4, 5, 6, 7], [0, 1, 2, 3, 4, 5, 6, 7, 8]] [[1, 2, 3, 4, 6, 7, 8, 9, 10], [2, 3, 4, 6, 7, 8, 9, 10], [3, 4, 6, 7, 8, 9, 10], [4, 6, 7, 8, 9, 10], [6, 7, 8, 9, 10], [6, 7, 8, 9, 10], [7, 8, 9, 10], [8, 9, 10], [10], [], []] (fun S f w => ∃ v1 : Value, (f 0 = (pt b0) ∧ f 3 = (pt b1)) ∧ InvD X0 w0 w [boxI b0 61 (cI a0.inside va0_0 va0_1 va0_2 va0_3 va0_4), o3 va0_0 a0.inside.net.Rates, o92 va0_1 a0.inside.net.Sights, o70 va0_2 a0.inside.log, o3 va0_3 a0.inside.verdicts, o74 va0_4 a0.inside.ledger, boxI b1 74 [(vi a1.Day), (.bool a1.Found), (vi a1.Error)], cond (S 6) (o74 v1 t1) goneI] ∧ (S 0 = true → f 8 = (pt b0)) ∧ (S 1 = true → f 9 = (pt b0)) ∧ (S 2 = true → f 10 = (.pointer (some (Addr.add (Addr.mk b0 0 none) 0)))) ∧ (S 3 = true → f 11 = (.pointer (some (Addr.add (Addr.add (Addr.mk b0 0 none) 0) 15)))) ∧ (S 4 = true → f 12 = va0_4) ∧ (S 5 = true → f 13 = (.agg (Flat.cells a1).toArray)) ∧ (S 6 = true → f 14 = (.tuple #[v1, (vi t2)])) ∧ (S 7 = true → f 7 = (.tuple #[v1, (vi t2)])) ∧ (S 8 = true → f 15 = v1) ∧ (S 9 = true → f 16 = (vi t2)) ∧ (S 10 = true → f 5 = v1)) fol (by kernel_rfl) ?_ ?_ ?_
 ·
  exact fun d _ => ⟨.nilFunc, ⟨rfl, rfl⟩, H.ext (below_drawn d), nF, nF, nF, nF, nF, nF, nF, nF, nF, nF, nF⟩
 ·
  refine ⟨?_, ⟨?_, ⟨?_, ⟨?_, ⟨?_, ⟨?_, ⟨?_, ⟨?_, ⟨?_, ⟨?_, ⟨?_, trivial⟩⟩⟩⟩⟩⟩⟩⟩⟩⟩⟩
  ·
   rintro S f w hS - ⟨e1, e2, e3, e4, e6, e7, e8, e9, e10, -⟩ ⟨v1, k, H, q0, t⟩
   obtain ⟨u1, rfl⟩ := up1 k.1
   exact Mv (pt b0) (Nl ⟨v1, k, H, (fun _ => rfl), t⟩)
  ·
   rintro S f w hS ⟨e0, -⟩ ⟨e2, e3, e4, e6, e7, e8, e9, e10, -⟩ ⟨v1, k, H, q0, q1, t⟩
   obtain ⟨u2, rfl⟩ := up1 (q0 e0)
   exact Nk rfl (Nl ⟨v1, k, H, q0, (fun _ => rfl), t⟩)
  ·
   rintro S f w hS ⟨e0, e1, -⟩ ⟨e3, e4, e6, e7, e8, e9, e10, -⟩ ⟨v1, k, H, q0, q1, q2, t⟩
   obtain ⟨u3, rfl⟩ := up1 (q1 e1)
   exact Fa fd61_0 rfl (Nl ⟨v1, k, H, q0, q1, (fun _ => rfl), t⟩)
  ·
   rintro S f w hS ⟨e0, e1, e2, -⟩ ⟨e4, e6, e7, e8, e9, e10, -⟩ ⟨v1, k, H, q0, q1, q2, q3, t⟩
   obtain ⟨u4, rfl⟩ := up1 (q2 e2)
   exact Fa fd54_6 rfl (Nl ⟨v1, k, H, q0, q1, q2, (fun _ => rfl), t⟩)
  ·
   rintro S f w hS ⟨e0, e1, e2, e3, -⟩ ⟨e6, e7, e8, e9, e10, -⟩ ⟨v1, k, H, q0, q1, q2, q3, q4, t⟩
   obtain ⟨u5, rfl⟩ := up1 (q3 e3)
   exact Ld _ sc38 (H.cell 0 rfl 15 _ rfl) (Nl ⟨v1, k, H, q0, q1, q2, q3, (fun _ => rfl), t⟩)
  ·
   rintro S f w hS - ⟨e6, e7, e8, e9, e10, -⟩ ⟨v1, k, H, q0, q1, q2, q3, q4, q5, t⟩
   obtain ⟨u6, rfl⟩ := up1 k.2
   exact La [(vi a1.Day), (.bool a1.Found), (vi a1.Error)] ag74 (H.cell 6 rfl) (Nl ⟨v1, k, H, q0, q1, q2, q3, q4, (fun _ => rfl), t⟩)
  ·
   rintro S f w hS ⟨e0, e1, e2, e3, e4, e5, -⟩ ⟨e7, e8, e9, e10, -⟩ ⟨_, k, H, q0, q1, q2, q3, q4, q5, q6, q7, q8, q9, q10⟩
   obtain ⟨u7, rfl⟩ := up2 (q4 e4) (q5 e5)
   have H := H.cF 7 hS rfl
   refine Ca call111 (c_ledger_Added _ _ (H.own 5 rfl) a1 hy1) ?_
   rintro _ w2 hb2 ⟨v1, rfl, ho1⟩
   have H := H.addOwn hb2 ho1
   have H := H.pick [0, 1, 2, 3, 4, 5, 6, 8] [boxI b0 61 (cI a0.inside va0_0 va0_1 va0_2 va0_3 va0_4), o3 va0_0 a0.inside.net.Rates, o92 va0_1 a0.inside.net.Sights, o70 va0_2 a0.inside.log, o3 va0_3 a0.inside.verdicts, o74 va0_4 a0.inside.ledger, boxI b1 74 [(vi a1.Day), (.bool a1.Found), (vi a1.Error)], o74 v1 t1] rfl (by decide)
   exact Nl ⟨v1, k, H, q0, q1, q2, q3, q4, q5, (fun _ => rfl), (fun a => nT a e7), (fun a => nT a e8), q9, (fun a => nT a e10)⟩
  ·
   rintro S f w hS ⟨e0, e1, e2, e3, e4, e5, e6, -⟩ ⟨e8, e9, e10, -⟩ ⟨v1, k, H, q0, q1, q2, q3, q4, q5, q6, q7, t⟩
   obtain ⟨u8, rfl⟩ := up1 (q6 e6)
   exact Mv (.tuple #[v1, (vi t2)]) (Nl ⟨v1, k, H, q0, q1, q2, q3, q4, q5, q6, (fun _ => rfl), t⟩)
  ·
   rintro S f w hS ⟨e0, e1, e2, e3, e4, e5, e6, e7, -⟩ ⟨e10, -⟩ ⟨v1, k, H, q0, q1, q2, q3, q4, q5, q6, q7, q8, t⟩
   obtain ⟨u9, rfl⟩ := up1 (q7 e7)
   exact Xt v1 (Nl ⟨v1, k, H, q0, q1, q2, q3, q4, q5, q6, q7, (fun _ => rfl), t⟩)
  ·
   rintro S f w hS ⟨e0, e1, e2, e3, e4, e5, e6, e7, -⟩ - ⟨v1, k, H, q0, q1, q2, q3, q4, q5, q6, q7, q8, q9, q10⟩
   obtain ⟨u10, rfl⟩ := up1 (q7 e7)
   exact Xt (vi t2) (Nl ⟨v1, k, H, q0, q1, q2, q3, q4, q5, q6, q7, q8, (fun _ => rfl), q10⟩)
  ·
   rintro S f w hS ⟨e0, e1, e2, e3, e4, e5, e6, e7, e8, -⟩ - ⟨v1, k, H, q0, q1, q2, q3, q4, q5, q6, q7, q8, q9, q10⟩
   obtain ⟨u11, rfl⟩ := up1 (q8 e8)
   exact As v1 (Nl ⟨v1, k, H, q0, q1, q2, q3, q4, q5, q6, q7, q8, q9, (fun _ => rfl)⟩)
 ·
  rintro S f w ⟨e0, e1, e2, e3, e4, e5, e6, e7, e8, e9, e10, -⟩ ⟨v1, k, H, q0, q1, q2, q3, q4, q5, q6, q7, q8, q9, q10⟩
  have H : InvD X0 w0 w [boxI b0 61 (cI a0.inside va0_0 va0_1 va0_2 va0_3 va0_4), o3 va0_0 a0.inside.net.Rates, o92 va0_1 a0.inside.net.Sights, o70 va0_2 a0.inside.log, o3 va0_3 a0.inside.verdicts, o74 va0_4 a0.inside.ledger, boxI b1 74 [(vi a1.Day), (.bool a1.Found), (vi a1.Error)], o74 v1 t1] := (H.cT 7 e6 rfl)
  obtain ⟨u12, rfl⟩ := up3 k.1 (q10 e10) (q9 e9)
  refine As (vi t2) (Nl (Sq (Rg (Mv (vi t2) ?_))))
  rcases mustB_some hm with ⟨hc1, rfl⟩ | ⟨hc1, hm⟩
  · exact Cn call76 (c_station_needs_no hc1) (fun w' hb => ⟨rfl, (H.ext hb).baseX⟩)
  refine Ca call76 (c_station_needs_ok hc1) ?_
  rintro _ w3 hb3 rfl
  have H := H.ext hb3
  refine Nl (Sq (Rg (Mv (pt b0) (Mv v1 (Nk rfl (Fa fd61_0 rfl (Fa fd54_6 rfl (O.store 0 15 [v1] (cI a0.inside va0_0 va0_1 va0_2 va0_3 v1) sz38 H R R R R R (SliceR.cells1 (H.own 7 rfl)) ⟨⟨rfl, rfl⟩, rfl⟩ (one_cons (SliceR.one (H.own 7 rfl)) one_nil) fun w4 H => Nl (Sq (Rg (Mv v1 ?_)))))))))))
  refine Ln underlying38 (H.own 7 rfl) (Bs (α := Int) [(vi ((t1.length : Nat) : Int))] [((t1.length : Nat) : Int)] underlying26 el3 H fun v2 w5 H hb4 => ?_)
  obtain ⟨t3, hy2, hm⟩ := bind_some hm
  refine Ca call79 (c_station_said (hT _ H.baseX) _ _ _ (H.own 8 rfl) hy2) ?_
  rintro _ w6 hb5 rfl
  have H := H.ext hb5
  refine As (.string t3) (Nl (Rt ?_))
  obtain rfl : Ref.ok ((GSession.mk (GInside.mk a0.inside.mast a0.inside.day a0.inside.net a0.inside.log a0.inside.state a0.inside.verdicts t1 a0.inside.flags)), t3) = r0 := sj (show some (Ref.ok ((GSession.mk (GInside.mk a0.inside.mast a0.inside.day a0.inside.net a0.inside.log a0.inside.state a0.inside.verdicts t1 a0.inside.flags)), t3)) = some r0 from hm)
  exact ends1 results83 rfl ⟨_, _, rfl, H.pick [0, 1, 2, 3, 4, 7] [boxI b0 61 (cI a0.inside va0_0 va0_1 va0_2 va0_3 v1), o3 va0_0 a0.inside.net.Rates, o92 va0_1 a0.inside.net.Sights, o70 va0_2 a0.inside.log, o3 va0_3 a0.inside.verdicts, o74 v1 t1] rfl (by decide), va0_0, va0_1, va0_2, va0_3, v1, rfl, rfl⟩

set_option maxRecDepth 20000 in
theorem c_station_session_say {w0 : World} (X0 : Nat → Prop) (b0 : Nat) (va0_0 : Value) (va0_1 : Value) (va0_2 : Value) (va0_3 : Value) (va0_4 : Value) (a0 : GSession) (H0 : InvD X0 w0 w0 [boxI b0 61 (cI a0.inside va0_0 va0_1 va0_2 va0_3 va0_4), o3 va0_0 a0.inside.net.Rates, o92 va0_1 a0.inside.net.Sights, o70 va0_2 a0.inside.log, o3 va0_3 a0.inside.verdicts, o74 va0_4 a0.inside.ledger]) (hT : ∀ w', BelowX X0 w0 w' → EnvS prog 0 4 5 7 w') (va1 : Value) (a1 : (List ByteArray)) (ha1 : ∀ w', BelowX X0 w0 w' → SliceR w' va1 a1) {r0 : Ref (GSession × ByteArray)} (hm : station_session_say a0 a1 = some r0) :
  Calls prog 44 #[(pt b0), va1] w0 (PPost 87 X0 w0 r0 (fun r v L1 => ∃ u0 u1 u2 u3 u4 : Value, L1 = [boxI b0 61 (cI r.1.inside u0 u1 u2 u3 u4), o3 u0 r.1.inside.net.Rates, o92 u1 r.1.inside.net.Sights, o70 u2 r.1.inside.log, o3 u3 r.1.inside.verdicts, o74 u4 r.1.inside.ledger] ∧ v = (.string r.2))) := by
 unfold station_session_say at hm
 refine calls_of_WP func44 rfl ntmps44 (Nat.le_of_ble_eq_true rfl) ?_
 have H := H0
 refine Sq (Rg (As (.string (bs [])) (Nl (Sq ?_))))
 obtain ⟨t1, hy1, hm⟩ := bind_some hm
 obtain ⟨x1, hx1, hm⟩ := bind_some hm
 refine W.draw 11 (fun k v wk => match k with | 0 => v = (pt b0) | 1 => v = (pt b0) | 2 => v = (pt b0) | 3 => v = (.pointer (some (Addr.add (Addr.mk b0 0 none) 0))) | 4 => v = (.pointer (some (Addr.add (Addr.add (Addr.mk b0 0 none) 0) 6))) | 5 => v = (vi a0.inside.day) | 6 => v = va1 | 7 => OwnR w0 wk v 3 t1 | 8 => ∃ p1 : Addr, v = (.pointer (some p1)) ∧ ElemAt wk p1 x1 | 9 => v = (vi x1) | 10 => v = (.agg (Flat.cells (GEntry.mk a0.inside.day false x1)).toArray) | _ => True) (by intro k v w w' h hb; match k, h with | 0, h => exact h | 1, h => exact h | 2, h => exact h | 3, h => exact h | 4, h => exact h | 5, h => exact h | 6, h => exact h | 7, h => exact OwnR.mono h hb | 8, ⟨p, e, hp⟩ => exact ⟨p, e, hp.mono hb⟩ | 9, h => exact h | 10, h => exact h | _ + 11, h => exact h) fol (by kernel_rfl) ?_ ?_
 ·
  refine ⟨⟨⟨⟨⟨⟨⟨⟨⟨⟨⟨trivial, ?_⟩, ?_⟩, ?_⟩, ?_⟩, ?_⟩, ?_⟩, ?_⟩, ?_⟩, ?_⟩, ?_⟩, ?_⟩
  ·
   intro f wk hx hf hd
   have H := H.ext hx
   have hf0 : f 0 = (pt b0) := hf 0 rfl
   obtain ⟨u1, rfl⟩ := up1 hf0
   exact Mv (pt b0) (Nl ⟨Below.refl _ _, _, rfl, rfl⟩)
  ·
   intro f wk hx hf hd
   have H := H.ext hx
   have hf0 : f 0 = (pt b0) := hf 0 rfl
   obtain ⟨u2, rfl⟩ := up1 hf0
   exact Mv (pt b0) (Nl ⟨Below.refl _ _, _, rfl, rfl⟩)
  ·
   intro f wk hx hf hd
   have H := H.ext hx
   have hf6 : f 6 = (pt b0) := hd 1 rfl
   obtain ⟨u3, rfl⟩ := up1 hf6
   exact Nk rfl (Nl ⟨Below.refl _ _, _, rfl, rfl⟩)
  ·
   intro f wk hx hf hd
   have H := H.ext hx
   have hf7 : f 7 = (pt b0) := hd 2 rfl
   obtain ⟨u4, rfl⟩ := up1 hf7
   exact Fa fd61_0 rfl (Nl ⟨Below.refl _ _, _, rfl, rfl⟩)
  ·
   intro f wk hx hf hd
   have H := H.ext hx
   have hf8 : f 8 = (.pointer (some (Addr.add (Addr.mk b0 0 none) 0))) := hd 3 rfl
   obtain ⟨u5, rfl⟩ := up1 hf8
   exact Fa fd54_1 rfl (Nl ⟨Below.refl _ _, _, rfl, rfl⟩)
  ·
   intro f wk hx hf hd
   have H := H.ext hx
   have hf9 : f 9 = (.pointer (some (Addr.add (Addr.add (Addr.mk b0 0 none) 0) 6))) := hd 4 rfl
   obtain ⟨u6, rfl⟩ := up1 hf9
   exact Ld _ sc3 (H.cell 0 rfl 6 _ rfl) (Nl ⟨Below.refl _ _, _, rfl, rfl⟩)
  ·
   intro f wk hx hf hd
   have H := H.ext hx
   have hf1 : f 1 = va1 := hf 1 rfl
   obtain ⟨u7, rfl⟩ := up1 hf1
   exact Mv va1 (Nl ⟨Below.refl _ _, _, rfl, rfl⟩)
  ·
   intro f wk hx hf hd
   have H := H.ext hx
   have hf11 : f 11 = va1 := hd 6 rfl
   obtain ⟨u8, rfl⟩ := up1 hf11
   refine Ca call73 (c_station_values (hT _ H.baseX) _ _ (ha1 _ H.baseX) hy1) ?_
   rintro v1 w1 hb1 ho1
   have H := H.addOwn hb1 ho1
   exact Nl ⟨hb1, _, rfl, OwnR.base ho1 hx.size⟩
  ·
   intro f wk hx hf hd
   have H := H.ext hx
   have ho12 : OwnR w0 wk (f 12) 3 t1 := hd 7 rfl
   obtain ⟨v1, hf12⟩ : ∃ v1, f 12 = v1 := ⟨_, rfl⟩
   rw [hf12] at ho12
   obtain ⟨u9, rfl⟩ := up1 hf12
   exact Ia underlying26 sz3 ho12.sliceR hx1 fun p1 hp1 => Nl ⟨Below.refl _ _, _, rfl, ⟨_, rfl, hp1⟩⟩
  ·
   intro f wk hx hf hd
   have H := H.ext hx
   obtain ⟨p1, hf13, hp1⟩ : ∃ p1 : Addr, f 13 = (.pointer (some p1)) ∧ ElemAt wk p1 x1 := hd 8 rfl
   obtain ⟨u10, rfl⟩ := up1 hf13
   exact Ld _ sc3 (hp1.flat 0 _ rfl) (Nl ⟨Below.refl _ _, _, rfl, rfl⟩)
  ·
   intro f wk hx hf hd
   have H := H.ext hx
   have hf10 : f 10 = (vi a0.inside.day) := hd 5 rfl
   have hf14 : f 14 = (vi x1) := hd 9 rfl
   obtain ⟨u11, rfl⟩ := up2 hf10 hf14
   exact Bd (v := (.agg (Flat.cells (GEntry.mk a0.inside.day false x1)).toArray)) (fun w => bd74_0_2 _ _ w) rfl (Nl ⟨Below.refl _ _, _, rfl, rfl⟩)
 ·
  intro f wk hx hf hmd hd
  have hf0 : f 0 = (pt b0) := hf 0 rfl
  have hf5 : f 5 = (pt b0) := hd 0 rfl
  have hf15 : f 15 = (.agg (Flat.cells (GEntry.mk a0.inside.day false x1)).toArray) := hd 10 rfl
  have H := H.ext hx
  obtain ⟨u12, rfl⟩ := up3 hf0 hf5 hf15
  have HF : InvD _ _ _ ([] ++ [boxI b0 61 (cI a0.inside va0_0 va0_1 va0_2 va0_3 va0_4), o3 va0_0 a0.inside.net.Rates, o92 va0_1 a0.inside.net.Sights, o70 va0_2 a0.inside.log, o3 va0_3 a0.inside.verdicts, o74 va0_4 a0.inside.ledger]) := H
  rcases refB_some hm with ⟨e1, hy2, rfl⟩ | ⟨⟨t2, t3⟩, hy2, hm⟩
  · exact O.callFNo [] [boxI b0 61 (cI a0.inside va0_0 va0_1 va0_2 va0_3 va0_4), o3 va0_0 a0.inside.net.Rates, o92 va0_1 a0.inside.net.Sights, o70 va0_2 a0.inside.log, o3 va0_3 a0.inside.verdicts, o74 va0_4 a0.inside.ledger] HF call83 R R R (c_station_session_enter _ _ _ _ _ _ _ a0 HF.frame (fun _ hb => hT _ (HF.belowFX hb)) (GEntry.mk a0.inside.day false x1) hy2) (fun _ hb => ⟨rfl, hb⟩)
  refine O.callF [] [boxI b0 61 (cI a0.inside va0_0 va0_1 va0_2 va0_3 va0_4), o3 va0_0 a0.inside.net.Rates, o92 va0_1 a0.inside.net.Sights, o70 va0_2 a0.inside.log, o3 va0_3 a0.inside.verdicts, o74 va0_4 a0.inside.ledger] HF call83 R R R (c_station_session_enter _ _ _ _ _ _ _ a0 HF.frame (fun _ hb => hT _ (HF.belowFX hb)) (GEntry.mk a0.inside.day false x1) hy2) ?_
  rintro _ w2 _ H ⟨v2, v3, v4, v5, v6, rfl, rfl⟩
  refine As (.string t3) (Nl (Rt ?_))
  obtain rfl : Ref.ok (t2, t3) = r0 := sj (show some (Ref.ok (t2, t3)) = some r0 from hm)
  exact ends1 results44 rfl ⟨_, _, rfl, H.pick [0, 1, 2, 3, 4, 5] [boxI b0 61 (cI t2.inside v2 v3 v4 v5 v6), o3 v2 t2.inside.net.Rates, o92 v3 t2.inside.net.Sights, o70 v4 t2.inside.log, o3 v5 t2.inside.verdicts, o74 v6 t2.inside.ledger] rfl (by decide), v2, v3, v4, v5, v6, rfl, rfl⟩

theorem c_station_session_found {w0 : World} (X0 : Nat → Prop) (b0 : Nat) (va0_0 : Value) (va0_1 : Value) (va0_2 : Value) (va0_3 : Value) (va0_4 : Value) (a0 : GSession) (H0 : InvD X0 w0 w0 [boxI b0 61 (cI a0.inside va0_0 va0_1 va0_2 va0_3 va0_4), o3 va0_0 a0.inside.net.Rates, o92 va0_1 a0.inside.net.Sights, o70 va0_2 a0.inside.log, o3 va0_3 a0.inside.verdicts, o74 va0_4 a0.inside.ledger]) (hT : ∀ w', BelowX X0 w0 w' → EnvS prog 0 4 5 7 w') (va1 : Value) (a1 : (List ByteArray)) (ha1 : ∀ w', BelowX X0 w0 w' → SliceR w' va1 a1) {r0 : Ref (GSession × ByteArray)} (hm : station_session_found a0 a1 = some r0) :
  Calls prog 45 #[(pt b0), va1] w0 (PPost 87 X0 w0 r0 (fun r v L1 => ∃ u0 u1 u2 u3 u4 : Value, L1 = [boxI b0 61 (cI r.1.inside u0 u1 u2 u3 u4), o3 u0 r.1.inside.net.Rates, o92 u1 r.1.inside.net.Sights, o70 u2 r.1.inside.log, o3 u3 r.1.inside.verdicts, o74 u4 r.1.inside.ledger] ∧ v = (.string r.2))) := by
 unfold station_session_found at hm
 refine calls_of_WP func45 rfl ntmps45 (Nat.le_of_ble_eq_true rfl) ?_
 have H := H0
 refine Sq (Rg (As (.string (bs [])) (Nl (Sq (Rg (Mv va1 ?_))))))
 obtain ⟨t1, hy1, hm⟩ := bind_some hm
 refine Ca call73 (c_station_values (hT _ H.baseX) _ _ (ha1 _ H.baseX) hy1) ?_
 rintro v1 w1 hb1 ho1
 have H := H.addOwn hb1 ho1
 refine As v1 (Nl (Sq ?_))
 obtain ⟨x1, hx1, hm⟩ := bind_some hm
 obtain ⟨p1, hp1, hrp1⟩ := fix_indexAddr underlying26 sz3 (H.own 6 rfl) hx1
 refine W.drawN 8 (fun f => f 0 = (pt b0) ∧ f 5 = v1 ∧ f 10 = (vi x1) ∧ f 15 = (vi a0.inside.day)) fol (by kernel_rfl) ?_ ?_
 ·
  exact Pl (fun _ w8 _ hx => Mv v1 (Nl ⟨rfl, hx⟩)) (Pl (fun _ w8 _ hx => hrp1 R R R R (Nl ⟨rfl, hx⟩)) (Pl (fun _ w8 _ hx => by have hp1 := hp1.mono hx; exact Ld _ sc3 (hp1.flat 0 _ rfl) (Nl ⟨rfl, hx⟩)) (Pl (fun _ w8 _ hx => Mv (pt b0) (Nl ⟨rfl, hx⟩)) (Pl (fun _ w8 _ hx => Nk rfl (Nl ⟨rfl, hx⟩)) (Pl (fun _ w8 _ hx => Fa fd61_0 rfl (Nl ⟨rfl, hx⟩)) (Pl (fun _ w8 _ hx => Fa fd54_1 rfl (Nl ⟨rfl, hx⟩)) (Pl (fun _ w8 _ hx => by have H := H.ext hx; exact Ld _ sc3 (H.cell 0 rfl 6 _ rfl) (Nl ⟨rfl, hx⟩)) (PL.nil ⟨rfl, rfl, rfl, rfl⟩))))))))
 ·
  rintro f w ⟨hf0, hf5, hf10, hf15⟩ hmd hx
  have H := H.ext hx
  have hp1 := hp1.mono hx
  obtain ⟨u1, rfl⟩ := up4 hf0 hf5 hf10 hf15
  refine Le_ ?_
  rcases mustB_some hm with ⟨hc1, rfl⟩ | ⟨hc1, hm⟩
  · exact Cn call78 (c_station_must_no _ hc1) (fun w' hb => ⟨rfl, (H.ext hb).baseX⟩)
  refine Ca call78 (c_station_must_ok _ hc1) ?_
  rintro _ w2 hb2 rfl
  have hp1 := hp1.mono hb2
  have H := H.ext hb2
  refine Nl (Sq ?_)
  obtain ⟨x2, hx2, hm⟩ := bind_some hm
  obtain ⟨p2, hp2, hrp2⟩ := fix_indexAddr underlying26 sz3 (H.own 6 rfl) hx2
  obtain ⟨x3, hx3, hm⟩ := bind_some hm
  obtain ⟨p3, hp3, hrp3⟩ := fix_indexAddr underlying26 sz3 (H.own 6 rfl) hx3
  refine W.drawN 8 (fun f => f 0 = (pt b0) ∧ f 18 = (pt b0) ∧ f 25 = (.agg (Flat.cells (GEntry.mk x2 true x3)).toArray)) fol (by kernel_rfl) ?_ ?_
  ·
   exact Pl (fun _ w8 _ hx => Mv (pt b0) (Nl ⟨rfl, hx⟩)) (Pl (fun _ w8 _ hx => Mv v1 (Nl ⟨rfl, hx⟩)) (Pl (fun _ w8 _ hx => hrp2 R R R R (Nl ⟨rfl, hx⟩)) (Pl (fun _ w8 _ hx => by have hp2 := hp2.mono hx; exact Ld _ sc3 (hp2.flat 0 _ rfl) (Nl ⟨rfl, hx⟩)) (Pl (fun _ w8 _ hx => Mv v1 (Nl ⟨rfl, hx⟩)) (Pl (fun _ w8 _ hx => hrp3 R R R R (Nl ⟨rfl, hx⟩)) (Pl (fun _ w8 _ hx => by have hp3 := hp3.mono hx; exact Ld _ sc3 (hp3.flat 0 _ rfl) (Nl ⟨rfl, hx⟩)) (Pl (fun _ w8 _ hx => Bd (v := (.agg (Flat.cells (GEntry.mk x2 true x3)).toArray)) (fun w => bd74_0_1_2 _ _ _ w) rfl (Nl ⟨rfl, hx⟩)) (PL.nil ⟨rfl, rfl, rfl⟩))))))))
  ·
   rintro f w ⟨hf0, hf18, hf25⟩ hmd hx
   have H := H.ext hx
   have hp1 := hp1.mono hx
   have hp2 := hp2.mono hx
   have hp3 := hp3.mono hx
   obtain ⟨u2, rfl⟩ := up3 hf0 hf18 hf25
   have H := H.pick [6, 0, 1, 2, 3, 4, 5] [o3 v1 t1, boxI b0 61 (cI a0.inside va0_0 va0_1 va0_2 va0_3 va0_4), o3 va0_0 a0.inside.net.Rates, o92 va0_1 a0.inside.net.Sights, o70 va0_2 a0.inside.log, o3 va0_3 a0.inside.verdicts, o74 va0_4 a0.inside.ledger] rfl (by decide)
   have HF : InvD _ _ _ ([o3 v1 t1] ++ [boxI b0 61 (cI a0.inside va0_0 va0_1 va0_2 va0_3 va0_4), o3 va0_0 a0.inside.net.Rates, o92 va0_1 a0.inside.net.Sights, o70 va0_2 a0.inside.log, o3 va0_3 a0.inside.verdicts, o74 va0_4 a0.inside.ledger]) := H
   rcases refB_some hm with ⟨e1, hy2, rfl⟩ | ⟨⟨t2, t3⟩, hy2, hm⟩
   · exact O.callFNo [o3 v1 t1] [boxI b0 61 (cI a0.inside va0_0 va0_1 va0_2 va0_3 va0_4), o3 va0_0 a0.inside.net.Rates, o92 va0_1 a0.inside.net.Sights, o70 va0_2 a0.inside.log, o3 va0_3 a0.inside.verdicts, o74 va0_4 a0.inside.ledger] HF call83 R R R (c_station_session_enter _ _ _ _ _ _ _ a0 HF.frame (fun _ hb => hT _ (HF.belowFX hb)) (GEntry.mk x2 true x3) hy2) (fun _ hb => ⟨rfl, hb⟩)
   refine O.callF [o3 v1 t1] [boxI b0 61 (cI a0.inside va0_0 va0_1 va0_2 va0_3 va0_4), o3 va0_0 a0.inside.net.Rates, o92 va0_1 a0.inside.net.Sights, o70 va0_2 a0.inside.log, o3 va0_3 a0.inside.verdicts, o74 va0_4 a0.inside.ledger] HF call83 R R R (c_station_session_enter _ _ _ _ _ _ _ a0 HF.frame (fun _ hb => hT _ (HF.belowFX hb)) (GEntry.mk x2 true x3) hy2) ?_
   rintro _ w3 _ H ⟨v2, v3, v4, v5, v6, rfl, rfl⟩
   clear hp1
   clear hp2
   clear hp3
   refine As (.string t3) (Nl (Rt ?_))
   obtain rfl : Ref.ok (t2, t3) = r0 := sj (show some (Ref.ok (t2, t3)) = some r0 from hm)
   exact ends1 results45 rfl ⟨_, _, rfl, H.pick [1, 2, 3, 4, 5, 6] [boxI b0 61 (cI t2.inside v2 v3 v4 v5 v6), o3 v2 t2.inside.net.Rates, o92 v3 t2.inside.net.Sights, o70 v4 t2.inside.log, o3 v5 t2.inside.verdicts, o74 v6 t2.inside.ledger] rfl (by decide), v2, v3, v4, v5, v6, rfl, rfl⟩

theorem c_sight_clock_c1 {w0 : World} (a0 : Int) (pc0 : Addr) (vc0_0 : Value) (vc0_1 : Value) (c0 : GNet) (hc0 : ∀ j c, ([vc0_0, vc0_1] : List Value)[j]? = some c → w0.cell? (pc0.add j) = some c) (rc0_0 : SliceR w0 vc0_0 c0.Rates) (rc0_1 : SliceR w0 vc0_1 c0.Sights) {r0 : Bool} (hm : sight_clock_c1 a0 c0 = some r0) :
  Calls prog 205 #[(vi a0), (.pointer (some pc0))] w0 (Ret w0 fun _ v => v = (.bool r0)) := by
 unfold sight_clock_c1 at hm
 refine cW func205 ntmps205 ?_
 have H := Inv.start (w := w0)
 refine Sq (Rg (As (.bool false) (Nl (Sq (Rg (Mv (vi a0) (Fa fd29_0 rfl (Ld _ sc26 (cells_mono hc0 H.base 0 _ rfl) (Ln underlying26 (H.arg rc0_0) ?_)))))))))
 obtain ⟨t1, ht1, hm⟩ := bind_some hm
 refine Su ht1 ?_
 obtain ⟨t2, hy1, hm⟩ := bind_some hm
 refine Ca call58 (c_sight_within _ _ _ hy1) ?_
 rintro _ w1 hb1 rfl
 have H := H.ext hb1
 refine O.not R R R (As (.bool (!t2)) (Nl (Rt ?_)))
 obtain rfl := sj hm
 exact ends1 results205 rfl ⟨_, rfl, H.base, rfl⟩

theorem c_sight_clock {w0 : World} (va0_0 : Value) (va0_1 : Value) (a0 : GNet) (ha0_0 : SliceR w0 va0_0 a0.Rates) (ha0_1 : SliceR w0 va0_1 a0.Sights) (va1 : Value) (a1 : (List Int)) (ha1 : SliceR w0 va1 a1) {r0 : Int} (hm : sight_clock a0 a1 = some r0) :
  Calls prog 154 #[(.agg #[va0_0, va0_1]), va1] w0 (Ret w0 fun _ v => v = (vi r0)) := by
 unfold sight_clock at hm
 refine cW func154 ntmps154 ?_
 have H := Inv.start (w := w0)
 refine Sq (Rg (Bx [va0_0, va0_1] H fun b1 w1 H hb1 => As (vi 0) (Nl (Sq (Bk (Sq (Rg (La [va0_0, va0_1] ag29 (H.cell 0 rfl) ?_))))))))
 obtain ⟨t1, hy1, hm⟩ := bind_some hm
 refine Ca call38 (c_sight_Valid _ _ (GNet.mk a0.Rates a0.Sights) (H.arg ha0_0) (H.arg ha0_1) hy1) ?_
 rintro _ w2 hb2 rfl
 have H := H.ext hb2
 refine O.not R R R (As (.bool (!t1)) (Nl ?_))
 rcases ite_some hm with ⟨hc1, hm⟩ | ⟨hc1, hm⟩
 ·
  refine Ct (cb hc1) (Sq (Rg (As (vi 1) (Nl (Rt ?_)))))
  obtain rfl := sj hm
  exact ends1 results154 rfl ⟨_, rfl, H.base, rfl⟩
 ·
  refine Cf (cb hc1) (Sq (Rg (Mv va1 (Mf ?_))))
  obtain ⟨t2, hy2, hm⟩ := bind_some hm
  refine Ca call59 (c_slices_ContainsFunc_int _ _ (H.arg ha1) _ (fun x0 => sight_clock_c1 x0 (GNet.mk a0.Rates a0.Sights)) (fun w hw x0 _ hy => callsV_mk call205 (c_sight_clock_c1 x0 _ _ _ (GNet.mk a0.Rates a0.Sights) (cells_mono (H.cell 0 rfl) hw) ((H.arg ha0_0).mono hw) ((H.arg ha0_1).mono hw) hy)) hy2) ?_
  rintro _ w3 hb3 rfl
  have H := H.ext hb3
  refine As (.bool t2) (Nl ?_)
  rcases ite_some hm with ⟨hc2, hm⟩ | ⟨hc2, hm⟩
  ·
   refine Ct (cb hc2) (Sq (Rg (As (vi 5) (Nl (Rt ?_)))))
   obtain rfl := sj hm
   exact ends1 results154 rfl ⟨_, rfl, H.base, rfl⟩
  ·
   refine Cf (cb hc2) (Sk (Sq (Rg (As (vi 0) (Nl (Rt ?_))))))
   obtain rfl := sj hm
   exact ends1 results154 rfl ⟨_, rfl, H.base, rfl⟩

set_option maxRecDepth 20000 in
theorem c_sight_between {w0 : World} (va0_0 : Value) (va0_1 : Value) (a0 : GNet) (ha0_0 : SliceR w0 va0_0 a0.Rates) (ha0_1 : SliceR w0 va0_1 a0.Sights) (a1 : Int) (a2 : Int) (a3 : Int) {r0 : GSpan} {r1 : Bool} (hm : sight_between a0 a1 a2 a3 = some (r0, r1)) :
  Calls prog 113 #[(.agg #[va0_0, va0_1]), (vi a1), (vi a2), (vi a3)] w0 (Ret w0 fun _ v => v = .tuple #[(.agg (Flat.cells r0).toArray), (.bool r1)]) := by
 unfold sight_between at hm
 refine cW func113 ntmps113 ?_
 have H := Inv.start (w := w0)
 refine Sq (Rg (Bx [va0_0, va0_1] H fun b1 w1 H hb1 => Al [(vi 0), (vi 0)] ze144 H fun b2 w2 H hb2 => As (.bool false) (Nl (Sq (Sq (Rg (Mv (vi a1) (Mv (vi a2) (Eq_ ?_)))))))))
 refine Nl ?_
 rcases ite_some hm with ⟨hc1, hm⟩ | ⟨hc1, hm⟩
 ·
  refine Ct (cb hc1) (Sq (Rg (Bd (v := (.agg (Flat.cells (GSpan.mk 0 0)).toArray)) (fun w => bd144_  w) rfl (St 1 0 [(vi 0), (vi 0)] [(vi 0), (vi 0)] sz144 H R R (one_cons rfl (one_cons rfl one_nil)) fun w3 H => As (.bool true) (Nl (Rt ?_))))))
  obtain ⟨rfl, rfl⟩ := j2 hm
  exact ends2 results113 ⟨_, rfl, run_loadVar_agg ag144 rfl (H.cell 1 rfl)⟩ rfl ⟨_, rfl, H.base, rfl⟩
 ·
  refine Cf (cb hc1) (Sk (Sq (Rg (Mv (vi a1) (Mv (vi a3) ?_)))))
  obtain ⟨t1, hy1, hm⟩ := bind_some hm
  refine Ca call155 (c_sight_pointOf _ _ hy1) ?_
  rintro _ w4 hb3 rfl
  have H := H.ext hb3
  refine Mv (vi a2) (Mv (vi a3) ?_)
  obtain ⟨t2, hy2, hm⟩ := bind_some hm
  refine Ca call155 (c_sight_pointOf _ _ hy2) ?_
  rintro _ w5 hb4 rfl
  have H := H.ext hb4
  refine Al [(vi 0), (vi 0)] ze205 H fun b3 w6 H hb5 => Al [(vi 0), (vi 0)] ze205 H fun b4 w7 H hb6 => St 2 0 [(vi t1.clock), (vi t1.at_)] [(vi t1.clock), (vi t1.at_)] sz205 H R R (one_cons rfl (one_cons rfl one_nil)) fun w8 H => St 3 0 [(vi t2.clock), (vi t2.at_)] [(vi t2.clock), (vi t2.at_)] sz205 H R R (one_cons rfl (one_cons rfl one_nil)) fun w9 H => Nl (Sq (Rg (La [va0_0, va0_1] ag29 (H.cell 0 rfl) (La [(vi t1.clock), (vi t1.at_)] ag205 (H.cell 2 rfl) (La [(vi t2.clock), (vi t2.at_)] ag205 (H.cell 3 rfl) ?_)))))
  refine Bs (α := GPoint) [(.agg (Flat.cells t1).toArray), (.agg (Flat.cells t2).toArray)] [t1, t2] underlying199 el205 H fun v1 w10 H hb7 => ?_
  obtain ⟨⟨t3, t4⟩, hy3, hm⟩ := bind_some hm
  refine Ca call105 (c_sight_graphOf _ _ (GNet.mk a0.Rates a0.Sights) (H.arg ha0_0) (H.arg ha0_1) _ _ (H.own 4 rfl) hy3) ?_
  rintro _ w11 hb8 ⟨b5, m1, v2, sg1, rfl, hq1, hM1⟩
  have H := H.addAll hb8 hM1
  refine As (pt b5) (Nl (Sq (Rg (Mv (pt b5) (La [(vi t2.clock), (vi t2.at_)] ag205 (H.cell 3 rfl) (La [(vi t1.clock), (vi t1.at_)] ag205 (H.cell 2 rfl) ?_))))))
  obtain ⟨⟨t5, t6⟩, hy4, hm⟩ := bind_some hm
  refine Ca call156 (c_sight_graph_least _ _ _ t3 sg1 (H.cell 5 rfl) (H.map 6 rfl) (H.own 7 rfl) t2 t1 (least_perm hq1 hy4)) ?_
  rintro _ w12 hb9 rfl
  have H := H.ext hb9
  refine Mv (.tuple #[(vi t5), (.bool t6)]) (Xt (vi t5) (Xt (.bool t6) (As (vi t5) (As (.bool t6) (Nl (Sq (Rg (Mv (pt b5) (La [(vi t1.clock), (vi t1.at_)] ag205 (H.cell 2 rfl) (La [(vi t2.clock), (vi t2.at_)] ag205 (H.cell 3 rfl) ?_))))))))))
  obtain ⟨⟨t7, t8⟩, hy5, hm⟩ := bind_some hm
  refine Ca call156 (c_sight_graph_least _ _ _ t3 sg1 (H.cell 5 rfl) (H.map 6 rfl) (H.own 7 rfl) t1 t2 (least_perm hq1 hy5)) ?_
  rintro _ w13 hb10 rfl
  have H := H.ext hb10
  refine Mv (.tuple #[(vi t7), (.bool t8)]) (Xt (vi t7) (Xt (.bool t8) (As (vi t7) (As (.bool t8) (Nl (Sq (Rg (Mv (vi t7) ?_))))))))
  obtain ⟨t9, ht9, hm⟩ := bind_some hm
  refine O.neg R R R ht9 (Mv (vi t5) (Bd (v := (.agg (Flat.cells (GSpan.mk t9 t5)).toArray)) (fun w => bd144_0_1 _ _ w) rfl (Mv (.bool t6) (Mv (.bool t6) ?_))))
  refine Cu 2 (fun f w => f 8 = (pt b2) ∧ f 49 = (.agg (Flat.cells (GSpan.mk t9 t5)).toArray) ∧ f 53 = .bool (t6 && t8) ∧ Inv w0 w [boxI b1 29 [va0_0, va0_1], boxI b2 144 [(vi 0), (vi 0)], boxI b3 205 [(vi t1.clock), (vi t1.at_)], boxI b4 205 [(vi t2.clock), (vi t2.at_)], ownI (α := GPoint) v1 205 ([t1, t2] : List GPoint), boxI b5 203 [(.map (some m1)), v2], mapI (K := GPoint) (V := Int) m1 t3, o210 v2 sg1]) ?_ ?_
  ·
   rcases bool_ft t6 with hc2 | hc2
   ·
    exact Rs (i := 51) (v := .bool false) (cb hc2) (Sp (Pf (.bool false) (Nl ⟨rfl, rfl, cb (and_f hc2), H⟩)))
   ·
    exact Rs (i := 51) (v := .bool true) (cb hc2) (Mv (.bool t8) (Pt (.bool t8) (Nl ⟨rfl, rfl, cb (and_t hc2), H⟩)))
  ·
   rintro f w ⟨hf8, hf49, hf53, H⟩
   obtain ⟨u1, rfl⟩ := up3 hf8 hf49 hf53
   refine St 1 0 [(vi t9), (vi t5)] [(vi t9), (vi t5)] sz144 H R R (one_cons rfl (one_cons rfl one_nil)) fun w14 H => As (.bool (t6 && t8)) (Nl (Rt ?_))
   obtain ⟨rfl, rfl⟩ := j2 hm
   exact ends2 results113 ⟨_, rfl, run_loadVar_agg ag144 rfl (H.cell 1 rfl)⟩ rfl ⟨_, rfl, H.base, rfl⟩

set_option maxRecDepth 20000 in
theorem c_sight_Between {w0 : World} (va0_0 : Value) (va0_1 : Value) (a0 : GNet) (ha0_0 : SliceR w0 va0_0 a0.Rates) (ha0_1 : SliceR w0 va0_1 a0.Sights) (a1 : Int) (a2 : Int) (a3 : Int) {r0 : GSpan} {r1 : Int} (hm : sight_Between a0 a1 a2 a3 = some (r0, r1)) :
  Calls prog 112 #[(.agg #[va0_0, va0_1]), (vi a1), (vi a2), (vi a3)] w0 (Ret w0 fun _ v => v = .tuple #[(.agg (Flat.cells r0).toArray), (vi r1)]) := by
 unfold sight_Between at hm
 refine cW func112 ntmps112 ?_
 have H := Inv.start (w := w0)
 refine Sq (Rg (Bx [va0_0, va0_1] H fun b1 w1 H hb1 => Al [(vi 0), (vi 0)] ze144 H fun b2 w2 H hb2 => As (vi 0) (Nl (Sq (Sq (Rg (La [va0_0, va0_1] ag29 (H.cell 0 rfl) (Mv (vi a1) (Mv (vi a2) ?_)))))))))
 refine Bs (α := Int) [(vi a1), (vi a2)] [a1, a2] underlying26 el3 H fun v1 w3 H hb3 => ?_
 obtain ⟨t1, hy1, hm⟩ := bind_some hm
 refine Ca call154 (c_sight_clock _ _ (GNet.mk a0.Rates a0.Sights) (H.arg ha0_0) (H.arg ha0_1) _ _ (H.own 2 rfl) hy1) ?_
 rintro _ w4 hb4 rfl
 have H := H.ext hb4
 refine As (vi t1) (Nl (Sq (Rg (Mv (vi t1) (Ne_ (Nl ?_))))))
 rcases ite_some hm with ⟨hc1, hm⟩ | ⟨hc1, hm⟩
 ·
  refine Ct (cb hc1) (Sq (Rg (Bd (v := (.agg (Flat.cells (GSpan.mk 0 0)).toArray)) (fun w => bd144_  w) rfl (Mv (vi t1) (St 1 0 [(vi 0), (vi 0)] [(vi 0), (vi 0)] sz144 H R R (one_cons rfl (one_cons rfl one_nil)) fun w5 H => As (vi t1) (Nl (Rt ?_)))))))
  obtain ⟨rfl, rfl⟩ := j2 hm
  exact ends2 results112 ⟨_, rfl, run_loadVar_agg ag144 rfl (H.cell 1 rfl)⟩ rfl ⟨_, rfl, H.base, rfl⟩
 ·
  refine Cf (cb hc1) (Sk (Sq (Sq (Rg (Mv (vi a3) ?_)))))
  obtain ⟨t2, hy2, hm⟩ := bind_some hm
  refine Ca call58 (c_sight_within _ _ _ hy2) ?_
  rintro _ w6 hb5 rfl
  have H := H.ext hb5
  refine O.not R R R (Nl ?_)
  rcases ite_some hm with ⟨hc2, hm⟩ | ⟨hc2, hm⟩
  ·
   refine Ct (cb hc2) (Sq (Rg (Bd (v := (.agg (Flat.cells (GSpan.mk 0 0)).toArray)) (fun w => bd144_  w) rfl (St 1 0 [(vi 0), (vi 0)] [(vi 0), (vi 0)] sz144 H R R (one_cons rfl (one_cons rfl one_nil)) fun w7 H => As (vi 7) (Nl (Rt ?_))))))
   obtain ⟨rfl, rfl⟩ := j2 hm
   exact ends2 results112 ⟨_, rfl, run_loadVar_agg ag144 rfl (H.cell 1 rfl)⟩ rfl ⟨_, rfl, H.base, rfl⟩
  ·
   refine Cf (cb hc2) (Sk (Sq (Sq (Rg (La [va0_0, va0_1] ag29 (H.cell 0 rfl) ?_)))))
   obtain ⟨⟨t3, t4⟩, hy3, hm⟩ := bind_some hm
   refine Ca call105 (c_sight_graphOf _ _ (GNet.mk a0.Rates a0.Sights) (H.arg ha0_0) (H.arg ha0_1) _ _ (SliceR.nil (α := GPoint)) hy3) ?_
   rintro _ w8 hb6 ⟨b3, m1, v2, sg1, rfl, hq1, hM1⟩
   have H := H.addAll hb6 hM1
   obtain ⟨⟨t5, t6⟩, hy4, hm⟩ := bind_some hm
   refine Ca call106 (c_sight_graph_circle _ _ _ t3 sg1 (H.cell 3 rfl) (H.map 4 rfl) (H.own 5 rfl) (circle_perm hq1 hy4)) ?_
   rintro v3 w9 hb7 ⟨ho1, hq2⟩
   have H := H.addOwn hb7 ho1
   refine O.neqNilB underlying26 hq2 R R R R (Nl ?_)
   rcases ite_some hm with ⟨hc3, hm⟩ | ⟨hc3, hm⟩
   ·
    refine Ct (cb hc3) (Sq (Rg (Bd (v := (.agg (Flat.cells (GSpan.mk 0 0)).toArray)) (fun w => bd144_  w) rfl (St 1 0 [(vi 0), (vi 0)] [(vi 0), (vi 0)] sz144 H R R (one_cons rfl (one_cons rfl one_nil)) fun w10 H => As (vi 9) (Nl (Rt ?_))))))
    obtain ⟨rfl, rfl⟩ := j2 hm
    exact ends2 results112 ⟨_, rfl, run_loadVar_agg ag144 rfl (H.cell 1 rfl)⟩ rfl ⟨_, rfl, H.base, rfl⟩
   ·
    refine Cf (cb hc3) (Sk (Sq (Rg (La [va0_0, va0_1] ag29 (H.cell 0 rfl) (Mv (vi a1) (Mv (vi a2) (Mv (vi a3) ?_)))))))
    obtain ⟨⟨t7, t8⟩, hy5, hm⟩ := bind_some hm
    refine Ca call113 (c_sight_between _ _ (GNet.mk a0.Rates a0.Sights) (H.arg ha0_0) (H.arg ha0_1) _ _ _ hy5) ?_
    rintro _ w11 hb8 rfl
    have H := H.ext hb8
    refine Mv (.tuple #[(.agg (Flat.cells t7).toArray), (.bool t8)]) (Xt (.agg (Flat.cells t7).toArray) (Xt (.bool t8) (Al [(vi 0), (vi 0)] ze144 H fun b4 w12 H hb9 => St 7 0 [(vi t7.Lo), (vi t7.Hi)] [(vi t7.Lo), (vi t7.Hi)] sz144 H R R (one_cons rfl (one_cons rfl one_nil)) fun w13 H => As (.bool t8) (Nl (Sq (Sq (Rg (Mv (.bool t8) (O.not R R R ?_)))))))))
    refine Nl ?_
    rcases ite_some hm with ⟨hc4, hm⟩ | ⟨hc4, hm⟩
    ·
     refine Ct (cb hc4) (Sq (Rg (Bd (v := (.agg (Flat.cells (GSpan.mk 0 0)).toArray)) (fun w => bd144_  w) rfl (St 1 0 [(vi 0), (vi 0)] [(vi 0), (vi 0)] sz144 H R R (one_cons rfl (one_cons rfl one_nil)) fun w14 H => As (vi 8) (Nl (Rt ?_))))))
     obtain ⟨rfl, rfl⟩ := j2 hm
     exact ends2 results112 ⟨_, rfl, run_loadVar_agg ag144 rfl (H.cell 1 rfl)⟩ rfl ⟨_, rfl, H.base, rfl⟩
    ·
     refine Cf (cb hc4) (Sk (Sq (Rg (La [(vi t7.Lo), (vi t7.Hi)] ag144 (H.cell 7 rfl) (St 1 0 [(vi t7.Lo), (vi t7.Hi)] [(vi t7.Lo), (vi t7.Hi)] sz144 H R R (one_cons rfl (one_cons rfl one_nil)) fun w15 H => As (vi 0) (Nl (Rt ?_)))))))
     obtain ⟨rfl, rfl⟩ := j2 hm
     exact ends2 results112 ⟨_, rfl, run_loadVar_agg ag144 rfl (H.cell 1 rfl)⟩ rfl ⟨_, rfl, H.base, rfl⟩

theorem c_sight_Error {w0 : World} (va0_0 : Value) (va0_1 : Value) (a0 : GNet) (ha0_0 : SliceR w0 va0_0 a0.Rates) (ha0_1 : SliceR w0 va0_1 a0.Sights) (a1 : Int) (a2 : Int) {r0 : GSpan} {r1 : Int} (hm : sight_Error a0 a1 a2 = some (r0, r1)) :
  Calls prog 84 #[(.agg #[va0_0, va0_1]), (vi a1), (vi a2)] w0 (Ret w0 fun _ v => v = .tuple #[(.agg (Flat.cells r0).toArray), (vi r1)]) := by
 unfold sight_Error at hm
 refine cW func84 ntmps84 ?_
 have H := Inv.start (w := w0)
 refine Sq (Rg (Bx [va0_0, va0_1] H fun b1 w1 H hb1 => Al [(vi 0), (vi 0)] ze144 H fun b2 w2 H hb2 => As (vi 0) (Nl (Sq (Rg (La [va0_0, va0_1] ag29 (H.cell 0 rfl) (Mv (vi a1) (Mv (vi a2) ?_))))))))
 obtain ⟨⟨t1, t2⟩, hy1, hm⟩ := bind_some hm
 refine Ca call112 (c_sight_Between _ _ (GNet.mk a0.Rates a0.Sights) (H.arg ha0_0) (H.arg ha0_1) _ _ _ hy1) ?_
 rintro _ w3 hb3 rfl
 have H := H.ext hb3
 refine Xt (.agg (Flat.cells t1).toArray) (Xt (vi t2) (St 1 0 [(vi t1.Lo), (vi t1.Hi)] [(vi t1.Lo), (vi t1.Hi)] sz144 H R R (one_cons rfl (one_cons rfl one_nil)) fun w4 H => As (vi t2) (Nl (Rt ?_))))
 obtain ⟨rfl, rfl⟩ := j2 hm
 exact ends2 results84 ⟨_, rfl, run_loadVar_agg ag144 rfl (H.cell 1 rfl)⟩ rfl ⟨_, rfl, H.base, rfl⟩

set_option maxRecDepth 20000 in
theorem c_station_session_bounds {w0 : World} (hT : EnvS prog 0 4 5 7 w0) (pa0 : Addr) (va0_2 : Value) (va0_3 : Value) (va0_4 : Value) (va0_6 : Value) (va0_7 : Value) (a0 : GSession) (ha0 : ∀ j c, ((cI a0.inside va0_2 va0_3 va0_4 va0_6 va0_7) : List Value)[j]? = some c → w0.cell? (pa0.add j) = some c) (ra0_2 : SliceR w0 va0_2 a0.inside.net.Rates) (ra0_3 : SliceR w0 va0_3 a0.inside.net.Sights) (ra0_4 : SliceR w0 va0_4 a0.inside.log) (ra0_6 : SliceR w0 va0_6 a0.inside.verdicts) (ra0_7 : SliceR w0 va0_7 a0.inside.ledger) (va1 : Value) (a1 : (List ByteArray)) (ha1 : SliceR w0 va1 a1) {r0 : Ref (ByteArray)} (hm : station_session_bounds a0 a1 = some r0) :
  Calls prog 46 #[(.pointer (some pa0)), va1] w0 (PRet 87 w0 r0 fun r _ v => v = (.string r)) := by
 unfold station_session_bounds at hm
 refine calls_of_WP func46 rfl ntmps46 (Nat.le_of_ble_eq_true rfl) ?_
 have H := Inv.start (w := w0)
 refine Sq (Rg (As (.string (bs [])) (Nl (Sq (Rg (Mv va1 ?_))))))
 obtain ⟨t1, hy1, hm⟩ := bind_some hm
 refine Ca call73 (c_station_values (hT.mono H.base) _ _ (H.arg ha1) hy1) ?_
 rintro v1 w1 hb1 ho1
 have H := H.addOwn hb1 ho1
 refine As v1 (Nl (Sq ?_))
 obtain ⟨x1, hx1, hm⟩ := bind_some hm
 obtain ⟨x2, hx2, hm⟩ := bind_some hm
 rcases refB_some hm with ⟨e1, hy2, rfl⟩ | ⟨t2, hy2, hm⟩
 ·
  have H := H.addGone
  refine W.drawD 19 [[], [0], [0, 1], [0, 1, 2], [0, 1, 2, 3], [], [5], [5, 6], [], [], [9], [9, 10], [8, 9, 10, 11], [0, 1, 2, 3, 4, 5, 6, 7, 8, 9, 10, 11, 12], [0, 1, 2, 3, 4, 5, 6, 7, 8, 9, 10, 11, 12, 13], [0, 1, 2, 3, 4, 5, 6, 7, 8, 9, 10, 11, 12, 13, 14], [0, 1, 2, 3, 4, 5, 6, 7, 8, 9, 10, 11, 12, 13, 14], [], [0, 1, 2, 3, 4, 5, 6, 7, 8, 9, 10, 11, 12, 13, 14, 15, 17]] [[1, 2, 3, 4, 13, 14, 15, 16, 18], [2, 3, 4, 13, 14, 15, 16, 18], [3, 4, 13, 14, 15, 16, 18], [4, 13, 14, 15, 16, 18], [13, 14, 15, 16, 18], [6, 7, 13, 14, 15, 16, 18], [7, 13, 14, 15, 16, 18], [13, 14, 15, 16, 18], [12, 13, 14, 15, 16, 18], [10, 11, 12, 13, 14, 15, 16, 18], [11, 12, 13, 14, 15, 16, 18], [12, 13, 14, 15, 16, 18], [13, 14, 15, 16, 18], [14, 15, 16, 18], [15, 16, 18], [18], [], [18], []] (fun S f w => ∃ p1 : Addr, ∃ p2 : Addr, ∃ b1 : Nat, (f 0 = (.pointer (some pa0)) ∧ f 5 = v1) ∧ Inv w0 w [o3 v1 t1, cond (S 17) (boxI b1 144 [(vi 0), (vi 0)]) goneI] ∧ (S 0 = true → f 11 = (.pointer (some pa0))) ∧ (S 1 = true → f 12 = (.pointer (some pa0))) ∧ (S 2 = true → f 13 = (.pointer (some (Addr.add pa0 0)))) ∧ (S 3 = true → f 14 = (.pointer (some (Addr.add (Addr.add pa0 0) 7)))) ∧ (S 4 = true → f 15 = (.agg #[va0_2, va0_3])) ∧ (S 5 = true → f 16 = v1) ∧ (S 6 = true → f 17 = (.pointer (some p1))) ∧ (S 7 = true → f 18 = (vi x1)) ∧ (S 8 = true → f 19 = (.pointer (some pa0))) ∧ (S 9 = true → f 20 = v1) ∧ (S 10 = true → f 21 = (.pointer (some p2))) ∧ (S 11 = true → f 22 = (vi x2)) ∧ (S 17 = true → f 6 = (pt b1)) ∧ (S 6 = true → (ElemAt w p1 x1)) ∧ (S 10 = true → (ElemAt w p2 x2)) ∧ S 12 = false) fol (by kernel_rfl) ?_ ?_ ?_
  ·
   exact fun d _ => ⟨⟨0, 0, none⟩, ⟨0, 0, none⟩, 0, ⟨rfl, rfl⟩, H.ext (below_drawn d), nF, nF, nF, nF, nF, nF, nF, nF, nF, nF, nF, nF, nF, nF, nF, rfl⟩
  ·
   refine ⟨?_, ⟨?_, ⟨?_, ⟨?_, ⟨?_, ⟨?_, ⟨?_, ⟨?_, ⟨?_, ⟨?_, ⟨?_, ⟨?_, ⟨?_, ⟨?_, ⟨?_, ⟨?_, ⟨?_, ⟨?_, ⟨?_, trivial⟩⟩⟩⟩⟩⟩⟩⟩⟩⟩⟩⟩⟩⟩⟩⟩⟩⟩⟩
   ·
    rintro S f w hS - ⟨e1, e2, e3, e4, e13, e14, e15, e16, e18, -⟩ ⟨p1, p2, b1, k, H, q0, t⟩
    obtain ⟨u1, rfl⟩ := up1 k.1
    exact Mv (.pointer (some pa0)) (Nl ⟨p1, p2, b1, k, H, (fun _ => rfl), t⟩)
   ·
    rintro S f w hS ⟨e0, -⟩ ⟨e2, e3, e4, e13, e14, e15, e16, e18, -⟩ ⟨p1, p2, b1, k, H, q0, q1, t⟩
    obtain ⟨u2, rfl⟩ := up1 (q0 e0)
    exact Nk rfl (Nl ⟨p1, p2, b1, k, H, q0, (fun _ => rfl), t⟩)
   ·
    rintro S f w hS ⟨e0, e1, -⟩ ⟨e3, e4, e13, e14, e15, e16, e18, -⟩ ⟨p1, p2, b1, k, H, q0, q1, q2, t⟩
    obtain ⟨u3, rfl⟩ := up1 (q1 e1)
    exact Fa fd61_0 rfl (Nl ⟨p1, p2, b1, k, H, q0, q1, (fun _ => rfl), t⟩)
   ·
    rintro S f w hS ⟨e0, e1, e2, -⟩ ⟨e4, e13, e14, e15, e16, e18, -⟩ ⟨p1, p2, b1, k, H, q0, q1, q2, q3, t⟩
    obtain ⟨u4, rfl⟩ := up1 (q2 e2)
    exact Fa fd54_2 rfl (Nl ⟨p1, p2, b1, k, H, q0, q1, q2, (fun _ => rfl), t⟩)
   ·
    rintro S f w hS ⟨e0, e1, e2, e3, -⟩ ⟨e13, e14, e15, e16, e18, -⟩ ⟨p1, p2, b1, k, H, q0, q1, q2, q3, q4, t⟩
    obtain ⟨u5, rfl⟩ := up1 (q3 e3)
    exact La [va0_2, va0_3] ag29 (cells_part 7 2 (cells_mono ha0 H.base) rfl) (Nl ⟨p1, p2, b1, k, H, q0, q1, q2, q3, (fun _ => rfl), t⟩)
   ·
    rintro S f w hS - ⟨e6, e7, e13, e14, e15, e16, e18, -⟩ ⟨p1, p2, b1, k, H, q0, q1, q2, q3, q4, q5, t⟩
    obtain ⟨u6, rfl⟩ := up1 k.2
    exact Mv v1 (Nl ⟨p1, p2, b1, k, H, q0, q1, q2, q3, q4, (fun _ => rfl), t⟩)
   ·
    rintro S f w hS ⟨e5, -⟩ ⟨e7, e13, e14, e15, e16, e18, -⟩ ⟨_, p2, b1, k, H, q0, q1, q2, q3, q4, q5, q6, q7, q8, q9, q10, q11, q17, Fhp1, t⟩
    obtain ⟨u7, rfl⟩ := up1 (q5 e5)
    exact Ia underlying26 sz3 (H.own 0 rfl) hx1 fun p1 hp1 => Nl ⟨p1, p2, b1, k, H, q0, q1, q2, q3, q4, q5, (fun _ => rfl), q7, q8, q9, q10, q11, q17, (fun _ => hp1), t⟩
   ·
    rintro S f w hS ⟨e5, e6, -⟩ ⟨e13, e14, e15, e16, e18, -⟩ ⟨p1, p2, b1, k, H, q0, q1, q2, q3, q4, q5, q6, q7, q8, q9, q10, q11, q17, Fhp1, t⟩
    obtain ⟨u8, rfl⟩ := up1 (q6 e6)
    have hp1 := Fhp1 e6
    exact Ld _ sc3 (hp1.flat 0 _ rfl) (Nl ⟨p1, p2, b1, k, H, q0, q1, q2, q3, q4, q5, q6, (fun _ => rfl), q8, q9, q10, q11, q17, Fhp1, t⟩)
   ·
    rintro S f w hS - ⟨e12, e13, e14, e15, e16, e18, -⟩ ⟨p1, p2, b1, k, H, q0, q1, q2, q3, q4, q5, q6, q7, q8, t⟩
    obtain ⟨u9, rfl⟩ := up1 k.1
    exact Mv (.pointer (some pa0)) (Nl ⟨p1, p2, b1, k, H, q0, q1, q2, q3, q4, q5, q6, q7, (fun _ => rfl), t⟩)
   ·
    rintro S f w hS - ⟨e10, e11, e12, e13, e14, e15, e16, e18, -⟩ ⟨p1, p2, b1, k, H, q0, q1, q2, q3, q4, q5, q6, q7, q8, q9, t⟩
    obtain ⟨u10, rfl⟩ := up1 k.2
    exact Mv v1 (Nl ⟨p1, p2, b1, k, H, q0, q1, q2, q3, q4, q5, q6, q7, q8, (fun _ => rfl), t⟩)
   ·
    rintro S f w hS ⟨e9, -⟩ ⟨e11, e12, e13, e14, e15, e16, e18, -⟩ ⟨p1, _, b1, k, H, q0, q1, q2, q3, q4, q5, q6, q7, q8, q9, q10, q11, q17, Fhp1, Fhp2, P⟩
    obtain ⟨u11, rfl⟩ := up1 (q9 e9)
    exact Ia underlying26 sz3 (H.own 0 rfl) hx2 fun p2 hp2 => Nl ⟨p1, p2, b1, k, H, q0, q1, q2, q3, q4, q5, q6, q7, q8, q9, (fun _ => rfl), q11, q17, Fhp1, (fun _ => hp2), P⟩
   ·
    rintro S f w hS ⟨e9, e10, -⟩ ⟨e12, e13, e14, e15, e16, e18, -⟩ ⟨p1, p2, b1, k, H, q0, q1, q2, q3, q4, q5, q6, q7, q8, q9, q10, q11, q17, Fhp1, Fhp2, P⟩
    obtain ⟨u12, rfl⟩ := up1 (q10 e10)
    have hp2 := Fhp2 e10
    exact Ld _ sc3 (hp2.flat 0 _ rfl) (Nl ⟨p1, p2, b1, k, H, q0, q1, q2, q3, q4, q5, q6, q7, q8, q9, q10, (fun _ => rfl), q17, Fhp1, Fhp2, P⟩)
   ·
    rintro S f w hS ⟨e8, e9, e10, e11, -⟩ ⟨e13, e14, e15, e16, e18, -⟩ ⟨p1, p2, b1, k, H, q0, q1, q2, q3, q4, q5, q6, q7, q8, q9, q10, q11, q17, Fhp1, Fhp2, P⟩
    obtain ⟨u13, rfl⟩ := up2 (q8 e8) (q11 e11)
    exact Cn call74 (c_station_session_time _ _ _ _ _ _ (GSession.mk (GInside.mk a0.inside.mast a0.inside.day (GNet.mk a0.inside.net.Rates a0.inside.net.Sights) a0.inside.log a0.inside.state a0.inside.verdicts a0.inside.ledger a0.inside.flags)) (cells_mono ha0 H.base) (H.arg ra0_2) (H.arg ra0_3) (H.arg ra0_4) (H.arg ra0_6) (H.arg ra0_7) _ hy2) (fun w' hb => ⟨rfl, (H.ext hb).base⟩)
   ·
    rintro S f w hS ⟨e0, e1, e2, e3, e4, e5, e6, e7, e8, e9, e10, e11, e12, -⟩ ⟨e14, e15, e16, e18, -⟩ ⟨p1, p2, b1, k, H, q0, q1, q2, q3, q4, q5, q6, q7, q8, q9, q10, q11, q17, Fhp1, Fhp2, P⟩
    exact nT e12 P
   ·
    rintro S f w hS ⟨e0, e1, e2, e3, e4, e5, e6, e7, e8, e9, e10, e11, e12, e13, -⟩ ⟨e15, e16, e18, -⟩ ⟨p1, p2, b1, k, H, q0, q1, q2, q3, q4, q5, q6, q7, q8, q9, q10, q11, q17, Fhp1, Fhp2, P⟩
    exact nT e12 P
   ·
    rintro S f w hS ⟨e0, e1, e2, e3, e4, e5, e6, e7, e8, e9, e10, e11, e12, e13, e14, -⟩ ⟨e18, -⟩ ⟨p1, p2, b1, k, H, q0, q1, q2, q3, q4, q5, q6, q7, q8, q9, q10, q11, q17, Fhp1, Fhp2, P⟩
    exact nT e12 P
   ·
    rintro S f w hS ⟨e0, e1, e2, e3, e4, e5, e6, e7, e8, e9, e10, e11, e12, e13, e14, -⟩ - ⟨p1, p2, b1, k, H, q0, q1, q2, q3, q4, q5, q6, q7, q8, q9, q10, q11, q17, Fhp1, Fhp2, P⟩
    exact nT e12 P
   ·
    rintro S f w hS - ⟨e18, -⟩ ⟨p1, p2, _, k, H, q0, q1, q2, q3, q4, q5, q6, q7, q8, q9, q10, q11, q17, Fhp1, Fhp2, P⟩
    have H := H.cF 1 hS rfl
    refine Al [(vi 0), (vi 0)] ze144 H fun b1 w4 H hb4 => ?_
    have H := H.pick [0, 2] [o3 v1 t1, boxI b1 144 [(vi 0), (vi 0)]] rfl (by decide)
    exact Nl ⟨p1, p2, b1, k, H, q0, q1, q2, q3, q4, q5, q6, q7, q8, q9, q10, q11, (fun _ => rfl), (fun g0 => (Fhp1 g0).mono hb4), (fun g0 => (Fhp2 g0).mono hb4), P⟩
   ·
    rintro S f w hS ⟨e0, e1, e2, e3, e4, e5, e6, e7, e8, e9, e10, e11, e12, e13, e14, e15, e17, -⟩ - ⟨p1, p2, b1, k, H, q0, q1, q2, q3, q4, q5, q6, q7, q8, q9, q10, q11, q17, Fhp1, Fhp2, P⟩
    exact nT e12 P
  ·
   rintro S f w ⟨e0, e1, e2, e3, e4, e5, e6, e7, e8, e9, e10, e11, e12, e13, e14, e15, e16, e17, e18, -⟩ ⟨p1, p2, b1, k, H, q0, q1, q2, q3, q4, q5, q6, q7, q8, q9, q10, q11, q17, Fhp1, Fhp2, P⟩
   exact nT e12 P
 ·
  obtain ⟨⟨t3, t4⟩, hy3, hm⟩ := bind_some hm
  have H := H.addGone
  refine W.drawD 19 [[], [0], [0, 1], [0, 1, 2], [0, 1, 2, 3], [], [5], [5, 6], [], [], [9], [9, 10], [8, 9, 10, 11], [0, 1, 2, 3, 4, 5, 6, 7, 8, 9, 10, 11, 12], [0, 1, 2, 3, 4, 5, 6, 7, 8, 9, 10, 11, 12, 13], [0, 1, 2, 3, 4, 5, 6, 7, 8, 9, 10, 11, 12, 13, 14], [0, 1, 2, 3, 4, 5, 6, 7, 8, 9, 10, 11, 12, 13, 14], [], [0, 1, 2, 3, 4, 5, 6, 7, 8, 9, 10, 11, 12, 13, 14, 15, 17]] [[1, 2, 3, 4, 13, 14, 15, 16, 18], [2, 3, 4, 13, 14, 15, 16, 18], [3, 4, 13, 14, 15, 16, 18], [4, 13, 14, 15, 16, 18], [13, 14, 15, 16, 18], [6, 7, 13, 14, 15, 16, 18], [7, 13, 14, 15, 16, 18], [13, 14, 15, 16, 18], [12, 13, 14, 15, 16, 18], [10, 11, 12, 13, 14, 15, 16, 18], [11, 12, 13, 14, 15, 16, 18], [12, 13, 14, 15, 16, 18], [13, 14, 15, 16, 18], [14, 15, 16, 18], [15, 16, 18], [18], [], [18], []] (fun S f w => ∃ p1 : Addr, ∃ p2 : Addr, ∃ b1 : Nat, (f 0 = (.pointer (some pa0)) ∧ f 5 = v1) ∧ Inv w0 w [o3 v1 t1, cond (S 18) (boxI b1 144 [(vi t3.Lo), (vi t3.Hi)]) (cond (S 17) (boxI b1 144 [(vi 0), (vi 0)]) goneI)] ∧ (S 0 = true → f 11 = (.pointer (some pa0))) ∧ (S 1 = true → f 12 = (.pointer (some pa0))) ∧ (S 2 = true → f 13 = (.pointer (some (Addr.add pa0 0)))) ∧ (S 3 = true → f 14 = (.pointer (some (Addr.add (Addr.add pa0 0) 7)))) ∧ (S 4 = true → f 15 = (.agg #[va0_2, va0_3])) ∧ (S 5 = true → f 16 = v1) ∧ (S 6 = true → f 17 = (.pointer (some p1))) ∧ (S 7 = true → f 18 = (vi x1)) ∧ (S 8 = true → f 19 = (.pointer (some pa0))) ∧ (S 9 = true → f 20 = v1) ∧ (S 10 = true → f 21 = (.pointer (some p2))) ∧ (S 11 = true → f 22 = (vi x2)) ∧ (S 12 = true → f 23 = (vi t2)) ∧ (S 13 = true → f 24 = (.tuple #[(.agg (Flat.cells t3).toArray), (vi t4)])) ∧ (S 14 = true → f 10 = (.tuple #[(.agg (Flat.cells t3).toArray), (vi t4)])) ∧ (S 15 = true → f 25 = (.agg (Flat.cells t3).toArray)) ∧ (S 16 = true → f 26 = (vi t4)) ∧ (S 17 = true → f 6 = (pt b1)) ∧ (S 6 = true → S 18 = false → (ElemAt w p1 x1)) ∧ (S 10 = true → S 18 = false → (ElemAt w p2 x2))) fol (by kernel_rfl) ?_ ?_ ?_
  ·
   exact fun d _ => ⟨⟨0, 0, none⟩, ⟨0, 0, none⟩, 0, ⟨rfl, rfl⟩, H.ext (below_drawn d), nF, nF, nF, nF, nF, nF, nF, nF, nF, nF, nF, nF, nF, nF, nF, nF, nF, nF, nF, nF⟩
  ·
   refine ⟨?_, ⟨?_, ⟨?_, ⟨?_, ⟨?_, ⟨?_, ⟨?_, ⟨?_, ⟨?_, ⟨?_, ⟨?_, ⟨?_, ⟨?_, ⟨?_, ⟨?_, ⟨?_, ⟨?_, ⟨?_, ⟨?_, trivial⟩⟩⟩⟩⟩⟩⟩⟩⟩⟩⟩⟩⟩⟩⟩⟩⟩⟩⟩
   ·
    rintro S f w hS - ⟨e1, e2, e3, e4, e13, e14, e15, e16, e18, -⟩ ⟨p1, p2, b1, k, H, q0, t⟩
    obtain ⟨u14, rfl⟩ := up1 k.1
    exact Mv (.pointer (some pa0)) (Nl ⟨p1, p2, b1, k, H, (fun _ => rfl), t⟩)
   ·
    rintro S f w hS ⟨e0, -⟩ ⟨e2, e3, e4, e13, e14, e15, e16, e18, -⟩ ⟨p1, p2, b1, k, H, q0, q1, t⟩
    obtain ⟨u15, rfl⟩ := up1 (q0 e0)
    exact Nk rfl (Nl ⟨p1, p2, b1, k, H, q0, (fun _ => rfl), t⟩)
   ·
    rintro S f w hS ⟨e0, e1, -⟩ ⟨e3, e4, e13, e14, e15, e16, e18, -⟩ ⟨p1, p2, b1, k, H, q0, q1, q2, t⟩
    obtain ⟨u16, rfl⟩ := up1 (q1 e1)
    exact Fa fd61_0 rfl (Nl ⟨p1, p2, b1, k, H, q0, q1, (fun _ => rfl), t⟩)
   ·
    rintro S f w hS ⟨e0, e1, e2, -⟩ ⟨e4, e13, e14, e15, e16, e18, -⟩ ⟨p1, p2, b1, k, H, q0, q1, q2, q3, t⟩
    obtain ⟨u17, rfl⟩ := up1 (q2 e2)
    exact Fa fd54_2 rfl (Nl ⟨p1, p2, b1, k, H, q0, q1, q2, (fun _ => rfl), t⟩)
   ·
    rintro S f w hS ⟨e0, e1, e2, e3, -⟩ ⟨e13, e14, e15, e16, e18, -⟩ ⟨p1, p2, b1, k, H, q0, q1, q2, q3, q4, t⟩
    obtain ⟨u18, rfl⟩ := up1 (q3 e3)
    exact La [va0_2, va0_3] ag29 (cells_part 7 2 (cells_mono ha0 H.base) rfl) (Nl ⟨p1, p2, b1, k, H, q0, q1, q2, q3, (fun _ => rfl), t⟩)
   ·
    rintro S f w hS - ⟨e6, e7, e13, e14, e15, e16, e18, -⟩ ⟨p1, p2, b1, k, H, q0, q1, q2, q3, q4, q5, t⟩
    obtain ⟨u19, rfl⟩ := up1 k.2
    exact Mv v1 (Nl ⟨p1, p2, b1, k, H, q0, q1, q2, q3, q4, (fun _ => rfl), t⟩)
   ·
    rintro S f w hS ⟨e5, -⟩ ⟨e7, e13, e14, e15, e16, e18, -⟩ ⟨_, p2, b1, k, H, q0, q1, q2, q3, q4, q5, q6, q7, q8, q9, q10, q11, q12, q13, q14, q15, q16, q17, Fhp1, Fhp2⟩
    obtain ⟨u20, rfl⟩ := up1 (q5 e5)
    exact Ia underlying26 sz3 (H.own 0 rfl) hx1 fun p1 hp1 => Nl ⟨p1, p2, b1, k, H, q0, q1, q2, q3, q4, q5, (fun _ => rfl), q7, q8, q9, q10, q11, q12, q13, q14, q15, q16, q17, (fun _ _ => hp1), Fhp2⟩
   ·
    rintro S f w hS ⟨e5, e6, -⟩ ⟨e13, e14, e15, e16, e18, -⟩ ⟨p1, p2, b1, k, H, q0, q1, q2, q3, q4, q5, q6, q7, q8, q9, q10, q11, q12, q13, q14, q15, q16, q17, Fhp1, Fhp2⟩
    obtain ⟨u21, rfl⟩ := up1 (q6 e6)
    have hp1 := Fhp1 e6 e18
    exact Ld _ sc3 (hp1.flat 0 _ rfl) (Nl ⟨p1, p2, b1, k, H, q0, q1, q2, q3, q4, q5, q6, (fun _ => rfl), q8, q9, q10, q11, q12, q13, q14, q15, q16, q17, Fhp1, Fhp2⟩)
   ·
    rintro S f w hS - ⟨e12, e13, e14, e15, e16, e18, -⟩ ⟨p1, p2, b1, k, H, q0, q1, q2, q3, q4, q5, q6, q7, q8, t⟩
    obtain ⟨u22, rfl⟩ := up1 k.1
    exact Mv (.pointer (some pa0)) (Nl ⟨p1, p2, b1, k, H, q0, q1, q2, q3, q4, q5, q6, q7, (fun _ => rfl), t⟩)
   ·
    rintro S f w hS - ⟨e10, e11, e12, e13, e14, e15, e16, e18, -⟩ ⟨p1, p2, b1, k, H, q0, q1, q2, q3, q4, q5, q6, q7, q8, q9, t⟩
    obtain ⟨u23, rfl⟩ := up1 k.2
    exact Mv v1 (Nl ⟨p1, p2, b1, k, H, q0, q1, q2, q3, q4, q5, q6, q7, q8, (fun _ => rfl), t⟩)
   ·
    rintro S f w hS ⟨e9, -⟩ ⟨e11, e12, e13, e14, e15, e16, e18, -⟩ ⟨p1, _, b1, k, H, q0, q1, q2, q3, q4, q5, q6, q7, q8, q9, q10, q11, q12, q13, q14, q15, q16, q17, Fhp1, Fhp2⟩
    obtain ⟨u24, rfl⟩ := up1 (q9 e9)
    exact Ia underlying26 sz3 (H.own 0 rfl) hx2 fun p2 hp2 => Nl ⟨p1, p2, b1, k, H, q0, q1, q2, q3, q4, q5, q6, q7, q8, q9, (fun _ => rfl), q11, q12, q13, q14, q15, q16, q17, Fhp1, (fun _ _ => hp2)⟩
   ·
    rintro S f w hS ⟨e9, e10, -⟩ ⟨e12, e13, e14, e15, e16, e18, -⟩ ⟨p1, p2, b1, k, H, q0, q1, q2, q3, q4, q5, q6, q7, q8, q9, q10, q11, q12, q13, q14, q15, q16, q17, Fhp1, Fhp2⟩
    obtain ⟨u25, rfl⟩ := up1 (q10 e10)
    have hp2 := Fhp2 e10 e18
    exact Ld _ sc3 (hp2.flat 0 _ rfl) (Nl ⟨p1, p2, b1, k, H, q0, q1, q2, q3, q4, q5, q6, q7, q8, q9, q10, (fun _ => rfl), q12, q13, q14, q15, q16, q17, Fhp1, Fhp2⟩)
   ·
    rintro S f w hS ⟨e8, e9, e10, e11, -⟩ ⟨e13, e14, e15, e16, e18, -⟩ ⟨p1, p2, b1, k, H, q0, q1, q2, q3, q4, q5, q6, q7, q8, q9, q10, q11, q12, q13, q14, q15, q16, q17, Fhp1, Fhp2⟩
    obtain ⟨u26, rfl⟩ := up2 (q8 e8) (q11 e11)
    refine Ca call74 (c_station_session_time _ _ _ _ _ _ (GSession.mk (GInside.mk a0.inside.mast a0.inside.day (GNet.mk a0.inside.net.Rates a0.inside.net.Sights) a0.inside.log a0.inside.state a0.inside.verdicts a0.inside.ledger a0.inside.flags)) (cells_mono ha0 H.base) (H.arg ra0_2) (H.arg ra0_3) (H.arg ra0_4) (H.arg ra0_6) (H.arg ra0_7) _ hy2) ?_
    rintro _ w2 hb2 rfl
    have H := H.ext hb2
    exact Nl ⟨p1, p2, b1, k, H, q0, q1, q2, q3, q4, q5, q6, q7, q8, q9, q10, q11, (fun _ => rfl), q13, q14, q15, q16, q17, (fun g0 g1 => (Fhp1 g0 g1).mono hb2), (fun g0 g1 => (Fhp2 g0 g1).mono hb2)⟩
   ·
    rintro S f w hS ⟨e0, e1, e2, e3, e4, e5, e6, e7, e8, e9, e10, e11, e12, -⟩ ⟨e14, e15, e16, e18, -⟩ ⟨p1, p2, b1, k, H, q0, q1, q2, q3, q4, q5, q6, q7, q8, q9, q10, q11, q12, q13, q14, q15, q16, q17, Fhp1, Fhp2⟩
    obtain ⟨u27, rfl⟩ := up3 (q4 e4) (q7 e7) (q12 e12)
    refine Ca call84 (c_sight_Error _ _ (GNet.mk a0.inside.net.Rates a0.inside.net.Sights) (H.arg ra0_2) (H.arg ra0_3) _ _ hy3) ?_
    rintro _ w3 hb3 rfl
    have H := H.ext hb3
    exact Nl ⟨p1, p2, b1, k, H, q0, q1, q2, q3, q4, q5, q6, q7, q8, q9, q10, q11, q12, (fun _ => rfl), q14, q15, q16, q17, (fun g0 g1 => (Fhp1 g0 g1).mono hb3), (fun g0 g1 => (Fhp2 g0 g1).mono hb3)⟩
   ·
    rintro S f w hS ⟨e0, e1, e2, e3, e4, e5, e6, e7, e8, e9, e10, e11, e12, e13, -⟩ ⟨e15, e16, e18, -⟩ ⟨p1, p2, b1, k, H, q0, q1, q2, q3, q4, q5, q6, q7, q8, q9, q10, q11, q12, q13, q14, t⟩
    obtain ⟨u28, rfl⟩ := up1 (q13 e13)
    exact Mv (.tuple #[(.agg (Flat.cells t3).toArray), (vi t4)]) (Nl ⟨p1, p2, b1, k, H, q0, q1, q2, q3, q4, q5, q6, q7, q8, q9, q10, q11, q12, q13, (fun _ => rfl), t⟩)
   ·
    rintro S f w hS ⟨e0, e1, e2, e3, e4, e5, e6, e7, e8, e9, e10, e11, e12, e13, e14, -⟩ ⟨e18, -⟩ ⟨p1, p2, b1, k, H, q0, q1, q2, q3, q4, q5, q6, q7, q8, q9, q10, q11, q12, q13, q14, q15, t⟩
    obtain ⟨u29, rfl⟩ := up1 (q14 e14)
    exact Xt (.agg (Flat.cells t3).toArray) (Nl ⟨p1, p2, b1, k, H, q0, q1, q2, q3, q4, q5, q6, q7, q8, q9, q10, q11, q12, q13, q14, (fun _ => rfl), t⟩)
   ·
    rintro S f w hS ⟨e0, e1, e2, e3, e4, e5, e6, e7, e8, e9, e10, e11, e12, e13, e14, -⟩ - ⟨p1, p2, b1, k, H, q0, q1, q2, q3, q4, q5, q6, q7, q8, q9, q10, q11, q12, q13, q14, q15, q16, t⟩
    obtain ⟨u30, rfl⟩ := up1 (q14 e14)
    exact Xt (vi t4) (Nl ⟨p1, p2, b1, k, H, q0, q1, q2, q3, q4, q5, q6, q7, q8, q9, q10, q11, q12, q13, q14, q15, (fun _ => rfl), t⟩)
   ·
    rintro S f w hS - ⟨e18, -⟩ ⟨p1, p2, _, k, H, q0, q1, q2, q3, q4, q5, q6, q7, q8, q9, q10, q11, q12, q13, q14, q15, q16, q17, Fhp1, Fhp2⟩
    have H := (H.cF 1 e18 rfl).cF 1 hS rfl
    refine Al [(vi 0), (vi 0)] ze144 H fun b1 w4 H hb4 => ?_
    have H := H.pick [0, 2] [o3 v1 t1, boxI b1 144 [(vi 0), (vi 0)]] rfl (by decide)
    exact Nl ⟨p1, p2, b1, k, (H.rF 1 e18 rfl), q0, q1, q2, q3, q4, q5, q6, q7, q8, q9, q10, q11, q12, q13, q14, q15, q16, (fun _ => rfl), (fun g0 g1 => (Fhp1 g0 g1).mono hb4), (fun g0 g1 => (Fhp2 g0 g1).mono hb4)⟩
   ·
    rintro S f w hS ⟨e0, e1, e2, e3, e4, e5, e6, e7, e8, e9, e10, e11, e12, e13, e14, e15, e17, -⟩ - ⟨p1, p2, b1, k, H, q0, q1, q2, q3, q4, q5, q6, q7, q8, q9, q10, q11, q12, q13, q14, q15, q16, q17, Fhp1, Fhp2⟩
    obtain ⟨u31, rfl⟩ := up2 (q17 e17) (q15 e15)
    have H := (H.cF 1 hS rfl).cT 1 e17 rfl
    exact St 1 0 [(vi t3.Lo), (vi t3.Hi)] [(vi t3.Lo), (vi t3.Hi)] sz144 H R R (one_cons rfl (one_cons rfl one_nil)) fun w5 H => Nl ⟨p1, p2, b1, k, H, q0, q1, q2, q3, q4, q5, q6, q7, q8, q9, q10, q11, q12, q13, q14, q15, q16, q17, (fun g0 g1 => nG g1), (fun g0 g1 => nG g1)⟩
  ·
   rintro S f w ⟨e0, e1, e2, e3, e4, e5, e6, e7, e8, e9, e10, e11, e12, e13, e14, e15, e16, e17, e18, -⟩ ⟨p1, p2, b1, k, H, q0, q1, q2, q3, q4, q5, q6, q7, q8, q9, q10, q11, q12, q13, q14, q15, q16, q17, Fhp1, Fhp2⟩
   have H : Inv w0 w [o3 v1 t1, boxI b1 144 [(vi t3.Lo), (vi t3.Hi)]] := (H.cT 1 e18 rfl)
   obtain ⟨u32, rfl⟩ := up2 (q17 e17) (q16 e16)
   refine As (vi t4) (Nl (Sq (Rg (Mv (vi t4) ?_))))
   rcases mustB_some hm with ⟨hc1, rfl⟩ | ⟨hc1, hm⟩
   · exact Cn call76 (c_station_needs_no hc1) (fun w' hb => ⟨rfl, (H.ext hb).base⟩)
   refine Ca call76 (c_station_needs_ok hc1) ?_
   rintro _ w6 hb5 rfl
   have H := H.ext hb5
   refine Nl (Sq (Rg (Fa fd144_0 rfl (Ld _ sc3 (H.cell 1 rfl 0 _ rfl) (Fa fd144_1 rfl (Ld _ sc3 (H.cell 1 rfl 1 _ rfl) (Bs (α := Int) [(vi t3.Lo), (vi t3.Hi)] [t3.Lo, t3.Hi] underlying26 el3 H fun v2 w7 H hb6 => ?_)))))))
   obtain ⟨t5, hy4, hm⟩ := bind_some hm
   refine Ca call79 (c_station_said (hT.mono H.base) _ _ _ (H.own 2 rfl) hy4) ?_
   rintro _ w8 hb7 rfl
   have H := H.ext hb7
   refine As (.string t5) (Nl (Rt ?_))
   obtain rfl : Ref.ok t5 = r0 := sj (show some (Ref.ok t5) = some r0 from hm)
   exact ends1 results46 rfl ⟨_, rfl, H.base, rfl⟩

set_option maxRecDepth 20000 in
theorem c_sight_Best {w0 : World} (va0_0 : Value) (va0_1 : Value) (a0 : GNet) (ha0_0 : SliceR w0 va0_0 a0.Rates) (ha0_1 : SliceR w0 va0_1 a0.Sights) (a1 : Int) {r0 : Int} {r1 : Int} (hm : sight_Best a0 a1 = some (r0, r1)) :
  Calls prog 85 #[(.agg #[va0_0, va0_1]), (vi a1)] w0 (Ret w0 fun _ v => v = .tuple #[(vi r0), (vi r1)]) := by
 unfold sight_Best at hm
 refine cW func85 ntmps85 ?_
 have H := Inv.start (w := w0)
 refine Sq (Rg (Bx [va0_0, va0_1] H fun b1 w1 H hb1 => As (vi 0) (As (vi 0) (Nl (Sq (Sq (Rg (La [va0_0, va0_1] ag29 (H.cell 0 rfl) (Mv (vi a1) ?_)))))))))
 obtain ⟨⟨t1, t2⟩, hy1, hm⟩ := bind_some hm
 refine Ca call84 (c_sight_Error _ _ (GNet.mk a0.Rates a0.Sights) (H.arg ha0_0) (H.arg ha0_1) _ _ hy1) ?_
 rintro _ w2 hb2 rfl
 have H := H.ext hb2
 refine Mv (.tuple #[(.agg (Flat.cells t1).toArray), (vi t2)]) (Xt (.agg (Flat.cells t1).toArray) (Xt (vi t2) (Al [(vi 0), (vi 0)] ze144 H fun b2 w3 H hb3 => St 1 0 [(vi t1.Lo), (vi t1.Hi)] [(vi t1.Lo), (vi t1.Hi)] sz144 H R R (one_cons rfl (one_cons rfl one_nil)) fun w4 H => As (vi t2) (Nl (Sq (Rg (Mv (vi t2) (Ne_ (Nl ?_)))))))))
 rcases ite_some hm with ⟨hc1, hm⟩ | ⟨hc1, hm⟩
 ·
  refine Ct (cb hc1) (Sq (Rg (Mv (vi t2) (As (vi 0) (As (vi t2) (Nl (Rt ?_)))))))
  obtain ⟨rfl, rfl⟩ := j2 hm
  exact ends2 results85 R R ⟨_, rfl, H.base, rfl⟩
 ·
  refine Cf (cb hc1) (Sk (Sq (Rg (As (vi 0) (As (vi 0) (Nl (Sq (Sq (Rg (Fa fd29_0 rfl (Ld _ sc26 (H.cell 0 rfl 0 _ rfl) (Ln underlying26 (H.arg ha0_0) (Mv (vi 0) ?_)))))))))))))
  refine Nl ?_
  obtain ⟨s1, hm1, hm⟩ := bind_some hm
  refine W.via (fun f w => f 8 = (vi s1) ∧ Inv w0 w []) ?_ ?_
  ·
   refine Bk ?_
   have hbdik1 := (H.arg ha0_0).len_le
   have H := H.keep [0] [boxI b1 29 [va0_0, va0_1]] rfl (by decide)
   refine W.rangeN (i := 0) hm1 (fun rem ik1 s f w => ∃ z3 : Int, ∃ z4 : Int, (z3, z4) = s ∧ (ik1 : Int) + rem = max 0 ((a0.Rates.length : Nat) : Int) ∧ f 26 = .int .i64 (ik1 : Int) ∧ f 25 = (vi ((a0.Rates.length : Nat) : Int)) ∧ f 1 = (vi a1) ∧ f 2 = (pt b1) ∧ f 8 = (vi z3) ∧ f 9 = (vi z4) ∧ Inv w0 w [boxI b1 29 [va0_0, va0_1]]) ?_ ?_ ?_
   ·
    exact ⟨_, _, rfl, rangeN_start, rfl, rfl, rfl, rfl, rfl, rfl, H⟩
   ·
    rintro k ik1 _ st f w ⟨z3, z4, rfl, hdropk1, hf26, hf25, hf1, hf2, hf8, hf9, H⟩ hm2
    have hltk1 := rangeN_lt hdropk1
    obtain ⟨u1, rfl⟩ := up6 hf26 hf25 hf1 hf2 hf8 hf9
    have hinck1 := addI_lt hltk1 hbdik1
    refine Sq (Rg (Ls (Nl (Sq (Ct (cb (decide_eq_true hltk1)) (Sk (Sq ?_)))))))
    obtain ⟨⟨s2, s3⟩, hm3, hm2⟩ := bind_some hm2
    refine W.via (fun f w => f 1 = (vi a1) ∧ f 2 = (pt b1) ∧ f 8 = (vi s2) ∧ f 9 = (vi s3) ∧ f 25 = (vi ((a0.Rates.length : Nat) : Int)) ∧ f 26 = (vi (ik1 : Int)) ∧ Inv w0 w [boxI b1 29 [va0_0, va0_1]]) ?_ ?_
    ·
     refine Bk (Sq (Rg (Mv (vi (ik1 : Int)) (As (vi (ik1 : Int)) (Nl (Sq (Rg (La [va0_0, va0_1] ag29 (H.cell 0 rfl) (Mv (vi (ik1 : Int)) (Mv (vi a1) ?_))))))))))
     obtain ⟨⟨t3, t4⟩, hy2, hm3⟩ := bind_some hm3
     refine Ca call113 (c_sight_between _ _ (GNet.mk a0.Rates a0.Sights) (H.arg ha0_0) (H.arg ha0_1) _ _ _ hy2) ?_
     rintro _ w5 hb4 rfl
     have H := H.ext hb4
     refine Mv (.tuple #[(.agg (Flat.cells t3).toArray), (.bool t4)]) (Xt (.agg (Flat.cells t3).toArray) (Xt (.bool t4) (Al [(vi 0), (vi 0)] ze144 H fun b3 w6 H hb5 => St 1 0 [(vi t3.Lo), (vi t3.Hi)] [(vi t3.Lo), (vi t3.Hi)] sz144 H R R (one_cons rfl (one_cons rfl one_nil)) fun w7 H => As (.bool t4) (Nl (Sq (Rg (Fa fd144_1 rfl (Ld _ sc3 (H.cell 1 rfl 1 _ rfl) (Fa fd144_0 rfl ?_)))))))))
     refine Ld _ sc3 (H.cell 1 rfl 0 _ rfl) ?_
     obtain ⟨t5, ht5, hm3⟩ := bind_some hm3
     refine Su ht5 (As (vi t5) (Nl (Sq (Rg (Mv (vi (ik1 : Int)) (Gt_ (Mv (.bool (decide (0 < (ik1 : Int)))) ?_)))))))
     refine Cu 2 (fun f w => f 1 = (vi a1) ∧ f 2 = (pt b1) ∧ f 8 = (vi z3) ∧ f 9 = (vi z4) ∧ f 10 = (vi (ik1 : Int)) ∧ f 13 = (vi t5) ∧ f 25 = (vi ((a0.Rates.length : Nat) : Int)) ∧ f 26 = (vi (ik1 : Int)) ∧ f 45 = .bool ((decide (0 < (ik1 : Int))) && t4) ∧ Inv w0 w [boxI b1 29 [va0_0, va0_1], boxI b3 144 [(vi t3.Lo), (vi t3.Hi)]]) ?_ ?_
     ·
      rcases bool_ft (decide (0 < (ik1 : Int))) with hc2 | hc2
      ·
       exact Rs (i := 43) (v := .bool false) (cb hc2) (Sp (Pf (.bool false) (Nl ⟨rfl, rfl, rfl, rfl, rfl, rfl, rfl, rfl, cb (and_f hc2), H⟩)))
      ·
       exact Rs (i := 43) (v := .bool true) (cb hc2) (Mv (.bool t4) (Pt (.bool t4) (Nl ⟨rfl, rfl, rfl, rfl, rfl, rfl, rfl, rfl, cb (and_t hc2), H⟩)))
     ·
      rintro f w ⟨hf1, hf2, hf8, hf9, hf10, hf13, hf25, hf26, hf45, H⟩
      obtain ⟨u2, rfl⟩ := up9 hf1 hf2 hf8 hf9 hf10 hf13 hf25 hf26 hf45
      refine Mv (.bool ((decide (0 < (ik1 : Int))) && t4)) ?_
      refine Cu 8 (fun f w => f 1 = (vi a1) ∧ f 2 = (pt b1) ∧ f 8 = (vi z3) ∧ f 9 = (vi z4) ∧ f 10 = (vi (ik1 : Int)) ∧ f 13 = (vi t5) ∧ f 25 = (vi ((a0.Rates.length : Nat) : Int)) ∧ f 26 = (vi (ik1 : Int)) ∧ f 54 = .bool (((decide (0 < (ik1 : Int))) && t4) && ((z3 == 0) || (decide (t5 < z4)))) ∧ Inv w0 w [boxI b1 29 [va0_0, va0_1], boxI b3 144 [(vi t3.Lo), (vi t3.Hi)]]) ?_ ?_
      ·
       rcases bool_ft ((decide (0 < (ik1 : Int))) && t4) with hc3 | hc3
       ·
        exact Rs (i := 46) (v := .bool false) (cb hc3) (Sp (Sp (Sp (Sp (Sp (Sp (Sp (Pf (.bool false) (Nl ⟨rfl, rfl, rfl, rfl, rfl, rfl, rfl, rfl, cb (and_f hc3), H⟩)))))))))
       ·
        refine Rs (i := 46) (v := .bool true) (cb hc3) (Mv (vi z3) (Eq_ (Mv (.bool (z3 == 0)) ?_)))
        refine Cu 4 (fun f w => f 1 = (vi a1) ∧ f 2 = (pt b1) ∧ f 8 = (vi z3) ∧ f 9 = (vi z4) ∧ f 10 = (vi (ik1 : Int)) ∧ f 13 = (vi t5) ∧ f 25 = (vi ((a0.Rates.length : Nat) : Int)) ∧ f 26 = (vi (ik1 : Int)) ∧ f 46 = (.bool true) ∧ f 47 = (vi z3) ∧ f 48 = (.bool (z3 == 0)) ∧ f 49 = (.bool (z3 == 0)) ∧ f 53 = .bool ((z3 == 0) || (decide (t5 < z4))) ∧ Inv w0 w [boxI b1 29 [va0_0, va0_1], boxI b3 144 [(vi t3.Lo), (vi t3.Hi)]]) ?_ ?_
        ·
         rcases bool_ft (z3 == 0) with hc4 | hc4
         ·
          exact Rs (i := 49) (v := .bool false) (cb hc4) (Mv (vi t5) (Mv (vi z4) (Ls (Pf (.bool (decide (t5 < z4))) (Nl ⟨rfl, rfl, rfl, rfl, rfl, rfl, rfl, rfl, rfl, rfl, rfl, (cb hc4).symm, cb (or_f hc4), H⟩)))))
         ·
          exact Rs (i := 49) (v := .bool true) (cb hc4) (Sp (Sp (Sp (Pt (.bool true) (Nl ⟨rfl, rfl, rfl, rfl, rfl, rfl, rfl, rfl, rfl, rfl, rfl, (cb hc4).symm, cb (or_t hc4), H⟩)))))
        ·
         rintro f w ⟨hf1, hf2, hf8, hf9, hf10, hf13, hf25, hf26, hf46, hf47, hf48, hf49, hf53, H⟩
         obtain ⟨u3, rfl⟩ : ∃ u3, f = (upd (upd (upd (upd (upd (upd (upd (upd (upd (upd (upd (upd (upd u3 1 (vi a1)) 2 (pt b1)) 8 (vi z3)) 9 (vi z4)) 10 (vi (ik1 : Int))) 13 (vi t5)) 25 (vi ((a0.Rates.length : Nat) : Int))) 26 (vi (ik1 : Int))) 46 (.bool true)) 47 (vi z3)) 48 (.bool (z3 == 0))) 49 (.bool (z3 == 0))) 53 (.bool ((z3 == 0) || (decide (t5 < z4))))) := ⟨f, by rw [upd_self hf1, upd_self hf2, upd_self hf8, upd_self hf9, upd_self hf10, upd_self hf13, upd_self hf25, upd_self hf26, upd_self hf46, upd_self hf47, upd_self hf48, upd_self hf49, upd_self hf53]⟩
         exact Pt (.bool ((z3 == 0) || (decide (t5 < z4)))) (Nl ⟨rfl, rfl, rfl, rfl, rfl, rfl, rfl, rfl, cb (and_t hc3), H⟩)
      ·
       rintro f w ⟨hf1, hf2, hf8, hf9, hf10, hf13, hf25, hf26, hf54, H⟩
       obtain ⟨u4, rfl⟩ := up9 hf1 hf2 hf8 hf9 hf10 hf13 hf25 hf26 hf54
       refine Nl ?_
       obtain ⟨⟨s4, s5⟩, hm4, hm3⟩ := bind_some hm3
       refine W.via (fun f w => f 1 = (vi a1) ∧ f 2 = (pt b1) ∧ f 8 = (vi s4) ∧ f 9 = (vi s5) ∧ f 25 = (vi ((a0.Rates.length : Nat) : Int)) ∧ f 26 = (vi (ik1 : Int)) ∧ Inv w0 w [boxI b1 29 [va0_0, va0_1]]) ?_ ?_
       ·
        rcases ite_some hm4 with ⟨hc5, hm4⟩ | ⟨hc5, hm4⟩
        ·
         refine Ct (cb hc5) (Rg (Mv (vi (ik1 : Int)) (Mv (vi t5) (As (vi (ik1 : Int)) (As (vi t5) (Nl ?_))))))
         have H := H.keep [0] [boxI b1 29 [va0_0, va0_1]] rfl (by decide)
         obtain ⟨rfl, rfl⟩ := j2 hm4
         exact ⟨rfl, rfl, rfl, rfl, rfl, rfl, H⟩
        ·
         refine Cf (cb hc5) (Sk ?_)
         have H := H.keep [0] [boxI b1 29 [va0_0, va0_1]] rfl (by decide)
         obtain ⟨rfl, rfl⟩ := j2 hm4
         exact ⟨rfl, rfl, rfl, rfl, rfl, rfl, H⟩
       ·
        rintro f w ⟨hf1, hf2, hf8, hf9, hf25, hf26, H⟩
        obtain ⟨u5, rfl⟩ := up6 hf1 hf2 hf8 hf9 hf25 hf26
        obtain ⟨rfl, rfl⟩ := j2 hm3
        exact ⟨rfl, rfl, rfl, rfl, rfl, rfl, H⟩
    ·
     rintro f w ⟨hf1, hf2, hf8, hf9, hf25, hf26, H⟩
     obtain ⟨u6, rfl⟩ := up6 hf1 hf2 hf8 hf9 hf25 hf26
     refine Rg (Ad hinck1 (Mv (vi ((ik1 : Int) + 1)) (Nl ?_)))
     obtain rfl := sj hm2
     exact ⟨_, rfl, _, _, rfl, rangeN_next hdropk1, rfl, rfl, rfl, rfl, rfl, rfl, H⟩
   ·
    rintro ik1 _ f w ⟨z3, z4, rfl, hdropk1, hf26, hf25, hf1, hf2, hf8, hf9, H⟩ hfin
    have hltk1 := rangeN_end hdropk1
    obtain ⟨u7, rfl⟩ := up6 hf26 hf25 hf1 hf2 hf8 hf9
    refine Sq (Rg (Ls (Nl (Sq (Cf (cb (decide_eq_false hltk1)) (W.exit ?_))))))
    have hq : z3 = s1 := hfin
    subst hq
    have H := H.keep [] [] rfl (by decide)
    exact xT rfl ⟨rfl, H⟩
  ·
   rintro f w ⟨hf8, H⟩
   obtain ⟨u8, rfl⟩ := up1 hf8
   refine Sq (Sq (Rg (Mv (vi s1) (Eq_ (Nl ?_)))))
   rcases ite_some hm with ⟨hc6, hm⟩ | ⟨hc6, hm⟩
   ·
    refine Ct (cb hc6) (Sq (Rg (As (vi 0) (As (vi 8) (Nl (Rt ?_))))))
    obtain ⟨rfl, rfl⟩ := j2 hm
    exact ends2 results85 R R ⟨_, rfl, H.base, rfl⟩
   ·
    refine Cf (cb hc6) (Sk (Sq (Rg (Mv (vi s1) (As (vi s1) (As (vi 0) (Nl (Rt ?_))))))))
    obtain ⟨rfl, rfl⟩ := j2 hm
    exact ends2 results85 R R ⟨_, rfl, H.base, rfl⟩

set_option maxRecDepth 20000 in
theorem c_station_session_best {w0 : World} (hT : EnvS prog 0 4 5 7 w0) (pa0 : Addr) (va0_2 : Value) (va0_3 : Value) (va0_4 : Value) (va0_6 : Value) (va0_7 : Value) (a0 : GSession) (ha0 : ∀ j c, ((cI a0.inside va0_2 va0_3 va0_4 va0_6 va0_7) : List Value)[j]? = some c → w0.cell? (pa0.add j) = some c) (ra0_2 : SliceR w0 va0_2 a0.inside.net.Rates) (ra0_3 : SliceR w0 va0_3 a0.inside.net.Sights) (ra0_4 : SliceR w0 va0_4 a0.inside.log) (ra0_6 : SliceR w0 va0_6 a0.inside.verdicts) (ra0_7 : SliceR w0 va0_7 a0.inside.ledger) (va1 : Value) (a1 : (List ByteArray)) (ha1 : SliceR w0 va1 a1) {r0 : Ref (ByteArray)} (hm : station_session_best a0 a1 = some r0) :
  Calls prog 47 #[(.pointer (some pa0)), va1] w0 (PRet 87 w0 r0 fun r _ v => v = (.string r)) := by
 unfold station_session_best at hm
 refine calls_of_WP func47 rfl ntmps47 (Nat.le_of_ble_eq_true rfl) ?_
 have H := Inv.start (w := w0)
 refine Sq (Rg (As (.string (bs [])) (Nl (Sq ?_))))
 obtain ⟨t1, hy1, hm⟩ := bind_some hm
 obtain ⟨x1, hx1, hm⟩ := bind_some hm
 rcases refB_some hm with ⟨e1, hy2, rfl⟩ | ⟨t2, hy2, hm⟩
 ·
  have H := H.addGone
  refine W.drawD 16 [[], [0], [0, 1], [0, 1, 2], [0, 1, 2, 3], [], [], [6], [6, 7], [6, 7, 8], [5, 6, 7, 8, 9], [0, 1, 2, 3, 4, 5, 6, 7, 8, 9, 10], [0, 1, 2, 3, 4, 5, 6, 7, 8, 9, 10, 11], [0, 1, 2, 3, 4, 5, 6, 7, 8, 9, 10, 11, 12], [0, 1, 2, 3, 4, 5, 6, 7, 8, 9, 10, 11, 12], [0, 1, 2, 3, 4, 5, 6, 7, 8, 9, 10, 11, 12, 13]] [[1, 2, 3, 4, 11, 12, 13, 14, 15], [2, 3, 4, 11, 12, 13, 14, 15], [3, 4, 11, 12, 13, 14, 15], [4, 11, 12, 13, 14, 15], [11, 12, 13, 14, 15], [10, 11, 12, 13, 14, 15], [7, 8, 9, 10, 11, 12, 13, 14, 15], [8, 9, 10, 11, 12, 13, 14, 15], [9, 10, 11, 12, 13, 14, 15], [10, 11, 12, 13, 14, 15], [11, 12, 13, 14, 15], [12, 13, 14, 15], [13, 14, 15], [15], [], []] (fun S f w => ∃ v1 : Value, ∃ p1 : Addr, (f 0 = (.pointer (some pa0)) ∧ f 1 = va1) ∧ Inv w0 w [cond (S 7) (o3 v1 t1) goneI] ∧ (S 0 = true → f 8 = (.pointer (some pa0))) ∧ (S 1 = true → f 9 = (.pointer (some pa0))) ∧ (S 2 = true → f 10 = (.pointer (some (Addr.add pa0 0)))) ∧ (S 3 = true → f 11 = (.pointer (some (Addr.add (Addr.add pa0 0) 7)))) ∧ (S 4 = true → f 12 = (.agg #[va0_2, va0_3])) ∧ (S 5 = true → f 13 = (.pointer (some pa0))) ∧ (S 6 = true → f 14 = va1) ∧ (S 7 = true → f 15 = v1) ∧ (S 8 = true → f 16 = (.pointer (some p1))) ∧ (S 9 = true → f 17 = (vi x1)) ∧ (S 8 = true → (ElemAt w p1 x1)) ∧ S 10 = false) fol (by kernel_rfl) ?_ ?_ ?_
  ·
   exact fun d _ => ⟨.nilFunc, ⟨0, 0, none⟩, ⟨rfl, rfl⟩, H.ext (below_drawn d), nF, nF, nF, nF, nF, nF, nF, nF, nF, nF, nF, rfl⟩
  ·
   refine ⟨?_, ⟨?_, ⟨?_, ⟨?_, ⟨?_, ⟨?_, ⟨?_, ⟨?_, ⟨?_, ⟨?_, ⟨?_, ⟨?_, ⟨?_, ⟨?_, ⟨?_, ⟨?_, trivial⟩⟩⟩⟩⟩⟩⟩⟩⟩⟩⟩⟩⟩⟩⟩⟩
   ·
    rintro S f w hS - ⟨e1, e2, e3, e4, e11, e12, e13, e14, e15, -⟩ ⟨v1, p1, k, H, q0, t⟩
    obtain ⟨u1, rfl⟩ := up1 k.1
    exact Mv (.pointer (some pa0)) (Nl ⟨v1, p1, k, H, (fun _ => rfl), t⟩)
   ·
    rintro S f w hS ⟨e0, -⟩ ⟨e2, e3, e4, e11, e12, e13, e14, e15, -⟩ ⟨v1, p1, k, H, q0, q1, t⟩
    obtain ⟨u2, rfl⟩ := up1 (q0 e0)
    exact Nk rfl (Nl ⟨v1, p1, k, H, q0, (fun _ => rfl), t⟩)
   ·
    rintro S f w hS ⟨e0, e1, -⟩ ⟨e3, e4, e11, e12, e13, e14, e15, -⟩ ⟨v1, p1, k, H, q0, q1, q2, t⟩
    obtain ⟨u3, rfl⟩ := up1 (q1 e1)
    exact Fa fd61_0 rfl (Nl ⟨v1, p1, k, H, q0, q1, (fun _ => rfl), t⟩)
   ·
    rintro S f w hS ⟨e0, e1, e2, -⟩ ⟨e4, e11, e12, e13, e14, e15, -⟩ ⟨v1, p1, k, H, q0, q1, q2, q3, t⟩
    obtain ⟨u4, rfl⟩ := up1 (q2 e2)
    exact Fa fd54_2 rfl (Nl ⟨v1, p1, k, H, q0, q1, q2, (fun _ => rfl), t⟩)
   ·
    rintro S f w hS ⟨e0, e1, e2, e3, -⟩ ⟨e11, e12, e13, e14, e15, -⟩ ⟨v1, p1, k, H, q0, q1, q2, q3, q4, t⟩
    obtain ⟨u5, rfl⟩ := up1 (q3 e3)
    exact La [va0_2, va0_3] ag29 (cells_part 7 2 (cells_mono ha0 H.base) rfl) (Nl ⟨v1, p1, k, H, q0, q1, q2, q3, (fun _ => rfl), t⟩)
   ·
    rintro S f w hS - ⟨e10, e11, e12, e13, e14, e15, -⟩ ⟨v1, p1, k, H, q0, q1, q2, q3, q4, q5, t⟩
    obtain ⟨u6, rfl⟩ := up1 k.1
    exact Mv (.pointer (some pa0)) (Nl ⟨v1, p1, k, H, q0, q1, q2, q3, q4, (fun _ => rfl), t⟩)
   ·
    rintro S f w hS - ⟨e7, e8, e9, e10, e11, e12, e13, e14, e15, -⟩ ⟨v1, p1, k, H, q0, q1, q2, q3, q4, q5, q6, t⟩
    obtain ⟨u7, rfl⟩ := up1 k.2
    exact Mv va1 (Nl ⟨v1, p1, k, H, q0, q1, q2, q3, q4, q5, (fun _ => rfl), t⟩)
   ·
    rintro S f w hS ⟨e6, -⟩ ⟨e8, e9, e10, e11, e12, e13, e14, e15, -⟩ ⟨_, p1, k, H, q0, q1, q2, q3, q4, q5, q6, q7, q8, q9, Fhp1, P⟩
    obtain ⟨u8, rfl⟩ := up1 (q6 e6)
    have H := H.cF 0 hS rfl
    refine Ca call73 (c_station_values (hT.mono H.base) _ _ (H.arg ha1) hy1) ?_
    rintro v1 w1 hb1 ho1
    have H := H.addOwn hb1 ho1
    have H := H.pick [1] [o3 v1 t1] rfl (by decide)
    exact Nl ⟨v1, p1, k, H, q0, q1, q2, q3, q4, q5, q6, (fun _ => rfl), q8, q9, (fun g0 => (Fhp1 g0).mono hb1), P⟩
   ·
    rintro S f w hS ⟨e6, e7, -⟩ ⟨e9, e10, e11, e12, e13, e14, e15, -⟩ ⟨v1, _, k, H, q0, q1, q2, q3, q4, q5, q6, q7, q8, q9, Fhp1, P⟩
    obtain ⟨u9, rfl⟩ := up1 (q7 e7)
    have G := H
    have H := H.cT 0 e7 rfl
    exact Ia underlying26 sz3 (H.own 0 rfl) hx1 fun p1 hp1 => Nl ⟨v1, p1, k, G, q0, q1, q2, q3, q4, q5, q6, q7, (fun _ => rfl), q9, (fun _ => hp1), P⟩
   ·
    rintro S f w hS ⟨e6, e7, e8, -⟩ ⟨e10, e11, e12, e13, e14, e15, -⟩ ⟨v1, p1, k, H, q0, q1, q2, q3, q4, q5, q6, q7, q8, q9, Fhp1, P⟩
    obtain ⟨u10, rfl⟩ := up1 (q8 e8)
    have hp1 := Fhp1 e8
    exact Ld _ sc3 (hp1.flat 0 _ rfl) (Nl ⟨v1, p1, k, H, q0, q1, q2, q3, q4, q5, q6, q7, q8, (fun _ => rfl), Fhp1, P⟩)
   ·
    rintro S f w hS ⟨e5, e6, e7, e8, e9, -⟩ ⟨e11, e12, e13, e14, e15, -⟩ ⟨v1, p1, k, H, q0, q1, q2, q3, q4, q5, q6, q7, q8, q9, Fhp1, P⟩
    obtain ⟨u11, rfl⟩ := up2 (q5 e5) (q9 e9)
    exact Cn call74 (c_station_session_time _ _ _ _ _ _ (GSession.mk (GInside.mk a0.inside.mast a0.inside.day (GNet.mk a0.inside.net.Rates a0.inside.net.Sights) a0.inside.log a0.inside.state a0.inside.verdicts a0.inside.ledger a0.inside.flags)) (cells_mono ha0 H.base) (H.arg ra0_2) (H.arg ra0_3) (H.arg ra0_4) (H.arg ra0_6) (H.arg ra0_7) _ hy2) (fun w' hb => ⟨rfl, (H.ext hb).base⟩)
   ·
    rintro S f w hS ⟨e0, e1, e2, e3, e4, e5, e6, e7, e8, e9, e10, -⟩ ⟨e12, e13, e14, e15, -⟩ ⟨v1, p1, k, H, q0, q1, q2, q3, q4, q5, q6, q7, q8, q9, Fhp1, P⟩
    exact nT e10 P
   ·
    rintro S f w hS ⟨e0, e1, e2, e3, e4, e5, e6, e7, e8, e9, e10, e11, -⟩ ⟨e13, e14, e15, -⟩ ⟨v1, p1, k, H, q0, q1, q2, q3, q4, q5, q6, q7, q8, q9, Fhp1, P⟩
    exact nT e10 P
   ·
    rintro S f w hS ⟨e0, e1, e2, e3, e4, e5, e6, e7, e8, e9, e10, e11, e12, -⟩ ⟨e15, -⟩ ⟨v1, p1, k, H, q0, q1, q2, q3, q4, q5, q6, q7, q8, q9, Fhp1, P⟩
    exact nT e10 P
   ·
    rintro S f w hS ⟨e0, e1, e2, e3, e4, e5, e6, e7, e8, e9, e10, e11, e12, -⟩ - ⟨v1, p1, k, H, q0, q1, q2, q3, q4, q5, q6, q7, q8, q9, Fhp1, P⟩
    exact nT e10 P
   ·
    rintro S f w hS ⟨e0, e1, e2, e3, e4, e5, e6, e7, e8, e9, e10, e11, e12, e13, -⟩ - ⟨v1, p1, k, H, q0, q1, q2, q3, q4, q5, q6, q7, q8, q9, Fhp1, P⟩
    exact nT e10 P
  ·
   rintro S f w ⟨e0, e1, e2, e3, e4, e5, e6, e7, e8, e9, e10, e11, e12, e13, e14, e15, -⟩ ⟨v1, p1, k, H, q0, q1, q2, q3, q4, q5, q6, q7, q8, q9, Fhp1, P⟩
   exact nT e10 P
 ·
  obtain ⟨⟨t3, t4⟩, hy3, hm⟩ := bind_some hm
  have H := H.addGone
  refine W.drawD 16 [[], [0], [0, 1], [0, 1, 2], [0, 1, 2, 3], [], [], [6], [6, 7], [6, 7, 8], [5, 6, 7, 8, 9], [0, 1, 2, 3, 4, 5, 6, 7, 8, 9, 10], [0, 1, 2, 3, 4, 5, 6, 7, 8, 9, 10, 11], [0, 1, 2, 3, 4, 5, 6, 7, 8, 9, 10, 11, 12], [0, 1, 2, 3, 4, 5, 6, 7, 8, 9, 10, 11, 12], [0, 1, 2, 3, 4, 5, 6, 7, 8, 9, 10, 11, 12, 13]] [[1, 2, 3, 4, 11, 12, 13, 14, 15], [2, 3, 4, 11, 12, 13, 14, 15], [3, 4, 11, 12, 13, 14, 15], [4, 11, 12, 13, 14, 15], [11, 12, 13, 14, 15], [10, 11, 12, 13, 14, 15], [7, 8, 9, 10, 11, 12, 13, 14, 15], [8, 9, 10, 11, 12, 13, 14, 15], [9, 10, 11, 12, 13, 14, 15], [10, 11, 12, 13, 14, 15], [11, 12, 13, 14, 15], [12, 13, 14, 15], [13, 14, 15], [15], [], []] (fun S f w => ∃ v1 : Value, ∃ p1 : Addr, (f 0 = (.pointer (some pa0)) ∧ f 1 = va1) ∧ Inv w0 w [cond (S 7) (o3 v1 t1) goneI] ∧ (S 0 = true → f 8 = (.pointer (some pa0))) ∧ (S 1 = true → f 9 = (.pointer (some pa0))) ∧ (S 2 = true → f 10 = (.pointer (some (Addr.add pa0 0)))) ∧ (S 3 = true → f 11 = (.pointer (some (Addr.add (Addr.add pa0 0) 7)))) ∧ (S 4 = true → f 12 = (.agg #[va0_2, va0_3])) ∧ (S 5 = true → f 13 = (.pointer (some pa0))) ∧ (S 6 = true → f 14 = va1) ∧ (S 7 = true → f 15 = v1) ∧ (S 8 = true → f 16 = (.pointer (some p1))) ∧ (S 9 = true → f 17 = (vi x1)) ∧ (S 10 = true → f 18 = (vi t2)) ∧ (S 11 = true → f 19 = (.tuple #[(vi t3), (vi t4)])) ∧ (S 12 = true → f 7 = (.tuple #[(vi t3), (vi t4)])) ∧ (S 13 = true → f 20 = (vi t3)) ∧ (S 14 = true → f 21 = (vi t4)) ∧ (S 15 = true → f 5 = (vi t3)) ∧ (S 8 = true → (ElemAt w p1 x1))) fol (by kernel_rfl) ?_ ?_ ?_
  ·
   exact fun d _ => ⟨.nilFunc, ⟨0, 0, none⟩, ⟨rfl, rfl⟩, H.ext (below_drawn d), nF, nF, nF, nF, nF, nF, nF, nF, nF, nF, nF, nF, nF, nF, nF, nF, nF⟩
  ·
   refine ⟨?_, ⟨?_, ⟨?_, ⟨?_, ⟨?_, ⟨?_, ⟨?_, ⟨?_, ⟨?_, ⟨?_, ⟨?_, ⟨?_, ⟨?_, ⟨?_, ⟨?_, ⟨?_, trivial⟩⟩⟩⟩⟩⟩⟩⟩⟩⟩⟩⟩⟩⟩⟩⟩
   ·
    rintro S f w hS - ⟨e1, e2, e3, e4, e11, e12, e13, e14, e15, -⟩ ⟨v1, p1, k, H, q0, t⟩
    obtain ⟨u12, rfl⟩ := up1 k.1
    exact Mv (.pointer (some pa0)) (Nl ⟨v1, p1, k, H, (fun _ => rfl), t⟩)
   ·
    rintro S f w hS ⟨e0, -⟩ ⟨e2, e3, e4, e11, e12, e13, e14, e15, -⟩ ⟨v1, p1, k, H, q0, q1, t⟩
    obtain ⟨u13, rfl⟩ := up1 (q0 e0)
    exact Nk rfl (Nl ⟨v1, p1, k, H, q0, (fun _ => rfl), t⟩)
   ·
    rintro S f w hS ⟨e0, e1, -⟩ ⟨e3, e4, e11, e12, e13, e14, e15, -⟩ ⟨v1, p1, k, H, q0, q1, q2, t⟩
    obtain ⟨u14, rfl⟩ := up1 (q1 e1)
    exact Fa fd61_0 rfl (Nl ⟨v1, p1, k, H, q0, q1, (fun _ => rfl), t⟩)
   ·
    rintro S f w hS ⟨e0, e1, e2, -⟩ ⟨e4, e11, e12, e13, e14, e15, -⟩ ⟨v1, p1, k, H, q0, q1, q2, q3, t⟩
    obtain ⟨u15, rfl⟩ := up1 (q2 e2)
    exact Fa fd54_2 rfl (Nl ⟨v1, p1, k, H, q0, q1, q2, (fun _ => rfl), t⟩)
   ·
    rintro S f w hS ⟨e0, e1, e2, e3, -⟩ ⟨e11, e12, e13, e14, e15, -⟩ ⟨v1, p1, k, H, q0, q1, q2, q3, q4, t⟩
    obtain ⟨u16, rfl⟩ := up1 (q3 e3)
    exact La [va0_2, va0_3] ag29 (cells_part 7 2 (cells_mono ha0 H.base) rfl) (Nl ⟨v1, p1, k, H, q0, q1, q2, q3, (fun _ => rfl), t⟩)
   ·
    rintro S f w hS - ⟨e10, e11, e12, e13, e14, e15, -⟩ ⟨v1, p1, k, H, q0, q1, q2, q3, q4, q5, t⟩
    obtain ⟨u17, rfl⟩ := up1 k.1
    exact Mv (.pointer (some pa0)) (Nl ⟨v1, p1, k, H, q0, q1, q2, q3, q4, (fun _ => rfl), t⟩)
   ·
    rintro S f w hS - ⟨e7, e8, e9, e10, e11, e12, e13, e14, e15, -⟩ ⟨v1, p1, k, H, q0, q1, q2, q3, q4, q5, q6, t⟩
    obtain ⟨u18, rfl⟩ := up1 k.2
    exact Mv va1 (Nl ⟨v1, p1, k, H, q0, q1, q2, q3, q4, q5, (fun _ => rfl), t⟩)
   ·
    rintro S f w hS ⟨e6, -⟩ ⟨e8, e9, e10, e11, e12, e13, e14, e15, -⟩ ⟨_, p1, k, H, q0, q1, q2, q3, q4, q5, q6, q7, q8, q9, q10, q11, q12, q13, q14, q15, Fhp1⟩
    obtain ⟨u19, rfl⟩ := up1 (q6 e6)
    have H := H.cF 0 hS rfl
    refine Ca call73 (c_station_values (hT.mono H.base) _ _ (H.arg ha1) hy1) ?_
    rintro v1 w1 hb1 ho1
    have H := H.addOwn hb1 ho1
    have H := H.pick [1] [o3 v1 t1] rfl (by decide)
    exact Nl ⟨v1, p1, k, H, q0, q1, q2, q3, q4, q5, q6, (fun _ => rfl), q8, q9, q10, q11, q12, q13, q14, q15, (fun g0 => (Fhp1 g0).mono hb1)⟩
   ·
    rintro S f w hS ⟨e6, e7, -⟩ ⟨e9, e10, e11, e12, e13, e14, e15, -⟩ ⟨v1, _, k, H, q0, q1, q2, q3, q4, q5, q6, q7, q8, q9, q10, q11, q12, q13, q14, q15, Fhp1⟩
    obtain ⟨u20, rfl⟩ := up1 (q7 e7)
    have G := H
    have H := H.cT 0 e7 rfl
    exact Ia underlying26 sz3 (H.own 0 rfl) hx1 fun p1 hp1 => Nl ⟨v1, p1, k, G, q0, q1, q2, q3, q4, q5, q6, q7, (fun _ => rfl), q9, q10, q11, q12, q13, q14, q15, (fun _ => hp1)⟩
   ·
    rintro S f w hS ⟨e6, e7, e8, -⟩ ⟨e10, e11, e12, e13, e14, e15, -⟩ ⟨v1, p1, k, H, q0, q1, q2, q3, q4, q5, q6, q7, q8, q9, q10, q11, q12, q13, q14, q15, Fhp1⟩
    obtain ⟨u21, rfl⟩ := up1 (q8 e8)
    have hp1 := Fhp1 e8
    exact Ld _ sc3 (hp1.flat 0 _ rfl) (Nl ⟨v1, p1, k, H, q0, q1, q2, q3, q4, q5, q6, q7, q8, (fun _ => rfl), q10, q11, q12, q13, q14, q15, Fhp1⟩)
   ·
    rintro S f w hS ⟨e5, e6, e7, e8, e9, -⟩ ⟨e11, e12, e13, e14, e15, -⟩ ⟨v1, p1, k, H, q0, q1, q2, q3, q4, q5, q6, q7, q8, q9, q10, q11, q12, q13, q14, q15, Fhp1⟩
    obtain ⟨u22, rfl⟩ := up2 (q5 e5) (q9 e9)
    refine Ca call74 (c_station_session_time _ _ _ _ _ _ (GSession.mk (GInside.mk a0.inside.mast a0.inside.day (GNet.mk a0.inside.net.Rates a0.inside.net.Sights) a0.inside.log a0.inside.state a0.inside.verdicts a0.inside.ledger a0.inside.flags)) (cells_mono ha0 H.base) (H.arg ra0_2) (H.arg ra0_3) (H.arg ra0_4) (H.arg ra0_6) (H.arg ra0_7) _ hy2) ?_
    rintro _ w2 hb2 rfl
    have H := H.ext hb2
    exact Nl ⟨v1, p1, k, H, q0, q1, q2, q3, q4, q5, q6, q7, q8, q9, (fun _ => rfl), q11, q12, q13, q14, q15, (fun g0 => (Fhp1 g0).mono hb2)⟩
   ·
    rintro S f w hS ⟨e0, e1, e2, e3, e4, e5, e6, e7, e8, e9, e10, -⟩ ⟨e12, e13, e14, e15, -⟩ ⟨v1, p1, k, H, q0, q1, q2, q3, q4, q5, q6, q7, q8, q9, q10, q11, q12, q13, q14, q15, Fhp1⟩
    obtain ⟨u23, rfl⟩ := up2 (q4 e4) (q10 e10)
    refine Ca call85 (c_sight_Best _ _ (GNet.mk a0.inside.net.Rates a0.inside.net.Sights) (H.arg ra0_2) (H.arg ra0_3) _ hy3) ?_
    rintro _ w3 hb3 rfl
    have H := H.ext hb3
    exact Nl ⟨v1, p1, k, H, q0, q1, q2, q3, q4, q5, q6, q7, q8, q9, q10, (fun _ => rfl), q12, q13, q14, q15, (fun g0 => (Fhp1 g0).mono hb3)⟩
   ·
    rintro S f w hS ⟨e0, e1, e2, e3, e4, e5, e6, e7, e8, e9, e10, e11, -⟩ ⟨e13, e14, e15, -⟩ ⟨v1, p1, k, H, q0, q1, q2, q3, q4, q5, q6, q7, q8, q9, q10, q11, q12, t⟩
    obtain ⟨u24, rfl⟩ := up1 (q11 e11)
    exact Mv (.tuple #[(vi t3), (vi t4)]) (Nl ⟨v1, p1, k, H, q0, q1, q2, q3, q4, q5, q6, q7, q8, q9, q10, q11, (fun _ => rfl), t⟩)
   ·
    rintro S f w hS ⟨e0, e1, e2, e3, e4, e5, e6, e7, e8, e9, e10, e11, e12, -⟩ ⟨e15, -⟩ ⟨v1, p1, k, H, q0, q1, q2, q3, q4, q5, q6, q7, q8, q9, q10, q11, q12, q13, t⟩
    obtain ⟨u25, rfl⟩ := up1 (q12 e12)
    exact Xt (vi t3) (Nl ⟨v1, p1, k, H, q0, q1, q2, q3, q4, q5, q6, q7, q8, q9, q10, q11, q12, (fun _ => rfl), t⟩)
   ·
    rintro S f w hS ⟨e0, e1, e2, e3, e4, e5, e6, e7, e8, e9, e10, e11, e12, -⟩ - ⟨v1, p1, k, H, q0, q1, q2, q3, q4, q5, q6, q7, q8, q9, q10, q11, q12, q13, q14, t⟩
    obtain ⟨u26, rfl⟩ := up1 (q12 e12)
    exact Xt (vi t4) (Nl ⟨v1, p1, k, H, q0, q1, q2, q3, q4, q5, q6, q7, q8, q9, q10, q11, q12, q13, (fun _ => rfl), t⟩)
   ·
    rintro S f w hS ⟨e0, e1, e2, e3, e4, e5, e6, e7, e8, e9, e10, e11, e12, e13, -⟩ - ⟨v1, p1, k, H, q0, q1, q2, q3, q4, q5, q6, q7, q8, q9, q10, q11, q12, q13, q14, q15, Fhp1⟩
    obtain ⟨u27, rfl⟩ := up1 (q13 e13)
    exact As (vi t3) (Nl ⟨v1, p1, k, H, q0, q1, q2, q3, q4, q5, q6, q7, q8, q9, q10, q11, q12, q13, q14, (fun _ => rfl), Fhp1⟩)
  ·
   rintro S f w ⟨e0, e1, e2, e3, e4, e5, e6, e7, e8, e9, e10, e11, e12, e13, e14, e15, -⟩ ⟨v1, p1, k, H, q0, q1, q2, q3, q4, q5, q6, q7, q8, q9, q10, q11, q12, q13, q14, q15, Fhp1⟩
   have H : Inv w0 w [o3 v1 t1] := (H.cT 0 e7 rfl)
   have hp1 := Fhp1 e8
   obtain ⟨u28, rfl⟩ := up2 (q15 e15) (q14 e14)
   refine As (vi t4) (Nl (Sq (Rg (Mv (vi t4) ?_))))
   rcases mustB_some hm with ⟨hc1, rfl⟩ | ⟨hc1, hm⟩
   · exact Cn call76 (c_station_needs_no hc1) (fun w' hb => ⟨rfl, (H.ext hb).base⟩)
   refine Ca call76 (c_station_needs_ok hc1) ?_
   rintro _ w4 hb4 rfl
   have hp1 := hp1.mono hb4
   have H := H.ext hb4
   refine Nl (Sq (Rg (Mv (vi t3) (Bs (α := Int) [(vi t3)] [t3] underlying26 el3 H fun v2 w5 H hb5 => ?_))))
   have hp1 := hp1.mono hb5
   obtain ⟨t5, hy4, hm⟩ := bind_some hm
   refine Ca call79 (c_station_said (hT.mono H.base) _ _ _ (H.own 1 rfl) hy4) ?_
   rintro _ w6 hb6 rfl
   have hp1 := hp1.mono hb6
   have H := H.ext hb6
   refine As (.string t5) (Nl (Rt ?_))
   obtain rfl : Ref.ok t5 = r0 := sj (show some (Ref.ok t5) = some r0 from hm)
   exact ends1 results47 rfl ⟨_, rfl, H.base, rfl⟩

theorem c_ledger_page_off {w0 : World} (va0 : Value) (a0 : (List (GKey × Int))) (ha0 : MapR w0 va0 a0) (a1 : Int) {r0 : Int} {r1 : Bool} (hm : ledger_page_off a0 a1 = some (r0, r1)) :
  Calls prog 116 #[va0, (vi a1)] w0 (Ret w0 fun _ v => v = .tuple #[(vi r0), (.bool r1)]) := by
 unfold ledger_page_off at hm
 refine cW func116 ntmps116 ?_
 have H := Inv.start (w := w0)
 refine Sq (Rg (As (vi 0) (As (.bool false) (Nl (Sq (Rg (Mv va0 (Mv (vi a1) (Bd (v := (.agg (Flat.cells (GKey.mk a1 false)).toArray)) (fun w => bd237_0_1 _ _ w) rfl (O.lookup2 (z := 0) (GKey.mk a1 false) underlying179 key237 ze3 (H.argM ha0) R R R R (Mv (.tuple #[(vi ((mget a0 (GKey.mk a1 false)).getD 0)), (.bool (mget a0 (GKey.mk a1 false)).isSome)]) (Xt (vi ((mget a0 (GKey.mk a1 false)).getD 0)) (Xt (.bool (mget a0 (GKey.mk a1 false)).isSome) ?_)))))))))))))
 refine As (vi ((mget a0 (GKey.mk a1 false)).getD 0)) (As (.bool (mget a0 (GKey.mk a1 false)).isSome) (Nl (Sq (Rg (Mv va0 (Mv (vi a1) (Bd (v := (.agg (Flat.cells (GKey.mk a1 true)).toArray)) (fun w => bd237_0_1 _ _ w) rfl (O.lookup2 (z := 0) (GKey.mk a1 true) underlying179 key237 ze3 (H.argM ha0) R R R R (Mv (.tuple #[(vi ((mget a0 (GKey.mk a1 true)).getD 0)), (.bool (mget a0 (GKey.mk a1 true)).isSome)]) (Xt (vi ((mget a0 (GKey.mk a1 true)).getD 0)) (Xt (.bool (mget a0 (GKey.mk a1 true)).isSome) (As (vi ((mget a0 (GKey.mk a1 true)).getD 0)) (As (.bool (mget a0 (GKey.mk a1 true)).isSome) ?_)))))))))))))
 refine Nl (Sq (Rg (Mv (vi ((mget a0 (GKey.mk a1 true)).getD 0)) (Mv (vi ((mget a0 (GKey.mk a1 false)).getD 0)) ?_))))
 obtain ⟨t1, ht1, hm⟩ := bind_some hm
 refine Su ht1 (Mv (.bool (mget a0 (GKey.mk a1 false)).isSome) (Mv (.bool (mget a0 (GKey.mk a1 false)).isSome) ?_))
 refine Cu 2 (fun f w => f 26 = (vi t1) ∧ f 30 = .bool ((mget a0 (GKey.mk a1 false)).isSome && (mget a0 (GKey.mk a1 true)).isSome) ∧ Inv w0 w []) ?_ ?_
 ·
  rcases bool_ft (mget a0 (GKey.mk a1 false)).isSome with hc1 | hc1
  ·
   exact Rs (i := 28) (v := .bool false) (cb hc1) (Sp (Pf (.bool false) (Nl ⟨rfl, cb (and_f hc1), H⟩)))
  ·
   exact Rs (i := 28) (v := .bool true) (cb hc1) (Mv (.bool (mget a0 (GKey.mk a1 true)).isSome) (Pt (.bool (mget a0 (GKey.mk a1 true)).isSome) (Nl ⟨rfl, cb (and_t hc1), H⟩)))
 ·
  rintro f w ⟨hf26, hf30, H⟩
  obtain ⟨u1, rfl⟩ := up2 hf26 hf30
  refine As (vi t1) (As (.bool ((mget a0 (GKey.mk a1 false)).isSome && (mget a0 (GKey.mk a1 true)).isSome)) (Nl (Rt ?_)))
  obtain ⟨rfl, rfl⟩ := j2 hm
  exact ends2 results116 R R ⟨_, rfl, H.base, rfl⟩

theorem c_ledger_Off_c1 {w0 : World} (va0 : Value) (a0 : (List (GKey × Int))) (ha0 : MapR w0 va0 a0) (pc0 : Addr) (c0 : Int) (hc0 : ∀ j c, (Flat.cells c0)[j]? = some c → w0.cell? (pc0.add j) = some c) {r0 : Int} {r1 : Bool} (hm : ledger_Off_c1 a0 c0 = some (r0, r1)) :
  Calls prog 115 #[va0, (.pointer (some pc0))] w0 (Ret w0 fun _ v => v = .tuple #[(vi r0), (.bool r1)]) := by
 unfold ledger_Off_c1 at hm
 refine cW func115 ntmps115 ?_
 have H := Inv.start (w := w0)
 refine Sq (Rg (As (vi 0) (As (.bool false) (Nl (Sq (Rg (Mv va0 (Ld _ sc3 (cells_mono hc0 H.base 0 _ rfl) ?_))))))))
 obtain ⟨⟨t1, t2⟩, hy1, hm⟩ := bind_some hm
 refine Ca call116 (c_ledger_page_off _ _ (H.argM ha0) _ hy1) ?_
 rintro _ w1 hb1 rfl
 have H := H.ext hb1
 refine Xt (vi t1) (Xt (.bool t2) (As (vi t1) (As (.bool t2) (Nl (Rt ?_)))))
 obtain ⟨rfl, rfl⟩ := j2 hm
 exact ends2 results115 R R ⟨_, rfl, H.base, rfl⟩

theorem c_ledger_isDay {w0 : World} (a0 : Int) {r0 : Bool} (hm : ledger_isDay a0 = some r0) :
  Calls prog 157 #[(vi a0)] w0 (Ret w0 fun _ v => v = (.bool r0)) := by
 unfold ledger_isDay at hm
 refine cW func157 ntmps157 ?_
 have H := Inv.start (w := w0)
 refine Sq (Rg (As (.bool false) (Nl (Sq (Rg (Mv (vi a0) ?_))))))
 obtain ⟨t1, hy1, hm⟩ := bind_some hm
 refine Ca call204 (c_ledger_within _ _ _ hy1) ?_
 rintro _ w1 hb1 rfl
 have H := H.ext hb1
 refine As (.bool t1) (Nl (Rt ?_))
 obtain rfl := sj hm
 exact ends1 results157 rfl ⟨_, rfl, H.base, rfl⟩

theorem c_ledger_of {w0 : World} (a0 : GEntry) {r0 : GKey} (hm : ledger_of a0 = some r0) :
  Calls prog 206 #[(.agg (Flat.cells a0).toArray)] w0 (Ret w0 fun _ v => v = (.agg (Flat.cells r0).toArray)) := by
 unfold ledger_of at hm
 refine cW func206 ntmps206 ?_
 have H := Inv.start (w := w0)
 refine Sq (Rg (Bx [(vi a0.Day), (.bool a0.Found), (vi a0.Error)] H fun b1 w1 H hb1 => Al [(vi 0), (.bool false)] ze237 H fun b2 w2 H hb2 => Nl (Sq (Rg (Fa fd74_0 rfl (Ld _ sc3 (H.cell 0 rfl 0 _ rfl) (Fa fd74_1 rfl (Ld _ sc4 (H.cell 0 rfl 1 _ rfl) (Bd (v := (.agg (Flat.cells (GKey.mk a0.Day a0.Found)).toArray)) (fun w => bd237_0_1 _ _ w) rfl ?_)))))))))
 refine St 1 0 [(vi a0.Day), (.bool a0.Found)] [(vi a0.Day), (.bool a0.Found)] sz237 H R R (one_cons rfl (one_cons rfl one_nil)) fun w3 H => Nl (Rt ?_)
 obtain rfl := sj hm
 exact ends1 results206 ⟨_, rfl, run_loadVar_agg ag237 rfl (H.cell 1 rfl)⟩ ⟨_, rfl, H.base, rfl⟩

theorem c_ledger_pageOf {w0 : World} (va0 : Value) (a0 : (List GEntry)) (ha0 : SliceR w0 va0 a0) {r0 : (List (GKey × Int))} (hm : ledger_pageOf a0 = some r0) :
  Calls prog 158 #[va0] w0 (Ret w0 fun w v => OwnM w0 w v r0) := by
 unfold ledger_pageOf at hm
 refine cW func158 ntmps158 ?_
 have H := Inv.start (w := w0)
 refine Sq (Rg (As (.map none) (Nl (Sq (Rg (O.makeMap (α := GKey) (β := Int) H R R fun m1 w1 H hb1 => As (.map (some m1)) (Nl (Sq (Sq (Rg (Mv va0 ?_)))))))))))
 refine Ln underlying38 (H.arg ha0) (Mv (vi 0) (Nl ?_))
 obtain ⟨s1, hm1, hm⟩ := bind_some hm
 refine W.via (fun f w => f 3 = (.map (some m1)) ∧ Inv w0 w [mapI (K := GKey) (V := Int) m1 s1]) ?_ ?_
 ·
  refine Bk ?_
  refine W.rangeL (i := 0) hm1 (fun rem ik1 s f w => ∃ z2 : (List (GKey × Int)), z2 = s ∧ a0.drop ik1 = rem ∧ f 9 = .int .i64 (ik1 : Int) ∧ f 8 = (vi ((a0.length : Nat) : Int)) ∧ f 3 = (.map (some m1)) ∧ f 7 = va0 ∧ Inv w0 w [mapI (K := GKey) (V := Int) m1 z2]) ?_ ?_ ?_
  ·
   exact ⟨_, rfl, List.drop_zero, rfl, rfl, rfl, rfl, H⟩
  ·
   rintro yk1 xs ik1 _ st f w ⟨z2, rfl, hdropk1, hf9, hf8, hf3, hf7, H⟩ hm2
   have hltk1 := drop_lt hdropk1; have hixk1 := drop_idx hdropk1
   obtain ⟨u1, rfl⟩ := up4 hf9 hf8 hf3 hf7
   have hinck1 := addI_lt hltk1 (H.arg ha0).len_le
   refine Sq (Rg (Ls (Nl (Sq (Ct (cb (decide_eq_true hltk1)) (Sk (Sq (Bk (Sq (Rg ?_))))))))))
   obtain ⟨p1, hp1, hrp1⟩ := fix_indexAddr underlying38 sz74 ha0 hixk1
   refine hrp1 R R R R (La [(vi yk1.Day), (.bool yk1.Found), (vi yk1.Error)] ag74 ((hp1.mono H.base).flat) (Al [(vi 0), (.bool false), (vi 0)] ze74 H fun b1 w2 H hb2 => St 1 0 [(vi yk1.Day), (.bool yk1.Found), (vi yk1.Error)] [(vi yk1.Day), (.bool yk1.Found), (vi yk1.Error)] sz74 H R R (one_cons rfl (one_cons rfl (one_cons rfl one_nil))) fun w3 H => Nl ?_))
   obtain ⟨t1, hy1, hm2⟩ := bind_some hm2
   refine W.drawN 5 (fun f => f 3 = (.map (some m1)) ∧ f 7 = va0 ∧ f 8 = (vi ((a0.length : Nat) : Int)) ∧ f 9 = (vi (ik1 : Int)) ∧ f 13 = (.map (some m1)) ∧ f 15 = (.agg (Flat.cells t1).toArray) ∧ f 17 = (vi yk1.Error)) fol (by kernel_rfl) ?_ ?_
   ·
    exact Pl (fun _ w8 _ hx => Mv (.map (some m1)) (Nl ⟨rfl, hx⟩)) (Pl (fun _ w8 _ hx => by have H := H.ext hx; exact La [(vi yk1.Day), (.bool yk1.Found), (vi yk1.Error)] ag74 (H.cell 1 rfl) (Nl ⟨rfl, hx⟩)) (Pl (fun _ w8 _ hx => Ca call206 (c_ledger_of yk1 hy1) (by rintro _ _ hb rfl; exact Nl ⟨rfl, hx.trans (hb.mono hx.size)⟩)) (Pl (fun _ w8 _ hx => Fa fd74_2 rfl (Nl ⟨rfl, hx⟩)) (Pl (fun _ w8 _ hx => by have H := H.ext hx; exact Ld _ sc3 (H.cell 1 rfl 2 _ rfl) (Nl ⟨rfl, hx⟩)) (PL.nil ⟨rfl, rfl, rfl, rfl, rfl, rfl, rfl⟩)))))
   ·
    rintro f w ⟨hf3, hf7, hf8, hf9, hf13, hf15, hf17⟩ hmd hx
    have H := H.ext hx
    obtain ⟨u2, rfl⟩ := up7 hf3 hf7 hf8 hf9 hf13 hf15 hf17
    refine O.mapUpdate 0 t1 yk1.Error underlying179 key237 H R R R R R fun w4 H => Nl (Rg (Ad hinck1 (Mv (vi ((ik1 : Int) + 1)) (Nl ?_))))
    have H := H.keep [0] [mapI (K := GKey) (V := Int) m1 (mput z2 t1 yk1.Error)] rfl (by decide)
    obtain rfl := sj hm2
    exact ⟨_, rfl, _, rfl, drop_next hdropk1, rfl, rfl, rfl, rfl, H⟩
  ·
   rintro ik1 _ f w ⟨z2, rfl, hdropk1, hf9, hf8, hf3, hf7, H⟩ hfin
   have hltk1 := drop_end hdropk1
   obtain ⟨u3, rfl⟩ := up4 hf9 hf8 hf3 hf7
   refine Sq (Rg (Ls (Nl (Sq (Cf (cb (decide_eq_false hltk1)) (W.exit ?_))))))
   have hq : z2 = s1 := hfin
   subst hq
   exact xT rfl ⟨rfl, H⟩
 ·
  rintro f w ⟨hf3, H⟩
  obtain ⟨u4, rfl⟩ := up1 hf3
  refine Sq (Rg (Mv (.map (some m1)) (As (.map (some m1)) (Nl (Rt ?_)))))
  obtain rfl := sj hm
  exact ends1 results158 rfl ⟨_, rfl, H.base, H.ownM 0 rfl⟩

theorem c_ledger_told {w0 : World} (va0 : Value) (a0 : (List GEntry)) (ha0 : SliceR w0 va0 a0) (a1 : Int) (va2 : Value) (a2 : (List (GKey × Int)) → Option (Int × Bool)) (ha2 : ∀ (w : World), Below w0.heap.size w0 w → ∀ (vx0 : Value) (x0 : (List (GKey × Int))) (hx0 : MapR w vx0 x0) (y0 : Int) (y1 : Bool), a2 x0 = some (y0, y1) → CallsV prog va2 #[vx0] w (Ret w fun _ v => v = .tuple #[(vi y0), (.bool y1)])) {r0 : Int} {r1 : Int} (hm : ledger_told a0 a1 a2 = some (r0, r1)) :
  Calls prog 114 #[va0, (vi a1), va2] w0 (Ret w0 fun _ v => v = .tuple #[(vi r0), (vi r1)]) := by
 unfold ledger_told at hm
 refine cW func114 ntmps114 ?_
 have H := Inv.start (w := w0)
 refine Sq (Rg (As (vi 0) (As (vi 0) (Nl (Sq (Bk (Sq (Rg (Mv va0 ?_)))))))))
 obtain ⟨t1, hy1, hm⟩ := bind_some hm
 refine Ca call152 (c_ledger_Valid _ _ (H.arg ha0) hy1) ?_
 rintro _ w1 hb1 rfl
 have H := H.ext hb1
 refine O.not R R R (As (.bool (!t1)) (Nl ?_))
 rcases ite_some hm with ⟨hc1, hm⟩ | ⟨hc1, hm⟩
 ·
  refine Ct (cb hc1) (Sq (Rg (As (vi 0) (As (vi 1) (Nl (Rt ?_))))))
  obtain ⟨rfl, rfl⟩ := j2 hm
  exact ends2 results114 R R ⟨_, rfl, H.base, rfl⟩
 ·
  refine Cf (cb hc1) (Sq (Rg (Mv (vi a1) ?_)))
  obtain ⟨t2, hy2, hm⟩ := bind_some hm
  refine Ca call157 (c_ledger_isDay _ hy2) ?_
  rintro _ w2 hb2 rfl
  have H := H.ext hb2
  refine O.not R R R (As (.bool (!t2)) (Nl ?_))
  rcases ite_some hm with ⟨hc2, hm⟩ | ⟨hc2, hm⟩
  ·
   refine Ct (cb hc2) (Sq (Rg (As (vi 0) (As (vi 7) (Nl (Rt ?_))))))
   obtain ⟨rfl, rfl⟩ := j2 hm
   exact ends2 results114 R R ⟨_, rfl, H.base, rfl⟩
  ·
   refine Cf (cb hc2) (Sk (Sq (Rg (Mv va2 (Mv va0 ?_)))))
   obtain ⟨t3, hy3, hm⟩ := bind_some hm
   refine Ca call158 (c_ledger_pageOf _ _ (H.arg ha0) hy3) ?_
   rintro _ w3 hb3 ⟨m1, rfl, ho1a, ho1b⟩
   have H := H.addMap hb3 ho1a ho1b
   obtain ⟨⟨t4, t5⟩, hy4, hm⟩ := bind_some hm
   refine O.callV R R R R (ha2 _ H.base _ _ (H.map 0 rfl) _ _ hy4) ?_
   rintro _ w4 hb4 rfl
   have H := H.ext hb4
   refine Mv (.tuple #[(vi t4), (.bool t5)]) (Xt (vi t4) (Xt (.bool t5) (As (vi t4) (As (.bool t5) (Nl (Sq (Sq (Rg (Mv (.bool t5) (O.not R R R (Nl ?_)))))))))))
   rcases ite_some hm with ⟨hc3, hm⟩ | ⟨hc3, hm⟩
   ·
    refine Ct (cb hc3) (Sq (Rg (As (vi 0) (As (vi 8) (Nl (Rt ?_))))))
    obtain ⟨rfl, rfl⟩ := j2 hm
    exact ends2 results114 R R ⟨_, rfl, H.base, rfl⟩
   ·
    refine Cf (cb hc3) (Sk (Sq (Rg (Mv (vi t4) (As (vi t4) (As (vi 0) (Nl (Rt ?_))))))))
    obtain ⟨rfl, rfl⟩ := j2 hm
    exact ends2 results114 R R ⟨_, rfl, H.base, rfl⟩

theorem c_ledger_Off {w0 : World} (va0 : Value) (a0 : (List GEntry)) (ha0 : SliceR w0 va0 a0) (a1 : Int) {r0 : Int} {r1 : Int} (hm : ledger_Off a0 a1 = some (r0, r1)) :
  Calls prog 86 #[va0, (vi a1)] w0 (Ret w0 fun _ v => v = .tuple #[(vi r0), (vi r1)]) := by
 unfold ledger_Off at hm
 refine cW func86 ntmps86 ?_
 have H := Inv.start (w := w0)
 refine Sq (Rg (Bx [(vi a1)] H fun b1 w1 H hb1 => As (vi 0) (As (vi 0) (Nl (Sq (Rg (Mv va0 (Ld _ sc3 (H.cell 0 rfl 0 _ rfl) (Mf ?_)))))))))
 obtain ⟨⟨t1, t2⟩, hy1, hm⟩ := bind_some hm
 refine Ca call114 (c_ledger_told _ _ (H.arg ha0) _ _ (fun x0 => ledger_Off_c1 x0 a1) (fun w hw vx0 x0 hx0 _ _ hy => callsV_mk call115 (c_ledger_Off_c1 vx0 x0 hx0 _ a1 (cells_mono (H.cell 0 rfl) hw) hy)) hy1) ?_
 rintro _ w2 hb2 rfl
 have H := H.ext hb2
 refine Xt (vi t1) (Xt (vi t2) (As (vi t1) (As (vi t2) (Nl (Rt ?_)))))
 obtain ⟨rfl, rfl⟩ := j2 hm
 exact ends2 results86 R R ⟨_, rfl, H.base, rfl⟩

set_option maxRecDepth 20000 in
theorem c_station_session_off {w0 : World} (hT : EnvS prog 0 4 5 7 w0) (pa0 : Addr) (va0_2 : Value) (va0_3 : Value) (va0_4 : Value) (va0_6 : Value) (va0_7 : Value) (a0 : GSession) (ha0 : ∀ j c, ((cI a0.inside va0_2 va0_3 va0_4 va0_6 va0_7) : List Value)[j]? = some c → w0.cell? (pa0.add j) = some c) (ra0_2 : SliceR w0 va0_2 a0.inside.net.Rates) (ra0_3 : SliceR w0 va0_3 a0.inside.net.Sights) (ra0_4 : SliceR w0 va0_4 a0.inside.log) (ra0_6 : SliceR w0 va0_6 a0.inside.verdicts) (ra0_7 : SliceR w0 va0_7 a0.inside.ledger) (va1 : Value) (a1 : (List ByteArray)) (ha1 : SliceR w0 va1 a1) {r0 : Ref (ByteArray)} (hm : station_session_off a0 a1 = some r0) :
  Calls prog 48 #[(.pointer (some pa0)), va1] w0 (PRet 87 w0 r0 fun r _ v => v = (.string r)) := by
 unfold station_session_off at hm
 refine calls_of_WP func48 rfl ntmps48 (Nat.le_of_ble_eq_true rfl) ?_
 have H := Inv.start (w := w0)
 refine Sq (Rg (As (.string (bs [])) (Nl (Sq ?_))))
 obtain ⟨t1, hy1, hm⟩ := bind_some hm
 obtain ⟨x1, hx1, hm⟩ := bind_some hm
 obtain ⟨⟨t2, t3⟩, hy2, hm⟩ := bind_some hm
 have H := H.addGone
 refine W.drawD 14 [[], [0], [0, 1], [0, 1, 2], [0, 1, 2, 3], [], [5], [5, 6], [5, 6, 7], [0, 1, 2, 3, 4, 5, 6, 7, 8], [0, 1, 2, 3, 4, 5, 6, 7, 8, 9], [0, 1, 2, 3, 4, 5, 6, 7, 8, 9, 10], [0, 1, 2, 3, 4, 5, 6, 7, 8, 9, 10], [0, 1, 2, 3, 4, 5, 6, 7, 8, 9, 10, 11]] [[1, 2, 3, 4, 9, 10, 11, 12, 13], [2, 3, 4, 9, 10, 11, 12, 13], [3, 4, 9, 10, 11, 12, 13], [4, 9, 10, 11, 12, 13], [9, 10, 11, 12, 13], [6, 7, 8, 9, 10, 11, 12, 13], [7, 8, 9, 10, 11, 12, 13], [8, 9, 10, 11, 12, 13], [9, 10, 11, 12, 13], [10, 11, 12, 13], [11, 12, 13], [13], [], []] (fun S f w => ∃ v1 : Value, ∃ p1 : Addr, (f 0 = (.pointer (some pa0)) ∧ f 1 = va1) ∧ Inv w0 w [cond (S 6) (o3 v1 t1) goneI] ∧ (S 0 = true → f 8 = (.pointer (some pa0))) ∧ (S 1 = true → f 9 = (.pointer (some pa0))) ∧ (S 2 = true → f 10 = (.pointer (some (Addr.add pa0 0)))) ∧ (S 3 = true → f 11 = (.pointer (some (Addr.add (Addr.add pa0 0) 15)))) ∧ (S 4 = true → f 12 = va0_7) ∧ (S 5 = true → f 13 = va1) ∧ (S 6 = true → f 14 = v1) ∧ (S 7 = true → f 15 = (.pointer (some p1))) ∧ (S 8 = true → f 16 = (vi x1)) ∧ (S 9 = true → f 17 = (.tuple #[(vi t2), (vi t3)])) ∧ (S 10 = true → f 7 = (.tuple #[(vi t2), (vi t3)])) ∧ (S 11 = true → f 18 = (vi t2)) ∧ (S 12 = true → f 19 = (vi t3)) ∧ (S 13 = true → f 5 = (vi t2)) ∧ (S 7 = true → (ElemAt w p1 x1))) fol (by kernel_rfl) ?_ ?_ ?_
 ·
  exact fun d _ => ⟨.nilFunc, ⟨0, 0, none⟩, ⟨rfl, rfl⟩, H.ext (below_drawn d), nF, nF, nF, nF, nF, nF, nF, nF, nF, nF, nF, nF, nF, nF, nF⟩
 ·
  refine ⟨?_, ⟨?_, ⟨?_, ⟨?_, ⟨?_, ⟨?_, ⟨?_, ⟨?_, ⟨?_, ⟨?_, ⟨?_, ⟨?_, ⟨?_, ⟨?_, trivial⟩⟩⟩⟩⟩⟩⟩⟩⟩⟩⟩⟩⟩⟩
  ·
   rintro S f w hS - ⟨e1, e2, e3, e4, e9, e10, e11, e12, e13, -⟩ ⟨v1, p1, k, H, q0, t⟩
   obtain ⟨u1, rfl⟩ := up1 k.1
   exact Mv (.pointer (some pa0)) (Nl ⟨v1, p1, k, H, (fun _ => rfl), t⟩)
  ·
   rintro S f w hS ⟨e0, -⟩ ⟨e2, e3, e4, e9, e10, e11, e12, e13, -⟩ ⟨v1, p1, k, H, q0, q1, t⟩
   obtain ⟨u2, rfl⟩ := up1 (q0 e0)
   exact Nk rfl (Nl ⟨v1, p1, k, H, q0, (fun _ => rfl), t⟩)
  ·
   rintro S f w hS ⟨e0, e1, -⟩ ⟨e3, e4, e9, e10, e11, e12, e13, -⟩ ⟨v1, p1, k, H, q0, q1, q2, t⟩
   obtain ⟨u3, rfl⟩ := up1 (q1 e1)
   exact Fa fd61_0 rfl (Nl ⟨v1, p1, k, H, q0, q1, (fun _ => rfl), t⟩)
  ·
   rintro S f w hS ⟨e0, e1, e2, -⟩ ⟨e4, e9, e10, e11, e12, e13, -⟩ ⟨v1, p1, k, H, q0, q1, q2, q3, t⟩
   obtain ⟨u4, rfl⟩ := up1 (q2 e2)
   exact Fa fd54_6 rfl (Nl ⟨v1, p1, k, H, q0, q1, q2, (fun _ => rfl), t⟩)
  ·
   rintro S f w hS ⟨e0, e1, e2, e3, -⟩ ⟨e9, e10, e11, e12, e13, -⟩ ⟨v1, p1, k, H, q0, q1, q2, q3, q4, t⟩
   obtain ⟨u5, rfl⟩ := up1 (q3 e3)
   exact Ld _ sc38 (cells_mono ha0 H.base 15 _ rfl) (Nl ⟨v1, p1, k, H, q0, q1, q2, q3, (fun _ => rfl), t⟩)
  ·
   rintro S f w hS - ⟨e6, e7, e8, e9, e10, e11, e12, e13, -⟩ ⟨v1, p1, k, H, q0, q1, q2, q3, q4, q5, t⟩
   obtain ⟨u6, rfl⟩ := up1 k.2
   exact Mv va1 (Nl ⟨v1, p1, k, H, q0, q1, q2, q3, q4, (fun _ => rfl), t⟩)
  ·
   rintro S f w hS ⟨e5, -⟩ ⟨e7, e8, e9, e10, e11, e12, e13, -⟩ ⟨_, p1, k, H, q0, q1, q2, q3, q4, q5, q6, q7, q8, q9, q10, q11, q12, q13, Fhp1⟩
   obtain ⟨u7, rfl⟩ := up1 (q5 e5)
   have H := H.cF 0 hS rfl
   refine Ca call73 (c_station_values (hT.mono H.base) _ _ (H.arg ha1) hy1) ?_
   rintro v1 w1 hb1 ho1
   have H := H.addOwn hb1 ho1
   have H := H.pick [1] [o3 v1 t1] rfl (by decide)
   exact Nl ⟨v1, p1, k, H, q0, q1, q2, q3, q4, q5, (fun _ => rfl), q7, q8, q9, q10, q11, q12, q13, (fun g0 => (Fhp1 g0).mono hb1)⟩
  ·
   rintro S f w hS ⟨e5, e6, -⟩ ⟨e8, e9, e10, e11, e12, e13, -⟩ ⟨v1, _, k, H, q0, q1, q2, q3, q4, q5, q6, q7, q8, q9, q10, q11, q12, q13, Fhp1⟩
   obtain ⟨u8, rfl⟩ := up1 (q6 e6)
   have G := H
   have H := H.cT 0 e6 rfl
   exact Ia underlying26 sz3 (H.own 0 rfl) hx1 fun p1 hp1 => Nl ⟨v1, p1, k, G, q0, q1, q2, q3, q4, q5, q6, (fun _ => rfl), q8, q9, q10, q11, q12, q13, (fun _ => hp1)⟩
  ·
   rintro S f w hS ⟨e5, e6, e7, -⟩ ⟨e9, e10, e11, e12, e13, -⟩ ⟨v1, p1, k, H, q0, q1, q2, q3, q4, q5, q6, q7, q8, q9, q10, q11, q12, q13, Fhp1⟩
   obtain ⟨u9, rfl⟩ := up1 (q7 e7)
   have hp1 := Fhp1 e7
   exact Ld _ sc3 (hp1.flat 0 _ rfl) (Nl ⟨v1, p1, k, H, q0, q1, q2, q3, q4, q5, q6, q7, (fun _ => rfl), q9, q10, q11, q12, q13, Fhp1⟩)
  ·
   rintro S f w hS ⟨e0, e1, e2, e3, e4, e5, e6, e7, e8, -⟩ ⟨e10, e11, e12, e13, -⟩ ⟨v1, p1, k, H, q0, q1, q2, q3, q4, q5, q6, q7, q8, q9, q10, q11, q12, q13, Fhp1⟩
   obtain ⟨u10, rfl⟩ := up2 (q4 e4) (q8 e8)
   refine Ca call86 (c_ledger_Off _ _ (H.arg ra0_7) _ hy2) ?_
   rintro _ w2 hb2 rfl
   have H := H.ext hb2
   exact Nl ⟨v1, p1, k, H, q0, q1, q2, q3, q4, q5, q6, q7, q8, (fun _ => rfl), q10, q11, q12, q13, (fun g0 => (Fhp1 g0).mono hb2)⟩
  ·
   rintro S f w hS ⟨e0, e1, e2, e3, e4, e5, e6, e7, e8, e9, -⟩ ⟨e11, e12, e13, -⟩ ⟨v1, p1, k, H, q0, q1, q2, q3, q4, q5, q6, q7, q8, q9, q10, t⟩
   obtain ⟨u11, rfl⟩ := up1 (q9 e9)
   exact Mv (.tuple #[(vi t2), (vi t3)]) (Nl ⟨v1, p1, k, H, q0, q1, q2, q3, q4, q5, q6, q7, q8, q9, (fun _ => rfl), t⟩)
  ·
   rintro S f w hS ⟨e0, e1, e2, e3, e4, e5, e6, e7, e8, e9, e10, -⟩ ⟨e13, -⟩ ⟨v1, p1, k, H, q0, q1, q2, q3, q4, q5, q6, q7, q8, q9, q10, q11, t⟩
   obtain ⟨u12, rfl⟩ := up1 (q10 e10)
   exact Xt (vi t2) (Nl ⟨v1, p1, k, H, q0, q1, q2, q3, q4, q5, q6, q7, q8, q9, q10, (fun _ => rfl), t⟩)
  ·
   rintro S f w hS ⟨e0, e1, e2, e3, e4, e5, e6, e7, e8, e9, e10, -⟩ - ⟨v1, p1, k, H, q0, q1, q2, q3, q4, q5, q6, q7, q8, q9, q10, q11, q12, t⟩
   obtain ⟨u13, rfl⟩ := up1 (q10 e10)
   exact Xt (vi t3) (Nl ⟨v1, p1, k, H, q0, q1, q2, q3, q4, q5, q6, q7, q8, q9, q10, q11, (fun _ => rfl), t⟩)
  ·
   rintro S f w hS ⟨e0, e1, e2, e3, e4, e5, e6, e7, e8, e9, e10, e11, -⟩ - ⟨v1, p1, k, H, q0, q1, q2, q3, q4, q5, q6, q7, q8, q9, q10, q11, q12, q13, Fhp1⟩
   obtain ⟨u14, rfl⟩ := up1 (q11 e11)
   exact As (vi t2) (Nl ⟨v1, p1, k, H, q0, q1, q2, q3, q4, q5, q6, q7, q8, q9, q10, q11, q12, (fun _ => rfl), Fhp1⟩)
 ·
  rintro S f w ⟨e0, e1, e2, e3, e4, e5, e6, e7, e8, e9, e10, e11, e12, e13, -⟩ ⟨v1, p1, k, H, q0, q1, q2, q3, q4, q5, q6, q7, q8, q9, q10, q11, q12, q13, Fhp1⟩
  have H : Inv w0 w [o3 v1 t1] := (H.cT 0 e6 rfl)
  have hp1 := Fhp1 e7
  obtain ⟨u15, rfl⟩ := up2 (q13 e13) (q12 e12)
  refine As (vi t3) (Nl (Sq (Rg (Mv (vi t3) ?_))))
  rcases mustB_some hm with ⟨hc1, rfl⟩ | ⟨hc1, hm⟩
  · exact Cn call76 (c_station_needs_no hc1) (fun w' hb => ⟨rfl, (H.ext hb).base⟩)
  refine Ca call76 (c_station_needs_ok hc1) ?_
  rintro _ w3 hb3 rfl
  have hp1 := hp1.mono hb3
  have H := H.ext hb3
  refine Nl (Sq (Rg (Mv (vi t2) (Bs (α := Int) [(vi t2)] [t2] underlying26 el3 H fun v2 w4 H hb4 => ?_))))
  have hp1 := hp1.mono hb4
  obtain ⟨t4, hy3, hm⟩ := bind_some hm
  refine Ca call79 (c_station_said (hT.mono H.base) _ _ _ (H.own 1 rfl) hy3) ?_
  rintro _ w5 hb5 rfl
  have hp1 := hp1.mono hb5
  have H := H.ext hb5
  refine As (.string t4) (Nl (Rt ?_))
  obtain rfl : Ref.ok t4 = r0 := sj (show some (Ref.ok t4) = some r0 from hm)
  exact ends1 results48 rfl ⟨_, rfl, H.base, rfl⟩

theorem c_station_bit {w0 : World} (hT : EnvS prog 0 4 5 7 w0) (va0 : Value) (a0 : (List ByteArray)) (ha0 : SliceR w0 va0 a0) {r0 : Ref (Int)} (hm : station_bit a0 = some r0) :
  Calls prog 87 #[va0] w0 (PRet 87 w0 r0 fun r _ v => v = (vi r)) := by
 unfold station_bit at hm
 refine calls_of_WP func87 rfl ntmps87 (Nat.le_of_ble_eq_true rfl) ?_
 have H := Inv.start (w := w0)
 refine Sq (Rg (As (vi 0) (Nl (Sq (Rg (Mv va0 ?_))))))
 obtain ⟨t1, hy1, hm⟩ := bind_some hm
 refine Ca call73 (c_station_values (hT.mono H.base) _ _ (H.arg ha0) hy1) ?_
 rintro v1 w1 hb1 ho1
 have H := H.addOwn hb1 ho1
 obtain ⟨x1, hx1, hm⟩ := bind_some hm
 refine Ia underlying26 sz3 (H.own 0 rfl) hx1 fun p1 hp1 => Ld _ sc3 (hp1.flat 0 _ rfl) (As (vi x1) (Nl (Sq (Rg (Mv (vi x1) (Ls ?_))))))
 rcases mustB_some hm with ⟨hc1, rfl⟩ | ⟨hc1, hm⟩
 · exact Cn call78 (c_station_must_no _ hc1) (fun w' hb => ⟨rfl, (H.ext hb).base⟩)
 refine Ca call78 (c_station_must_ok _ hc1) ?_
 rintro _ w2 hb2 rfl
 have hp1 := hp1.mono hb2
 have H := H.ext hb2
 refine Nl (Sq (Rg (Mv (vi x1) ?_)))
 obtain ⟨t2, ht2, hm⟩ := bind_some hm
 refine O.shl R R R R ht2 (As (vi t2) (Nl (Rt ?_)))
 obtain rfl : Ref.ok t2 = r0 := sj (show some (Ref.ok t2) = some r0 from hm)
 exact ends1 results87 rfl ⟨_, rfl, H.base, rfl⟩

theorem c_math_bits_OnesCount64 {w0 : World} (a0 : Int) {r0 : Int} (hm : math_bits_OnesCount64 a0 = some r0) :
  Calls prog 160 #[(.int .u64 a0)] w0 (Ret w0 fun _ v => v = (vi r0)) := by
 unfold math_bits_OnesCount64 at hm
 refine cW func160 ntmps160 ?_
 have H := Inv.start (w := w0)
 refine Sq (Rg (As (vi 0) (Nl (Sq (Rg (Mv (.int .u64 a0) (O.shrW (by decide) (by decide) R R R R (O.andW R R R R (Mv (.int .u64 a0) (O.andW R R R R (O.addW R R R R (As (.int .u64 (wrU ((bits .and .u64 (a0 / 2 ^ ((1 : Int).toNat)) 6148914691236517205) + (bits .and .u64 a0 6148914691236517205)))) ?_))))))))))))
 generalize hy1q : (wrU ((bits .and .u64 (a0 / 2 ^ ((1 : Int).toNat)) 6148914691236517205) + (bits .and .u64 a0 6148914691236517205))) = y1q
 refine Nl (Sq (Rg (Mv (.int .u64 y1q) (O.shrW (by decide) (by decide) R R R R (O.andW R R R R (Mv (.int .u64 y1q) (O.andW R R R R (O.addW R R R R (As (.int .u64 (wrU ((bits .and .u64 (y1q / 2 ^ ((2 : Int).toNat)) 3689348814741910323) + (bits .and .u64 y1q 3689348814741910323)))) ?_)))))))))
 generalize hy2q : (wrU ((bits .and .u64 (y1q / 2 ^ ((2 : Int).toNat)) 3689348814741910323) + (bits .and .u64 y1q 3689348814741910323))) = y2q
 refine Nl (Sq (Rg (Mv (.int .u64 y2q) (O.shrW (by decide) (by decide) R R R R (Mv (.int .u64 y2q) (O.addW R R R R (O.andW R R R R (As (.int .u64 (bits .and .u64 (wrU ((y2q / 2 ^ ((4 : Int).toNat)) + y2q)) 1085102592571150095)) ?_))))))))
 generalize hy3q : (bits .and .u64 (wrU ((y2q / 2 ^ ((4 : Int).toNat)) + y2q)) 1085102592571150095) = y3q
 refine Nl (Sq (Rg (Mv (.int .u64 y3q) (Mv (.int .u64 y3q) (O.shrW (by decide) (by decide) R R R R (O.addW R R R R (As (.int .u64 (wrU (y3q + (y3q / 2 ^ ((8 : Int).toNat))))) (Nl (Sq (Rg (Mv (.int .u64 (wrU (y3q + (y3q / 2 ^ ((8 : Int).toNat))))) (Mv (.int .u64 (wrU (y3q + (y3q / 2 ^ ((8 : Int).toNat))))) (O.shrW (by decide) (by decide) R R R R ?_)))))))))))))
 refine O.addW R R R R (As (.int .u64 (wrU ((wrU (y3q + (y3q / 2 ^ ((8 : Int).toNat)))) + ((wrU (y3q + (y3q / 2 ^ ((8 : Int).toNat)))) / 2 ^ ((16 : Int).toNat))))) ?_)
 generalize hy4q : (wrU ((wrU (y3q + (y3q / 2 ^ ((8 : Int).toNat)))) + ((wrU (y3q + (y3q / 2 ^ ((8 : Int).toNat)))) / 2 ^ ((16 : Int).toNat)))) = y4q
 refine Nl (Sq (Rg (Mv (.int .u64 y4q) (Mv (.int .u64 y4q) (O.shrW (by decide) (by decide) R R R R (O.addW R R R R (As (.int .u64 (wrU (y4q + (y4q / 2 ^ ((32 : Int).toNat))))) (Nl (Sq (Rg (Mv (.int .u64 (wrU (y4q + (y4q / 2 ^ ((32 : Int).toNat))))) (O.convW (by kernel_rfl) underlying3 R R R (O.and R R R R ?_)))))))))))))
 refine As (vi (bits .and .i64 (IntKind.i64.wrap (wrU (y4q + (y4q / 2 ^ ((32 : Int).toNat))))) 127)) (Nl (Rt ?_))
 subst hy4q hy3q hy2q hy1q
 obtain rfl := sj hm
 exact ends1 results160 rfl ⟨_, rfl, H.base, rfl⟩

theorem c_math_bits_OnesCount {w0 : World} (a0 : Int) {r0 : Int} (hm : math_bits_OnesCount a0 = some r0) :
  Calls prog 117 #[(.int .u64 a0)] w0 (Ret w0 fun _ v => v = (vi r0)) := by
 unfold math_bits_OnesCount at hm
 refine cW func117 ntmps117 ?_
 have H := Inv.start (w := w0)
 refine Sq (Rg (As (vi 0) (Nl (Sq (Cf rfl (Sk (Sq (Rg (Mv (.int .u64 a0) ?_)))))))))
 obtain ⟨t1, hy1, hm⟩ := bind_some hm
 refine Ca call160 (c_math_bits_OnesCount64 _ hy1) ?_
 rintro _ w1 hb1 rfl
 have H := H.ext hb1
 refine As (vi t1) (Nl (Rt ?_))
 obtain rfl := sj hm
 exact ends1 results117 rfl ⟨_, rfl, H.base, rfl⟩

theorem c_station_session_left {w0 : World} (hT : EnvS prog 0 4 5 7 w0) (pa0 : Addr) (va0_2 : Value) (va0_3 : Value) (va0_4 : Value) (va0_6 : Value) (va0_7 : Value) (a0 : GSession) (ha0 : ∀ j c, ((cI a0.inside va0_2 va0_3 va0_4 va0_6 va0_7) : List Value)[j]? = some c → w0.cell? (pa0.add j) = some c) (ra0_2 : SliceR w0 va0_2 a0.inside.net.Rates) (ra0_3 : SliceR w0 va0_3 a0.inside.net.Sights) (ra0_4 : SliceR w0 va0_4 a0.inside.log) (ra0_6 : SliceR w0 va0_6 a0.inside.verdicts) (ra0_7 : SliceR w0 va0_7 a0.inside.ledger) {r0 : ByteArray} (hm : station_session_left a0 = some r0) :
  Calls prog 88 #[(.pointer (some pa0))] w0 (Ret w0 fun _ v => v = (.string r0)) := by
 unfold station_session_left at hm
 refine cW func88 ntmps88 ?_
 have H := Inv.start (w := w0)
 refine Sq (Rg (As (.string (bs [])) (Nl (Sq (Rg (Mv (.pointer (some pa0)) (Nk rfl (Fa fd61_0 rfl (Fa fd54_7 rfl (Ld _ sc3 (cells_mono ha0 H.base 16 _ rfl) (O.convW (by kernel_rfl) underlying184 R R R ?_)))))))))))
 obtain ⟨t1, hy1, hm⟩ := bind_some hm
 refine Ca call117 (c_math_bits_OnesCount _ hy1) ?_
 rintro _ w1 hb1 rfl
 have H := H.ext hb1
 refine Bs (α := Int) [(vi t1)] [t1] underlying26 el3 H fun v1 w2 H hb2 => ?_
 obtain ⟨t2, hy2, hm⟩ := bind_some hm
 refine Ca call79 (c_station_said (hT.mono H.base) _ _ _ (H.own 0 rfl) hy2) ?_
 rintro _ w3 hb3 rfl
 have H := H.ext hb3
 refine As (.string t2) (Nl (Rt ?_))
 obtain rfl := sj hm
 exact ends1 results88 rfl ⟨_, rfl, H.base, rfl⟩

theorem c_station_session_torn {w0 : World} (X0 : Nat → Prop) (b0 : Nat) (va0_0 : Value) (va0_1 : Value) (va0_2 : Value) (va0_3 : Value) (va0_4 : Value) (a0 : GSession) (H0 : InvD X0 w0 w0 [boxI b0 61 (cI a0.inside va0_0 va0_1 va0_2 va0_3 va0_4), o3 va0_0 a0.inside.net.Rates, o92 va0_1 a0.inside.net.Sights, o70 va0_2 a0.inside.log, o3 va0_3 a0.inside.verdicts, o74 va0_4 a0.inside.ledger]) (hT : ∀ w', BelowX X0 w0 w' → EnvS prog 0 4 5 7 w') (va1 : Value) (a1 : (List ByteArray)) (ha1 : ∀ w', BelowX X0 w0 w' → SliceR w' va1 a1) {r0 : Ref (GSession × ByteArray)} (hm : station_session_torn a0 a1 = some r0) :
  Calls prog 49 #[(pt b0), va1] w0 (PPost 87 X0 w0 r0 (fun r v L1 => ∃ u0 u1 u2 u3 u4 : Value, L1 = [boxI b0 61 (cI r.1.inside u0 u1 u2 u3 u4), o3 u0 r.1.inside.net.Rates, o92 u1 r.1.inside.net.Sights, o70 u2 r.1.inside.log, o3 u3 r.1.inside.verdicts, o74 u4 r.1.inside.ledger] ∧ v = (.string r.2))) := by
 unfold station_session_torn at hm
 refine calls_of_WP func49 rfl ntmps49 (Nat.le_of_ble_eq_true rfl) ?_
 have H := H0
 refine Sq (Rg (As (.string (bs [])) (Nl (Sq (Rg (Mv va1 ?_))))))
 rcases refB_some hm with ⟨e1, hy1, rfl⟩ | ⟨t1, hy1, hm⟩
 · exact Cn call87 (c_station_bit (hT _ H.baseX) _ _ (ha1 _ H.baseX) hy1) (fun w' hb => ⟨rfl, (H.ext hb).baseX⟩)
 refine Ca call87 (c_station_bit (hT _ H.baseX) _ _ (ha1 _ H.baseX) hy1) ?_
 rintro _ w1 hb1 rfl
 have H := H.ext hb1
 refine As (vi t1) (Nl (Sq (Rg (Mv (pt b0) (Nk rfl (Fa fd61_0 rfl (Fa fd54_7 rfl (Ld _ sc3 (H.cell 0 rfl 16 _ rfl) (Mv (vi t1) (O.and R R R R (Ne_ ?_)))))))))))
 rcases mustB_some hm with ⟨hc1, rfl⟩ | ⟨hc1, hm⟩
 · exact Cn call78 (c_station_must_no _ hc1) (fun w' hb => ⟨rfl, (H.ext hb).baseX⟩)
 refine Ca call78 (c_station_must_ok _ hc1) ?_
 rintro _ w2 hb2 rfl
 have H := H.ext hb2
 refine Nl (Sq (Rg (Mv (pt b0) (Nk rfl (Fa fd61_0 rfl (Fa fd54_7 rfl (Ld _ sc3 (H.cell 0 rfl 16 _ rfl) (Mv (vi t1) (O.andNot R R R R (Nk rfl (Fa fd61_0 rfl (Fa fd54_7 rfl (St 0 16 [(vi (bits .andNot .i64 a0.inside.flags t1))] [(vi a0.inside.mast.Noon), (vi a0.inside.mast.Half), (vi a0.inside.mast.Full), (vi a0.inside.mast.Late), (vi a0.inside.mast.Again), (vi a0.inside.mast.Wind), (vi a0.inside.day), va0_0, va0_1, va0_2, (vi a0.inside.state.Place), (vi a0.inside.state.Wind), (.bool a0.inside.state.Flag), (vi a0.inside.state.At), va0_3, va0_4, (vi (bits .andNot .i64 a0.inside.flags t1))] sz3 H R R (one_cons rfl one_nil) ?_)))))))))))))
 intro w3 H
 refine Nl (Sq (Rg (Mv (pt b0) ?_)))
 obtain ⟨t2, hy2, hm⟩ := bind_some hm
 refine Ca call88 (c_station_session_left (hT _ H.baseX) _ _ _ _ _ _ (GSession.mk (GInside.mk a0.inside.mast a0.inside.day (GNet.mk a0.inside.net.Rates a0.inside.net.Sights) a0.inside.log a0.inside.state a0.inside.verdicts a0.inside.ledger (bits .andNot .i64 a0.inside.flags t1))) (H.cell 0 rfl) (H.own 1 rfl) (H.own 2 rfl) (H.own 3 rfl) (H.own 4 rfl) (H.own 5 rfl) hy2) ?_
 rintro _ w4 hb3 rfl
 have H := H.ext hb3
 refine As (.string t2) (Nl (Rt ?_))
 obtain rfl : Ref.ok ((GSession.mk (GInside.mk a0.inside.mast a0.inside.day a0.inside.net a0.inside.log a0.inside.state a0.inside.verdicts a0.inside.ledger (bits .andNot .i64 a0.inside.flags t1))), t2) = r0 := sj (show some (Ref.ok ((GSession.mk (GInside.mk a0.inside.mast a0.inside.day a0.inside.net a0.inside.log a0.inside.state a0.inside.verdicts a0.inside.ledger (bits .andNot .i64 a0.inside.flags t1))), t2)) = some r0 from hm)
 exact ends1 results49 rfl ⟨_, _, rfl, H.pick [0, 1, 2, 3, 4, 5] [boxI b0 61 [(vi a0.inside.mast.Noon), (vi a0.inside.mast.Half), (vi a0.inside.mast.Full), (vi a0.inside.mast.Late), (vi a0.inside.mast.Again), (vi a0.inside.mast.Wind), (vi a0.inside.day), va0_0, va0_1, va0_2, (vi a0.inside.state.Place), (vi a0.inside.state.Wind), (.bool a0.inside.state.Flag), (vi a0.inside.state.At), va0_3, va0_4, (vi (bits .andNot .i64 a0.inside.flags t1))], o3 va0_0 a0.inside.net.Rates, o92 va0_1 a0.inside.net.Sights, o70 va0_2 a0.inside.log, o3 va0_3 a0.inside.verdicts, o74 va0_4 a0.inside.ledger] rfl (by decide), va0_0, va0_1, va0_2, va0_3, va0_4, rfl, rfl⟩

theorem c_station_session_mended {w0 : World} (X0 : Nat → Prop) (b0 : Nat) (va0_0 : Value) (va0_1 : Value) (va0_2 : Value) (va0_3 : Value) (va0_4 : Value) (a0 : GSession) (H0 : InvD X0 w0 w0 [boxI b0 61 (cI a0.inside va0_0 va0_1 va0_2 va0_3 va0_4), o3 va0_0 a0.inside.net.Rates, o92 va0_1 a0.inside.net.Sights, o70 va0_2 a0.inside.log, o3 va0_3 a0.inside.verdicts, o74 va0_4 a0.inside.ledger]) (hT : ∀ w', BelowX X0 w0 w' → EnvS prog 0 4 5 7 w') (va1 : Value) (a1 : (List ByteArray)) (ha1 : ∀ w', BelowX X0 w0 w' → SliceR w' va1 a1) {r0 : Ref (GSession × ByteArray)} (hm : station_session_mended a0 a1 = some r0) :
  Calls prog 50 #[(pt b0), va1] w0 (PPost 87 X0 w0 r0 (fun r v L1 => ∃ u0 u1 u2 u3 u4 : Value, L1 = [boxI b0 61 (cI r.1.inside u0 u1 u2 u3 u4), o3 u0 r.1.inside.net.Rates, o92 u1 r.1.inside.net.Sights, o70 u2 r.1.inside.log, o3 u3 r.1.inside.verdicts, o74 u4 r.1.inside.ledger] ∧ v = (.string r.2))) := by
 unfold station_session_mended at hm
 refine calls_of_WP func50 rfl ntmps50 (Nat.le_of_ble_eq_true rfl) ?_
 have H := H0
 refine Sq (Rg (As (.string (bs [])) (Nl (Sq (Rg (Mv va1 ?_))))))
 rcases refB_some hm with ⟨e1, hy1, rfl⟩ | ⟨t1, hy1, hm⟩
 · exact Cn call87 (c_station_bit (hT _ H.baseX) _ _ (ha1 _ H.baseX) hy1) (fun w' hb => ⟨rfl, (H.ext hb).baseX⟩)
 refine Ca call87 (c_station_bit (hT _ H.baseX) _ _ (ha1 _ H.baseX) hy1) ?_
 rintro _ w1 hb1 rfl
 have H := H.ext hb1
 refine As (vi t1) (Nl (Sq (Rg (Mv (pt b0) (Nk rfl (Fa fd61_0 rfl (Fa fd54_7 rfl (Ld _ sc3 (H.cell 0 rfl 16 _ rfl) (Mv (vi t1) (O.and R R R R (Eq_ ?_)))))))))))
 rcases mustB_some hm with ⟨hc1, rfl⟩ | ⟨hc1, hm⟩
 · exact Cn call78 (c_station_must_no _ hc1) (fun w' hb => ⟨rfl, (H.ext hb).baseX⟩)
 refine Ca call78 (c_station_must_ok _ hc1) ?_
 rintro _ w2 hb2 rfl
 have H := H.ext hb2
 refine Nl (Sq (Rg (Mv (pt b0) (Nk rfl (Fa fd61_0 rfl (Fa fd54_7 rfl (Ld _ sc3 (H.cell 0 rfl 16 _ rfl) (Mv (vi t1) (O.or R R R R (Nk rfl (Fa fd61_0 rfl (Fa fd54_7 rfl (St 0 16 [(vi (bits .or .i64 a0.inside.flags t1))] [(vi a0.inside.mast.Noon), (vi a0.inside.mast.Half), (vi a0.inside.mast.Full), (vi a0.inside.mast.Late), (vi a0.inside.mast.Again), (vi a0.inside.mast.Wind), (vi a0.inside.day), va0_0, va0_1, va0_2, (vi a0.inside.state.Place), (vi a0.inside.state.Wind), (.bool a0.inside.state.Flag), (vi a0.inside.state.At), va0_3, va0_4, (vi (bits .or .i64 a0.inside.flags t1))] sz3 H R R (one_cons rfl one_nil) ?_)))))))))))))
 intro w3 H
 refine Nl (Sq (Rg (Mv (pt b0) ?_)))
 obtain ⟨t2, hy2, hm⟩ := bind_some hm
 refine Ca call88 (c_station_session_left (hT _ H.baseX) _ _ _ _ _ _ (GSession.mk (GInside.mk a0.inside.mast a0.inside.day (GNet.mk a0.inside.net.Rates a0.inside.net.Sights) a0.inside.log a0.inside.state a0.inside.verdicts a0.inside.ledger (bits .or .i64 a0.inside.flags t1))) (H.cell 0 rfl) (H.own 1 rfl) (H.own 2 rfl) (H.own 3 rfl) (H.own 4 rfl) (H.own 5 rfl) hy2) ?_
 rintro _ w4 hb3 rfl
 have H := H.ext hb3
 refine As (.string t2) (Nl (Rt ?_))
 obtain rfl : Ref.ok ((GSession.mk (GInside.mk a0.inside.mast a0.inside.day a0.inside.net a0.inside.log a0.inside.state a0.inside.verdicts a0.inside.ledger (bits .or .i64 a0.inside.flags t1))), t2) = r0 := sj (show some (Ref.ok ((GSession.mk (GInside.mk a0.inside.mast a0.inside.day a0.inside.net a0.inside.log a0.inside.state a0.inside.verdicts a0.inside.ledger (bits .or .i64 a0.inside.flags t1))), t2)) = some r0 from hm)
 exact ends1 results50 rfl ⟨_, _, rfl, H.pick [0, 1, 2, 3, 4, 5] [boxI b0 61 [(vi a0.inside.mast.Noon), (vi a0.inside.mast.Half), (vi a0.inside.mast.Full), (vi a0.inside.mast.Late), (vi a0.inside.mast.Again), (vi a0.inside.mast.Wind), (vi a0.inside.day), va0_0, va0_1, va0_2, (vi a0.inside.state.Place), (vi a0.inside.state.Wind), (.bool a0.inside.state.Flag), (vi a0.inside.state.At), va0_3, va0_4, (vi (bits .or .i64 a0.inside.flags t1))], o3 va0_0 a0.inside.net.Rates, o92 va0_1 a0.inside.net.Sights, o70 va0_2 a0.inside.log, o3 va0_3 a0.inside.verdicts, o74 va0_4 a0.inside.ledger] rfl (by decide), va0_0, va0_1, va0_2, va0_3, va0_4, rfl, rfl⟩

theorem c_flag_within {w0 : World} (a0 : Int) (a1 : Int) (a2 : Int) {r0 : Bool} (hm : flag_within a0 a1 a2 = some r0) :
  Calls prog 208 #[(vi a0), (vi a1), (vi a2)] w0 (Ret w0 fun _ v => v = (.bool r0)) := by
 unfold flag_within at hm
 refine cW func208 ntmps208 ?_
 have H := Inv.start (w := w0)
 refine Sq (Rg (As (.bool false) (Nl (Sq (Rg (Mv (vi a0) (Mv (vi a1) (Ge_ (Mv (.bool (decide (a1 ≤ a0))) ?_)))))))))
 refine Cu 4 (fun f w => f 14 = .bool ((decide (a1 ≤ a0)) && (decide (a0 ≤ a2))) ∧ Inv w0 w []) ?_ ?_
 ·
  rcases bool_ft (decide (a1 ≤ a0)) with hc1 | hc1
  ·
   exact Rs (i := 10) (v := .bool false) (cb hc1) (Sp (Sp (Sp (Pf (.bool false) (Nl ⟨cb (and_f hc1), H⟩)))))
  ·
   exact Rs (i := 10) (v := .bool true) (cb hc1) (Mv (vi a0) (Mv (vi a2) (Le_ (Pt (.bool (decide (a0 ≤ a2))) (Nl ⟨cb (and_t hc1), H⟩)))))
 ·
  rintro f w ⟨hf14, H⟩
  obtain ⟨u1, rfl⟩ := up1 hf14
  refine As (.bool ((decide (a1 ≤ a0)) && (decide (a0 ≤ a2)))) (Nl (Rt ?_))
  obtain rfl := sj hm
  exact ends1 results208 rfl ⟨_, rfl, H.base, rfl⟩

theorem c_flag_listed_c1 {w0 : World} (a0 : Int) (pc0 : Addr) (c0 : Int) (hc0 : ∀ j c, (Flat.cells c0)[j]? = some c → w0.cell? (pc0.add j) = some c) {r0 : Bool} (hm : flag_listed_c1 a0 c0 = some r0) :
  Calls prog 220 #[(vi a0), (.pointer (some pc0))] w0 (Ret w0 fun _ v => v = (.bool r0)) := by
 unfold flag_listed_c1 at hm
 refine cW func220 ntmps220 ?_
 have H := Inv.start (w := w0)
 refine Sq (Rg (As (.bool false) (Nl (Sq (Rg (Mv (vi a0) (Ld _ sc3 (cells_mono hc0 H.base 0 _ rfl) ?_)))))))
 obtain ⟨t1, hy1, hm⟩ := bind_some hm
 refine Ca call208 (c_flag_within _ _ _ hy1) ?_
 rintro _ w1 hb1 rfl
 have H := H.ext hb1
 refine O.not R R R (As (.bool (!t1)) (Nl (Rt ?_)))
 obtain rfl := sj hm
 exact ends1 results220 rfl ⟨_, rfl, H.base, rfl⟩

theorem c_flag_listed {w0 : World} (va0 : Value) (a0 : (List Int)) (ha0 : SliceR w0 va0 a0) (a1 : Int) {r0 : Bool} (hm : flag_listed a0 a1 = some r0) :
  Calls prog 207 #[va0, (vi a1)] w0 (Ret w0 fun _ v => v = (.bool r0)) := by
 unfold flag_listed at hm
 refine cW func207 ntmps207 ?_
 have H := Inv.start (w := w0)
 refine Sq (Rg (Bx [(vi a1)] H fun b1 w1 H hb1 => As (.bool false) (Nl (Sq (Rg (Mv va0 (Ln underlying26 (H.arg ha0) ?_)))))))
 obtain ⟨t1, hy1, hm⟩ := bind_some hm
 refine Ca call208 (c_flag_within _ _ _ hy1) ?_
 rintro _ w2 hb2 rfl
 have H := H.ext hb2
 refine Mv (.bool t1) ?_
 obtain ⟨b2, hm1, hm⟩ := bind_some hm
 refine Cu 5 (fun f w => f 13 = .bool b2 ∧ Inv w0 w [boxI b1 3 [(vi a1)]]) ?_ ?_
 ·
  rcases ite_some hm1 with ⟨hc1, hm1⟩ | ⟨hc1, hm1⟩
  ·
   refine Rs (i := 8) (v := .bool true) (cb hc1) (Mv va0 (Mf ?_))
   obtain ⟨t2, hy2, hm1⟩ := bind_some hm1
   refine Ca call59 (c_slices_ContainsFunc_int _ _ (H.arg ha0) _ (fun x0 => flag_listed_c1 x0 a1) (fun w hw x0 _ hy => callsV_mk call220 (c_flag_listed_c1 x0 _ a1 (cells_mono (H.cell 0 rfl) hw) hy)) hy2) ?_
   rintro _ w3 hb3 rfl
   have H := H.ext hb3
   refine O.not R R R (Pt (.bool (!t2)) (Nl ?_))
   obtain rfl := sj hm1
   exact ⟨rfl, H⟩
  ·
   refine Rs (i := 8) (v := .bool false) (cb hc1) (Sp (Sp (Sp (Sp (Pf (.bool false) (Nl ?_))))))
   obtain rfl := sj hm1
   exact ⟨rfl, H⟩
 ·
  rintro f w ⟨hf13, H⟩
  obtain ⟨u1, rfl⟩ := up1 hf13
  refine As (.bool b2) (Nl (Rt ?_))
  obtain rfl := sj hm
  exact ends1 results207 rfl ⟨_, rfl, H.base, rfl⟩

theorem c_flag_ValidDigits {w0 : World} (va0 : Value) (a0 : (List Int)) (ha0 : SliceR w0 va0 a0) {r0 : Bool} (hm : flag_ValidDigits a0 = some r0) :
  Calls prog 161 #[va0] w0 (Ret w0 fun _ v => v = (.bool r0)) := by
 unfold flag_ValidDigits at hm
 refine cW func161 ntmps161 ?_
 have H := Inv.start (w := w0)
 refine Sq (Rg (As (.bool false) (Nl (Sq (Rg (Mv va0 ?_))))))
 obtain ⟨t1, hy1, hm⟩ := bind_some hm
 refine Ca call207 (c_flag_listed _ _ (H.arg ha0) _ hy1) ?_
 rintro _ w1 hb1 rfl
 have H := H.ext hb1
 refine As (.bool t1) (Nl (Rt ?_))
 obtain rfl := sj hm
 exact ends1 results161 rfl ⟨_, rfl, H.base, rfl⟩

theorem c_flag_isSet {w0 : World} (a0 : Int) {r0 : Bool} (hm : flag_isSet a0 = some r0) :
  Calls prog 162 #[(vi a0)] w0 (Ret w0 fun _ v => v = (.bool r0)) := by
 unfold flag_isSet at hm
 refine cW func162 ntmps162 ?_
 have H := Inv.start (w := w0)
 refine Sq (Rg (As (.bool false) (Nl (Sq (Rg (Mv (vi a0) ?_))))))
 obtain ⟨t1, hy1, hm⟩ := bind_some hm
 refine Ca call208 (c_flag_within _ _ _ hy1) ?_
 rintro _ w1 hb1 rfl
 have H := H.ext hb1
 refine As (.bool t1) (Nl (Rt ?_))
 obtain rfl := sj hm
 exact ends1 results162 rfl ⟨_, rfl, H.base, rfl⟩

theorem c_flag_asked {w0 : World} (va0 : Value) (a0 : (List Int)) (ha0 : SliceR w0 va0 a0) (a1 : Int) {r0 : Int} (hm : flag_asked a0 a1 = some r0) :
  Calls prog 118 #[va0, (vi a1)] w0 (Ret w0 fun _ v => v = (vi r0)) := by
 unfold flag_asked at hm
 refine cW func118 ntmps118 ?_
 have H := Inv.start (w := w0)
 refine Sq (Rg (As (vi 0) (Nl (Sq (Bk (Sq (Rg (Mv va0 ?_))))))))
 obtain ⟨t1, hy1, hm⟩ := bind_some hm
 refine Ca call161 (c_flag_ValidDigits _ _ (H.arg ha0) hy1) ?_
 rintro _ w1 hb1 rfl
 have H := H.ext hb1
 refine O.not R R R (As (.bool (!t1)) (Nl ?_))
 rcases ite_some hm with ⟨hc1, hm⟩ | ⟨hc1, hm⟩
 ·
  refine Ct (cb hc1) (Sq (Rg (As (vi 1) (Nl (Rt ?_)))))
  obtain rfl := sj hm
  exact ends1 results118 rfl ⟨_, rfl, H.base, rfl⟩
 ·
  refine Cf (cb hc1) (Sq (Rg (Mv (vi a1) ?_)))
  obtain ⟨t2, hy2, hm⟩ := bind_some hm
  refine Ca call162 (c_flag_isSet _ hy2) ?_
  rintro _ w2 hb2 rfl
  have H := H.ext hb2
  refine O.not R R R (As (.bool (!t2)) (Nl ?_))
  rcases ite_some hm with ⟨hc2, hm⟩ | ⟨hc2, hm⟩
  ·
   refine Ct (cb hc2) (Sq (Rg (As (vi 7) (Nl (Rt ?_)))))
   obtain rfl := sj hm
   exact ends1 results118 rfl ⟨_, rfl, H.base, rfl⟩
  ·
   refine Cf (cb hc2) (Sk (Sq (Rg (As (vi 0) (Nl (Rt ?_))))))
   obtain rfl := sj hm
   exact ends1 results118 rfl ⟨_, rfl, H.base, rfl⟩

theorem c_flag_place {w0 : World} (a0 : Int) {r0 : Int} (hm : flag_place a0 = some r0) :
  Calls prog 165 #[(vi a0)] w0 (Ret w0 fun _ v => v = (vi r0)) := by
 unfold flag_place at hm
 refine cW func165 ntmps165 ?_
 have H := Inv.start (w := w0)
 refine Sq (Rg (As (vi 0) (Nl (Sq (Rg (Mv (vi a0) ?_))))))
 obtain ⟨t1, ht1, hm⟩ := bind_some hm
 refine Su ht1 (As (vi t1) (Nl (Rt ?_)))
 obtain rfl := sj hm
 exact ends1 results165 rfl ⟨_, rfl, H.base, rfl⟩

end Go.Proofs
