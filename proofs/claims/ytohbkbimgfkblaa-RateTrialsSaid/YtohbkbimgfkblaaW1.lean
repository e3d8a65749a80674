/-
  The walks: each function does what its model says, where the model has a value. No other condition.
-/
import Derived.Test.YtohbkbimgfkblaaW0
namespace Go.Proofs
open Go.Fw Go.RowKit Go.Shelf
section
open Go.Fw
variable {P : Program} {n : Nat} {ds : Md} {ops : Array Oper} {rest : List Oper} {K : Fr → World → Prop} {f : Fr} {w : World} {T T0 : TypeId} {pos : String} {aft : Array Edge} {g : Option (Nat × Bool)} {d : Nat}
theorem sliceLA {α : Type} [Ty α] {s a : Operand} {v : Value} {xs ys : List α} {lo : Int} {E : TypeId} (hT : P.underlying T = some (.slice E)) (hE : SizeT P E (Ty.size α)) (hR : SliceR w v xs) (hc : cutI xs lo ((xs.length : Nat) : Int) = some ys)
    (hg : want ops g f = true) (hd : Nat.blt d n = true) (hs : ev f s = v) (ha : ev f a = .int .i64 lo) (h : ∀ v', (∀ w1, SliceR w1 v xs → SliceR w1 v' ys) → WL P n ds ops rest K (upd f d v') w) :
    WL P n ds ops (⟨some d, .slice T s (some a) none none, T0, pos, aft, g⟩ :: rest) K f w := by
  obtain ⟨h0, h1, h2, _⟩ := cutI_some hc
  obtain ⟨ad, len, cap, hv, hl, h4, h5⟩ := sliced_sliceR hR hc
  have he := elem_of hT
  have hT' : P.underlying T = some (.slice (P.elem T)) := by rw [he]; exact hT
  refine WL.val hg hd ?_ (h (sliced ad lo.toNat xs.length cap (Ty.size α)) fun w1 h1 => ?_)
  · subst hv
    subst hl
    simp only [execOp, Option.map_some, Option.map_none, hs, ha, Sem.run_bind, run_sliceAt_slice w T _ _ _ _ hT', run_slice_l w T ad _ cap hT' .i64 lo h0 (by omega), he, run_sizeOf' hE, Result.andThen_ok, Sem.run_pure]
  · obtain ⟨ad', len', cap', hv', hl', h4', h5'⟩ := sliced_sliceR h1 hc
    have := hv.symm.trans hv'
    injection this with e1 e2 e3
    subst e1 e3
    simpa using h5'
end
set_option maxRecDepth 20000 in
theorem c_noongunref06_Ranked {w0 : World} (va0 : Value) (a0 : (List GBox)) (ha0 : SliceR w0 va0 a0) {r0 : (List GTrial)} {r1 : Int} (hm : noongunref06_Ranked a0 = some (r0, r1)) :
  Calls Try.prog 50 #[va0] w0 (Ret w0 fun w v => ∃ vr0 : Value, v = .tuple #[vr0, (.int .i64 r1)] ∧ OwnR w0 w vr0 28 r0) := by
 unfold noongunref06_Ranked at hm
 refine calls_of_W Try.func50 rfl Try.ntmps50 (Nat.le_of_ble_eq_true rfl) ?_
 have H := Inv.start (w := w0)
 refine W.seq ?_
 refine W.region ?_
 have H := H.addNil (α := GTrial) (E := 28)
 refine O.assign (v := (.slice none 0 0)) rfl rfl rfl ?_
 refine O.assign (v := (.int .i64 0)) rfl rfl rfl ?_
 refine WL.nil ?_
 refine W.seq ?_
 refine W.seq ?_
 refine W.region ?_
 refine O.move (v := va0) rfl rfl rfl ?_
 obtain ⟨t1, hy1, hm⟩ := bind_some hm
 refine O.call Try.call47 rfl rfl rfl (c_noongunref06_ValidBoxes _ _ (H.arg ha0) hy1) ?_
 rintro _ w1 hb1 rfl
 have H := H.ext hb1
 refine O.not rfl rfl rfl ?_
 refine WL.nil ?_
 rcases ite_some hm with ⟨hc1, hm⟩ | ⟨hc1, hm⟩
 ·
  refine W.cond_true (congrArg Value.bool hc1) ?_
  refine W.seq ?_
  refine W.region ?_
  have H := H.addNil (α := GTrial) (E := 28)
  refine O.assign (v := (.slice none 0 0)) rfl rfl rfl ?_
  refine O.assign (v := (.int .i64 1)) rfl rfl rfl ?_
  refine WL.nil ?_
  refine W.ret ?_
  have hq : (([] : List GTrial), 1) = (r0, r1) := Option.some.inj (show some (([] : List GTrial), 1) = some (r0, r1) from hm)
  obtain ⟨he0, hq0⟩ := Prod.mk.inj hq; clear hq; subst he0
  subst hq0
  exact ends2 Try.results50 rfl rfl ⟨_, rfl, H.base, ⟨_, rfl, H.ownR 1 rfl⟩⟩
 ·
  refine W.cond_false (congrArg Value.bool hc1) ?_
  refine W.skip ?_
  refine W.seq ?_
  refine W.region ?_
  have H := H.addNil (α := GTrial) (E := 28)
  refine O.assign (v := (.slice none 0 0)) rfl rfl rfl ?_
  refine WL.nil ?_
  refine W.seq ?_
  refine W.seq ?_
  refine W.region ?_
  refine O.move (v := va0) rfl rfl rfl ?_
  refine O.lenS Try.underlying55 (H.arg ha0) rfl rfl rfl ?_
  refine O.move (v := (.int .i64 0)) rfl rfl rfl ?_
  refine WL.nil ?_
  obtain ⟨o1, hm1, hm⟩ := bind_some hm
  refine W.via (fun f w => ∃ s1 : (List GTrial), ∃ v4 : Value, o1 = .next s1 ∧ f 4 = v4 ∧ Inv w0 w [ownI (α := GTrial) v4 28 s1]) ?_ ?_
  ·
   refine W.block ?_
   have H := H.keep [1] [ownI (α := GTrial) (.slice none 0 0) 28 ([] : List GTrial)] rfl (by decide)
   refine W.rangeL (i := 0) hm1 (fun rem ik1 s f w => ∃ z2 : (List GTrial), ∃ v2 : Value, z2 = s ∧ a0.drop ik1 = rem ∧ f 15 = .int .i64 (ik1 : Int) ∧ f 14 = (.int .i64 ((a0.length : Nat) : Int)) ∧ f 4 = v2 ∧ f 13 = va0 ∧ Inv w0 w [ownI (α := GTrial) v2 28 z2]) ?_ ?_ ?_
   ·
    exact ⟨_, (.slice none 0 0), rfl, List.drop_zero, rfl, rfl, rfl, rfl, H⟩
   ·
    rintro yk1 xs ik1 _ st f w ⟨z2, v2, rfl, hdropk1, hf15, hf14, hf4, hf13, H⟩ hm2
    have hltk1 := drop_lt hdropk1; have hixk1 := drop_idx hdropk1
    obtain ⟨u1, rfl⟩ := up4 hf15 hf14 hf4 hf13
    have hinck1 := addI_lt hltk1 (H.arg ha0).len_le
    refine W.seq ?_
    refine W.region ?_
    refine O.lss rfl rfl rfl rfl ?_
    refine WL.nil ?_
    refine W.seq ?_
    refine W.cond_true (congrArg Value.bool (decide_eq_true hltk1)) ?_
    refine W.skip ?_
    refine W.seq ?_
    obtain ⟨o2, hm3, hm2⟩ := bind_some hm2
    refine W.via (fun f w => ∃ s2 : (List GTrial), ∃ v5 : Value, o2 = .next s2 ∧ f 4 = v5 ∧ f 13 = va0 ∧ f 14 = (.int .i64 ((a0.length : Nat) : Int)) ∧ f 15 = (.int .i64 (ik1 : Int)) ∧ Inv w0 w [ownI (α := GTrial) v5 28 s2]) ?_ ?_
    ·
     refine W.block ?_
     refine W.seq ?_
     refine W.region ?_
     obtain ⟨p1, hp1, hrp1⟩ := fix_indexAddr Try.underlying55 sz24 ha0 hixk1
     obtain ⟨v6, hs1, hc2⟩ := GBox_open hp1
     refine hrp1 rfl rfl rfl rfl ?_
     refine O.loadA [(.string yk1.Name), v6] ag24 rfl rfl rfl rfl ((cells_mono hc2 H.base)) ?_
     refine O.alloc [(.string ByteArray.empty), (.slice none 0 0)] ze24 H rfl rfl rfl ?_
     intro b1 w2 H hb2
     have H := H.addNil (α := Int) (E := 3)
     refine O.store 1 0 [(.string yk1.Name), v6] [(.string yk1.Name), v6] sz24 H rfl rfl rfl rfl rfl rfl ⟨⟨rfl, rfl⟩, rfl⟩ (one_cons rfl (one_cons (SliceR.one (H.arg hs1)) one_nil)) ?_
     intro w3 H
     refine WL.nil ?_
     refine W.seq ?_
     refine W.region ?_
     refine O.loadA [(.string yk1.Name), v6] ag24 rfl rfl rfl rfl (H.cell 1 rfl) ?_
     obtain ⟨⟨t2, t3⟩, hy2, hm3⟩ := bind_some hm3
     refine O.call Try.call48 rfl rfl rfl (c_noongunref06_Trial _ (GBox.mk yk1.Name yk1.Errors) (H.arg hs1) hy2) ?_
     rintro _ w4 hb3 rfl
     have H := H.ext hb3
     refine O.move (v := (.tuple #[(.agg (Flat.cells t2).toArray), (.int .i64 t3)])) rfl rfl rfl ?_
     refine O.extract (v := (.agg (Flat.cells t2).toArray)) rfl rfl rfl rfl ?_
     refine O.extract (v := (.int .i64 t3)) rfl rfl rfl rfl ?_
     refine O.alloc [(.string ByteArray.empty), (.int .i64 0), (.int .i64 0), (.int .i64 0), (.int .i64 0)] ze28 H rfl rfl rfl ?_
     intro b2 w5 H hb4
     refine O.store 3 0 [(.string t2.Name), (.int .i64 t2.Least), (.int .i64 t2.Greatest), (.int .i64 t2.Leap), (.int .i64 t2.Number)] [(.string t2.Name), (.int .i64 t2.Least), (.int .i64 t2.Greatest), (.int .i64 t2.Leap), (.int .i64 t2.Number)] sz28 H rfl rfl rfl rfl rfl rfl ⟨⟨rfl, rfl⟩, rfl⟩ (one_cons rfl (one_cons rfl (one_cons rfl (one_cons rfl (one_cons rfl one_nil))))) ?_
     intro w6 H
     refine O.assign (v := (.int .i64 t3)) rfl rfl rfl ?_
     refine WL.nil ?_
     refine W.seq ?_
     refine W.seq ?_
     refine W.region ?_
     refine O.move (v := (.int .i64 t3)) rfl rfl rfl ?_
     refine O.neq rfl rfl rfl rfl ?_
     refine WL.nil ?_
     rcases ite_some hm3 with ⟨hc3, hm3⟩ | ⟨hc3, hm3⟩
     ·
      refine W.cond_true (congrArg Value.bool hc3) ?_
      refine W.seq ?_
      refine W.region ?_
      refine O.move (v := (.int .i64 t3)) rfl rfl rfl ?_
      have H := H.addNil (α := GTrial) (E := 28)
      refine O.assign (v := (.slice none 0 0)) rfl rfl rfl ?_
      refine O.assign (v := (.int .i64 t3)) rfl rfl rfl ?_
      refine WL.nil ?_
      refine W.ret ?_
      obtain rfl := Option.some.inj hm3
      obtain rfl := Option.some.inj hm2
      refine ⟨_, rfl, ?_⟩
      rintro rfl
      have hq : (([] : List GTrial), t3) = (r0, r1) := Option.some.inj (show some (([] : List GTrial), t3) = some (r0, r1) from hm)
      obtain ⟨he0, hq0⟩ := Prod.mk.inj hq; clear hq; subst he0
      subst hq0
      exact ends2 Try.results50 rfl rfl ⟨_, rfl, H.base, ⟨_, rfl, H.ownR 4 rfl⟩⟩
     ·
      refine W.cond_false (congrArg Value.bool hc3) ?_
      refine W.skip ?_
      refine W.seq ?_
      refine W.region ?_
      refine O.move (v := v2) rfl rfl rfl ?_
      refine O.lenS Try.underlying62 (H.own 0 rfl) rfl rfl rfl ?_
      refine O.assign (v := (.int .i64 ((z2.length : Nat) : Int))) rfl rfl rfl ?_
      refine WL.nil ?_
      refine W.seq ?_
      obtain ⟨s3, hm4, hm3⟩ := bind_some hm3
      refine W.via (fun f w => f 4 = v2 ∧ f 7 = (.pointer (some ⟨b2, 0, none⟩)) ∧ f 9 = (.int .i64 s3) ∧ f 13 = va0 ∧ f 14 = (.int .i64 ((a0.length : Nat) : Int)) ∧ f 15 = (.int .i64 (ik1 : Int)) ∧ Inv w0 w [ownI (α := GTrial) v2 28 z2, boxI b2 28 [(.string t2.Name), (.int .i64 t2.Least), (.int .i64 t2.Greatest), (.int .i64 t2.Leap), (.int .i64 t2.Number)]]) ?_ ?_
      ·
       refine W.block ?_
       have H := H.keep [0, 3] [ownI (α := GTrial) v2 28 z2, boxI b2 28 [(.string t2.Name), (.int .i64 t2.Least), (.int .i64 t2.Greatest), (.int .i64 t2.Leap), (.int .i64 t2.Number)]] rfl (by decide)
       refine W.loopR hm4 (fun s f w => ∃ z5 : Int, z5 = s ∧ f 4 = v2 ∧ f 7 = (.pointer (some ⟨b2, 0, none⟩)) ∧ f 9 = (.int .i64 z5) ∧ f 13 = va0 ∧ f 14 = (.int .i64 ((a0.length : Nat) : Int)) ∧ f 15 = (.int .i64 (ik1 : Int)) ∧ Inv w0 w [ownI (α := GTrial) v2 28 z2, boxI b2 28 [(.string t2.Name), (.int .i64 t2.Least), (.int .i64 t2.Greatest), (.int .i64 t2.Leap), (.int .i64 t2.Number)]]) ?_ ?_
       ·
        exact ⟨_, rfl, rfl, rfl, rfl, rfl, rfl, rfl, H⟩
       ·
        rintro _ st f w ⟨z5, rfl, hf4, hf7, hf9, hf13, hf14, hf15, H⟩ hm5
        obtain ⟨u2, rfl⟩ := up6 hf4 hf7 hf9 hf13 hf14 hf15
        refine W.seq ?_
        refine W.seq ?_
        obtain ⟨b3, hm6, hm5⟩ := bind_some hm5
        refine W.drawN 35 (fun f => f 4 = v2 ∧ f 7 = (.pointer (some ⟨b2, 0, none⟩)) ∧ f 9 = (.int .i64 z5) ∧ f 13 = va0 ∧ f 14 = (.int .i64 ((a0.length : Nat) : Int)) ∧ f 15 = (.int .i64 (ik1 : Int)) ∧ f 63 = (.bool b3)) fol (by kernel_rfl) ?_ ?_
        ·
         refine PL.of (fun _ w8 _ hx => O.move (v := (.int .i64 z5)) rfl rfl rfl (WL.nil ⟨rfl, hx⟩)) ?_
         refine PL.of (fun _ w8 _ hx => O.gtr rfl rfl rfl rfl (WL.nil ⟨rfl, hx⟩)) ?_
         refine PL.of (fun _ w8 _ hx => O.move (v := (.bool (decide (0 < z5)))) rfl rfl rfl (WL.nil ⟨rfl, hx⟩)) ?_
         refine PL.cut 32 (fun f => f 4 = v2 ∧ f 7 = (.pointer (some ⟨b2, 0, none⟩)) ∧ f 9 = (.int .i64 z5) ∧ f 13 = va0 ∧ f 14 = (.int .i64 ((a0.length : Nat) : Int)) ∧ f 15 = (.int .i64 (ik1 : Int)) ∧ f 63 = .bool b3) ?_ ?_
         ·
          rcases ite_some hm6 with ⟨hc4, hm6⟩ | ⟨hc4, hm6⟩
          ·
           refine PL.reset (i := 31) (v := .bool true) (congrArg Value.bool hc4) ?_
           refine PL.of (fun _ w8 _ hx => O.fieldAddr fd28_4 rfl rfl rfl (WL.nil ⟨rfl, hx⟩)) ?_
           refine PL.of (fun _ w8 _ hx => by have H := H.ext hx; exact O.load sc3 rfl rfl rfl (H.cell 1 rfl 4 _ rfl) (WL.nil ⟨rfl, hx⟩)) ?_
           refine PL.of (fun _ w8 _ hx => O.move (v := v2) rfl rfl rfl (WL.nil ⟨rfl, hx⟩)) ?_
           refine PL.of (fun _ w8 _ hx => O.move (v := (.int .i64 z5)) rfl rfl rfl (WL.nil ⟨rfl, hx⟩)) ?_
           obtain ⟨t4, ht4, hm6⟩ := bind_some hm6
           refine PL.of (fun _ w8 _ hx => O.sub rfl rfl rfl rfl ht4 (WL.nil ⟨rfl, hx⟩)) ?_
           obtain ⟨x1, hx1, hm6⟩ := bind_some hm6
           obtain ⟨p2, hp2, hrp2⟩ := fix_indexAddr Try.underlying62 sz28 (H.own 0 rfl) hx1
           refine PL.of (fun _ w8 _ hx => hrp2 rfl rfl rfl rfl (WL.nil ⟨rfl, hx⟩)) ?_
           refine PL.of (fun _ w8 _ hx => O.fieldAddr fd28_4 rfl rfl rfl (WL.nil ⟨rfl, hx⟩)) ?_
           refine PL.of (fun _ w8 _ hx => by have hp2 := hp2.mono hx; exact O.load sc3 rfl rfl rfl (hp2.flat 4 _ rfl) (WL.nil ⟨rfl, hx⟩)) ?_
           refine PL.of (fun _ w8 _ hx => O.lss rfl rfl rfl rfl (WL.nil ⟨rfl, hx⟩)) ?_
           refine PL.of (fun _ w8 _ hx => O.move (v := (.bool (decide (t2.Number < x1.Number)))) rfl rfl rfl (WL.nil ⟨rfl, hx⟩)) ?_
           obtain ⟨b4, hm7, hm6⟩ := bind_some hm6
           refine PL.cut 21 (fun f => f 4 = v2 ∧ f 7 = (.pointer (some ⟨b2, 0, none⟩)) ∧ f 9 = (.int .i64 z5) ∧ f 13 = va0 ∧ f 14 = (.int .i64 ((a0.length : Nat) : Int)) ∧ f 15 = (.int .i64 (ik1 : Int)) ∧ f 31 = (.bool true) ∧ f 32 = (.pointer (some (Addr.add (Addr.mk b2 0 none) 4))) ∧ f 33 = (.int .i64 t2.Number) ∧ f 34 = v2 ∧ f 35 = (.int .i64 z5) ∧ f 36 = (.int .i64 t4) ∧ f 37 = (.pointer (some p2)) ∧ f 38 = (.pointer (some (Addr.add p2 4))) ∧ f 39 = (.int .i64 x1.Number) ∧ f 40 = (.bool (decide (t2.Number < x1.Number))) ∧ f 41 = (.bool (decide (t2.Number < x1.Number))) ∧ f 62 = .bool b4) ?_ ?_
           ·
            rcases ite_some hm7 with ⟨hc5, hm7⟩ | ⟨hc5, hm7⟩
            ·
             refine PL.reset (i := 41) (v := .bool true) (congrArg Value.bool hc5) ?_
             refine PL.of (fun _ w8 _ hx => O.skip rfl rfl (WL.nil ⟨rfl, hx⟩)) ?_
             refine PL.of (fun _ w8 _ hx => O.skip rfl rfl (WL.nil ⟨rfl, hx⟩)) ?_
             refine PL.of (fun _ w8 _ hx => O.skip rfl rfl (WL.nil ⟨rfl, hx⟩)) ?_
             refine PL.of (fun _ w8 _ hx => O.skip rfl rfl (WL.nil ⟨rfl, hx⟩)) ?_
             refine PL.of (fun _ w8 _ hx => O.skip rfl rfl (WL.nil ⟨rfl, hx⟩)) ?_
             refine PL.of (fun _ w8 _ hx => O.skip rfl rfl (WL.nil ⟨rfl, hx⟩)) ?_
             refine PL.of (fun _ w8 _ hx => O.skip rfl rfl (WL.nil ⟨rfl, hx⟩)) ?_
             refine PL.of (fun _ w8 _ hx => O.skip rfl rfl (WL.nil ⟨rfl, hx⟩)) ?_
             refine PL.of (fun _ w8 _ hx => O.skip rfl rfl (WL.nil ⟨rfl, hx⟩)) ?_
             refine PL.of (fun _ w8 _ hx => O.skip rfl rfl (WL.nil ⟨rfl, hx⟩)) ?_
             refine PL.of (fun _ w8 _ hx => O.skip rfl rfl (WL.nil ⟨rfl, hx⟩)) ?_
             refine PL.of (fun _ w8 _ hx => O.skip rfl rfl (WL.nil ⟨rfl, hx⟩)) ?_
             refine PL.of (fun _ w8 _ hx => O.skip rfl rfl (WL.nil ⟨rfl, hx⟩)) ?_
             refine PL.of (fun _ w8 _ hx => O.skip rfl rfl (WL.nil ⟨rfl, hx⟩)) ?_
             refine PL.of (fun _ w8 _ hx => O.skip rfl rfl (WL.nil ⟨rfl, hx⟩)) ?_
             refine PL.of (fun _ w8 _ hx => O.skip rfl rfl (WL.nil ⟨rfl, hx⟩)) ?_
             refine PL.of (fun _ w8 _ hx => O.skip rfl rfl (WL.nil ⟨rfl, hx⟩)) ?_
             refine PL.of (fun _ w8 _ hx => O.skip rfl rfl (WL.nil ⟨rfl, hx⟩)) ?_
             refine PL.of (fun _ w8 _ hx => O.skip rfl rfl (WL.nil ⟨rfl, hx⟩)) ?_
             refine PL.of (fun _ w8 _ hx => O.skip rfl rfl (WL.nil ⟨rfl, hx⟩)) ?_
             refine PL.of (fun _ w8 _ hx => O.pick_true (v := (.bool true)) rfl rfl rfl rfl (WL.nil ⟨rfl, hx⟩)) ?_
             refine PL.nil ?_
             have hq : true = b4 := Option.some.inj (show some true = some b4 from hm7)
             subst hq
             exact ⟨rfl, rfl, rfl, rfl, rfl, rfl, rfl, rfl, rfl, rfl, rfl, rfl, rfl, rfl, rfl, rfl, (congrArg Value.bool hc5).symm, rfl⟩
            ·
             refine PL.reset (i := 41) (v := .bool false) (congrArg Value.bool hc5) ?_
             refine PL.of (fun _ w8 _ hx => O.fieldAddr fd28_4 rfl rfl rfl (WL.nil ⟨rfl, hx⟩)) ?_
             refine PL.of (fun _ w8 _ hx => by have H := H.ext hx; exact O.load sc3 rfl rfl rfl (H.cell 1 rfl 4 _ rfl) (WL.nil ⟨rfl, hx⟩)) ?_
             refine PL.of (fun _ w8 _ hx => O.move (v := v2) rfl rfl rfl (WL.nil ⟨rfl, hx⟩)) ?_
             refine PL.of (fun _ w8 _ hx => O.move (v := (.int .i64 z5)) rfl rfl rfl (WL.nil ⟨rfl, hx⟩)) ?_
             obtain ⟨t5, ht5, hm7⟩ := bind_some hm7
             refine PL.of (fun _ w8 _ hx => O.sub rfl rfl rfl rfl ht5 (WL.nil ⟨rfl, hx⟩)) ?_
             obtain ⟨x2, hx2, hm7⟩ := bind_some hm7
             obtain ⟨p3, hp3, hrp3⟩ := fix_indexAddr Try.underlying62 sz28 (H.own 0 rfl) hx2
             refine PL.of (fun _ w8 _ hx => hrp3 rfl rfl rfl rfl (WL.nil ⟨rfl, hx⟩)) ?_
             refine PL.of (fun _ w8 _ hx => O.fieldAddr fd28_4 rfl rfl rfl (WL.nil ⟨rfl, hx⟩)) ?_
             refine PL.of (fun _ w8 _ hx => by have hp3 := hp3.mono hx; exact O.load sc3 rfl rfl rfl (hp3.flat 4 _ rfl) (WL.nil ⟨rfl, hx⟩)) ?_
             refine PL.of (fun _ w8 _ hx => O.eql rfl rfl rfl rfl (WL.nil ⟨rfl, hx⟩)) ?_
             refine PL.of (fun _ w8 _ hx => O.move (v := (.bool (t2.Number == x2.Number))) rfl rfl rfl (WL.nil ⟨rfl, hx⟩)) ?_
             obtain ⟨b5, hm8, hm7⟩ := bind_some hm7
             refine PL.cut 10 (fun f => f 4 = v2 ∧ f 7 = (.pointer (some ⟨b2, 0, none⟩)) ∧ f 9 = (.int .i64 z5) ∧ f 13 = va0 ∧ f 14 = (.int .i64 ((a0.length : Nat) : Int)) ∧ f 15 = (.int .i64 (ik1 : Int)) ∧ f 31 = (.bool true) ∧ f 32 = (.pointer (some (Addr.add (Addr.mk b2 0 none) 4))) ∧ f 33 = (.int .i64 t2.Number) ∧ f 34 = v2 ∧ f 35 = (.int .i64 z5) ∧ f 36 = (.int .i64 t4) ∧ f 37 = (.pointer (some p2)) ∧ f 38 = (.pointer (some (Addr.add p2 4))) ∧ f 39 = (.int .i64 x1.Number) ∧ f 40 = (.bool (decide (t2.Number < x1.Number))) ∧ f 41 = (.bool false) ∧ f 42 = (.pointer (some (Addr.add (Addr.mk b2 0 none) 4))) ∧ f 43 = (.int .i64 t2.Number) ∧ f 44 = v2 ∧ f 45 = (.int .i64 z5) ∧ f 46 = (.int .i64 t5) ∧ f 47 = (.pointer (some p3)) ∧ f 48 = (.pointer (some (Addr.add p3 4))) ∧ f 49 = (.int .i64 x2.Number) ∧ f 50 = (.bool (t2.Number == x2.Number)) ∧ f 51 = (.bool (t2.Number == x2.Number)) ∧ f 61 = .bool b5) ?_ ?_
             ·
              rcases ite_some hm8 with ⟨hc6, hm8⟩ | ⟨hc6, hm8⟩
              ·
               refine PL.reset (i := 51) (v := .bool true) (congrArg Value.bool hc6) ?_
               refine PL.of (fun _ w8 _ hx => O.fieldAddr fd28_0 rfl rfl rfl (WL.nil ⟨rfl, hx⟩)) ?_
               refine PL.of (fun _ w8 _ hx => by have H := H.ext hx; exact O.load sc9 rfl rfl rfl (H.cell 1 rfl 0 _ rfl) (WL.nil ⟨rfl, hx⟩)) ?_
               refine PL.of (fun _ w8 _ hx => O.move (v := v2) rfl rfl rfl (WL.nil ⟨rfl, hx⟩)) ?_
               refine PL.of (fun _ w8 _ hx => O.move (v := (.int .i64 z5)) rfl rfl rfl (WL.nil ⟨rfl, hx⟩)) ?_
               obtain ⟨t6, ht6, hm8⟩ := bind_some hm8
               refine PL.of (fun _ w8 _ hx => O.sub rfl rfl rfl rfl ht6 (WL.nil ⟨rfl, hx⟩)) ?_
               obtain ⟨x3, hx3, hm8⟩ := bind_some hm8
               obtain ⟨p4, hp4, hrp4⟩ := fix_indexAddr Try.underlying62 sz28 (H.own 0 rfl) hx3
               refine PL.of (fun _ w8 _ hx => hrp4 rfl rfl rfl rfl (WL.nil ⟨rfl, hx⟩)) ?_
               refine PL.of (fun _ w8 _ hx => O.fieldAddr fd28_0 rfl rfl rfl (WL.nil ⟨rfl, hx⟩)) ?_
               refine PL.of (fun _ w8 _ hx => by have hp4 := hp4.mono hx; exact O.load sc9 rfl rfl rfl (hp4.flat 0 _ rfl) (WL.nil ⟨rfl, hx⟩)) ?_
               refine PL.of (fun _ w8 _ hx => O.lssS rfl rfl rfl rfl (WL.nil ⟨rfl, hx⟩)) ?_
               refine PL.of (fun _ w8 _ hx => O.pick_true (v := (.bool (Op.bytesLess t2.Name.toList x3.Name.toList))) rfl rfl rfl rfl (WL.nil ⟨rfl, hx⟩)) ?_
               refine PL.nil ?_
               have hq : (Op.bytesLess t2.Name.toList x3.Name.toList) = b5 := Option.some.inj (show some (Op.bytesLess t2.Name.toList x3.Name.toList) = some b5 from hm8)
               subst hq
               exact ⟨rfl, rfl, rfl, rfl, rfl, rfl, rfl, rfl, rfl, rfl, rfl, rfl, rfl, rfl, rfl, rfl, rfl, rfl, rfl, rfl, rfl, rfl, rfl, rfl, rfl, rfl, (congrArg Value.bool hc6).symm, rfl⟩
              ·
               refine PL.reset (i := 51) (v := .bool false) (congrArg Value.bool hc6) ?_
               refine PL.of (fun _ w8 _ hx => O.skip rfl rfl (WL.nil ⟨rfl, hx⟩)) ?_
               refine PL.of (fun _ w8 _ hx => O.skip rfl rfl (WL.nil ⟨rfl, hx⟩)) ?_
               refine PL.of (fun _ w8 _ hx => O.skip rfl rfl (WL.nil ⟨rfl, hx⟩)) ?_
               refine PL.of (fun _ w8 _ hx => O.skip rfl rfl (WL.nil ⟨rfl, hx⟩)) ?_
               refine PL.of (fun _ w8 _ hx => O.skip rfl rfl (WL.nil ⟨rfl, hx⟩)) ?_
               refine PL.of (fun _ w8 _ hx => O.skip rfl rfl (WL.nil ⟨rfl, hx⟩)) ?_
               refine PL.of (fun _ w8 _ hx => O.skip rfl rfl (WL.nil ⟨rfl, hx⟩)) ?_
               refine PL.of (fun _ w8 _ hx => O.skip rfl rfl (WL.nil ⟨rfl, hx⟩)) ?_
               refine PL.of (fun _ w8 _ hx => O.skip rfl rfl (WL.nil ⟨rfl, hx⟩)) ?_
               refine PL.of (fun _ w8 _ hx => O.pick_false (v := (.bool false)) rfl rfl rfl rfl (WL.nil ⟨rfl, hx⟩)) ?_
               refine PL.nil ?_
               have hq : false = b5 := Option.some.inj (show some false = some b5 from hm8)
               subst hq
               exact ⟨rfl, rfl, rfl, rfl, rfl, rfl, rfl, rfl, rfl, rfl, rfl, rfl, rfl, rfl, rfl, rfl, rfl, rfl, rfl, rfl, rfl, rfl, rfl, rfl, rfl, rfl, (congrArg Value.bool hc6).symm, rfl⟩
             ·
              rintro f ⟨hf4, hf7, hf9, hf13, hf14, hf15, hf31, hf32, hf33, hf34, hf35, hf36, hf37, hf38, hf39, hf40, hf41, hf42, hf43, hf44, hf45, hf46, hf47, hf48, hf49, hf50, hf51, hf61⟩
              obtain ⟨u3, rfl⟩ : ∃ u3, f = (upd (upd (upd (upd (upd (upd (upd (upd (upd (upd (upd (upd (upd (upd (upd (upd (upd (upd (upd (upd (upd (upd (upd (upd (upd (upd (upd (upd u3 4 v2) 7 (.pointer (some ⟨b2, 0, none⟩))) 9 (.int .i64 z5)) 13 va0) 14 (.int .i64 ((a0.length : Nat) : Int))) 15 (.int .i64 (ik1 : Int))) 31 (.bool true)) 32 (.pointer (some (Addr.add (Addr.mk b2 0 none) 4)))) 33 (.int .i64 t2.Number)) 34 v2) 35 (.int .i64 z5)) 36 (.int .i64 t4)) 37 (.pointer (some p2))) 38 (.pointer (some (Addr.add p2 4)))) 39 (.int .i64 x1.Number)) 40 (.bool (decide (t2.Number < x1.Number)))) 41 (.bool false)) 42 (.pointer (some (Addr.add (Addr.mk b2 0 none) 4)))) 43 (.int .i64 t2.Number)) 44 v2) 45 (.int .i64 z5)) 46 (.int .i64 t5)) 47 (.pointer (some p3))) 48 (.pointer (some (Addr.add p3 4)))) 49 (.int .i64 x2.Number)) 50 (.bool (t2.Number == x2.Number))) 51 (.bool (t2.Number == x2.Number))) 61 (.bool b5)) := ⟨f, by rw [upd_self hf4, upd_self hf7, upd_self hf9, upd_self hf13, upd_self hf14, upd_self hf15, upd_self hf31, upd_self hf32, upd_self hf33, upd_self hf34, upd_self hf35, upd_self hf36, upd_self hf37, upd_self hf38, upd_self hf39, upd_self hf40, upd_self hf41, upd_self hf42, upd_self hf43, upd_self hf44, upd_self hf45, upd_self hf46, upd_self hf47, upd_self hf48, upd_self hf49, upd_self hf50, upd_self hf51, upd_self hf61]⟩
              refine PL.of (fun _ w8 _ hx => O.pick_false (v := (.bool b5)) rfl rfl rfl rfl (WL.nil ⟨rfl, hx⟩)) ?_
              refine PL.nil ?_
              have hq : b5 = b4 := Option.some.inj (show some b5 = some b4 from hm7)
              subst hq
              exact ⟨rfl, rfl, rfl, rfl, rfl, rfl, rfl, rfl, rfl, rfl, rfl, rfl, rfl, rfl, rfl, rfl, (congrArg Value.bool hc5).symm, rfl⟩
           ·
            rintro f ⟨hf4, hf7, hf9, hf13, hf14, hf15, hf31, hf32, hf33, hf34, hf35, hf36, hf37, hf38, hf39, hf40, hf41, hf62⟩
            obtain ⟨u4, rfl⟩ : ∃ u4, f = (upd (upd (upd (upd (upd (upd (upd (upd (upd (upd (upd (upd (upd (upd (upd (upd (upd (upd u4 4 v2) 7 (.pointer (some ⟨b2, 0, none⟩))) 9 (.int .i64 z5)) 13 va0) 14 (.int .i64 ((a0.length : Nat) : Int))) 15 (.int .i64 (ik1 : Int))) 31 (.bool true)) 32 (.pointer (some (Addr.add (Addr.mk b2 0 none) 4)))) 33 (.int .i64 t2.Number)) 34 v2) 35 (.int .i64 z5)) 36 (.int .i64 t4)) 37 (.pointer (some p2))) 38 (.pointer (some (Addr.add p2 4)))) 39 (.int .i64 x1.Number)) 40 (.bool (decide (t2.Number < x1.Number)))) 41 (.bool (decide (t2.Number < x1.Number)))) 62 (.bool b4)) := ⟨f, by rw [upd_self hf4, upd_self hf7, upd_self hf9, upd_self hf13, upd_self hf14, upd_self hf15, upd_self hf31, upd_self hf32, upd_self hf33, upd_self hf34, upd_self hf35, upd_self hf36, upd_self hf37, upd_self hf38, upd_self hf39, upd_self hf40, upd_self hf41, upd_self hf62]⟩
            refine PL.of (fun _ w8 _ hx => O.pick_true (v := (.bool b4)) rfl rfl rfl rfl (WL.nil ⟨rfl, hx⟩)) ?_
            refine PL.nil ?_
            have hq : b4 = b3 := Option.some.inj (show some b4 = some b3 from hm6)
            subst hq
            exact ⟨rfl, rfl, rfl, rfl, rfl, rfl, rfl⟩
          ·
           refine PL.reset (i := 31) (v := .bool false) (congrArg Value.bool hc4) ?_
           refine PL.of (fun _ w8 _ hx => O.skip rfl rfl (WL.nil ⟨rfl, hx⟩)) ?_
           refine PL.of (fun _ w8 _ hx => O.skip rfl rfl (WL.nil ⟨rfl, hx⟩)) ?_
           refine PL.of (fun _ w8 _ hx => O.skip rfl rfl (WL.nil ⟨rfl, hx⟩)) ?_
           refine PL.of (fun _ w8 _ hx => O.skip rfl rfl (WL.nil ⟨rfl, hx⟩)) ?_
           refine PL.of (fun _ w8 _ hx => O.skip rfl rfl (WL.nil ⟨rfl, hx⟩)) ?_
           refine PL.of (fun _ w8 _ hx => O.skip rfl rfl (WL.nil ⟨rfl, hx⟩)) ?_
           refine PL.of (fun _ w8 _ hx => O.skip rfl rfl (WL.nil ⟨rfl, hx⟩)) ?_
           refine PL.of (fun _ w8 _ hx => O.skip rfl rfl (WL.nil ⟨rfl, hx⟩)) ?_
           refine PL.of (fun _ w8 _ hx => O.skip rfl rfl (WL.nil ⟨rfl, hx⟩)) ?_
           refine PL.of (fun _ w8 _ hx => O.skip rfl rfl (WL.nil ⟨rfl, hx⟩)) ?_
           refine PL.of (fun _ w8 _ hx => O.skip rfl rfl (WL.nil ⟨rfl, hx⟩)) ?_
           refine PL.of (fun _ w8 _ hx => O.skip rfl rfl (WL.nil ⟨rfl, hx⟩)) ?_
           refine PL.of (fun _ w8 _ hx => O.skip rfl rfl (WL.nil ⟨rfl, hx⟩)) ?_
           refine PL.of (fun _ w8 _ hx => O.skip rfl rfl (WL.nil ⟨rfl, hx⟩)) ?_
           refine PL.of (fun _ w8 _ hx => O.skip rfl rfl (WL.nil ⟨rfl, hx⟩)) ?_
           refine PL.of (fun _ w8 _ hx => O.skip rfl rfl (WL.nil ⟨rfl, hx⟩)) ?_
           refine PL.of (fun _ w8 _ hx => O.skip rfl rfl (WL.nil ⟨rfl, hx⟩)) ?_
           refine PL.of (fun _ w8 _ hx => O.skip rfl rfl (WL.nil ⟨rfl, hx⟩)) ?_
           refine PL.of (fun _ w8 _ hx => O.skip rfl rfl (WL.nil ⟨rfl, hx⟩)) ?_
           refine PL.of (fun _ w8 _ hx => O.skip rfl rfl (WL.nil ⟨rfl, hx⟩)) ?_
           refine PL.of (fun _ w8 _ hx => O.skip rfl rfl (WL.nil ⟨rfl, hx⟩)) ?_
           refine PL.of (fun _ w8 _ hx => O.skip rfl rfl (WL.nil ⟨rfl, hx⟩)) ?_
           refine PL.of (fun _ w8 _ hx => O.skip rfl rfl (WL.nil ⟨rfl, hx⟩)) ?_
           refine PL.of (fun _ w8 _ hx => O.skip rfl rfl (WL.nil ⟨rfl, hx⟩)) ?_
           refine PL.of (fun _ w8 _ hx => O.skip rfl rfl (WL.nil ⟨rfl, hx⟩)) ?_
           refine PL.of (fun _ w8 _ hx => O.skip rfl rfl (WL.nil ⟨rfl, hx⟩)) ?_
           refine PL.of (fun _ w8 _ hx => O.skip rfl rfl (WL.nil ⟨rfl, hx⟩)) ?_
           refine PL.of (fun _ w8 _ hx => O.skip rfl rfl (WL.nil ⟨rfl, hx⟩)) ?_
           refine PL.of (fun _ w8 _ hx => O.skip rfl rfl (WL.nil ⟨rfl, hx⟩)) ?_
           refine PL.of (fun _ w8 _ hx => O.skip rfl rfl (WL.nil ⟨rfl, hx⟩)) ?_
           refine PL.of (fun _ w8 _ hx => O.skip rfl rfl (WL.nil ⟨rfl, hx⟩)) ?_
           refine PL.of (fun _ w8 _ hx => O.pick_false (v := (.bool false)) rfl rfl rfl rfl (WL.nil ⟨rfl, hx⟩)) ?_
           refine PL.nil ?_
           have hq : false = b3 := Option.some.inj (show some false = some b3 from hm6)
           subst hq
           exact ⟨rfl, rfl, rfl, rfl, rfl, rfl, rfl⟩
         ·
          rintro f ⟨hf4, hf7, hf9, hf13, hf14, hf15, hf63⟩
          obtain ⟨u5, rfl⟩ := up7 hf4 hf7 hf9 hf13 hf14 hf15 hf63
          refine PL.nil ?_
          exact ⟨rfl, rfl, rfl, rfl, rfl, rfl, rfl⟩
        ·
         rintro f w ⟨hf4, hf7, hf9, hf13, hf14, hf15, hf63⟩ hmd hx
         have H := H.ext hx
         obtain ⟨u6, rfl⟩ := up7 hf4 hf7 hf9 hf13 hf14 hf15 hf63
         refine WL.nil ?_
         rcases ite_some hm5 with ⟨hc7, hm5⟩ | ⟨hc7, hm5⟩
         ·
          refine W.cond_true (congrArg Value.bool hc7) ?_
          refine W.skip ?_
          refine W.block ?_
          refine W.region ?_
          refine O.move (v := (.int .i64 z5)) rfl rfl rfl ?_
          obtain ⟨t7, ht7, hm5⟩ := bind_some hm5
          refine O.sub rfl rfl rfl rfl ht7 ?_
          refine O.assign (v := (.int .i64 t7)) rfl rfl rfl ?_
          refine WL.nil ?_
          obtain rfl := Option.some.inj hm5
          exact ⟨_, rfl, _, rfl, rfl, rfl, rfl, rfl, rfl, rfl, H⟩
         ·
          refine W.cond_false (congrArg Value.bool hc7) ?_
          refine W.exit ?_
          obtain rfl := Option.some.inj hm5
          refine ⟨_, rfl, ?_⟩
          intro hy
          have hq : z5 = s3 := hy
          subst hq
          refine xT rfl ?_
          exact ⟨rfl, rfl, rfl, rfl, rfl, rfl, H⟩
      ·
       rintro f w ⟨hf4, hf7, hf9, hf13, hf14, hf15, H⟩
       obtain ⟨u7, rfl⟩ := up6 hf4 hf7 hf9 hf13 hf14 hf15
       obtain ⟨t8, ht8, hm3⟩ := bind_some hm3
       obtain ⟨t9, ht9, hm3⟩ := bind_some hm3
       obtain ⟨t10, ht10, hm3⟩ := bind_some hm3
       obtain ⟨t11, ht11, hm3⟩ := bind_some hm3
       have H := H.addGone
       have H := H.addGone
       refine W.drawD 11 [[], [], [], [1, 2], [0, 1, 2, 3], [], [5], [0, 1, 2, 3, 4, 5, 6], [], [], [8, 9]] [[4, 7], [3, 4, 7], [3, 4, 7], [4, 7], [7], [6, 7], [7], [], [10], [10], []] (fun S f w => ∃ b6 : Nat, ∃ v7 : Value, ∃ v8 : Value, ∃ v9 : Value, ∃ v10 : Value, ∃ v11 : Value, Inv w0 w [] ∧ f 4 = v2 ∧ f 7 = (.pointer (some ⟨b2, 0, none⟩)) ∧ f 9 = (.int .i64 s3) ∧ f 13 = va0 ∧ f 14 = (.int .i64 ((a0.length : Nat) : Int)) ∧ f 15 = (.int .i64 (ik1 : Int)) ∧ (S 0 = true → f 66 = (.slice (some ⟨b6, 0, none⟩) 0 0)) ∧ (S 1 = true → f 67 = v2) ∧ (S 2 = true → f 68 = (.int .i64 s3)) ∧ (S 3 = true → f 69 = v7) ∧ (S 4 = true → f 70 = v8) ∧ (S 5 = true → f 71 = (.agg (Flat.cells t2).toArray)) ∧ (S 6 = true → f 72 = v9) ∧ (S 7 = true → f 73 = v10) ∧ (S 8 = true → f 74 = v2) ∧ (S 9 = true → f 75 = (.int .i64 s3)) ∧ (S 10 = true → f 76 = v11) ∧ (S 3 = true → S 4 = false → S 7 = false → (SliceR w v7 t8)) ∧ (S 10 = true → ∀ w1, SliceR w1 v2 z2 → SliceR w1 v11 t11) ∧ (S 4 = true → S 0 = true) ∧ (S 7 = true → S 0 = true) ∧ (S 7 = true → S 4 = true) ∧ (S 7 = true → S 6 = true) ∧ (S 0 = false → S 4 = false → S 6 = false → S 7 = false → Inv w0 w [ownI (α := GTrial) v2 28 z2, boxI b2 28 [(.string t2.Name), (.int .i64 t2.Least), (.int .i64 t2.Greatest), (.int .i64 t2.Leap), (.int .i64 t2.Number)], goneI, goneI]) ∧ (S 0 = true → S 4 = false → S 6 = false → S 7 = false → Inv w0 w [ownI (α := GTrial) v2 28 z2, boxI b2 28 [(.string t2.Name), (.int .i64 t2.Least), (.int .i64 t2.Greatest), (.int .i64 t2.Leap), (.int .i64 t2.Number)], ownI (α := GTrial) (.slice (some ⟨b6, 0, none⟩) 0 0) 28 ([] : List GTrial), goneI]) ∧ (S 0 = false → S 4 = false → S 6 = true → S 7 = false → Inv w0 w [ownI (α := GTrial) v2 28 z2, boxI b2 28 [(.string t2.Name), (.int .i64 t2.Least), (.int .i64 t2.Greatest), (.int .i64 t2.Leap), (.int .i64 t2.Number)], goneI, ownI (α := GTrial) v9 28 ([t2] : List GTrial)]) ∧ (S 0 = true → S 4 = true → S 6 = false → S 7 = false → Inv w0 w [ownI (α := GTrial) v2 28 z2, boxI b2 28 [(.string t2.Name), (.int .i64 t2.Least), (.int .i64 t2.Greatest), (.int .i64 t2.Leap), (.int .i64 t2.Number)], ownI (α := GTrial) v8 28 t9, goneI]) ∧ (S 0 = true → S 4 = false → S 6 = true → S 7 = false → Inv w0 w [ownI (α := GTrial) v2 28 z2, boxI b2 28 [(.string t2.Name), (.int .i64 t2.Least), (.int .i64 t2.Greatest), (.int .i64 t2.Leap), (.int .i64 t2.Number)], ownI (α := GTrial) (.slice (some ⟨b6, 0, none⟩) 0 0) 28 ([] : List GTrial), ownI (α := GTrial) v9 28 ([t2] : List GTrial)]) ∧ (S 0 = true → S 4 = true → S 6 = true → S 7 = false → Inv w0 w [ownI (α := GTrial) v2 28 z2, boxI b2 28 [(.string t2.Name), (.int .i64 t2.Least), (.int .i64 t2.Greatest), (.int .i64 t2.Leap), (.int .i64 t2.Number)], ownI (α := GTrial) v8 28 t9, ownI (α := GTrial) v9 28 ([t2] : List GTrial)]) ∧ (S 0 = true → S 4 = true → S 6 = true → S 7 = true → Inv w0 w [ownI (α := GTrial) v2 28 z2, boxI b2 28 [(.string t2.Name), (.int .i64 t2.Least), (.int .i64 t2.Greatest), (.int .i64 t2.Leap), (.int .i64 t2.Number)], ownI (α := GTrial) v10 28 t10, ownI (α := GTrial) v9 28 ([t2] : List GTrial)])) fol (by kernel_rfl) ?_ ?_ ?_
       ·
        exact fun d _ => ⟨0, .nilFunc, .nilFunc, .nilFunc, .nilFunc, .nilFunc, ((H.ext (below_drawn d)).pick [] [] rfl (by decide)), rfl, rfl, rfl, rfl, rfl, rfl, nF, nF, nF, nF, nF, nF, nF, nF, nF, nF, nF, nF, nF, nF, nF, nF, nF, (fun _ _ _ _ => H.ext (below_drawn d)), (fun a _ _ _ => nF a), (fun _ _ a _ => nF a), (fun a _ _ _ => nF a), (fun a _ _ _ => nF a), (fun a _ _ _ => nF a), (fun a _ _ _ => nF a)⟩
       ·
        refine ⟨?_, ⟨?_, ⟨?_, ⟨?_, ⟨?_, ⟨?_, ⟨?_, ⟨?_, ⟨?_, ⟨?_, ⟨?_, trivial⟩⟩⟩⟩⟩⟩⟩⟩⟩⟩⟩
        ·
         rintro S f w hS - ⟨e4, e7, -⟩ ⟨_, v7, v8, v9, v10, v11, B, hf4, hf7, hf9, hf13, hf14, hf15, hd0, hd1, hd2, hd3, hd4, hd5, hd6, hd7, hd8, hd9, hd10, Fhs2, Fhs3, C4_0, C7_0, C7_4, C7_6, W0, W1, W2, W3, W4, W5, W6⟩
         rcases bool_ft (S 6) with e6 | e6
         ·
          have H := W0 hS e4 e6 e7
          refine O.buildEmpty (α := GTrial) Try.underlying62 el28 H rfl rfl ?_
          intro b6 w7 H hb5
          refine WL.nil ?_
          have H := H.pick [0, 1, 4, 3] [ownI (α := GTrial) v2 28 z2, boxI b2 28 [(.string t2.Name), (.int .i64 t2.Least), (.int .i64 t2.Greatest), (.int .i64 t2.Leap), (.int .i64 t2.Number)], ownI (α := GTrial) (.slice (some ⟨b6, 0, none⟩) 0 0) 28 ([] : List GTrial), goneI] rfl (by decide)
          exact ⟨b6, v7, v8, v9, v10, v11, (H.pick [] [] rfl (by decide)), hf4, hf7, hf9, hf13, hf14, hf15, (fun _ => rfl), hd1, hd2, hd3, hd4, hd5, hd6, hd7, hd8, hd9, hd10, (fun g0 g1 g2 => (Fhs2 g0 g1 g2).mono hb5), Fhs3, (fun _ => rfl), (fun _ => rfl), C7_4, C7_6, (fun a _ _ _ => nG a), (fun _ _ _ _ => H), (fun a _ _ _ => nG a), (fun _ a _ _ => nX e4 a), (fun _ _ a _ => nX e6 a), (fun _ a _ _ => nX e4 a), (fun _ a _ _ => nX e4 a)⟩
         ·
          have H := W2 hS e4 e6 e7
          refine O.buildEmpty (α := GTrial) Try.underlying62 el28 H rfl rfl ?_
          intro b6 w7 H hb5
          refine WL.nil ?_
          have H := H.pick [0, 1, 4, 3] [ownI (α := GTrial) v2 28 z2, boxI b2 28 [(.string t2.Name), (.int .i64 t2.Least), (.int .i64 t2.Greatest), (.int .i64 t2.Leap), (.int .i64 t2.Number)], ownI (α := GTrial) (.slice (some ⟨b6, 0, none⟩) 0 0) 28 ([] : List GTrial), ownI (α := GTrial) v9 28 ([t2] : List GTrial)] rfl (by decide)
          exact ⟨b6, v7, v8, v9, v10, v11, (H.pick [] [] rfl (by decide)), hf4, hf7, hf9, hf13, hf14, hf15, (fun _ => rfl), hd1, hd2, hd3, hd4, hd5, hd6, hd7, hd8, hd9, hd10, (fun g0 g1 g2 => (Fhs2 g0 g1 g2).mono hb5), Fhs3, (fun _ => rfl), (fun _ => rfl), C7_4, C7_6, (fun a _ _ _ => nG a), (fun _ _ a _ => nT e6 a), (fun a _ _ _ => nG a), (fun _ a _ _ => nX e4 a), (fun _ _ _ _ => H), (fun _ a _ _ => nX e4 a), (fun _ a _ _ => nX e4 a)⟩
        ·
         rintro S f w hS - ⟨e3, e4, e7, -⟩ ⟨b6, v7, v8, v9, v10, v11, B, hf4, hf7, hf9, hf13, hf14, hf15, hd0, hd1, hd2, hd3, hd4, hd5, hd6, hd7, hd8, hd9, hd10, Fhs2, Fhs3, C4_0, C7_0, C7_4, C7_6, W0, W1, W2, W3, W4, W5, W6⟩
         obtain ⟨u8, rfl⟩ := up1 hf4
         rcases bool_ft (S 0) with e0 | e0
         ·
          rcases bool_ft (S 6) with e6 | e6
          ·
           have H := W0 e0 e4 e6 e7
           refine O.move (v := v2) rfl rfl rfl ?_
           exact WL.nil ⟨b6, v7, v8, v9, v10, v11, B, rfl, hf7, hf9, hf13, hf14, hf15, hd0, (fun _ => rfl), hd2, hd3, hd4, hd5, hd6, hd7, hd8, hd9, hd10, (fun g0 g1 g2 => Fhs2 g0 g1 g2), Fhs3, C4_0, C7_0, C7_4, C7_6, (fun _ _ _ _ => H), (fun a _ _ _ => nX e0 a), (fun _ _ a _ => nX e6 a), (fun a _ _ _ => nX e0 a), (fun a _ _ _ => nX e0 a), (fun a _ _ _ => nX e0 a), (fun a _ _ _ => nX e0 a)⟩
          ·
           have H := W2 e0 e4 e6 e7
           refine O.move (v := v2) rfl rfl rfl ?_
           exact WL.nil ⟨b6, v7, v8, v9, v10, v11, B, rfl, hf7, hf9, hf13, hf14, hf15, hd0, (fun _ => rfl), hd2, hd3, hd4, hd5, hd6, hd7, hd8, hd9, hd10, (fun g0 g1 g2 => Fhs2 g0 g1 g2), Fhs3, C4_0, C7_0, C7_4, C7_6, (fun _ _ a _ => nT e6 a), (fun a _ _ _ => nX e0 a), (fun _ _ _ _ => H), (fun a _ _ _ => nX e0 a), (fun a _ _ _ => nX e0 a), (fun a _ _ _ => nX e0 a), (fun a _ _ _ => nX e0 a)⟩
         ·
          rcases bool_ft (S 6) with e6 | e6
          ·
           have H := W1 e0 e4 e6 e7
           refine O.move (v := v2) rfl rfl rfl ?_
           exact WL.nil ⟨b6, v7, v8, v9, v10, v11, B, rfl, hf7, hf9, hf13, hf14, hf15, hd0, (fun _ => rfl), hd2, hd3, hd4, hd5, hd6, hd7, hd8, hd9, hd10, (fun g0 g1 g2 => Fhs2 g0 g1 g2), Fhs3, C4_0, C7_0, C7_4, C7_6, (fun a _ _ _ => nT e0 a), (fun _ _ _ _ => H), (fun a _ _ _ => nT e0 a), (fun _ a _ _ => nX e4 a), (fun _ _ a _ => nX e6 a), (fun _ a _ _ => nX e4 a), (fun _ a _ _ => nX e4 a)⟩
          ·
           have H := W4 e0 e4 e6 e7
           refine O.move (v := v2) rfl rfl rfl ?_
           exact WL.nil ⟨b6, v7, v8, v9, v10, v11, B, rfl, hf7, hf9, hf13, hf14, hf15, hd0, (fun _ => rfl), hd2, hd3, hd4, hd5, hd6, hd7, hd8, hd9, hd10, (fun g0 g1 g2 => Fhs2 g0 g1 g2), Fhs3, C4_0, C7_0, C7_4, C7_6, (fun a _ _ _ => nT e0 a), (fun _ _ a _ => nT e6 a), (fun a _ _ _ => nT e0 a), (fun _ a _ _ => nX e4 a), (fun _ _ _ _ => H), (fun _ a _ _ => nX e4 a), (fun _ a _ _ => nX e4 a)⟩
        ·
         rintro S f w hS - ⟨e3, e4, e7, -⟩ ⟨b6, v7, v8, v9, v10, v11, B, hf4, hf7, hf9, hf13, hf14, hf15, hd0, hd1, hd2, hd3, hd4, hd5, hd6, hd7, hd8, hd9, hd10, Fhs2, Fhs3, C4_0, C7_0, C7_4, C7_6, W0, W1, W2, W3, W4, W5, W6⟩
         obtain ⟨u9, rfl⟩ := up1 hf9
         rcases bool_ft (S 0) with e0 | e0
         ·
          rcases bool_ft (S 6) with e6 | e6
          ·
           have H := W0 e0 e4 e6 e7
           refine O.move (v := (.int .i64 s3)) rfl rfl rfl ?_
           exact WL.nil ⟨b6, v7, v8, v9, v10, v11, B, hf4, hf7, rfl, hf13, hf14, hf15, hd0, hd1, (fun _ => rfl), hd3, hd4, hd5, hd6, hd7, hd8, hd9, hd10, (fun g0 g1 g2 => Fhs2 g0 g1 g2), Fhs3, C4_0, C7_0, C7_4, C7_6, (fun _ _ _ _ => H), (fun a _ _ _ => nX e0 a), (fun _ _ a _ => nX e6 a), (fun a _ _ _ => nX e0 a), (fun a _ _ _ => nX e0 a), (fun a _ _ _ => nX e0 a), (fun a _ _ _ => nX e0 a)⟩
          ·
           have H := W2 e0 e4 e6 e7
           refine O.move (v := (.int .i64 s3)) rfl rfl rfl ?_
           exact WL.nil ⟨b6, v7, v8, v9, v10, v11, B, hf4, hf7, rfl, hf13, hf14, hf15, hd0, hd1, (fun _ => rfl), hd3, hd4, hd5, hd6, hd7, hd8, hd9, hd10, (fun g0 g1 g2 => Fhs2 g0 g1 g2), Fhs3, C4_0, C7_0, C7_4, C7_6, (fun _ _ a _ => nT e6 a), (fun a _ _ _ => nX e0 a), (fun _ _ _ _ => H), (fun a _ _ _ => nX e0 a), (fun a _ _ _ => nX e0 a), (fun a _ _ _ => nX e0 a), (fun a _ _ _ => nX e0 a)⟩
         ·
          rcases bool_ft (S 6) with e6 | e6
          ·
           have H := W1 e0 e4 e6 e7
           refine O.move (v := (.int .i64 s3)) rfl rfl rfl ?_
           exact WL.nil ⟨b6, v7, v8, v9, v10, v11, B, hf4, hf7, rfl, hf13, hf14, hf15, hd0, hd1, (fun _ => rfl), hd3, hd4, hd5, hd6, hd7, hd8, hd9, hd10, (fun g0 g1 g2 => Fhs2 g0 g1 g2), Fhs3, C4_0, C7_0, C7_4, C7_6, (fun a _ _ _ => nT e0 a), (fun _ _ _ _ => H), (fun a _ _ _ => nT e0 a), (fun _ a _ _ => nX e4 a), (fun _ _ a _ => nX e6 a), (fun _ a _ _ => nX e4 a), (fun _ a _ _ => nX e4 a)⟩
          ·
           have H := W4 e0 e4 e6 e7
           refine O.move (v := (.int .i64 s3)) rfl rfl rfl ?_
           exact WL.nil ⟨b6, v7, v8, v9, v10, v11, B, hf4, hf7, rfl, hf13, hf14, hf15, hd0, hd1, (fun _ => rfl), hd3, hd4, hd5, hd6, hd7, hd8, hd9, hd10, (fun g0 g1 g2 => Fhs2 g0 g1 g2), Fhs3, C4_0, C7_0, C7_4, C7_6, (fun a _ _ _ => nT e0 a), (fun _ _ a _ => nT e6 a), (fun a _ _ _ => nT e0 a), (fun _ a _ _ => nX e4 a), (fun _ _ _ _ => H), (fun _ a _ _ => nX e4 a), (fun _ a _ _ => nX e4 a)⟩
        ·
         rintro S f w hS ⟨e1, e2, -⟩ ⟨e4, e7, -⟩ ⟨b6, _, v8, v9, v10, v11, B, hf4, hf7, hf9, hf13, hf14, hf15, hd0, hd1, hd2, hd3, hd4, hd5, hd6, hd7, hd8, hd9, hd10, Fhs2, Fhs3, C4_0, C7_0, C7_4, C7_6, W0, W1, W2, W3, W4, W5, W6⟩
         have hf67 := hd1 e1
         have hf68 := hd2 e2
         obtain ⟨u10, rfl⟩ := up2 hf67 hf68
         rcases bool_ft (S 0) with e0 | e0
         ·
          rcases bool_ft (S 6) with e6 | e6
          ·
           have H := W0 e0 e4 e6 e7
           refine O.sliceH Try.underlying62 sz28 (H.own 0 rfl) ht8 rfl rfl rfl rfl ?_
           intro v7 hs2
           exact WL.nil ⟨b6, v7, v8, v9, v10, v11, B, hf4, hf7, hf9, hf13, hf14, hf15, hd0, hd1, hd2, (fun _ => rfl), hd4, hd5, hd6, hd7, hd8, hd9, hd10, (fun _ _ _ => hs2), Fhs3, C4_0, C7_0, C7_4, C7_6, (fun _ _ _ _ => H), (fun a _ _ _ => nX e0 a), (fun _ _ a _ => nX e6 a), (fun a _ _ _ => nX e0 a), (fun a _ _ _ => nX e0 a), (fun a _ _ _ => nX e0 a), (fun a _ _ _ => nX e0 a)⟩
          ·
           have H := W2 e0 e4 e6 e7
           refine O.sliceH Try.underlying62 sz28 (H.own 0 rfl) ht8 rfl rfl rfl rfl ?_
           intro v7 hs2
           exact WL.nil ⟨b6, v7, v8, v9, v10, v11, B, hf4, hf7, hf9, hf13, hf14, hf15, hd0, hd1, hd2, (fun _ => rfl), hd4, hd5, hd6, hd7, hd8, hd9, hd10, (fun _ _ _ => hs2), Fhs3, C4_0, C7_0, C7_4, C7_6, (fun _ _ a _ => nT e6 a), (fun a _ _ _ => nX e0 a), (fun _ _ _ _ => H), (fun a _ _ _ => nX e0 a), (fun a _ _ _ => nX e0 a), (fun a _ _ _ => nX e0 a), (fun a _ _ _ => nX e0 a)⟩
         ·
          rcases bool_ft (S 6) with e6 | e6
          ·
           have H := W1 e0 e4 e6 e7
           refine O.sliceH Try.underlying62 sz28 (H.own 0 rfl) ht8 rfl rfl rfl rfl ?_
           intro v7 hs2
           exact WL.nil ⟨b6, v7, v8, v9, v10, v11, B, hf4, hf7, hf9, hf13, hf14, hf15, hd0, hd1, hd2, (fun _ => rfl), hd4, hd5, hd6, hd7, hd8, hd9, hd10, (fun _ _ _ => hs2), Fhs3, C4_0, C7_0, C7_4, C7_6, (fun a _ _ _ => nT e0 a), (fun _ _ _ _ => H), (fun a _ _ _ => nT e0 a), (fun _ a _ _ => nX e4 a), (fun _ _ a _ => nX e6 a), (fun _ a _ _ => nX e4 a), (fun _ a _ _ => nX e4 a)⟩
          ·
           have H := W4 e0 e4 e6 e7
           refine O.sliceH Try.underlying62 sz28 (H.own 0 rfl) ht8 rfl rfl rfl rfl ?_
           intro v7 hs2
           exact WL.nil ⟨b6, v7, v8, v9, v10, v11, B, hf4, hf7, hf9, hf13, hf14, hf15, hd0, hd1, hd2, (fun _ => rfl), hd4, hd5, hd6, hd7, hd8, hd9, hd10, (fun _ _ _ => hs2), Fhs3, C4_0, C7_0, C7_4, C7_6, (fun a _ _ _ => nT e0 a), (fun _ _ a _ => nT e6 a), (fun a _ _ _ => nT e0 a), (fun _ a _ _ => nX e4 a), (fun _ _ _ _ => H), (fun _ a _ _ => nX e4 a), (fun _ a _ _ => nX e4 a)⟩
        ·
         rintro S f w hS ⟨e0, e1, e2, e3, -⟩ ⟨e7, -⟩ ⟨b6, v7, _, v9, v10, v11, B, hf4, hf7, hf9, hf13, hf14, hf15, hd0, hd1, hd2, hd3, hd4, hd5, hd6, hd7, hd8, hd9, hd10, Fhs2, Fhs3, C4_0, C7_0, C7_4, C7_6, W0, W1, W2, W3, W4, W5, W6⟩
         have hf66 := hd0 e0
         have hf69 := hd3 e3
         obtain ⟨u11, rfl⟩ := up2 hf66 hf69
         rcases bool_ft (S 6) with e6 | e6
         ·
          have H := W1 e0 hS e6 e7
          have hs2 := Fhs2 e3 hS e7
          refine O.append 2 Try.underlying62 el28 rfl H rfl hs2 ht9 rfl rfl rfl rfl ?_
          intro v8 w8 H
          clear hs2
          exact WL.nil ⟨b6, v7, v8, v9, v10, v11, (H.pick [] [] rfl (by decide)), hf4, hf7, hf9, hf13, hf14, hf15, hd0, hd1, hd2, hd3, (fun _ => rfl), hd5, hd6, hd7, hd8, hd9, hd10, (fun g0 g1 g2 => nG g1), Fhs3, (fun _ => e0), C7_0, (fun _ => rfl), C7_6, (fun a _ _ _ => nT e0 a), (fun _ a _ _ => nG a), (fun a _ _ _ => nT e0 a), (fun _ _ _ _ => H), (fun _ a _ _ => nG a), (fun _ _ a _ => nX e6 a), (fun _ _ a _ => nX e6 a)⟩
         ·
          have H := W4 e0 hS e6 e7
          have hs2 := Fhs2 e3 hS e7
          refine O.append 2 Try.underlying62 el28 rfl H rfl hs2 ht9 rfl rfl rfl rfl ?_
          intro v8 w8 H
          clear hs2
          exact WL.nil ⟨b6, v7, v8, v9, v10, v11, (H.pick [] [] rfl (by decide)), hf4, hf7, hf9, hf13, hf14, hf15, hd0, hd1, hd2, hd3, (fun _ => rfl), hd5, hd6, hd7, hd8, hd9, hd10, (fun g0 g1 g2 => nG g1), Fhs3, (fun _ => e0), C7_0, (fun _ => rfl), C7_6, (fun a _ _ _ => nT e0 a), (fun _ a _ _ => nG a), (fun a _ _ _ => nT e0 a), (fun _ _ a _ => nT e6 a), (fun _ a _ _ => nG a), (fun _ _ _ _ => H), (fun _ _ _ a => nX e7 a)⟩
        ·
         rintro S f w hS - ⟨e6, e7, -⟩ ⟨b6, v7, v8, v9, v10, v11, B, hf4, hf7, hf9, hf13, hf14, hf15, hd0, hd1, hd2, hd3, hd4, hd5, hd6, hd7, hd8, hd9, hd10, Fhs2, Fhs3, C4_0, C7_0, C7_4, C7_6, W0, W1, W2, W3, W4, W5, W6⟩
         obtain ⟨u12, rfl⟩ := up1 hf7
         rcases bool_ft (S 0) with e0 | e0
         ·
          rcases bool_ft (S 4) with e4 | e4
          ·
           have H := W0 e0 e4 e6 e7
           refine O.loadA [(.string t2.Name), (.int .i64 t2.Least), (.int .i64 t2.Greatest), (.int .i64 t2.Leap), (.int .i64 t2.Number)] ag28 rfl rfl rfl rfl (H.cell 1 rfl) ?_
           exact WL.nil ⟨b6, v7, v8, v9, v10, v11, B, hf4, rfl, hf9, hf13, hf14, hf15, hd0, hd1, hd2, hd3, hd4, (fun _ => rfl), hd6, hd7, hd8, hd9, hd10, (fun g0 g1 g2 => Fhs2 g0 g1 g2), Fhs3, C4_0, C7_0, C7_4, C7_6, (fun _ _ _ _ => H), (fun a _ _ _ => nX e0 a), (fun _ _ a _ => nX e6 a), (fun a _ _ _ => nX e0 a), (fun a _ _ _ => nX e0 a), (fun a _ _ _ => nX e0 a), (fun a _ _ _ => nX e0 a)⟩
          ·
           exact nomatch (show true = false from (C4_0 e4).symm.trans e0)
         ·
          rcases bool_ft (S 4) with e4 | e4
          ·
           have H := W1 e0 e4 e6 e7
           refine O.loadA [(.string t2.Name), (.int .i64 t2.Least), (.int .i64 t2.Greatest), (.int .i64 t2.Leap), (.int .i64 t2.Number)] ag28 rfl rfl rfl rfl (H.cell 1 rfl) ?_
           exact WL.nil ⟨b6, v7, v8, v9, v10, v11, B, hf4, rfl, hf9, hf13, hf14, hf15, hd0, hd1, hd2, hd3, hd4, (fun _ => rfl), hd6, hd7, hd8, hd9, hd10, (fun g0 g1 g2 => Fhs2 g0 g1 g2), Fhs3, C4_0, C7_0, C7_4, C7_6, (fun a _ _ _ => nT e0 a), (fun _ _ _ _ => H), (fun a _ _ _ => nT e0 a), (fun _ a _ _ => nX e4 a), (fun _ _ a _ => nX e6 a), (fun _ a _ _ => nX e4 a), (fun _ a _ _ => nX e4 a)⟩
          ·
           have H := W3 e0 e4 e6 e7
           refine O.loadA [(.string t2.Name), (.int .i64 t2.Least), (.int .i64 t2.Greatest), (.int .i64 t2.Leap), (.int .i64 t2.Number)] ag28 rfl rfl rfl rfl (H.cell 1 rfl) ?_
           exact WL.nil ⟨b6, v7, v8, v9, v10, v11, B, hf4, rfl, hf9, hf13, hf14, hf15, hd0, hd1, hd2, hd3, hd4, (fun _ => rfl), hd6, hd7, hd8, hd9, hd10, (fun g0 g1 g2 => Fhs2 g0 g1 g2), Fhs3, C4_0, C7_0, C7_4, C7_6, (fun a _ _ _ => nT e0 a), (fun _ a _ _ => nT e4 a), (fun a _ _ _ => nT e0 a), (fun _ _ _ _ => H), (fun _ a _ _ => nT e4 a), (fun _ _ a _ => nX e6 a), (fun _ _ a _ => nX e6 a)⟩
        ·
         rintro S f w hS ⟨e5, -⟩ ⟨e7, -⟩ ⟨b6, v7, v8, _, v10, v11, B, hf4, hf7, hf9, hf13, hf14, hf15, hd0, hd1, hd2, hd3, hd4, hd5, hd6, hd7, hd8, hd9, hd10, Fhs2, Fhs3, C4_0, C7_0, C7_4, C7_6, W0, W1, W2, W3, W4, W5, W6⟩
         have hf71 := hd5 e5
         obtain ⟨u13, rfl⟩ := up1 hf71
         rcases bool_ft (S 0) with e0 | e0
         ·
          rcases bool_ft (S 4) with e4 | e4
          ·
           have H := W0 e0 e4 hS e7
           refine O.buildSlice (α := GTrial) [(.agg (Flat.cells t2).toArray)] [t2] Try.underlying62 el28 H rfl rfl rfl rfl rfl rfl rfl ?_
           intro v9 w9 H hb6
           refine WL.nil ?_
           have H := H.pick [0, 1, 2, 4] [ownI (α := GTrial) v2 28 z2, boxI b2 28 [(.string t2.Name), (.int .i64 t2.Least), (.int .i64 t2.Greatest), (.int .i64 t2.Leap), (.int .i64 t2.Number)], goneI, ownI (α := GTrial) v9 28 ([t2] : List GTrial)] rfl (by decide)
           exact ⟨b6, v7, v8, v9, v10, v11, (H.pick [] [] rfl (by decide)), hf4, hf7, hf9, hf13, hf14, hf15, hd0, hd1, hd2, hd3, hd4, hd5, (fun _ => rfl), hd7, hd8, hd9, hd10, (fun g0 g1 g2 => (Fhs2 g0 g1 g2).mono hb6), Fhs3, C4_0, C7_0, C7_4, (fun _ => rfl), (fun _ _ a _ => nG a), (fun a _ _ _ => nX e0 a), (fun _ _ _ _ => H), (fun a _ _ _ => nX e0 a), (fun a _ _ _ => nX e0 a), (fun a _ _ _ => nX e0 a), (fun a _ _ _ => nX e0 a)⟩
          ·
           exact nomatch (show true = false from (C4_0 e4).symm.trans e0)
         ·
          rcases bool_ft (S 4) with e4 | e4
          ·
           have H := W1 e0 e4 hS e7
           refine O.buildSlice (α := GTrial) [(.agg (Flat.cells t2).toArray)] [t2] Try.underlying62 el28 H rfl rfl rfl rfl rfl rfl rfl ?_
           intro v9 w9 H hb6
           refine WL.nil ?_
           have H := H.pick [0, 1, 2, 4] [ownI (α := GTrial) v2 28 z2, boxI b2 28 [(.string t2.Name), (.int .i64 t2.Least), (.int .i64 t2.Greatest), (.int .i64 t2.Leap), (.int .i64 t2.Number)], ownI (α := GTrial) (.slice (some ⟨b6, 0, none⟩) 0 0) 28 ([] : List GTrial), ownI (α := GTrial) v9 28 ([t2] : List GTrial)] rfl (by decide)
           exact ⟨b6, v7, v8, v9, v10, v11, (H.pick [] [] rfl (by decide)), hf4, hf7, hf9, hf13, hf14, hf15, hd0, hd1, hd2, hd3, hd4, hd5, (fun _ => rfl), hd7, hd8, hd9, hd10, (fun g0 g1 g2 => (Fhs2 g0 g1 g2).mono hb6), Fhs3, C4_0, C7_0, C7_4, (fun _ => rfl), (fun a _ _ _ => nT e0 a), (fun _ _ a _ => nG a), (fun a _ _ _ => nT e0 a), (fun _ a _ _ => nX e4 a), (fun _ _ _ _ => H), (fun _ a _ _ => nX e4 a), (fun _ a _ _ => nX e4 a)⟩
          ·
           have H := W3 e0 e4 hS e7
           refine O.buildSlice (α := GTrial) [(.agg (Flat.cells t2).toArray)] [t2] Try.underlying62 el28 H rfl rfl rfl rfl rfl rfl rfl ?_
           intro v9 w9 H hb6
           refine WL.nil ?_
           have H := H.pick [0, 1, 2, 4] [ownI (α := GTrial) v2 28 z2, boxI b2 28 [(.string t2.Name), (.int .i64 t2.Least), (.int .i64 t2.Greatest), (.int .i64 t2.Leap), (.int .i64 t2.Number)], ownI (α := GTrial) v8 28 t9, ownI (α := GTrial) v9 28 ([t2] : List GTrial)] rfl (by decide)
           exact ⟨b6, v7, v8, v9, v10, v11, (H.pick [] [] rfl (by decide)), hf4, hf7, hf9, hf13, hf14, hf15, hd0, hd1, hd2, hd3, hd4, hd5, (fun _ => rfl), hd7, hd8, hd9, hd10, (fun g0 g1 g2 => (Fhs2 g0 g1 g2).mono hb6), Fhs3, C4_0, C7_0, C7_4, (fun _ => rfl), (fun a _ _ _ => nT e0 a), (fun _ a _ _ => nT e4 a), (fun a _ _ _ => nT e0 a), (fun _ _ a _ => nG a), (fun _ a _ _ => nT e4 a), (fun _ _ _ _ => H), (fun _ _ _ a => nX e7 a)⟩
        ·
         rintro S f w hS ⟨e0, e1, e2, e3, e4, e5, e6, -⟩ - ⟨b6, v7, v8, v9, _, v11, B, hf4, hf7, hf9, hf13, hf14, hf15, hd0, hd1, hd2, hd3, hd4, hd5, hd6, hd7, hd8, hd9, hd10, Fhs2, Fhs3, C4_0, C7_0, C7_4, C7_6, W0, W1, W2, W3, W4, W5, W6⟩
         have hf70 := hd4 e4
         have hf72 := hd6 e6
         obtain ⟨u14, rfl⟩ := up2 hf70 hf72
         have H := W5 e0 e4 e6 hS
         refine O.append 2 Try.underlying62 el28 rfl H rfl (H.own 3 rfl) ht10 rfl rfl rfl rfl ?_
         intro v10 w10 H
         exact WL.nil ⟨b6, v7, v8, v9, v10, v11, (H.pick [] [] rfl (by decide)), hf4, hf7, hf9, hf13, hf14, hf15, hd0, hd1, hd2, hd3, hd4, hd5, hd6, (fun _ => rfl), hd8, hd9, hd10, (fun g0 g1 g2 => nG g2), Fhs3, C4_0, (fun _ => e0), (fun _ => e4), (fun _ => e6), (fun a _ _ _ => nT e0 a), (fun _ a _ _ => nT e4 a), (fun a _ _ _ => nT e0 a), (fun _ _ a _ => nT e6 a), (fun _ a _ _ => nT e4 a), (fun _ _ _ a => nG a), (fun _ _ _ _ => H)⟩
        ·
         rintro S f w hS - ⟨e10, -⟩ ⟨b6, v7, v8, v9, v10, v11, B, hf4, hf7, hf9, hf13, hf14, hf15, hd0, hd1, hd2, hd3, hd4, hd5, hd6, hd7, hd8, hd9, hd10, Fhs2, Fhs3, C4_0, C7_0, C7_4, C7_6, W0, W1, W2, W3, W4, W5, W6⟩
         obtain ⟨u15, rfl⟩ := up1 hf4
         rcases bool_ft (S 0) with e0 | e0
         ·
          rcases bool_ft (S 4) with e4 | e4
          ·
           rcases bool_ft (S 6) with e6 | e6
           ·
            rcases bool_ft (S 7) with e7 | e7
            ·
             have H := W0 e0 e4 e6 e7
             refine O.move (v := v2) rfl rfl rfl ?_
             exact WL.nil ⟨b6, v7, v8, v9, v10, v11, B, rfl, hf7, hf9, hf13, hf14, hf15, hd0, hd1, hd2, hd3, hd4, hd5, hd6, hd7, (fun _ => rfl), hd9, hd10, (fun g0 g1 g2 => Fhs2 g0 g1 g2), Fhs3, C4_0, C7_0, C7_4, C7_6, (fun _ _ _ _ => H), (fun a _ _ _ => nX e0 a), (fun _ _ a _ => nX e6 a), (fun a _ _ _ => nX e0 a), (fun a _ _ _ => nX e0 a), (fun a _ _ _ => nX e0 a), (fun a _ _ _ => nX e0 a)⟩
            ·
             exact nomatch (show true = false from (C7_0 e7).symm.trans e0)
           ·
            rcases bool_ft (S 7) with e7 | e7
            ·
             have H := W2 e0 e4 e6 e7
             refine O.move (v := v2) rfl rfl rfl ?_
             exact WL.nil ⟨b6, v7, v8, v9, v10, v11, B, rfl, hf7, hf9, hf13, hf14, hf15, hd0, hd1, hd2, hd3, hd4, hd5, hd6, hd7, (fun _ => rfl), hd9, hd10, (fun g0 g1 g2 => Fhs2 g0 g1 g2), Fhs3, C4_0, C7_0, C7_4, C7_6, (fun _ _ a _ => nT e6 a), (fun a _ _ _ => nX e0 a), (fun _ _ _ _ => H), (fun a _ _ _ => nX e0 a), (fun a _ _ _ => nX e0 a), (fun a _ _ _ => nX e0 a), (fun a _ _ _ => nX e0 a)⟩
            ·
             exact nomatch (show true = false from (C7_0 e7).symm.trans e0)
          ·
           rcases bool_ft (S 6) with e6 | e6
           ·
            rcases bool_ft (S 7) with e7 | e7
            ·
             exact nomatch (show true = false from (C4_0 e4).symm.trans e0)
            ·
             exact nomatch (show true = false from (C4_0 e4).symm.trans e0)
           ·
            rcases bool_ft (S 7) with e7 | e7
            ·
             exact nomatch (show true = false from (C4_0 e4).symm.trans e0)
            ·
             exact nomatch (show true = false from (C4_0 e4).symm.trans e0)
         ·
          rcases bool_ft (S 4) with e4 | e4
          ·
           rcases bool_ft (S 6) with e6 | e6
           ·
            rcases bool_ft (S 7) with e7 | e7
            ·
             have H := W1 e0 e4 e6 e7
             refine O.move (v := v2) rfl rfl rfl ?_
             exact WL.nil ⟨b6, v7, v8, v9, v10, v11, B, rfl, hf7, hf9, hf13, hf14, hf15, hd0, hd1, hd2, hd3, hd4, hd5, hd6, hd7, (fun _ => rfl), hd9, hd10, (fun g0 g1 g2 => Fhs2 g0 g1 g2), Fhs3, C4_0, C7_0, C7_4, C7_6, (fun a _ _ _ => nT e0 a), (fun _ _ _ _ => H), (fun a _ _ _ => nT e0 a), (fun _ a _ _ => nX e4 a), (fun _ _ a _ => nX e6 a), (fun _ a _ _ => nX e4 a), (fun _ a _ _ => nX e4 a)⟩
            ·
             exact nomatch (show true = false from (C7_4 e7).symm.trans e4)
           ·
            rcases bool_ft (S 7) with e7 | e7
            ·
             have H := W4 e0 e4 e6 e7
             refine O.move (v := v2) rfl rfl rfl ?_
             exact WL.nil ⟨b6, v7, v8, v9, v10, v11, B, rfl, hf7, hf9, hf13, hf14, hf15, hd0, hd1, hd2, hd3, hd4, hd5, hd6, hd7, (fun _ => rfl), hd9, hd10, (fun g0 g1 g2 => Fhs2 g0 g1 g2), Fhs3, C4_0, C7_0, C7_4, C7_6, (fun a _ _ _ => nT e0 a), (fun _ _ a _ => nT e6 a), (fun a _ _ _ => nT e0 a), (fun _ a _ _ => nX e4 a), (fun _ _ _ _ => H), (fun _ a _ _ => nX e4 a), (fun _ a _ _ => nX e4 a)⟩
            ·
             exact nomatch (show true = false from (C7_4 e7).symm.trans e4)
          ·
           rcases bool_ft (S 6) with e6 | e6
           ·
            rcases bool_ft (S 7) with e7 | e7
            ·
             have H := W3 e0 e4 e6 e7
             refine O.move (v := v2) rfl rfl rfl ?_
             exact WL.nil ⟨b6, v7, v8, v9, v10, v11, B, rfl, hf7, hf9, hf13, hf14, hf15, hd0, hd1, hd2, hd3, hd4, hd5, hd6, hd7, (fun _ => rfl), hd9, hd10, (fun g0 g1 g2 => Fhs2 g0 g1 g2), Fhs3, C4_0, C7_0, C7_4, C7_6, (fun a _ _ _ => nT e0 a), (fun _ a _ _ => nT e4 a), (fun a _ _ _ => nT e0 a), (fun _ _ _ _ => H), (fun _ a _ _ => nT e4 a), (fun _ _ a _ => nX e6 a), (fun _ _ a _ => nX e6 a)⟩
            ·
             exact nomatch (show true = false from (C7_6 e7).symm.trans e6)
           ·
            rcases bool_ft (S 7) with e7 | e7
            ·
             have H := W5 e0 e4 e6 e7
             refine O.move (v := v2) rfl rfl rfl ?_
             exact WL.nil ⟨b6, v7, v8, v9, v10, v11, B, rfl, hf7, hf9, hf13, hf14, hf15, hd0, hd1, hd2, hd3, hd4, hd5, hd6, hd7, (fun _ => rfl), hd9, hd10, (fun g0 g1 g2 => Fhs2 g0 g1 g2), Fhs3, C4_0, C7_0, C7_4, C7_6, (fun a _ _ _ => nT e0 a), (fun _ a _ _ => nT e4 a), (fun a _ _ _ => nT e0 a), (fun _ _ a _ => nT e6 a), (fun _ a _ _ => nT e4 a), (fun _ _ _ _ => H), (fun _ _ _ a => nX e7 a)⟩
            ·
             have H := W6 e0 e4 e6 e7
             refine O.move (v := v2) rfl rfl rfl ?_
             exact WL.nil ⟨b6, v7, v8, v9, v10, v11, B, rfl, hf7, hf9, hf13, hf14, hf15, hd0, hd1, hd2, hd3, hd4, hd5, hd6, hd7, (fun _ => rfl), hd9, hd10, (fun g0 g1 g2 => Fhs2 g0 g1 g2), Fhs3, C4_0, C7_0, C7_4, C7_6, (fun a _ _ _ => nT e0 a), (fun _ a _ _ => nT e4 a), (fun a _ _ _ => nT e0 a), (fun _ _ a _ => nT e6 a), (fun _ a _ _ => nT e4 a), (fun _ _ _ a => nT e7 a), (fun _ _ _ _ => H)⟩
        ·
         rintro S f w hS - ⟨e10, -⟩ ⟨b6, v7, v8, v9, v10, v11, B, hf4, hf7, hf9, hf13, hf14, hf15, hd0, hd1, hd2, hd3, hd4, hd5, hd6, hd7, hd8, hd9, hd10, Fhs2, Fhs3, C4_0, C7_0, C7_4, C7_6, W0, W1, W2, W3, W4, W5, W6⟩
         obtain ⟨u16, rfl⟩ := up1 hf9
         rcases bool_ft (S 0) with e0 | e0
         ·
          rcases bool_ft (S 4) with e4 | e4
          ·
           rcases bool_ft (S 6) with e6 | e6
           ·
            rcases bool_ft (S 7) with e7 | e7
            ·
             have H := W0 e0 e4 e6 e7
             refine O.move (v := (.int .i64 s3)) rfl rfl rfl ?_
             exact WL.nil ⟨b6, v7, v8, v9, v10, v11, B, hf4, hf7, rfl, hf13, hf14, hf15, hd0, hd1, hd2, hd3, hd4, hd5, hd6, hd7, hd8, (fun _ => rfl), hd10, (fun g0 g1 g2 => Fhs2 g0 g1 g2), Fhs3, C4_0, C7_0, C7_4, C7_6, (fun _ _ _ _ => H), (fun a _ _ _ => nX e0 a), (fun _ _ a _ => nX e6 a), (fun a _ _ _ => nX e0 a), (fun a _ _ _ => nX e0 a), (fun a _ _ _ => nX e0 a), (fun a _ _ _ => nX e0 a)⟩
            ·
             exact nomatch (show true = false from (C7_0 e7).symm.trans e0)
           ·
            rcases bool_ft (S 7) with e7 | e7
            ·
             have H := W2 e0 e4 e6 e7
             refine O.move (v := (.int .i64 s3)) rfl rfl rfl ?_
             exact WL.nil ⟨b6, v7, v8, v9, v10, v11, B, hf4, hf7, rfl, hf13, hf14, hf15, hd0, hd1, hd2, hd3, hd4, hd5, hd6, hd7, hd8, (fun _ => rfl), hd10, (fun g0 g1 g2 => Fhs2 g0 g1 g2), Fhs3, C4_0, C7_0, C7_4, C7_6, (fun _ _ a _ => nT e6 a), (fun a _ _ _ => nX e0 a), (fun _ _ _ _ => H), (fun a _ _ _ => nX e0 a), (fun a _ _ _ => nX e0 a), (fun a _ _ _ => nX e0 a), (fun a _ _ _ => nX e0 a)⟩
            ·
             exact nomatch (show true = false from (C7_0 e7).symm.trans e0)
          ·
           rcases bool_ft (S 6) with e6 | e6
           ·
            rcases bool_ft (S 7) with e7 | e7
            ·
             exact nomatch (show true = false from (C4_0 e4).symm.trans e0)
            ·
             exact nomatch (show true = false from (C4_0 e4).symm.trans e0)
           ·
            rcases bool_ft (S 7) with e7 | e7
            ·
             exact nomatch (show true = false from (C4_0 e4).symm.trans e0)
            ·
             exact nomatch (show true = false from (C4_0 e4).symm.trans e0)
         ·
          rcases bool_ft (S 4) with e4 | e4
          ·
           rcases bool_ft (S 6) with e6 | e6
           ·
            rcases bool_ft (S 7) with e7 | e7
            ·
             have H := W1 e0 e4 e6 e7
             refine O.move (v := (.int .i64 s3)) rfl rfl rfl ?_
             exact WL.nil ⟨b6, v7, v8, v9, v10, v11, B, hf4, hf7, rfl, hf13, hf14, hf15, hd0, hd1, hd2, hd3, hd4, hd5, hd6, hd7, hd8, (fun _ => rfl), hd10, (fun g0 g1 g2 => Fhs2 g0 g1 g2), Fhs3, C4_0, C7_0, C7_4, C7_6, (fun a _ _ _ => nT e0 a), (fun _ _ _ _ => H), (fun a _ _ _ => nT e0 a), (fun _ a _ _ => nX e4 a), (fun _ _ a _ => nX e6 a), (fun _ a _ _ => nX e4 a), (fun _ a _ _ => nX e4 a)⟩
            ·
             exact nomatch (show true = false from (C7_4 e7).symm.trans e4)
           ·
            rcases bool_ft (S 7) with e7 | e7
            ·
             have H := W4 e0 e4 e6 e7
             refine O.move (v := (.int .i64 s3)) rfl rfl rfl ?_
             exact WL.nil ⟨b6, v7, v8, v9, v10, v11, B, hf4, hf7, rfl, hf13, hf14, hf15, hd0, hd1, hd2, hd3, hd4, hd5, hd6, hd7, hd8, (fun _ => rfl), hd10, (fun g0 g1 g2 => Fhs2 g0 g1 g2), Fhs3, C4_0, C7_0, C7_4, C7_6, (fun a _ _ _ => nT e0 a), (fun _ _ a _ => nT e6 a), (fun a _ _ _ => nT e0 a), (fun _ a _ _ => nX e4 a), (fun _ _ _ _ => H), (fun _ a _ _ => nX e4 a), (fun _ a _ _ => nX e4 a)⟩
            ·
             exact nomatch (show true = false from (C7_4 e7).symm.trans e4)
          ·
           rcases bool_ft (S 6) with e6 | e6
           ·
            rcases bool_ft (S 7) with e7 | e7
            ·
             have H := W3 e0 e4 e6 e7
             refine O.move (v := (.int .i64 s3)) rfl rfl rfl ?_
             exact WL.nil ⟨b6, v7, v8, v9, v10, v11, B, hf4, hf7, rfl, hf13, hf14, hf15, hd0, hd1, hd2, hd3, hd4, hd5, hd6, hd7, hd8, (fun _ => rfl), hd10, (fun g0 g1 g2 => Fhs2 g0 g1 g2), Fhs3, C4_0, C7_0, C7_4, C7_6, (fun a _ _ _ => nT e0 a), (fun _ a _ _ => nT e4 a), (fun a _ _ _ => nT e0 a), (fun _ _ _ _ => H), (fun _ a _ _ => nT e4 a), (fun _ _ a _ => nX e6 a), (fun _ _ a _ => nX e6 a)⟩
            ·
             exact nomatch (show true = false from (C7_6 e7).symm.trans e6)
           ·
            rcases bool_ft (S 7) with e7 | e7
            ·
             have H := W5 e0 e4 e6 e7
             refine O.move (v := (.int .i64 s3)) rfl rfl rfl ?_
             exact WL.nil ⟨b6, v7, v8, v9, v10, v11, B, hf4, hf7, rfl, hf13, hf14, hf15, hd0, hd1, hd2, hd3, hd4, hd5, hd6, hd7, hd8, (fun _ => rfl), hd10, (fun g0 g1 g2 => Fhs2 g0 g1 g2), Fhs3, C4_0, C7_0, C7_4, C7_6, (fun a _ _ _ => nT e0 a), (fun _ a _ _ => nT e4 a), (fun a _ _ _ => nT e0 a), (fun _ _ a _ => nT e6 a), (fun _ a _ _ => nT e4 a), (fun _ _ _ _ => H), (fun _ _ _ a => nX e7 a)⟩
            ·
             have H := W6 e0 e4 e6 e7
             refine O.move (v := (.int .i64 s3)) rfl rfl rfl ?_
             exact WL.nil ⟨b6, v7, v8, v9, v10, v11, B, hf4, hf7, rfl, hf13, hf14, hf15, hd0, hd1, hd2, hd3, hd4, hd5, hd6, hd7, hd8, (fun _ => rfl), hd10, (fun g0 g1 g2 => Fhs2 g0 g1 g2), Fhs3, C4_0, C7_0, C7_4, C7_6, (fun a _ _ _ => nT e0 a), (fun _ a _ _ => nT e4 a), (fun a _ _ _ => nT e0 a), (fun _ _ a _ => nT e6 a), (fun _ a _ _ => nT e4 a), (fun _ _ _ a => nT e7 a), (fun _ _ _ _ => H)⟩
        ·
         rintro S f w hS ⟨e8, e9, -⟩ - ⟨b6, v7, v8, v9, v10, _, B, hf4, hf7, hf9, hf13, hf14, hf15, hd0, hd1, hd2, hd3, hd4, hd5, hd6, hd7, hd8, hd9, hd10, Fhs2, Fhs3, C4_0, C7_0, C7_4, C7_6, W0, W1, W2, W3, W4, W5, W6⟩
         have hf74 := hd8 e8
         have hf75 := hd9 e9
         obtain ⟨u17, rfl⟩ := up2 hf74 hf75
         rcases bool_ft (S 0) with e0 | e0
         ·
          rcases bool_ft (S 4) with e4 | e4
          ·
           rcases bool_ft (S 6) with e6 | e6
           ·
            rcases bool_ft (S 7) with e7 | e7
            ·
             have H := W0 e0 e4 e6 e7
             refine sliceLA Try.underlying62 sz28 (H.own 0 rfl) ht11 rfl rfl rfl rfl ?_
             intro v11 hs3
             exact WL.nil ⟨b6, v7, v8, v9, v10, v11, B, hf4, hf7, hf9, hf13, hf14, hf15, hd0, hd1, hd2, hd3, hd4, hd5, hd6, hd7, hd8, hd9, (fun _ => rfl), (fun g0 g1 g2 => Fhs2 g0 g1 g2), (fun _ => hs3), C4_0, C7_0, C7_4, C7_6, (fun _ _ _ _ => H), (fun a _ _ _ => nX e0 a), (fun _ _ a _ => nX e6 a), (fun a _ _ _ => nX e0 a), (fun a _ _ _ => nX e0 a), (fun a _ _ _ => nX e0 a), (fun a _ _ _ => nX e0 a)⟩
            ·
             exact nomatch (show true = false from (C7_0 e7).symm.trans e0)
           ·
            rcases bool_ft (S 7) with e7 | e7
            ·
             have H := W2 e0 e4 e6 e7
             refine sliceLA Try.underlying62 sz28 (H.own 0 rfl) ht11 rfl rfl rfl rfl ?_
             intro v11 hs3
             exact WL.nil ⟨b6, v7, v8, v9, v10, v11, B, hf4, hf7, hf9, hf13, hf14, hf15, hd0, hd1, hd2, hd3, hd4, hd5, hd6, hd7, hd8, hd9, (fun _ => rfl), (fun g0 g1 g2 => Fhs2 g0 g1 g2), (fun _ => hs3), C4_0, C7_0, C7_4, C7_6, (fun _ _ a _ => nT e6 a), (fun a _ _ _ => nX e0 a), (fun _ _ _ _ => H), (fun a _ _ _ => nX e0 a), (fun a _ _ _ => nX e0 a), (fun a _ _ _ => nX e0 a), (fun a _ _ _ => nX e0 a)⟩
            ·
             exact nomatch (show true = false from (C7_0 e7).symm.trans e0)
          ·
           rcases bool_ft (S 6) with e6 | e6
           ·
            rcases bool_ft (S 7) with e7 | e7
            ·
             exact nomatch (show true = false from (C4_0 e4).symm.trans e0)
            ·
             exact nomatch (show true = false from (C4_0 e4).symm.trans e0)
           ·
            rcases bool_ft (S 7) with e7 | e7
            ·
             exact nomatch (show true = false from (C4_0 e4).symm.trans e0)
            ·
             exact nomatch (show true = false from (C4_0 e4).symm.trans e0)
         ·
          rcases bool_ft (S 4) with e4 | e4
          ·
           rcases bool_ft (S 6) with e6 | e6
           ·
            rcases bool_ft (S 7) with e7 | e7
            ·
             have H := W1 e0 e4 e6 e7
             refine sliceLA Try.underlying62 sz28 (H.own 0 rfl) ht11 rfl rfl rfl rfl ?_
             intro v11 hs3
             exact WL.nil ⟨b6, v7, v8, v9, v10, v11, B, hf4, hf7, hf9, hf13, hf14, hf15, hd0, hd1, hd2, hd3, hd4, hd5, hd6, hd7, hd8, hd9, (fun _ => rfl), (fun g0 g1 g2 => Fhs2 g0 g1 g2), (fun _ => hs3), C4_0, C7_0, C7_4, C7_6, (fun a _ _ _ => nT e0 a), (fun _ _ _ _ => H), (fun a _ _ _ => nT e0 a), (fun _ a _ _ => nX e4 a), (fun _ _ a _ => nX e6 a), (fun _ a _ _ => nX e4 a), (fun _ a _ _ => nX e4 a)⟩
            ·
             exact nomatch (show true = false from (C7_4 e7).symm.trans e4)
           ·
            rcases bool_ft (S 7) with e7 | e7
            ·
             have H := W4 e0 e4 e6 e7
             refine sliceLA Try.underlying62 sz28 (H.own 0 rfl) ht11 rfl rfl rfl rfl ?_
             intro v11 hs3
             exact WL.nil ⟨b6, v7, v8, v9, v10, v11, B, hf4, hf7, hf9, hf13, hf14, hf15, hd0, hd1, hd2, hd3, hd4, hd5, hd6, hd7, hd8, hd9, (fun _ => rfl), (fun g0 g1 g2 => Fhs2 g0 g1 g2), (fun _ => hs3), C4_0, C7_0, C7_4, C7_6, (fun a _ _ _ => nT e0 a), (fun _ _ a _ => nT e6 a), (fun a _ _ _ => nT e0 a), (fun _ a _ _ => nX e4 a), (fun _ _ _ _ => H), (fun _ a _ _ => nX e4 a), (fun _ a _ _ => nX e4 a)⟩
            ·
             exact nomatch (show true = false from (C7_4 e7).symm.trans e4)
          ·
           rcases bool_ft (S 6) with e6 | e6
           ·
            rcases bool_ft (S 7) with e7 | e7
            ·
             have H := W3 e0 e4 e6 e7
             refine sliceLA Try.underlying62 sz28 (H.own 0 rfl) ht11 rfl rfl rfl rfl ?_
             intro v11 hs3
             exact WL.nil ⟨b6, v7, v8, v9, v10, v11, B, hf4, hf7, hf9, hf13, hf14, hf15, hd0, hd1, hd2, hd3, hd4, hd5, hd6, hd7, hd8, hd9, (fun _ => rfl), (fun g0 g1 g2 => Fhs2 g0 g1 g2), (fun _ => hs3), C4_0, C7_0, C7_4, C7_6, (fun a _ _ _ => nT e0 a), (fun _ a _ _ => nT e4 a), (fun a _ _ _ => nT e0 a), (fun _ _ _ _ => H), (fun _ a _ _ => nT e4 a), (fun _ _ a _ => nX e6 a), (fun _ _ a _ => nX e6 a)⟩
            ·
             exact nomatch (show true = false from (C7_6 e7).symm.trans e6)
           ·
            rcases bool_ft (S 7) with e7 | e7
            ·
             have H := W5 e0 e4 e6 e7
             refine sliceLA Try.underlying62 sz28 (H.own 0 rfl) ht11 rfl rfl rfl rfl ?_
             intro v11 hs3
             exact WL.nil ⟨b6, v7, v8, v9, v10, v11, B, hf4, hf7, hf9, hf13, hf14, hf15, hd0, hd1, hd2, hd3, hd4, hd5, hd6, hd7, hd8, hd9, (fun _ => rfl), (fun g0 g1 g2 => Fhs2 g0 g1 g2), (fun _ => hs3), C4_0, C7_0, C7_4, C7_6, (fun a _ _ _ => nT e0 a), (fun _ a _ _ => nT e4 a), (fun a _ _ _ => nT e0 a), (fun _ _ a _ => nT e6 a), (fun _ a _ _ => nT e4 a), (fun _ _ _ _ => H), (fun _ _ _ a => nX e7 a)⟩
            ·
             have H := W6 e0 e4 e6 e7
             refine sliceLA Try.underlying62 sz28 (H.own 0 rfl) ht11 rfl rfl rfl rfl ?_
             intro v11 hs3
             exact WL.nil ⟨b6, v7, v8, v9, v10, v11, B, hf4, hf7, hf9, hf13, hf14, hf15, hd0, hd1, hd2, hd3, hd4, hd5, hd6, hd7, hd8, hd9, (fun _ => rfl), (fun g0 g1 g2 => Fhs2 g0 g1 g2), (fun _ => hs3), C4_0, C7_0, C7_4, C7_6, (fun a _ _ _ => nT e0 a), (fun _ a _ _ => nT e4 a), (fun a _ _ _ => nT e0 a), (fun _ _ a _ => nT e6 a), (fun _ a _ _ => nT e4 a), (fun _ _ _ a => nT e7 a), (fun _ _ _ _ => H)⟩
       ·
        rintro S f w ⟨e0, e1, e2, e3, e4, e5, e6, e7, e8, e9, e10, -⟩ ⟨b6, v7, v8, v9, v10, v11, B, hf4, hf7, hf9, hf13, hf14, hf15, hd0, hd1, hd2, hd3, hd4, hd5, hd6, hd7, hd8, hd9, hd10, Fhs2, Fhs3, C4_0, C7_0, C7_4, C7_6, W0, W1, W2, W3, W4, W5, W6⟩
        have hf73 := hd7 e7
        have hf76 := hd10 e10
        have H := W6 e0 e4 e6 e7
        obtain ⟨u18, rfl⟩ := up5 hf13 hf14 hf15 hf73 hf76
        have hs3 := Fhs3 e10 _ (H.own 0 rfl)
        obtain ⟨t12, ht12, hm3⟩ := bind_some hm3
        refine O.append 2 Try.underlying62 el28 rfl H rfl hs3 ht12 rfl rfl rfl rfl ?_
        intro v12 w11 H
        refine O.assign (v := v12) rfl rfl rfl ?_
        refine WL.nil ?_
        have H := H.keep [2] [ownI (α := GTrial) v12 28 t12] rfl (by decide)
        obtain rfl := Option.some.inj hm3
        exact ⟨_, v12, rfl, rfl, rfl, rfl, rfl, H⟩
    ·
     rintro f w ⟨s2, v5, rfl, hf4, hf13, hf14, hf15, H⟩
     obtain ⟨u19, rfl⟩ := up4 hf4 hf13 hf14 hf15
     refine W.region ?_
     refine O.add rfl rfl rfl rfl hinck1 ?_
     refine O.move (v := .int .i64 ((ik1 : Int) + 1)) rfl rfl rfl ?_
     refine WL.nil ?_
     obtain rfl := Option.some.inj hm2
     exact ⟨_, rfl, _, v5, rfl, drop_next hdropk1, rfl, rfl, rfl, rfl, H⟩
   ·
    rintro ik1 _ f w ⟨z2, v2, rfl, hdropk1, hf15, hf14, hf4, hf13, H⟩ hfin
    have hltk1 := drop_end hdropk1
    obtain ⟨u20, rfl⟩ := up4 hf15 hf14 hf4 hf13
    refine W.seq ?_
    refine W.region ?_
    refine O.lss rfl rfl rfl rfl ?_
    refine WL.nil ?_
    refine W.seq ?_
    refine W.cond_false (congrArg Value.bool (decide_eq_false hltk1)) ?_
    refine W.exit ?_
    obtain rfl : Ctl.next z2 = o1 := hfin
    refine xT rfl ?_
    exact ⟨_, v2, rfl, rfl, H⟩
  ·
   rintro f w ⟨s1, v4, rfl, hf4, H⟩
   obtain ⟨u21, rfl⟩ := up1 hf4
   refine W.seq ?_
   refine W.region ?_
   refine O.move (v := v4) rfl rfl rfl ?_
   refine O.assign (v := v4) rfl rfl rfl ?_
   refine O.assign (v := (.int .i64 0)) rfl rfl rfl ?_
   refine WL.nil ?_
   refine W.ret ?_
   have hq : (s1, 0) = (r0, r1) := Option.some.inj (show some (s1, 0) = some (r0, r1) from hm)
   obtain ⟨he0, hq0⟩ := Prod.mk.inj hq; clear hq; subst he0
   subst hq0
   exact ends2 Try.results50 rfl rfl ⟨_, rfl, H.base, ⟨_, rfl, H.ownR 0 rfl⟩⟩

set_option maxRecDepth 20000 in
theorem c_rate_Passed {w0 : World} (va0 : Value) (a0 : (List GBox)) (ha0 : SliceR w0 va0 a0) (a1 : Int) {r0 : (List ByteArray)} {r1 : Int} (hm : rate_Passed a0 a1 = some (r0, r1)) :
  Calls Try.prog 51 #[va0, (.int .i64 a1)] w0 (Ret w0 fun w v => ∃ vr0 : Value, v = .tuple #[vr0, (.int .i64 r1)] ∧ OwnR w0 w vr0 9 r0) := by
 unfold rate_Passed at hm
 refine calls_of_W Try.func51 rfl Try.ntmps51 (Nat.le_of_ble_eq_true rfl) ?_
 have H := Inv.start (w := w0)
 refine W.seq ?_
 refine W.region ?_
 have H := H.addNil (α := ByteArray) (E := 9)
 refine O.assign (v := (.slice none 0 0)) rfl rfl rfl ?_
 refine O.assign (v := (.int .i64 0)) rfl rfl rfl ?_
 refine WL.nil ?_
 refine W.seq ?_
 refine W.block ?_
 refine W.seq ?_
 refine W.region ?_
 refine O.move (v := va0) rfl rfl rfl ?_
 obtain ⟨t1, hy1, hm⟩ := bind_some hm
 refine O.call Try.call46 rfl rfl rfl (c_rate_ValidBoxes _ _ (H.arg ha0) hy1) ?_
 rintro _ w1 hb1 rfl
 have H := H.ext hb1
 refine O.not rfl rfl rfl ?_
 refine O.assign (v := (.bool (!t1))) rfl rfl rfl ?_
 refine WL.nil ?_
 rcases ite_some hm with ⟨hc1, hm⟩ | ⟨hc1, hm⟩
 ·
  refine W.cond_true (congrArg Value.bool hc1) ?_
  refine W.seq ?_
  refine W.region ?_
  have H := H.addNil (α := ByteArray) (E := 9)
  refine O.assign (v := (.slice none 0 0)) rfl rfl rfl ?_
  refine O.assign (v := (.int .i64 1)) rfl rfl rfl ?_
  refine WL.nil ?_
  refine W.ret ?_
  have hq : (([] : List ByteArray), 1) = (r0, r1) := Option.some.inj (show some (([] : List ByteArray), 1) = some (r0, r1) from hm)
  obtain ⟨he0, hq0⟩ := Prod.mk.inj hq; clear hq; subst he0
  subst hq0
  exact ends2 Try.results51 rfl rfl ⟨_, rfl, H.base, ⟨_, rfl, H.ownR 1 rfl⟩⟩
 ·
  refine W.cond_false (congrArg Value.bool hc1) ?_
  refine W.seq ?_
  refine W.region ?_
  refine O.move (v := (.int .i64 a1)) rfl rfl rfl ?_
  refine O.lss rfl rfl rfl rfl ?_
  refine O.assign (v := (.bool (decide (a1 < 0)))) rfl rfl rfl ?_
  refine WL.nil ?_
  rcases ite_some hm with ⟨hc2, hm⟩ | ⟨hc2, hm⟩
  ·
   refine W.cond_true (congrArg Value.bool hc2) ?_
   refine W.seq ?_
   refine W.region ?_
   have H := H.addNil (α := ByteArray) (E := 9)
   refine O.assign (v := (.slice none 0 0)) rfl rfl rfl ?_
   refine O.assign (v := (.int .i64 7)) rfl rfl rfl ?_
   refine WL.nil ?_
   refine W.ret ?_
   have hq : (([] : List ByteArray), 7) = (r0, r1) := Option.some.inj (show some (([] : List ByteArray), 7) = some (r0, r1) from hm)
   obtain ⟨he0, hq0⟩ := Prod.mk.inj hq; clear hq; subst he0
   subst hq0
   exact ends2 Try.results51 rfl rfl ⟨_, rfl, H.base, ⟨_, rfl, H.ownR 1 rfl⟩⟩
  ·
   refine W.cond_false (congrArg Value.bool hc2) ?_
   refine W.skip ?_
   refine W.seq ?_
   refine W.region ?_
   refine O.move (v := va0) rfl rfl rfl ?_
   obtain ⟨⟨t2, t3⟩, hy2, hm⟩ := bind_some hm
   refine O.call Try.call49 rfl rfl rfl (c_rate_Ranked _ _ (H.arg ha0) hy2) ?_
   rintro _ w2 hb2 ⟨v1, rfl, ho1⟩
   have H := H.addOwn hb2 ho1
   refine O.move (v := (.tuple #[v1, (.int .i64 t3)])) rfl rfl rfl ?_
   refine O.extract (v := v1) rfl rfl rfl rfl ?_
   refine O.extract (v := (.int .i64 t3)) rfl rfl rfl rfl ?_
   refine O.assign (v := v1) rfl rfl rfl ?_
   refine O.assign (v := (.int .i64 t3)) rfl rfl rfl ?_
   refine WL.nil ?_
   refine W.seq ?_
   refine W.region ?_
   have H := H.addNil (α := ByteArray) (E := 9)
   refine O.assign (v := (.slice none 0 0)) rfl rfl rfl ?_
   refine WL.nil ?_
   refine W.seq ?_
   refine W.seq ?_
   refine W.region ?_
   refine O.move (v := v1) rfl rfl rfl ?_
   refine O.lenS Try.underlying62 (H.own 1 rfl) rfl rfl rfl ?_
   refine O.move (v := (.int .i64 0)) rfl rfl rfl ?_
   refine WL.nil ?_
   obtain ⟨s1, hm1, hm⟩ := bind_some hm
   refine W.via (fun f w => ∃ v5 : Value, f 7 = (.int .i64 t3) ∧ f 8 = v5 ∧ Inv w0 w [ownI (α := ByteArray) v5 9 s1]) ?_ ?_
   ·
    refine W.block ?_
    have H := H.keep [1, 2] [ownI (α := GTrial) v1 28 t2, ownI (α := ByteArray) (.slice none 0 0) 9 ([] : List ByteArray)] rfl (by decide)
    refine W.rangeL (i := 0) hm1 (fun rem ik1 s f w => ∃ z2 : (List ByteArray), ∃ v3 : Value, z2 = s ∧ t2.drop ik1 = rem ∧ f 25 = .int .i64 (ik1 : Int) ∧ f 24 = (.int .i64 ((t2.length : Nat) : Int)) ∧ f 1 = (.int .i64 a1) ∧ f 7 = (.int .i64 t3) ∧ f 8 = v3 ∧ f 23 = v1 ∧ Inv w0 w [ownI (α := GTrial) v1 28 t2, ownI (α := ByteArray) v3 9 z2]) ?_ ?_ ?_
    ·
     exact ⟨_, (.slice none 0 0), rfl, List.drop_zero, rfl, rfl, rfl, rfl, rfl, rfl, H⟩
    ·
     rintro yk1 xs ik1 _ st f w ⟨z2, v3, rfl, hdropk1, hf25, hf24, hf1, hf7, hf8, hf23, H⟩ hm2
     have hltk1 := drop_lt hdropk1; have hixk1 := drop_idx hdropk1
     obtain ⟨u1, rfl⟩ := up6 hf25 hf24 hf1 hf7 hf8 hf23
     have hinck1 := addI_lt hltk1 (H.own 0 rfl).len_le
     refine W.seq ?_
     refine W.region ?_
     refine O.lss rfl rfl rfl rfl ?_
     refine WL.nil ?_
     refine W.seq ?_
     refine W.cond_true (congrArg Value.bool (decide_eq_true hltk1)) ?_
     refine W.skip ?_
     refine W.seq ?_
     obtain ⟨s2, hm3, hm2⟩ := bind_some hm2
     refine W.via (fun f w => ∃ v6 : Value, f 1 = (.int .i64 a1) ∧ f 7 = (.int .i64 t3) ∧ f 8 = v6 ∧ f 23 = v1 ∧ f 24 = (.int .i64 ((t2.length : Nat) : Int)) ∧ f 25 = (.int .i64 (ik1 : Int)) ∧ Inv w0 w [ownI (α := GTrial) v1 28 t2, ownI (α := ByteArray) v6 9 s2]) ?_ ?_
     ·
      refine W.block ?_
      refine W.seq ?_
      refine W.region ?_
      refine O.indexAddr Try.underlying62 sz28 (H.own 0 rfl) hixk1 rfl rfl rfl rfl ?_
      intro p1 hp1
      refine O.loadA [(.string yk1.Name), (.int .i64 yk1.Least), (.int .i64 yk1.Greatest), (.int .i64 yk1.Leap), (.int .i64 yk1.Number)] ag28 rfl rfl rfl rfl (hp1.flat) ?_
      refine O.alloc [(.string ByteArray.empty), (.int .i64 0), (.int .i64 0), (.int .i64 0), (.int .i64 0)] ze28 H rfl rfl rfl ?_
      intro b1 w3 H hb3
      have hp1 := hp1.mono hb3
      refine O.store 2 0 [(.string yk1.Name), (.int .i64 yk1.Least), (.int .i64 yk1.Greatest), (.int .i64 yk1.Leap), (.int .i64 yk1.Number)] [(.string yk1.Name), (.int .i64 yk1.Least), (.int .i64 yk1.Greatest), (.int .i64 yk1.Leap), (.int .i64 yk1.Number)] sz28 H rfl rfl rfl rfl rfl rfl ⟨⟨rfl, rfl⟩, rfl⟩ (one_cons rfl (one_cons rfl (one_cons rfl (one_cons rfl (one_cons rfl one_nil))))) ?_
      intro w4 H
      clear hp1
      refine WL.nil ?_
      refine W.seq ?_
      refine W.region ?_
      refine O.fieldAddr fd28_4 rfl rfl rfl ?_
      refine O.load sc3 rfl rfl rfl (H.cell 2 rfl 4 _ rfl) ?_
      refine O.move (v := (.int .i64 a1)) rfl rfl rfl ?_
      refine O.leq rfl rfl rfl rfl ?_
      refine WL.nil ?_
      obtain ⟨s3, hm4, hm3⟩ := bind_some hm3
      refine W.via (fun f w => ∃ v7 : Value, f 1 = (.int .i64 a1) ∧ f 7 = (.int .i64 t3) ∧ f 8 = v7 ∧ f 23 = v1 ∧ f 24 = (.int .i64 ((t2.length : Nat) : Int)) ∧ f 25 = (.int .i64 (ik1 : Int)) ∧ Inv w0 w [ownI (α := GTrial) v1 28 t2, ownI (α := ByteArray) v7 9 s3]) ?_ ?_
      ·
       rcases ite_some hm4 with ⟨hc3, hm4⟩ | ⟨hc3, hm4⟩
       ·
        refine W.cond_true (congrArg Value.bool hc3) ?_
        refine W.region ?_
        refine O.move (v := v3) rfl rfl rfl ?_
        refine O.fieldAddr fd28_0 rfl rfl rfl ?_
        refine O.load sc9 rfl rfl rfl (H.cell 2 rfl 0 _ rfl) ?_
        refine O.buildSlice (α := ByteArray) [(.string yk1.Name)] [yk1.Name] Try.underlying68 el9 H rfl rfl rfl rfl rfl rfl rfl ?_
        intro v8 w5 H hb4
        obtain ⟨t4, ht4, hm4⟩ := bind_some hm4
        refine O.append 1 Try.underlying68 el9 rfl H rfl (H.own 3 rfl) ht4 rfl rfl rfl rfl ?_
        intro v9 w6 H
        refine O.assign (v := v9) rfl rfl rfl ?_
        refine WL.nil ?_
        have H := H.keep [0, 1] [ownI (α := GTrial) v1 28 t2, ownI (α := ByteArray) v9 9 t4] rfl (by decide)
        have hq : t4 = s3 := Option.some.inj (show some t4 = some s3 from hm4)
        subst hq
        exact ⟨v9, rfl, rfl, rfl, rfl, rfl, rfl, H⟩
       ·
        refine W.cond_false (congrArg Value.bool hc3) ?_
        refine W.skip ?_
        have H := H.keep [0, 1] [ownI (α := GTrial) v1 28 t2, ownI (α := ByteArray) v3 9 z2] rfl (by decide)
        have hq : z2 = s3 := Option.some.inj (show some z2 = some s3 from hm4)
        subst hq
        exact ⟨v3, rfl, rfl, rfl, rfl, rfl, rfl, H⟩
      ·
       rintro f w ⟨v7, hf1, hf7, hf8, hf23, hf24, hf25, H⟩
       obtain ⟨u2, rfl⟩ := up6 hf1 hf7 hf8 hf23 hf24 hf25
       have hq : s3 = s2 := Option.some.inj (show some s3 = some s2 from hm3)
       subst hq
       exact ⟨v7, rfl, rfl, rfl, rfl, rfl, rfl, H⟩
     ·
      rintro f w ⟨v6, hf1, hf7, hf8, hf23, hf24, hf25, H⟩
      obtain ⟨u3, rfl⟩ := up6 hf1 hf7 hf8 hf23 hf24 hf25
      refine W.region ?_
      refine O.add rfl rfl rfl rfl hinck1 ?_
      refine O.move (v := .int .i64 ((ik1 : Int) + 1)) rfl rfl rfl ?_
      refine WL.nil ?_
      obtain rfl := Option.some.inj hm2
      exact ⟨_, rfl, _, v6, rfl, drop_next hdropk1, rfl, rfl, rfl, rfl, rfl, rfl, H⟩
    ·
     rintro ik1 _ f w ⟨z2, v3, rfl, hdropk1, hf25, hf24, hf1, hf7, hf8, hf23, H⟩ hfin
     have hltk1 := drop_end hdropk1
     obtain ⟨u4, rfl⟩ := up6 hf25 hf24 hf1 hf7 hf8 hf23
     refine W.seq ?_
     refine W.region ?_
     refine O.lss rfl rfl rfl rfl ?_
     refine WL.nil ?_
     refine W.seq ?_
     refine W.cond_false (congrArg Value.bool (decide_eq_false hltk1)) ?_
     refine W.exit ?_
     have hq : z2 = s1 := hfin
     subst hq
     have H := H.keep [1] [ownI (α := ByteArray) v3 9 z2] rfl (by decide)
     refine xT rfl ?_
     exact ⟨v3, rfl, rfl, H⟩
   ·
    rintro f w ⟨v5, hf7, hf8, H⟩
    obtain ⟨u5, rfl⟩ := up2 hf7 hf8
    refine W.seq ?_
    refine W.region ?_
    refine O.move (v := v5) rfl rfl rfl ?_
    refine O.move (v := (.int .i64 t3)) rfl rfl rfl ?_
    refine O.assign (v := v5) rfl rfl rfl ?_
    refine O.assign (v := (.int .i64 t3)) rfl rfl rfl ?_
    refine WL.nil ?_
    refine W.ret ?_
    have hq : (s1, t3) = (r0, r1) := Option.some.inj (show some (s1, t3) = some (r0, r1) from hm)
    obtain ⟨he0, hq0⟩ := Prod.mk.inj hq; clear hq; subst he0
    subst hq0
    exact ends2 Try.results51 rfl rfl ⟨_, rfl, H.base, ⟨_, rfl, H.ownR 0 rfl⟩⟩

set_option maxRecDepth 20000 in
theorem c_noongunref06_Passed {w0 : World} (va0 : Value) (a0 : (List GBox)) (ha0 : SliceR w0 va0 a0) (a1 : Int) {r0 : (List ByteArray)} {r1 : Int} (hm : noongunref06_Passed a0 a1 = some (r0, r1)) :
  Calls Try.prog 52 #[va0, (.int .i64 a1)] w0 (Ret w0 fun w v => ∃ vr0 : Value, v = .tuple #[vr0, (.int .i64 r1)] ∧ OwnR w0 w vr0 9 r0) := by
 unfold noongunref06_Passed at hm
 refine calls_of_W Try.func52 rfl Try.ntmps52 (Nat.le_of_ble_eq_true rfl) ?_
 have H := Inv.start (w := w0)
 refine W.seq ?_
 refine W.region ?_
 have H := H.addNil (α := ByteArray) (E := 9)
 refine O.assign (v := (.slice none 0 0)) rfl rfl rfl ?_
 refine O.assign (v := (.int .i64 0)) rfl rfl rfl ?_
 refine WL.nil ?_
 refine W.seq ?_
 refine W.seq ?_
 refine W.region ?_
 refine O.move (v := va0) rfl rfl rfl ?_
 obtain ⟨t1, hy1, hm⟩ := bind_some hm
 refine O.call Try.call47 rfl rfl rfl (c_noongunref06_ValidBoxes _ _ (H.arg ha0) hy1) ?_
 rintro _ w1 hb1 rfl
 have H := H.ext hb1
 refine O.not rfl rfl rfl ?_
 refine WL.nil ?_
 rcases ite_some hm with ⟨hc1, hm⟩ | ⟨hc1, hm⟩
 ·
  refine W.cond_true (congrArg Value.bool hc1) ?_
  refine W.seq ?_
  refine W.region ?_
  have H := H.addNil (α := ByteArray) (E := 9)
  refine O.assign (v := (.slice none 0 0)) rfl rfl rfl ?_
  refine O.assign (v := (.int .i64 1)) rfl rfl rfl ?_
  refine WL.nil ?_
  refine W.ret ?_
  have hq : (([] : List ByteArray), 1) = (r0, r1) := Option.some.inj (show some (([] : List ByteArray), 1) = some (r0, r1) from hm)
  obtain ⟨he0, hq0⟩ := Prod.mk.inj hq; clear hq; subst he0
  subst hq0
  exact ends2 Try.results52 rfl rfl ⟨_, rfl, H.base, ⟨_, rfl, H.ownR 1 rfl⟩⟩
 ·
  refine W.cond_false (congrArg Value.bool hc1) ?_
  refine W.skip ?_
  refine W.seq ?_
  refine W.seq ?_
  refine W.region ?_
  refine O.move (v := (.int .i64 a1)) rfl rfl rfl ?_
  refine O.lss rfl rfl rfl rfl ?_
  refine WL.nil ?_
  rcases ite_some hm with ⟨hc2, hm⟩ | ⟨hc2, hm⟩
  ·
   refine W.cond_true (congrArg Value.bool hc2) ?_
   refine W.seq ?_
   refine W.region ?_
   have H := H.addNil (α := ByteArray) (E := 9)
   refine O.assign (v := (.slice none 0 0)) rfl rfl rfl ?_
   refine O.assign (v := (.int .i64 7)) rfl rfl rfl ?_
   refine WL.nil ?_
   refine W.ret ?_
   have hq : (([] : List ByteArray), 7) = (r0, r1) := Option.some.inj (show some (([] : List ByteArray), 7) = some (r0, r1) from hm)
   obtain ⟨he0, hq0⟩ := Prod.mk.inj hq; clear hq; subst he0
   subst hq0
   exact ends2 Try.results52 rfl rfl ⟨_, rfl, H.base, ⟨_, rfl, H.ownR 1 rfl⟩⟩
  ·
   refine W.cond_false (congrArg Value.bool hc2) ?_
   refine W.skip ?_
   refine W.seq ?_
   refine W.region ?_
   refine O.move (v := va0) rfl rfl rfl ?_
   obtain ⟨⟨t2, t3⟩, hy2, hm⟩ := bind_some hm
   refine O.call Try.call50 rfl rfl rfl (c_noongunref06_Ranked _ _ (H.arg ha0) hy2) ?_
   rintro _ w2 hb2 ⟨v1, rfl, ho1⟩
   have H := H.addOwn hb2 ho1
   refine O.move (v := (.tuple #[v1, (.int .i64 t3)])) rfl rfl rfl ?_
   refine O.extract (v := v1) rfl rfl rfl rfl ?_
   refine O.extract (v := (.int .i64 t3)) rfl rfl rfl rfl ?_
   refine O.assign (v := v1) rfl rfl rfl ?_
   refine O.assign (v := (.int .i64 t3)) rfl rfl rfl ?_
   refine WL.nil ?_
   refine W.seq ?_
   refine W.seq ?_
   refine W.region ?_
   refine O.move (v := (.int .i64 t3)) rfl rfl rfl ?_
   refine O.neq rfl rfl rfl rfl ?_
   refine WL.nil ?_
   rcases ite_some hm with ⟨hc3, hm⟩ | ⟨hc3, hm⟩
   ·
    refine W.cond_true (congrArg Value.bool hc3) ?_
    refine W.seq ?_
    refine W.region ?_
    refine O.move (v := (.int .i64 t3)) rfl rfl rfl ?_
    have H := H.addNil (α := ByteArray) (E := 9)
    refine O.assign (v := (.slice none 0 0)) rfl rfl rfl ?_
    refine O.assign (v := (.int .i64 t3)) rfl rfl rfl ?_
    refine WL.nil ?_
    refine W.ret ?_
    have hq : (([] : List ByteArray), t3) = (r0, r1) := Option.some.inj (show some (([] : List ByteArray), t3) = some (r0, r1) from hm)
    obtain ⟨he0, hq0⟩ := Prod.mk.inj hq; clear hq; subst he0
    subst hq0
    exact ends2 Try.results52 rfl rfl ⟨_, rfl, H.base, ⟨_, rfl, H.ownR 2 rfl⟩⟩
   ·
    refine W.cond_false (congrArg Value.bool hc3) ?_
    refine W.skip ?_
    refine W.seq ?_
    refine W.region ?_
    have H := H.addNil (α := ByteArray) (E := 9)
    refine O.assign (v := (.slice none 0 0)) rfl rfl rfl ?_
    refine WL.nil ?_
    refine W.seq ?_
    refine W.seq ?_
    refine W.region ?_
    refine O.move (v := v1) rfl rfl rfl ?_
    refine O.lenS Try.underlying62 (H.own 1 rfl) rfl rfl rfl ?_
    refine O.move (v := (.int .i64 0)) rfl rfl rfl ?_
    refine WL.nil ?_
    obtain ⟨s1, hm1, hm⟩ := bind_some hm
    refine W.via (fun f w => ∃ v5 : Value, f 8 = v5 ∧ Inv w0 w [ownI (α := ByteArray) v5 9 s1]) ?_ ?_
    ·
     refine W.block ?_
     have H := H.keep [1, 2] [ownI (α := GTrial) v1 28 t2, ownI (α := ByteArray) (.slice none 0 0) 9 ([] : List ByteArray)] rfl (by decide)
     refine W.rangeL (i := 0) hm1 (fun rem ik1 s f w => ∃ z2 : (List ByteArray), ∃ v3 : Value, z2 = s ∧ t2.drop ik1 = rem ∧ f 26 = .int .i64 (ik1 : Int) ∧ f 25 = (.int .i64 ((t2.length : Nat) : Int)) ∧ f 1 = (.int .i64 a1) ∧ f 8 = v3 ∧ f 24 = v1 ∧ Inv w0 w [ownI (α := GTrial) v1 28 t2, ownI (α := ByteArray) v3 9 z2]) ?_ ?_ ?_
     ·
      exact ⟨_, (.slice none 0 0), rfl, List.drop_zero, rfl, rfl, rfl, rfl, rfl, H⟩
     ·
      rintro yk1 xs ik1 _ st f w ⟨z2, v3, rfl, hdropk1, hf26, hf25, hf1, hf8, hf24, H⟩ hm2
      have hltk1 := drop_lt hdropk1; have hixk1 := drop_idx hdropk1
      obtain ⟨u1, rfl⟩ := up5 hf26 hf25 hf1 hf8 hf24
      have hinck1 := addI_lt hltk1 (H.own 0 rfl).len_le
      refine W.seq ?_
      refine W.region ?_
      refine O.lss rfl rfl rfl rfl ?_
      refine WL.nil ?_
      refine W.seq ?_
      refine W.cond_true (congrArg Value.bool (decide_eq_true hltk1)) ?_
      refine W.skip ?_
      refine W.seq ?_
      obtain ⟨s2, hm3, hm2⟩ := bind_some hm2
      refine W.via (fun f w => ∃ v6 : Value, f 1 = (.int .i64 a1) ∧ f 8 = v6 ∧ f 24 = v1 ∧ f 25 = (.int .i64 ((t2.length : Nat) : Int)) ∧ f 26 = (.int .i64 (ik1 : Int)) ∧ Inv w0 w [ownI (α := GTrial) v1 28 t2, ownI (α := ByteArray) v6 9 s2]) ?_ ?_
      ·
       refine W.block ?_
       refine W.seq ?_
       refine W.region ?_
       refine O.indexAddr Try.underlying62 sz28 (H.own 0 rfl) hixk1 rfl rfl rfl rfl ?_
       intro p1 hp1
       refine O.loadA [(.string yk1.Name), (.int .i64 yk1.Least), (.int .i64 yk1.Greatest), (.int .i64 yk1.Leap), (.int .i64 yk1.Number)] ag28 rfl rfl rfl rfl (hp1.flat) ?_
       refine O.alloc [(.string ByteArray.empty), (.int .i64 0), (.int .i64 0), (.int .i64 0), (.int .i64 0)] ze28 H rfl rfl rfl ?_
       intro b1 w3 H hb3
       have hp1 := hp1.mono hb3
       refine O.store 2 0 [(.string yk1.Name), (.int .i64 yk1.Least), (.int .i64 yk1.Greatest), (.int .i64 yk1.Leap), (.int .i64 yk1.Number)] [(.string yk1.Name), (.int .i64 yk1.Least), (.int .i64 yk1.Greatest), (.int .i64 yk1.Leap), (.int .i64 yk1.Number)] sz28 H rfl rfl rfl rfl rfl rfl ⟨⟨rfl, rfl⟩, rfl⟩ (one_cons rfl (one_cons rfl (one_cons rfl (one_cons rfl (one_cons rfl one_nil))))) ?_
       intro w4 H
       clear hp1
       refine WL.nil ?_
       refine W.seq ?_
       refine W.region ?_
       refine O.fieldAddr fd28_4 rfl rfl rfl ?_
       refine O.load sc3 rfl rfl rfl (H.cell 2 rfl 4 _ rfl) ?_
       refine O.move (v := (.int .i64 a1)) rfl rfl rfl ?_
       refine O.leq rfl rfl rfl rfl ?_
       refine WL.nil ?_
       obtain ⟨s3, hm4, hm3⟩ := bind_some hm3
       refine W.via (fun f w => ∃ v7 : Value, f 1 = (.int .i64 a1) ∧ f 8 = v7 ∧ f 24 = v1 ∧ f 25 = (.int .i64 ((t2.length : Nat) : Int)) ∧ f 26 = (.int .i64 (ik1 : Int)) ∧ Inv w0 w [ownI (α := GTrial) v1 28 t2, ownI (α := ByteArray) v7 9 s3]) ?_ ?_
       ·
        rcases ite_some hm4 with ⟨hc4, hm4⟩ | ⟨hc4, hm4⟩
        ·
         refine W.cond_true (congrArg Value.bool hc4) ?_
         refine W.region ?_
         refine O.move (v := v3) rfl rfl rfl ?_
         refine O.fieldAddr fd28_0 rfl rfl rfl ?_
         refine O.load sc9 rfl rfl rfl (H.cell 2 rfl 0 _ rfl) ?_
         refine O.buildSlice (α := ByteArray) [(.string yk1.Name)] [yk1.Name] Try.underlying68 el9 H rfl rfl rfl rfl rfl rfl rfl ?_
         intro v8 w5 H hb4
         obtain ⟨t4, ht4, hm4⟩ := bind_some hm4
         refine O.append 1 Try.underlying68 el9 rfl H rfl (H.own 3 rfl) ht4 rfl rfl rfl rfl ?_
         intro v9 w6 H
         refine O.assign (v := v9) rfl rfl rfl ?_
         refine WL.nil ?_
         have H := H.keep [0, 1] [ownI (α := GTrial) v1 28 t2, ownI (α := ByteArray) v9 9 t4] rfl (by decide)
         have hq : t4 = s3 := Option.some.inj (show some t4 = some s3 from hm4)
         subst hq
         exact ⟨v9, rfl, rfl, rfl, rfl, rfl, H⟩
        ·
         refine W.cond_false (congrArg Value.bool hc4) ?_
         refine W.skip ?_
         have H := H.keep [0, 1] [ownI (α := GTrial) v1 28 t2, ownI (α := ByteArray) v3 9 z2] rfl (by decide)
         have hq : z2 = s3 := Option.some.inj (show some z2 = some s3 from hm4)
         subst hq
         exact ⟨v3, rfl, rfl, rfl, rfl, rfl, H⟩
       ·
        rintro f w ⟨v7, hf1, hf8, hf24, hf25, hf26, H⟩
        obtain ⟨u2, rfl⟩ := up5 hf1 hf8 hf24 hf25 hf26
        have hq : s3 = s2 := Option.some.inj (show some s3 = some s2 from hm3)
        subst hq
        exact ⟨v7, rfl, rfl, rfl, rfl, rfl, H⟩
      ·
       rintro f w ⟨v6, hf1, hf8, hf24, hf25, hf26, H⟩
       obtain ⟨u3, rfl⟩ := up5 hf1 hf8 hf24 hf25 hf26
       refine W.region ?_
       refine O.add rfl rfl rfl rfl hinck1 ?_
       refine O.move (v := .int .i64 ((ik1 : Int) + 1)) rfl rfl rfl ?_
       refine WL.nil ?_
       obtain rfl := Option.some.inj hm2
       exact ⟨_, rfl, _, v6, rfl, drop_next hdropk1, rfl, rfl, rfl, rfl, rfl, H⟩
     ·
      rintro ik1 _ f w ⟨z2, v3, rfl, hdropk1, hf26, hf25, hf1, hf8, hf24, H⟩ hfin
      have hltk1 := drop_end hdropk1
      obtain ⟨u4, rfl⟩ := up5 hf26 hf25 hf1 hf8 hf24
      refine W.seq ?_
      refine W.region ?_
      refine O.lss rfl rfl rfl rfl ?_
      refine WL.nil ?_
      refine W.seq ?_
      refine W.cond_false (congrArg Value.bool (decide_eq_false hltk1)) ?_
      refine W.exit ?_
      have hq : z2 = s1 := hfin
      subst hq
      have H := H.keep [1] [ownI (α := ByteArray) v3 9 z2] rfl (by decide)
      refine xT rfl ?_
      exact ⟨v3, rfl, H⟩
    ·
     rintro f w ⟨v5, hf8, H⟩
     obtain ⟨u5, rfl⟩ := up1 hf8
     refine W.seq ?_
     refine W.region ?_
     refine O.move (v := v5) rfl rfl rfl ?_
     refine O.assign (v := v5) rfl rfl rfl ?_
     refine O.assign (v := (.int .i64 0)) rfl rfl rfl ?_
     refine WL.nil ?_
     refine W.ret ?_
     have hq : (s1, 0) = (r0, r1) := Option.some.inj (show some (s1, 0) = some (r0, r1) from hm)
     obtain ⟨he0, hq0⟩ := Prod.mk.inj hq; clear hq; subst he0
     subst hq0
     exact ends2 Try.results52 rfl rfl ⟨_, rfl, H.base, ⟨_, rfl, H.ownR 0 rfl⟩⟩

set_option maxRecDepth 20000 in
theorem c_noongunref06_SameTrials {w0 : World} (va0 : Value) (a0 : (List GTrial)) (ha0 : SliceR w0 va0 a0) (va1 : Value) (a1 : (List GTrial)) (ha1 : SliceR w0 va1 a1) {r0 : Bool} (hm : noongunref06_SameTrials a0 a1 = some r0) :
  Calls Try.prog 53 #[va0, va1] w0 (Ret w0 fun _ v => v = (.bool r0)) := by
 unfold noongunref06_SameTrials at hm
 refine calls_of_W Try.func53 rfl Try.ntmps53 (Nat.le_of_ble_eq_true rfl) ?_
 have H := Inv.start (w := w0)
 refine W.seq ?_
 refine W.region ?_
 refine O.assign (v := (.bool false)) rfl rfl rfl ?_
 refine WL.nil ?_
 refine W.seq ?_
 refine W.seq ?_
 refine W.region ?_
 refine O.move (v := va0) rfl rfl rfl ?_
 refine O.lenS Try.underlying62 (H.arg ha0) rfl rfl rfl ?_
 refine O.move (v := va1) rfl rfl rfl ?_
 refine O.lenS Try.underlying62 (H.arg ha1) rfl rfl rfl ?_
 refine O.neq rfl rfl rfl rfl ?_
 refine WL.nil ?_
 rcases ite_some hm with ⟨hc1, hm⟩ | ⟨hc1, hm⟩
 ·
  refine W.cond_true (congrArg Value.bool hc1) ?_
  refine W.seq ?_
  refine W.region ?_
  refine O.assign (v := (.bool false)) rfl rfl rfl ?_
  refine WL.nil ?_
  refine W.ret ?_
  have hq : false = r0 := Option.some.inj (show some false = some r0 from hm)
  subst hq
  exact ends1 Try.results53 rfl ⟨_, rfl, H.base, rfl⟩
 ·
  refine W.cond_false (congrArg Value.bool hc1) ?_
  refine W.skip ?_
  refine W.seq ?_
  refine W.seq ?_
  refine W.region ?_
  refine O.move (v := va0) rfl rfl rfl ?_
  refine O.lenS Try.underlying62 (H.arg ha0) rfl rfl rfl ?_
  refine O.move (v := (.int .i64 0)) rfl rfl rfl ?_
  refine WL.nil ?_
  obtain ⟨o1, hm1, hm⟩ := bind_some hm
  refine W.via (fun f w => o1 = .next () ∧ Inv w0 w []) ?_ ?_
  ·
   refine W.block ?_
   have hbdik1 := (H.arg ha0).len_le
   refine W.rangeN (i := 0) hm1 (fun rem ik1 s f w => () = s ∧ (ik1 : Int) + rem = max 0 ((a0.length : Nat) : Int) ∧ f 13 = .int .i64 (ik1 : Int) ∧ f 12 = (.int .i64 ((a0.length : Nat) : Int)) ∧ f 0 = va0 ∧ f 1 = va1 ∧ Inv w0 w []) ?_ ?_ ?_
   ·
    exact ⟨rfl, rangeN_start, rfl, rfl, rfl, rfl, H⟩
   ·
    rintro k ik1 _ st f w ⟨rfl, hdropk1, hf13, hf12, hf0, hf1, H⟩ hm2
    have hltk1 := rangeN_lt hdropk1
    obtain ⟨u1, rfl⟩ := up4 hf13 hf12 hf0 hf1
    have hinck1 := addI_lt hltk1 hbdik1
    refine W.seq ?_
    refine W.region ?_
    refine O.lss rfl rfl rfl rfl ?_
    refine WL.nil ?_
    refine W.seq ?_
    refine W.cond_true (congrArg Value.bool (decide_eq_true hltk1)) ?_
    refine W.skip ?_
    refine W.seq ?_
    refine W.block ?_
    refine W.seq ?_
    refine W.region ?_
    refine O.move (v := (.int .i64 (ik1 : Int))) rfl rfl rfl ?_
    refine O.assign (v := (.int .i64 (ik1 : Int))) rfl rfl rfl ?_
    refine WL.nil ?_
    refine W.seq ?_
    obtain ⟨x1, hx1, hm2⟩ := bind_some hm2
    obtain ⟨p1, hp1, hrp1⟩ := fix_indexAddr Try.underlying62 sz28 (H.arg ha0) hx1
    obtain ⟨x2, hx2, hm2⟩ := bind_some hm2
    obtain ⟨p2, hp2, hrp2⟩ := fix_indexAddr Try.underlying62 sz28 (H.arg ha1) hx2
    refine W.drawN 8 (fun f => f 0 = va0 ∧ f 1 = va1 ∧ f 12 = (.int .i64 ((a0.length : Nat) : Int)) ∧ f 13 = (.int .i64 (ik1 : Int)) ∧ f 19 = (.agg (Flat.cells x1).toArray) ∧ f 23 = (.agg (Flat.cells x2).toArray)) fol (by kernel_rfl) ?_ ?_
    ·
     refine PL.of (fun _ w8 _ hx => O.move (v := va0) rfl rfl rfl (WL.nil ⟨rfl, hx⟩)) ?_
     refine PL.of (fun _ w8 _ hx => O.move (v := (.int .i64 (ik1 : Int))) rfl rfl rfl (WL.nil ⟨rfl, hx⟩)) ?_
     refine PL.of (fun _ w8 _ hx => hrp1 rfl rfl rfl rfl (WL.nil ⟨rfl, hx⟩)) ?_
     refine PL.of (fun _ w8 _ hx => by have hp1 := hp1.mono hx; exact O.loadA [(.string x1.Name), (.int .i64 x1.Least), (.int .i64 x1.Greatest), (.int .i64 x1.Leap), (.int .i64 x1.Number)] ag28 rfl rfl rfl rfl (hp1.flat) (WL.nil ⟨rfl, hx⟩)) ?_
     refine PL.of (fun _ w8 _ hx => O.move (v := va1) rfl rfl rfl (WL.nil ⟨rfl, hx⟩)) ?_
     refine PL.of (fun _ w8 _ hx => O.move (v := (.int .i64 (ik1 : Int))) rfl rfl rfl (WL.nil ⟨rfl, hx⟩)) ?_
     refine PL.of (fun _ w8 _ hx => hrp2 rfl rfl rfl rfl (WL.nil ⟨rfl, hx⟩)) ?_
     refine PL.of (fun _ w8 _ hx => by have hp2 := hp2.mono hx; exact O.loadA [(.string x2.Name), (.int .i64 x2.Least), (.int .i64 x2.Greatest), (.int .i64 x2.Leap), (.int .i64 x2.Number)] ag28 rfl rfl rfl rfl (hp2.flat) (WL.nil ⟨rfl, hx⟩)) ?_
     refine PL.nil ?_
     exact ⟨rfl, rfl, rfl, rfl, rfl, rfl⟩
    ·
     rintro f w ⟨hf0, hf1, hf12, hf13, hf19, hf23⟩ hmd hx
     have H := H.ext hx
     have hp1 := hp1.mono hx
     have hp2 := hp2.mono hx
     obtain ⟨u2, rfl⟩ := up6 hf0 hf1 hf12 hf13 hf19 hf23
     refine O.neqSt x1 x2 eq28 rfl rfl rfl rfl ?_
     refine WL.nil ?_
     rcases ite_some hm2 with ⟨hc2, hm2⟩ | ⟨hc2, hm2⟩
     ·
      refine W.cond_true (congrArg Value.bool hc2) ?_
      refine W.seq ?_
      refine W.region ?_
      refine O.assign (v := (.bool false)) rfl rfl rfl ?_
      refine WL.nil ?_
      refine W.ret ?_
      obtain rfl := Option.some.inj hm2
      refine ⟨_, rfl, ?_⟩
      rintro rfl
      have hq : false = r0 := Option.some.inj (show some false = some r0 from hm)
      subst hq
      exact ends1 Try.results53 rfl ⟨_, rfl, H.base, rfl⟩
     ·
      refine W.cond_false (congrArg Value.bool hc2) ?_
      refine W.skip ?_
      refine W.region ?_
      refine O.add rfl rfl rfl rfl hinck1 ?_
      refine O.move (v := .int .i64 ((ik1 : Int) + 1)) rfl rfl rfl ?_
      refine WL.nil ?_
      obtain rfl := Option.some.inj hm2
      exact ⟨_, rfl, rfl, rangeN_next hdropk1, rfl, rfl, rfl, rfl, H⟩
   ·
    rintro ik1 _ f w ⟨rfl, hdropk1, hf13, hf12, hf0, hf1, H⟩ hfin
    have hltk1 := rangeN_end hdropk1
    obtain ⟨u3, rfl⟩ := up4 hf13 hf12 hf0 hf1
    refine W.seq ?_
    refine W.region ?_
    refine O.lss rfl rfl rfl rfl ?_
    refine WL.nil ?_
    refine W.seq ?_
    refine W.cond_false (congrArg Value.bool (decide_eq_false hltk1)) ?_
    refine W.exit ?_
    obtain rfl : Ctl.next () = o1 := hfin
    refine xT rfl ?_
    exact ⟨rfl, H⟩
  ·
   rintro f w ⟨rfl, H⟩
   refine W.seq ?_
   refine W.region ?_
   refine O.assign (v := (.bool true)) rfl rfl rfl ?_
   refine WL.nil ?_
   refine W.ret ?_
   have hq : true = r0 := Option.some.inj (show some true = some r0 from hm)
   subst hq
   exact ends1 Try.results53 rfl ⟨_, rfl, H.base, rfl⟩

set_option maxRecDepth 20000 in
theorem c_noongunref06_SameTexts {w0 : World} (va0 : Value) (a0 : (List ByteArray)) (ha0 : SliceR w0 va0 a0) (va1 : Value) (a1 : (List ByteArray)) (ha1 : SliceR w0 va1 a1) {r0 : Bool} (hm : noongunref06_SameTexts a0 a1 = some r0) :
  Calls Try.prog 54 #[va0, va1] w0 (Ret w0 fun _ v => v = (.bool r0)) := by
 unfold noongunref06_SameTexts at hm
 refine calls_of_W Try.func54 rfl Try.ntmps54 (Nat.le_of_ble_eq_true rfl) ?_
 have H := Inv.start (w := w0)
 refine W.seq ?_
 refine W.region ?_
 refine O.assign (v := (.bool false)) rfl rfl rfl ?_
 refine WL.nil ?_
 refine W.seq ?_
 refine W.seq ?_
 refine W.region ?_
 refine O.move (v := va0) rfl rfl rfl ?_
 refine O.lenS Try.underlying68 (H.arg ha0) rfl rfl rfl ?_
 refine O.move (v := va1) rfl rfl rfl ?_
 refine O.lenS Try.underlying68 (H.arg ha1) rfl rfl rfl ?_
 refine O.neq rfl rfl rfl rfl ?_
 refine WL.nil ?_
 rcases ite_some hm with ⟨hc1, hm⟩ | ⟨hc1, hm⟩
 ·
  refine W.cond_true (congrArg Value.bool hc1) ?_
  refine W.seq ?_
  refine W.region ?_
  refine O.assign (v := (.bool false)) rfl rfl rfl ?_
  refine WL.nil ?_
  refine W.ret ?_
  have hq : false = r0 := Option.some.inj (show some false = some r0 from hm)
  subst hq
  exact ends1 Try.results54 rfl ⟨_, rfl, H.base, rfl⟩
 ·
  refine W.cond_false (congrArg Value.bool hc1) ?_
  refine W.skip ?_
  refine W.seq ?_
  refine W.seq ?_
  refine W.region ?_
  refine O.move (v := va0) rfl rfl rfl ?_
  refine O.lenS Try.underlying68 (H.arg ha0) rfl rfl rfl ?_
  refine O.move (v := (.int .i64 0)) rfl rfl rfl ?_
  refine WL.nil ?_
  obtain ⟨o1, hm1, hm⟩ := bind_some hm
  refine W.via (fun f w => o1 = .next () ∧ Inv w0 w []) ?_ ?_
  ·
   refine W.block ?_
   have hbdik1 := (H.arg ha0).len_le
   refine W.rangeN (i := 0) hm1 (fun rem ik1 s f w => () = s ∧ (ik1 : Int) + rem = max 0 ((a0.length : Nat) : Int) ∧ f 13 = .int .i64 (ik1 : Int) ∧ f 12 = (.int .i64 ((a0.length : Nat) : Int)) ∧ f 0 = va0 ∧ f 1 = va1 ∧ Inv w0 w []) ?_ ?_ ?_
   ·
    exact ⟨rfl, rangeN_start, rfl, rfl, rfl, rfl, H⟩
   ·
    rintro k ik1 _ st f w ⟨rfl, hdropk1, hf13, hf12, hf0, hf1, H⟩ hm2
    have hltk1 := rangeN_lt hdropk1
    obtain ⟨u1, rfl⟩ := up4 hf13 hf12 hf0 hf1
    have hinck1 := addI_lt hltk1 hbdik1
    refine W.seq ?_
    refine W.region ?_
    refine O.lss rfl rfl rfl rfl ?_
    refine WL.nil ?_
    refine W.seq ?_
    refine W.cond_true (congrArg Value.bool (decide_eq_true hltk1)) ?_
    refine W.skip ?_
    refine W.seq ?_
    refine W.block ?_
    refine W.seq ?_
    refine W.region ?_
    refine O.move (v := (.int .i64 (ik1 : Int))) rfl rfl rfl ?_
    refine O.assign (v := (.int .i64 (ik1 : Int))) rfl rfl rfl ?_
    refine WL.nil ?_
    refine W.seq ?_
    obtain ⟨x1, hx1, hm2⟩ := bind_some hm2
    obtain ⟨p1, hp1, hrp1⟩ := fix_indexAddr Try.underlying68 sz9 (H.arg ha0) hx1
    obtain ⟨x2, hx2, hm2⟩ := bind_some hm2
    obtain ⟨p2, hp2, hrp2⟩ := fix_indexAddr Try.underlying68 sz9 (H.arg ha1) hx2
    refine W.drawN 8 (fun f => f 0 = va0 ∧ f 1 = va1 ∧ f 12 = (.int .i64 ((a0.length : Nat) : Int)) ∧ f 13 = (.int .i64 (ik1 : Int)) ∧ f 19 = (.string x1) ∧ f 23 = (.string x2)) fol (by kernel_rfl) ?_ ?_
    ·
     refine PL.of (fun _ w8 _ hx => O.move (v := va0) rfl rfl rfl (WL.nil ⟨rfl, hx⟩)) ?_
     refine PL.of (fun _ w8 _ hx => O.move (v := (.int .i64 (ik1 : Int))) rfl rfl rfl (WL.nil ⟨rfl, hx⟩)) ?_
     refine PL.of (fun _ w8 _ hx => hrp1 rfl rfl rfl rfl (WL.nil ⟨rfl, hx⟩)) ?_
     refine PL.of (fun _ w8 _ hx => by have hp1 := hp1.mono hx; exact O.load sc9 rfl rfl rfl (hp1.flat 0 _ rfl) (WL.nil ⟨rfl, hx⟩)) ?_
     refine PL.of (fun _ w8 _ hx => O.move (v := va1) rfl rfl rfl (WL.nil ⟨rfl, hx⟩)) ?_
     refine PL.of (fun _ w8 _ hx => O.move (v := (.int .i64 (ik1 : Int))) rfl rfl rfl (WL.nil ⟨rfl, hx⟩)) ?_
     refine PL.of (fun _ w8 _ hx => hrp2 rfl rfl rfl rfl (WL.nil ⟨rfl, hx⟩)) ?_
     refine PL.of (fun _ w8 _ hx => by have hp2 := hp2.mono hx; exact O.load sc9 rfl rfl rfl (hp2.flat 0 _ rfl) (WL.nil ⟨rfl, hx⟩)) ?_
     refine PL.nil ?_
     exact ⟨rfl, rfl, rfl, rfl, rfl, rfl⟩
    ·
     rintro f w ⟨hf0, hf1, hf12, hf13, hf19, hf23⟩ hmd hx
     have H := H.ext hx
     have hp1 := hp1.mono hx
     have hp2 := hp2.mono hx
     obtain ⟨u2, rfl⟩ := up6 hf0 hf1 hf12 hf13 hf19 hf23
     refine O.neqS rfl rfl rfl rfl ?_
     refine WL.nil ?_
     rcases ite_some hm2 with ⟨hc2, hm2⟩ | ⟨hc2, hm2⟩
     ·
      refine W.cond_true (congrArg Value.bool hc2) ?_
      refine W.seq ?_
      refine W.region ?_
      refine O.assign (v := (.bool false)) rfl rfl rfl ?_
      refine WL.nil ?_
      refine W.ret ?_
      obtain rfl := Option.some.inj hm2
      refine ⟨_, rfl, ?_⟩
      rintro rfl
      have hq : false = r0 := Option.some.inj (show some false = some r0 from hm)
      subst hq
      exact ends1 Try.results54 rfl ⟨_, rfl, H.base, rfl⟩
     ·
      refine W.cond_false (congrArg Value.bool hc2) ?_
      refine W.skip ?_
      refine W.region ?_
      refine O.add rfl rfl rfl rfl hinck1 ?_
      refine O.move (v := .int .i64 ((ik1 : Int) + 1)) rfl rfl rfl ?_
      refine WL.nil ?_
      obtain rfl := Option.some.inj hm2
      exact ⟨_, rfl, rfl, rangeN_next hdropk1, rfl, rfl, rfl, rfl, H⟩
   ·
    rintro ik1 _ f w ⟨rfl, hdropk1, hf13, hf12, hf0, hf1, H⟩ hfin
    have hltk1 := rangeN_end hdropk1
    obtain ⟨u3, rfl⟩ := up4 hf13 hf12 hf0 hf1
    refine W.seq ?_
    refine W.region ?_
    refine O.lss rfl rfl rfl rfl ?_
    refine WL.nil ?_
    refine W.seq ?_
    refine W.cond_false (congrArg Value.bool (decide_eq_false hltk1)) ?_
    refine W.exit ?_
    obtain rfl : Ctl.next () = o1 := hfin
    refine xT rfl ?_
    exact ⟨rfl, H⟩
  ·
   rintro f w ⟨rfl, H⟩
   refine W.seq ?_
   refine W.region ?_
   refine O.assign (v := (.bool true)) rfl rfl rfl ?_
   refine WL.nil ?_
   refine W.ret ?_
   have hq : true = r0 := Option.some.inj (show some true = some r0 from hm)
   subst hq
   exact ends1 Try.results54 rfl ⟨_, rfl, H.base, rfl⟩

set_option maxRecDepth 20000 in
theorem c_noongunlaw06_RateTrials {w0 : World} (va0 : Value) (a0 : (List GBox)) (ha0 : SliceR w0 va0 a0) (a1 : Int) {r0 : Bool} (hm : noongunlaw06_RateTrials a0 a1 = some r0) :
  Calls Try.prog 12 #[va0, (.int .i64 a1)] w0 (Ret w0 fun _ v => v = (.bool r0)) := by
 unfold noongunlaw06_RateTrials at hm
 refine calls_of_W Try.func12 rfl Try.ntmps12 (Nat.le_of_ble_eq_true rfl) ?_
 have H := Inv.start (w := w0)
 refine W.seq ?_
 refine W.region ?_
 refine O.assign (v := (.bool false)) rfl rfl rfl ?_
 refine WL.nil ?_
 refine W.seq ?_
 refine W.seq ?_
 refine W.region ?_
 refine O.move (v := va0) rfl rfl rfl ?_
 obtain ⟨t1, hy1, hm⟩ := bind_some hm
 refine O.call Try.call13 rfl rfl rfl (c_noongunlaw06_fit _ _ (H.arg ha0) hy1) ?_
 rintro _ w1 hb1 rfl
 have H := H.ext hb1
 refine O.not rfl rfl rfl ?_
 refine WL.nil ?_
 rcases ite_some hm with ⟨hc1, hm⟩ | ⟨hc1, hm⟩
 ·
  refine W.cond_true (congrArg Value.bool hc1) ?_
  refine W.seq ?_
  refine W.region ?_
  obtain ⟨t2, hy2, hm⟩ := bind_some hm
  refine O.call Try.call14 rfl rfl rfl (c_noongunlaw06_awake  hy2) ?_
  rintro _ w2 hb2 rfl
  have H := H.ext hb2
  refine O.assign (v := (.bool t2)) rfl rfl rfl ?_
  refine WL.nil ?_
  refine W.ret ?_
  have hq : t2 = r0 := Option.some.inj (show some t2 = some r0 from hm)
  subst hq
  exact ends1 Try.results12 rfl ⟨_, rfl, H.base, rfl⟩
 ·
  refine W.cond_false (congrArg Value.bool hc1) ?_
  refine W.skip ?_
  refine W.seq ?_
  refine W.seq ?_
  refine W.region ?_
  refine O.move (v := va0) rfl rfl rfl ?_
  obtain ⟨t3, hy3, hm⟩ := bind_some hm
  refine O.call Try.call46 rfl rfl rfl (c_rate_ValidBoxes _ _ (H.arg ha0) hy3) ?_
  rintro _ w3 hb3 rfl
  have H := H.ext hb3
  refine O.move (v := va0) rfl rfl rfl ?_
  obtain ⟨t4, hy4, hm⟩ := bind_some hm
  refine O.call Try.call47 rfl rfl rfl (c_noongunref06_ValidBoxes _ _ (H.arg ha0) hy4) ?_
  rintro _ w4 hb4 rfl
  have H := H.ext hb4
  refine O.neqB Try.underlying4 rfl rfl rfl rfl ?_
  refine WL.nil ?_
  rcases ite_some hm with ⟨hc2, hm⟩ | ⟨hc2, hm⟩
  ·
   refine W.cond_true (congrArg Value.bool hc2) ?_
   refine W.seq ?_
   refine W.region ?_
   refine O.assign (v := (.bool false)) rfl rfl rfl ?_
   refine WL.nil ?_
   refine W.ret ?_
   have hq : false = r0 := Option.some.inj (show some false = some r0 from hm)
   subst hq
   exact ends1 Try.results12 rfl ⟨_, rfl, H.base, rfl⟩
  ·
   refine W.cond_false (congrArg Value.bool hc2) ?_
   refine W.skip ?_
   refine W.seq ?_
   refine W.seq ?_
   refine W.region ?_
   refine O.move (v := va0) rfl rfl rfl ?_
   refine O.lenS Try.underlying55 (H.arg ha0) rfl rfl rfl ?_
   refine O.move (v := (.int .i64 0)) rfl rfl rfl ?_
   refine WL.nil ?_
   obtain ⟨o1, hm1, hm⟩ := bind_some hm
   refine W.via (fun f w => o1 = .next () ∧ f 0 = va0 ∧ f 1 = (.int .i64 a1) ∧ Inv w0 w []) ?_ ?_
   ·
    refine W.block ?_
    refine W.rangeL (i := 0) hm1 (fun rem ik1 s f w => () = s ∧ a0.drop ik1 = rem ∧ f 30 = .int .i64 (ik1 : Int) ∧ f 29 = (.int .i64 ((a0.length : Nat) : Int)) ∧ f 0 = va0 ∧ f 1 = (.int .i64 a1) ∧ f 28 = va0 ∧ Inv w0 w []) ?_ ?_ ?_
    ·
     exact ⟨rfl, List.drop_zero, rfl, rfl, rfl, rfl, rfl, H⟩
    ·
     rintro yk1 xs ik1 _ st f w ⟨rfl, hdropk1, hf30, hf29, hf0, hf1, hf28, H⟩ hm2
     have hltk1 := drop_lt hdropk1; have hixk1 := drop_idx hdropk1
     obtain ⟨u1, rfl⟩ := up5 hf30 hf29 hf0 hf1 hf28
     have hinck1 := addI_lt hltk1 (H.arg ha0).len_le
     refine W.seq ?_
     refine W.region ?_
     refine O.lss rfl rfl rfl rfl ?_
     refine WL.nil ?_
     refine W.seq ?_
     refine W.cond_true (congrArg Value.bool (decide_eq_true hltk1)) ?_
     refine W.skip ?_
     refine W.seq ?_
     refine W.block ?_
     refine W.seq ?_
     refine W.region ?_
     obtain ⟨p1, hp1, hrp1⟩ := fix_indexAddr Try.underlying55 sz24 ha0 hixk1
     obtain ⟨v1, hs1, hc3⟩ := GBox_open hp1
     refine hrp1 rfl rfl rfl rfl ?_
     refine O.loadA [(.string yk1.Name), v1] ag24 rfl rfl rfl rfl ((cells_mono hc3 H.base)) ?_
     refine O.alloc [(.string ByteArray.empty), (.slice none 0 0)] ze24 H rfl rfl rfl ?_
     intro b1 w5 H hb5
     have H := H.addNil (α := Int) (E := 3)
     refine O.store 0 0 [(.string yk1.Name), v1] [(.string yk1.Name), v1] sz24 H rfl rfl rfl rfl rfl rfl ⟨⟨rfl, rfl⟩, rfl⟩ (one_cons rfl (one_cons (SliceR.one (H.arg hs1)) one_nil)) ?_
     intro w6 H
     refine WL.nil ?_
     refine W.seq ?_
     refine W.region ?_
     refine O.loadA [(.string yk1.Name), v1] ag24 rfl rfl rfl rfl (H.cell 0 rfl) ?_
     obtain ⟨⟨t5, t6⟩, hy5, hm2⟩ := bind_some hm2
     refine O.call Try.call15 rfl rfl rfl (c_rate_Trial _ (GBox.mk yk1.Name yk1.Errors) (H.arg hs1) hy5) ?_
     rintro _ w7 hb6 rfl
     have H := H.ext hb6
     refine O.move (v := (.tuple #[(.agg (Flat.cells t5).toArray), (.int .i64 t6)])) rfl rfl rfl ?_
     refine O.extract (v := (.agg (Flat.cells t5).toArray)) rfl rfl rfl rfl ?_
     refine O.extract (v := (.int .i64 t6)) rfl rfl rfl rfl ?_
     refine O.alloc [(.string ByteArray.empty), (.int .i64 0), (.int .i64 0), (.int .i64 0), (.int .i64 0)] ze28 H rfl rfl rfl ?_
     intro b2 w8 H hb7
     refine O.store 2 0 [(.string t5.Name), (.int .i64 t5.Least), (.int .i64 t5.Greatest), (.int .i64 t5.Leap), (.int .i64 t5.Number)] [(.string t5.Name), (.int .i64 t5.Least), (.int .i64 t5.Greatest), (.int .i64 t5.Leap), (.int .i64 t5.Number)] sz28 H rfl rfl rfl rfl rfl rfl ⟨⟨rfl, rfl⟩, rfl⟩ (one_cons rfl (one_cons rfl (one_cons rfl (one_cons rfl (one_cons rfl one_nil))))) ?_
     intro w9 H
     refine O.assign (v := (.int .i64 t6)) rfl rfl rfl ?_
     refine WL.nil ?_
     refine W.seq ?_
     refine W.region ?_
     refine O.loadA [(.string yk1.Name), v1] ag24 rfl rfl rfl rfl (H.cell 0 rfl) ?_
     obtain ⟨⟨t7, t8⟩, hy6, hm2⟩ := bind_some hm2
     refine O.call Try.call48 rfl rfl rfl (c_noongunref06_Trial _ (GBox.mk yk1.Name yk1.Errors) (H.arg hs1) hy6) ?_
     rintro _ w10 hb8 rfl
     have H := H.ext hb8
     refine O.move (v := (.tuple #[(.agg (Flat.cells t7).toArray), (.int .i64 t8)])) rfl rfl rfl ?_
     refine O.extract (v := (.agg (Flat.cells t7).toArray)) rfl rfl rfl rfl ?_
     refine O.extract (v := (.int .i64 t8)) rfl rfl rfl rfl ?_
     refine O.alloc [(.string ByteArray.empty), (.int .i64 0), (.int .i64 0), (.int .i64 0), (.int .i64 0)] ze28 H rfl rfl rfl ?_
     intro b3 w11 H hb9
     refine O.store 3 0 [(.string t7.Name), (.int .i64 t7.Least), (.int .i64 t7.Greatest), (.int .i64 t7.Leap), (.int .i64 t7.Number)] [(.string t7.Name), (.int .i64 t7.Least), (.int .i64 t7.Greatest), (.int .i64 t7.Leap), (.int .i64 t7.Number)] sz28 H rfl rfl rfl rfl rfl rfl ⟨⟨rfl, rfl⟩, rfl⟩ (one_cons rfl (one_cons rfl (one_cons rfl (one_cons rfl (one_cons rfl one_nil))))) ?_
     intro w12 H
     refine O.assign (v := (.int .i64 t8)) rfl rfl rfl ?_
     refine WL.nil ?_
     refine W.seq ?_
     refine W.region ?_
     refine O.loadA [(.string t5.Name), (.int .i64 t5.Least), (.int .i64 t5.Greatest), (.int .i64 t5.Leap), (.int .i64 t5.Number)] ag28 rfl rfl rfl rfl (H.cell 2 rfl) ?_
     refine O.loadA [(.string t7.Name), (.int .i64 t7.Least), (.int .i64 t7.Greatest), (.int .i64 t7.Leap), (.int .i64 t7.Number)] ag28 rfl rfl rfl rfl (H.cell 3 rfl) ?_
     refine O.neqSt t5 t7 eq28 rfl rfl rfl rfl ?_
     refine O.move (v := (.bool (!(t5 == t7)))) rfl rfl rfl ?_
     refine WL.cut 4 (fun f w => f 0 = va0 ∧ f 1 = (.int .i64 a1) ∧ f 28 = va0 ∧ f 29 = (.int .i64 ((a0.length : Nat) : Int)) ∧ f 30 = (.int .i64 (ik1 : Int)) ∧ f 51 = .bool ((!(t5 == t7)) || (t6 != t8)) ∧ Inv w0 w [boxI b1 24 [(.string yk1.Name), v1], ownI (α := Int) (.slice none 0 0) 3 ([] : List Int), boxI b2 28 [(.string t5.Name), (.int .i64 t5.Least), (.int .i64 t5.Greatest), (.int .i64 t5.Leap), (.int .i64 t5.Number)], boxI b3 28 [(.string t7.Name), (.int .i64 t7.Least), (.int .i64 t7.Greatest), (.int .i64 t7.Leap), (.int .i64 t7.Number)]]) ?_ ?_
     ·
      rcases bool_ft (!(t5 == t7)) with hc4 | hc4
      ·
       refine WL.reset (i := 47) (v := .bool false) (congrArg Value.bool hc4) ?_
       refine O.move (v := (.int .i64 t6)) rfl rfl rfl ?_
       refine O.move (v := (.int .i64 t8)) rfl rfl rfl ?_
       refine O.neq rfl rfl rfl rfl ?_
       refine O.pick_false (v := (.bool (t6 != t8))) rfl rfl rfl rfl ?_
       exact WL.nil ⟨rfl, rfl, rfl, rfl, rfl, congrArg Value.bool (or_f hc4), H⟩
      ·
       refine WL.reset (i := 47) (v := .bool true) (congrArg Value.bool hc4) ?_
       refine O.skip rfl rfl ?_
       refine O.skip rfl rfl ?_
       refine O.skip rfl rfl ?_
       refine O.pick_true (v := (.bool true)) rfl rfl rfl rfl ?_
       exact WL.nil ⟨rfl, rfl, rfl, rfl, rfl, congrArg Value.bool (or_t hc4), H⟩
     ·
      rintro f w ⟨hf0, hf1, hf28, hf29, hf30, hf51, H⟩
      obtain ⟨u2, rfl⟩ := up6 hf0 hf1 hf28 hf29 hf30 hf51
      refine WL.nil ?_
      rcases ite_some hm2 with ⟨hc5, hm2⟩ | ⟨hc5, hm2⟩
      ·
       refine W.cond_true (congrArg Value.bool hc5) ?_
       refine W.seq ?_
       refine W.region ?_
       refine O.assign (v := (.bool false)) rfl rfl rfl ?_
       refine WL.nil ?_
       refine W.ret ?_
       obtain rfl := Option.some.inj hm2
       refine ⟨_, rfl, ?_⟩
       rintro rfl
       have hq : false = r0 := Option.some.inj (show some false = some r0 from hm)
       subst hq
       exact ends1 Try.results12 rfl ⟨_, rfl, H.base, rfl⟩
      ·
       refine W.cond_false (congrArg Value.bool hc5) ?_
       refine W.skip ?_
       refine W.region ?_
       refine O.add rfl rfl rfl rfl hinck1 ?_
       refine O.move (v := .int .i64 ((ik1 : Int) + 1)) rfl rfl rfl ?_
       refine WL.nil ?_
       have H := H.keep [] [] rfl (by decide)
       obtain rfl := Option.some.inj hm2
       exact ⟨_, rfl, rfl, drop_next hdropk1, rfl, rfl, rfl, rfl, rfl, H⟩
    ·
     rintro ik1 _ f w ⟨rfl, hdropk1, hf30, hf29, hf0, hf1, hf28, H⟩ hfin
     have hltk1 := drop_end hdropk1
     obtain ⟨u3, rfl⟩ := up5 hf30 hf29 hf0 hf1 hf28
     refine W.seq ?_
     refine W.region ?_
     refine O.lss rfl rfl rfl rfl ?_
     refine WL.nil ?_
     refine W.seq ?_
     refine W.cond_false (congrArg Value.bool (decide_eq_false hltk1)) ?_
     refine W.exit ?_
     obtain rfl : Ctl.next () = o1 := hfin
     refine xT rfl ?_
     exact ⟨rfl, rfl, rfl, H⟩
   ·
    rintro f w ⟨rfl, hf0, hf1, H⟩
    obtain ⟨u4, rfl⟩ := up2 hf0 hf1
    refine W.seq ?_
    refine W.region ?_
    refine O.move (v := va0) rfl rfl rfl ?_
    obtain ⟨⟨t9, t10⟩, hy7, hm⟩ := bind_some hm
    refine O.call Try.call49 rfl rfl rfl (c_rate_Ranked _ _ (H.arg ha0) hy7) ?_
    rintro _ w13 hb10 ⟨v2, rfl, ho1⟩
    have H := H.addOwn hb10 ho1
    refine O.move (v := (.tuple #[v2, (.int .i64 t10)])) rfl rfl rfl ?_
    refine O.extract (v := v2) rfl rfl rfl rfl ?_
    refine O.extract (v := (.int .i64 t10)) rfl rfl rfl rfl ?_
    refine O.assign (v := v2) rfl rfl rfl ?_
    refine O.assign (v := (.int .i64 t10)) rfl rfl rfl ?_
    refine WL.nil ?_
    refine W.seq ?_
    refine W.region ?_
    refine O.move (v := va0) rfl rfl rfl ?_
    obtain ⟨⟨t11, t12⟩, hy8, hm⟩ := bind_some hm
    refine O.call Try.call50 rfl rfl rfl (c_noongunref06_Ranked _ _ (H.arg ha0) hy8) ?_
    rintro _ w14 hb11 ⟨v3, rfl, ho2⟩
    have H := H.addOwn hb11 ho2
    refine O.move (v := (.tuple #[v3, (.int .i64 t12)])) rfl rfl rfl ?_
    refine O.extract (v := v3) rfl rfl rfl rfl ?_
    refine O.extract (v := (.int .i64 t12)) rfl rfl rfl rfl ?_
    refine O.assign (v := v3) rfl rfl rfl ?_
    refine O.assign (v := (.int .i64 t12)) rfl rfl rfl ?_
    refine WL.nil ?_
    refine W.seq ?_
    refine W.region ?_
    refine O.move (v := va0) rfl rfl rfl ?_
    refine O.move (v := (.int .i64 a1)) rfl rfl rfl ?_
    obtain ⟨⟨t13, t14⟩, hy9, hm⟩ := bind_some hm
    refine O.call Try.call51 rfl rfl rfl (c_rate_Passed _ _ (H.arg ha0) _ hy9) ?_
    rintro _ w15 hb12 ⟨v4, rfl, ho3⟩
    have H := H.addOwn hb12 ho3
    refine O.move (v := (.tuple #[v4, (.int .i64 t14)])) rfl rfl rfl ?_
    refine O.extract (v := v4) rfl rfl rfl rfl ?_
    refine O.extract (v := (.int .i64 t14)) rfl rfl rfl rfl ?_
    refine O.assign (v := v4) rfl rfl rfl ?_
    refine O.assign (v := (.int .i64 t14)) rfl rfl rfl ?_
    refine WL.nil ?_
    refine W.seq ?_
    refine W.region ?_
    refine O.move (v := va0) rfl rfl rfl ?_
    refine O.move (v := (.int .i64 a1)) rfl rfl rfl ?_
    obtain ⟨⟨t15, t16⟩, hy10, hm⟩ := bind_some hm
    refine O.call Try.call52 rfl rfl rfl (c_noongunref06_Passed _ _ (H.arg ha0) _ hy10) ?_
    rintro _ w16 hb13 ⟨v5, rfl, ho4⟩
    have H := H.addOwn hb13 ho4
    refine O.move (v := (.tuple #[v5, (.int .i64 t16)])) rfl rfl rfl ?_
    refine O.extract (v := v5) rfl rfl rfl rfl ?_
    refine O.extract (v := (.int .i64 t16)) rfl rfl rfl rfl ?_
    refine O.assign (v := v5) rfl rfl rfl ?_
    refine O.assign (v := (.int .i64 t16)) rfl rfl rfl ?_
    refine WL.nil ?_
    refine W.seq ?_
    refine W.region ?_
    refine O.move (v := v2) rfl rfl rfl ?_
    refine O.move (v := v3) rfl rfl rfl ?_
    obtain ⟨t17, hy11, hm⟩ := bind_some hm
    refine O.call Try.call53 rfl rfl rfl (c_noongunref06_SameTrials _ _ (H.own 0 rfl) _ _ (H.own 1 rfl) hy11) ?_
    rintro _ w17 hb14 rfl
    have H := H.ext hb14
    refine O.move (v := (.bool t17)) rfl rfl rfl ?_
    refine WL.cut 4 (fun f w => f 15 = v4 ∧ f 16 = (.int .i64 t14) ∧ f 17 = v5 ∧ f 18 = (.int .i64 t16) ∧ f 82 = .bool (t17 && (t10 == t12)) ∧ Inv w0 w [ownI (α := GTrial) v2 28 t9, ownI (α := GTrial) v3 28 t11, ownI (α := ByteArray) v4 9 t13, ownI (α := ByteArray) v5 9 t15]) ?_ ?_
    ·
     rcases bool_ft t17 with hc6 | hc6
     ·
      refine WL.reset (i := 78) (v := .bool false) (congrArg Value.bool hc6) ?_
      refine O.skip rfl rfl ?_
      refine O.skip rfl rfl ?_
      refine O.skip rfl rfl ?_
      refine O.pick_false (v := (.bool false)) rfl rfl rfl rfl ?_
      exact WL.nil ⟨rfl, rfl, rfl, rfl, congrArg Value.bool (and_f hc6), H⟩
     ·
      refine WL.reset (i := 78) (v := .bool true) (congrArg Value.bool hc6) ?_
      refine O.move (v := (.int .i64 t10)) rfl rfl rfl ?_
      refine O.move (v := (.int .i64 t12)) rfl rfl rfl ?_
      refine O.eql rfl rfl rfl rfl ?_
      refine O.pick_true (v := (.bool (t10 == t12))) rfl rfl rfl rfl ?_
      exact WL.nil ⟨rfl, rfl, rfl, rfl, congrArg Value.bool (and_t hc6), H⟩
    ·
     rintro f w ⟨hf15, hf16, hf17, hf18, hf82, H⟩
     obtain ⟨u5, rfl⟩ := up5 hf15 hf16 hf17 hf18 hf82
     refine O.move (v := (.bool (t17 && (t10 == t12)))) rfl rfl rfl ?_
     obtain ⟨b4, hm3, hm⟩ := bind_some hm
     refine WL.cut 4 (fun f w => f 16 = (.int .i64 t14) ∧ f 18 = (.int .i64 t16) ∧ f 87 = .bool b4 ∧ Inv w0 w [ownI (α := GTrial) v2 28 t9, ownI (α := GTrial) v3 28 t11, ownI (α := ByteArray) v4 9 t13, ownI (α := ByteArray) v5 9 t15]) ?_ ?_
     ·
      rcases ite_some hm3 with ⟨hc7, hm3⟩ | ⟨hc7, hm3⟩
      ·
       refine WL.reset (i := 83) (v := .bool true) (congrArg Value.bool hc7) ?_
       refine O.move (v := v4) rfl rfl rfl ?_
       refine O.move (v := v5) rfl rfl rfl ?_
       obtain ⟨t18, hy12, hm3⟩ := bind_some hm3
       refine O.call Try.call54 rfl rfl rfl (c_noongunref06_SameTexts _ _ (H.own 2 rfl) _ _ (H.own 3 rfl) hy12) ?_
       rintro _ w18 hb15 rfl
       have H := H.ext hb15
       refine O.pick_true (v := (.bool t18)) rfl rfl rfl rfl ?_
       refine WL.nil ?_
       have hq : t18 = b4 := Option.some.inj (show some t18 = some b4 from hm3)
       subst hq
       exact ⟨rfl, rfl, rfl, H⟩
      ·
       refine WL.reset (i := 83) (v := .bool false) (congrArg Value.bool hc7) ?_
       refine O.skip rfl rfl ?_
       refine O.skip rfl rfl ?_
       refine O.skip rfl rfl ?_
       refine O.pick_false (v := (.bool false)) rfl rfl rfl rfl ?_
       refine WL.nil ?_
       have hq : false = b4 := Option.some.inj (show some false = some b4 from hm3)
       subst hq
       exact ⟨rfl, rfl, rfl, H⟩
     ·
      rintro f w ⟨hf16, hf18, hf87, H⟩
      obtain ⟨u6, rfl⟩ := up3 hf16 hf18 hf87
      refine O.move (v := (.bool b4)) rfl rfl rfl ?_
      refine WL.cut 4 (fun f w => f 92 = .bool (b4 && (t14 == t16)) ∧ Inv w0 w [ownI (α := GTrial) v2 28 t9, ownI (α := GTrial) v3 28 t11, ownI (α := ByteArray) v4 9 t13, ownI (α := ByteArray) v5 9 t15]) ?_ ?_
      ·
       rcases bool_ft b4 with hc8 | hc8
       ·
        refine WL.reset (i := 88) (v := .bool false) (congrArg Value.bool hc8) ?_
        refine O.skip rfl rfl ?_
        refine O.skip rfl rfl ?_
        refine O.skip rfl rfl ?_
        refine O.pick_false (v := (.bool false)) rfl rfl rfl rfl ?_
        exact WL.nil ⟨congrArg Value.bool (and_f hc8), H⟩
       ·
        refine WL.reset (i := 88) (v := .bool true) (congrArg Value.bool hc8) ?_
        refine O.move (v := (.int .i64 t14)) rfl rfl rfl ?_
        refine O.move (v := (.int .i64 t16)) rfl rfl rfl ?_
        refine O.eql rfl rfl rfl rfl ?_
        refine O.pick_true (v := (.bool (t14 == t16))) rfl rfl rfl rfl ?_
        exact WL.nil ⟨congrArg Value.bool (and_t hc8), H⟩
      ·
       rintro f w ⟨hf92, H⟩
       obtain ⟨u7, rfl⟩ := up1 hf92
       refine O.move (v := (.bool (b4 && (t14 == t16)))) rfl rfl rfl ?_
       obtain ⟨b5, hm4, hm⟩ := bind_some hm
       refine WL.cut 2 (fun f w => f 95 = .bool b5 ∧ Inv w0 w [ownI (α := GTrial) v2 28 t9, ownI (α := GTrial) v3 28 t11, ownI (α := ByteArray) v4 9 t13, ownI (α := ByteArray) v5 9 t15]) ?_ ?_
       ·
        rcases ite_some hm4 with ⟨hc9, hm4⟩ | ⟨hc9, hm4⟩
        ·
         refine WL.reset (i := 93) (v := .bool true) (congrArg Value.bool hc9) ?_
         obtain ⟨t19, hy13, hm4⟩ := bind_some hm4
         refine O.call Try.call14 rfl rfl rfl (c_noongunlaw06_awake  hy13) ?_
         rintro _ w19 hb16 rfl
         have H := H.ext hb16
         refine O.pick_true (v := (.bool t19)) rfl rfl rfl rfl ?_
         refine WL.nil ?_
         have hq : t19 = b5 := Option.some.inj (show some t19 = some b5 from hm4)
         subst hq
         exact ⟨rfl, H⟩
        ·
         refine WL.reset (i := 93) (v := .bool false) (congrArg Value.bool hc9) ?_
         refine O.skip rfl rfl ?_
         refine O.pick_false (v := (.bool false)) rfl rfl rfl rfl ?_
         refine WL.nil ?_
         have hq : false = b5 := Option.some.inj (show some false = some b5 from hm4)
         subst hq
         exact ⟨rfl, H⟩
       ·
        rintro f w ⟨hf95, H⟩
        obtain ⟨u8, rfl⟩ := up1 hf95
        refine O.assign (v := (.bool b5)) rfl rfl rfl ?_
        refine WL.nil ?_
        refine W.ret ?_
        have hq : b5 = r0 := Option.some.inj (show some b5 = some r0 from hm)
        subst hq
        exact ends1 Try.results12 rfl ⟨_, rfl, H.base, rfl⟩

end Go.Proofs
