/-
  The walks: each function does what its model says, where the model has a value. No other condition.
-/
import Derived.Test.YtailgbhadhoedaaW2
namespace Go.Proofs
open Go.Fw Go.RowKit Go.Shelf
theorem c_slices_Clone_int {w0 : World} (va0 : Value) (a0 : (List Int)) (ha0 : SliceR w0 va0 a0) {r0 : (List Int)} (hm : slices_Clone_int a0 = some r0) :
  Calls Try.prog 65 #[va0] w0 (Ret w0 fun w v => OwnR w0 w v 3 r0) := by
 unfold slices_Clone_int at hm
 refine calls_of_W Try.func65 rfl Try.ntmps65 (Nat.le_of_ble_eq_true rfl) ?_
 have H := Inv.start (w := w0)
 refine W.seq ?_
 refine W.region ?_
 have H := H.addNil (α := Int) (E := 3)
 refine O.assign (v := (.slice none 0 0)) rfl rfl rfl ?_
 refine WL.nil ?_
 refine W.seq ?_
 refine W.seq ?_
 refine W.region ?_
 refine O.move (v := va0) rfl rfl rfl ?_
 rcases ha0.nil_or with ⟨rfl, rfl⟩ | ⟨ad, cap, rfl⟩
 ·
  replace hm : (some ([] : List Int)) = some r0 := by simpa [appI] using hm
  refine O.eqlNil Try.underlying22 rfl rfl rfl rfl ?_
  refine WL.reset (i := 4) (v := .bool true) rfl ?_
  refine WL.nil ?_
  refine W.cond_true rfl ?_
  refine W.seq ?_
  refine W.region ?_
  have H := H.addNil (α := Int) (E := 3)
  refine O.assign (v := (.slice none 0 0)) rfl rfl rfl ?_
  refine WL.nil ?_
  refine W.ret ?_
  have hq : ([] : List Int) = r0 := Option.some.inj (show some ([] : List Int) = some r0 from hm)
  subst hq
  exact ends1 Try.results65 rfl ⟨_, rfl, H.base, H.ownR 1 rfl⟩
 ·
  refine O.eqlNil Try.underlying22 rfl rfl rfl rfl ?_
  refine WL.reset (i := 4) (v := .bool false) rfl ?_
  refine WL.nil ?_
  refine W.cond_false rfl ?_
  refine W.skip ?_
  refine W.seq ?_
  refine W.region ?_
  refine O.buildEmpty (α := Int) Try.underlying22 el3 H rfl rfl ?_
  intro b1 w1 H hb1
  refine O.move (v := (.slice (some ad) a0.length cap)) rfl rfl rfl ?_
  obtain ⟨t1, ht1, hm⟩ := bind_some hm
  refine O.append 1 Try.underlying22 el3 rfl H rfl (H.arg ha0) ht1 rfl rfl rfl rfl ?_
  intro v1 w2 H
  refine O.assign (v := v1) rfl rfl rfl ?_
  refine WL.nil ?_
  refine W.ret ?_
  have hq : t1 = r0 := Option.some.inj (show some t1 = some r0 from hm)
  subst hq
  exact ends1 Try.results65 rfl ⟨_, rfl, H.base, H.ownR 1 rfl⟩

theorem c_slices_Clone_Sight {w0 : World} (va0 : Value) (a0 : (List GSight)) (ha0 : SliceR w0 va0 a0) {r0 : (List GSight)} (hm : slices_Clone_Sight a0 = some r0) :
  Calls Try.prog 66 #[va0] w0 (Ret w0 fun w v => OwnR w0 w v 39 r0) := by
 unfold slices_Clone_Sight at hm
 refine calls_of_W Try.func66 rfl Try.ntmps66 (Nat.le_of_ble_eq_true rfl) ?_
 have H := Inv.start (w := w0)
 refine W.seq ?_
 refine W.region ?_
 have H := H.addNil (α := GSight) (E := 39)
 refine O.assign (v := (.slice none 0 0)) rfl rfl rfl ?_
 refine WL.nil ?_
 refine W.seq ?_
 refine W.seq ?_
 refine W.region ?_
 refine O.move (v := va0) rfl rfl rfl ?_
 rcases ha0.nil_or with ⟨rfl, rfl⟩ | ⟨ad, cap, rfl⟩
 ·
  replace hm : (some ([] : List GSight)) = some r0 := by simpa [appI] using hm
  refine O.eqlNil Try.underlying23 rfl rfl rfl rfl ?_
  refine WL.reset (i := 4) (v := .bool true) rfl ?_
  refine WL.nil ?_
  refine W.cond_true rfl ?_
  refine W.seq ?_
  refine W.region ?_
  have H := H.addNil (α := GSight) (E := 39)
  refine O.assign (v := (.slice none 0 0)) rfl rfl rfl ?_
  refine WL.nil ?_
  refine W.ret ?_
  have hq : ([] : List GSight) = r0 := Option.some.inj (show some ([] : List GSight) = some r0 from hm)
  subst hq
  exact ends1 Try.results66 rfl ⟨_, rfl, H.base, H.ownR 1 rfl⟩
 ·
  refine O.eqlNil Try.underlying23 rfl rfl rfl rfl ?_
  refine WL.reset (i := 4) (v := .bool false) rfl ?_
  refine WL.nil ?_
  refine W.cond_false rfl ?_
  refine W.skip ?_
  refine W.seq ?_
  refine W.region ?_
  refine O.buildEmpty (α := GSight) Try.underlying23 el39 H rfl rfl ?_
  intro b1 w1 H hb1
  refine O.move (v := (.slice (some ad) a0.length cap)) rfl rfl rfl ?_
  obtain ⟨t1, ht1, hm⟩ := bind_some hm
  refine O.append 1 Try.underlying23 el39 rfl H rfl (H.arg ha0) ht1 rfl rfl rfl rfl ?_
  intro v1 w2 H
  refine O.assign (v := v1) rfl rfl rfl ?_
  refine WL.nil ?_
  refine W.ret ?_
  have hq : t1 = r0 := Option.some.inj (show some t1 = some r0 from hm)
  subst hq
  exact ends1 Try.results66 rfl ⟨_, rfl, H.base, H.ownR 1 rfl⟩

theorem c_slices_Delete_GSight : DelI Try.prog 96 GSight 39 := by
 intro Dq w0 w L i v xs zs lo hi H hi' hz
 obtain ⟨h0, h1, h2, rfl⟩ := delI_some hz
 have hR := H.own i hi'
 have hz3 : SizeT Try.prog 39 (Ty.size GSight) := SizeT.mk (by kernel_rfl)
 have hzf : SizeT Try.prog 39 (Flat.size GSight) := SizeT.mk (by kernel_rfl)
 obtain ⟨ad, cap, rfl, hcap, _⟩ := hR.shape
 refine calls_of_W Try.func96 rfl Try.ntmps96 (Nat.le_of_ble_eq_true rfl) ?_
 refine W.seq ?_
 refine W.region ?_
 refine O.assign (v := .slice none 0 0) rfl rfl rfl ?_
 refine WL.nil ?_
 refine W.seq ?_
 refine W.region ?_
 refine O.move (v := .slice ad xs.length cap) rfl rfl rfl ?_
 refine O.move (v := .int .i64 lo) rfl rfl rfl ?_
 refine O.move (v := .int .i64 hi) rfl rfl rfl ?_
 refine O.move (v := .slice ad xs.length cap) rfl rfl rfl ?_
 refine O.lenS Try.underlying23 hR rfl rfl rfl ?_
 refine O.slice3 Try.underlying23 hz3 h0 h1 h2 (by omega) rfl rfl rfl rfl rfl rfl fun v' => ?_
 refine WL.nil ?_
 refine W.seq ?_
 refine W.seq ?_
 refine W.region ?_
 refine O.move (v := .int .i64 lo) rfl rfl rfl ?_
 refine O.move (v := .int .i64 hi) rfl rfl rfl ?_
 refine O.eql (a := lo) (b := hi) rfl rfl rfl rfl ?_
 refine WL.nil ?_
 rcases Int.lt_or_eq_of_le h1 with hlt | rfl
 ·
  refine W.cond_false (congrArg Value.bool (beq_eq_false_iff_ne.2 (by omega))) ?_
  refine W.skip ?_
  refine W.seq ?_
  refine W.region ?_
  refine O.move (v := .slice ad xs.length cap) rfl rfl rfl ?_
  refine O.lenS Try.underlying23 hR rfl rfl rfl ?_
  refine O.assign (v := .int .i64 (xs.length : Int)) rfl rfl rfl ?_
  refine WL.nil ?_
  obtain ⟨gb, rfl⟩ : ∃ gb, ad = some ⟨gb, 0, none⟩ := by
   obtain ⟨_, ⟨h3, h4⟩ | ⟨gb, _, _, hv, _⟩⟩ := (H.items _ (List.mem_of_getElem? hi')).1
   · omega
   · cases hv; exact ⟨gb, rfl⟩
  obtain ⟨lo, rfl⟩ := Int.eq_ofNat_of_zero_le h0
  obtain ⟨hi, rfl⟩ := Int.eq_ofNat_of_zero_le (Int.le_trans h0 h1)
  have hdl : (xs.drop hi).length = xs.length - hi := List.length_drop
  have htl : (xs.take lo).length = lo := by rw [List.length_take]; omega
  have hs2 : SliceR w (sliced (some ⟨gb, 0, none⟩) hi xs.length cap (Ty.size GSight)) (xs.drop hi) := by
   obtain ⟨a', l', c', e, _, _, h5⟩ := sliced_sliceR hR (show cutI xs (hi : Int) ((xs.length : Nat) : Int) = some (xs.drop hi) by unfold cutI; rw [if_pos (by omega), Int.toNat_natCast, Int.toNat_natCast, List.take_length])
   cases e
   exact h5
  refine W.seq ?_
  refine W.drawD 7 [[], [], [0, 1], [], [], [3, 4], [2, 5]] [[2, 6], [2, 6], [6], [5, 6], [5, 6], [6], []] (fun S f w' => f 0 = .slice (some ⟨gb, 0, none⟩) xs.length cap ∧ f 1 = .int .i64 (lo : Int) ∧ f 2 = .int .i64 (hi : Int) ∧ f 7 = .int .i64 (xs.length : Int) ∧ (S 0 = true → f 20 = .slice (some ⟨gb, 0, none⟩) xs.length cap) ∧ (S 1 = true → f 21 = .int .i64 (lo : Int)) ∧ (S 2 = true → f 22 = sliced (some ⟨gb, 0, none⟩) 0 lo cap (Ty.size GSight)) ∧ (S 3 = true → f 23 = .slice (some ⟨gb, 0, none⟩) xs.length cap) ∧ (S 4 = true → f 24 = .int .i64 (hi : Int)) ∧ (S 5 = true → f 25 = sliced (some ⟨gb, 0, none⟩) hi xs.length cap (Ty.size GSight)) ∧ (S 6 = true → f 26 = .slice (some ⟨gb, 0, none⟩) (lo + (xs.drop hi).length) cap) ∧ (S 6 = false → InvD Dq w0 w' L ∧ SliceR w' (sliced (some ⟨gb, 0, none⟩) hi xs.length cap (Ty.size GSight)) (xs.drop hi)) ∧ (S 6 = true → InvD Dq w0 w' (L.set i (ownI (.slice (some ⟨gb, 0, none⟩) (lo + (xs.drop hi).length) cap) 39 (xs.take lo ++ xs.drop hi))))) fol (by kernel_rfl) ?_ ?_ ?_
  · exact fun d _ => ⟨rfl, rfl, rfl, rfl, nF, nF, nF, nF, nF, nF, nF, (fun _ => ⟨H.ext (below_drawn d), hs2.mono (below_drawn d)⟩), nF⟩
  ·
   refine ⟨?_, ?_, ?_, ?_, ?_, ?_, ?_, trivial⟩
   ·
    rintro S f w' hS - ⟨-, e6, -⟩ ⟨f0, f1, f2, f7, d0, d1, d2, d3, d4, d5, d6, W0, W1⟩
    refine O.move (v := .slice (some ⟨gb, 0, none⟩) xs.length cap) rfl rfl f0 ?_
    exact WL.nil ⟨f0, f1, f2, f7, fun _ => rfl, d1, d2, d3, d4, d5, d6, W0, W1⟩
   ·
    rintro S f w' hS - ⟨-, e6, -⟩ ⟨f0, f1, f2, f7, d0, d1, d2, d3, d4, d5, d6, W0, W1⟩
    refine O.move (v := .int .i64 (lo : Int)) rfl rfl f1 ?_
    exact WL.nil ⟨f0, f1, f2, f7, d0, fun _ => rfl, d2, d3, d4, d5, d6, W0, W1⟩
   ·
    rintro S f w' hS ⟨e0, e1, -⟩ ⟨e6, -⟩ ⟨f0, f1, f2, f7, d0, d1, d2, d3, d4, d5, d6, W0, W1⟩
    refine O.sliceHv Try.underlying23 hz3 (Int.natCast_nonneg _) (by omega) rfl rfl (d0 e0) (d1 e1) ?_
    exact WL.nil ⟨f0, f1, f2, f7, d0, d1, fun _ => rfl, d3, d4, d5, d6, W0, W1⟩
   ·
    rintro S f w' hS - ⟨-, e6, -⟩ ⟨f0, f1, f2, f7, d0, d1, d2, d3, d4, d5, d6, W0, W1⟩
    refine O.move (v := .slice (some ⟨gb, 0, none⟩) xs.length cap) rfl rfl f0 ?_
    exact WL.nil ⟨f0, f1, f2, f7, d0, d1, d2, fun _ => rfl, d4, d5, d6, W0, W1⟩
   ·
    rintro S f w' hS - ⟨-, e6, -⟩ ⟨f0, f1, f2, f7, d0, d1, d2, d3, d4, d5, d6, W0, W1⟩
    refine O.move (v := .int .i64 (hi : Int)) rfl rfl f2 ?_
    exact WL.nil ⟨f0, f1, f2, f7, d0, d1, d2, d3, fun _ => rfl, d5, d6, W0, W1⟩
   ·
    rintro S f w' hS ⟨e3, e4, -⟩ ⟨e6, -⟩ ⟨f0, f1, f2, f7, d0, d1, d2, d3, d4, d5, d6, W0, W1⟩
    refine O.sliceLv Try.underlying23 hz3 (Int.natCast_nonneg _) (by omega) rfl rfl (d3 e3) (d4 e4) ?_
    exact WL.nil ⟨f0, f1, f2, f7, d0, d1, d2, d3, d4, fun _ => rfl, d6, W0, W1⟩
   ·
    rintro S f w' hS ⟨e2, e5, -⟩ - ⟨f0, f1, f2, f7, d0, d1, d2, d3, d4, d5, d6, W0, W1⟩
    obtain ⟨H, hs2⟩ := W0 hS
    obtain ⟨hok, hfp⟩ := H.items _ (List.mem_of_getElem? hi')
    have hc : sliced (some ⟨gb, 0, none⟩) 0 lo cap (Ty.size GSight) = .slice (some ⟨gb, 0, none⟩) lo cap := by unfold sliced; simp [Addr.add_lit]
    obtain ⟨w2, r1, r2, r3⟩ := run_append_back (T0 := 23) Try.underlying23 (show ElemT Try.prog 39 (Flat.size GSight) 40 from ElemT.mk (z := (.agg #[(.int .i64 (0)), (.int .i64 (0)), (.int .i64 (0)), (.int .i64 (0)), (.int .i64 (0))])) (by kernel_rfl) rfl) hok hs2 (m := lo) (by omega) (by omega)
    refine O.appendV r1 rfl rfl ((d2 e2).trans hc) (d5 e5) ?_
    exact WL.nil ⟨f0, f1, f2, f7, d0, d1, d2, d3, d4, d5, fun _ => rfl, nG, fun _ => H.upd i _ _ hi' ⟨r2.1, r2.2, r2.3, r2.4, fun k hk hn => r2.5 k hk fun e => hn (by cases e; rfl)⟩ r3 fun b hb => (by cases hb; exact ⟨Nat.lt_of_lt_of_le (hfp gb rfl).2 r2.4, .inl rfl⟩)⟩
  ·
   rintro S f w' ⟨_, _, _, _, _, _, e6, -⟩ ⟨f0, f1, f2, f7, d0, d1, d2, d3, d4, d5, d6, W0, W1⟩
   have H := W1 e6
   have f26 := d6 e6
   have hL : (L.set i (ownI (.slice (some ⟨gb, 0, none⟩) (lo + (xs.drop hi).length) cap) 39 (xs.take lo ++ xs.drop hi)))[i]? = some (ownI (.slice (some ⟨gb, 0, none⟩) (lo + (xs.drop hi).length) cap) 39 (xs.take lo ++ xs.drop hi)) := by
    rw [List.getElem?_set_self (List.getElem?_eq_some_iff.1 hi').1]
   refine O.assign (v := .slice (some ⟨gb, 0, none⟩) (lo + (xs.drop hi).length) cap) rfl rfl f26 ?_
   refine WL.nil ?_
   refine W.seq ?_
   refine W.region ?_
   have hzl : (xs.take lo ++ xs.drop hi).length = lo + (xs.drop hi).length := by rw [List.length_append, htl]
   have hR2 := H.own i hL
   rw [← hzl] at hR2 hL H
   refine O.move (v := .slice (some ⟨gb, 0, none⟩) (xs.take lo ++ xs.drop hi).length cap) rfl rfl (by rw [hzl]; rfl) ?_
   refine O.move (v := .slice (some ⟨gb, 0, none⟩) (xs.take lo ++ xs.drop hi).length cap) rfl rfl (by rw [hzl]; rfl) ?_
   refine O.lenS Try.underlying23 hR2 rfl rfl rfl ?_
   refine O.move (v := .int .i64 (xs.length : Int)) rfl rfl f7 ?_
   refine O.sliceLHv Try.underlying23 hzf (Int.natCast_nonneg _) (by rw [hzl]; omega) (by omega) rfl rfl rfl rfl rfl ?_
   obtain ⟨hok, hfp⟩ := H.items _ (List.mem_of_getElem? hL)
   obtain ⟨w2, r1, r2, r3⟩ := run_clear_tail (T0 := 0) (k := xs.length - (xs.take lo ++ xs.drop hi).length) Try.underlying23 (show ZeroT Try.prog 39 (Flat.val (⟨(0), (0), (0), (0), (0)⟩ : GSight)) from ZeroT.mk (by kernel_rfl)) hok rfl (by rw [hzl]; omega)
   refine O.clearV r1 rfl ?_ ?_
   ·
    rw [show (xs.take lo ++ xs.drop hi).length + (xs.length - (xs.take lo ++ xs.drop hi).length) = xs.length by rw [hzl]; omega]
    rfl
   refine WL.nil ?_
   refine W.seq ?_
   refine W.region ?_
   refine O.move (v := .slice (some ⟨gb, 0, none⟩) (lo + (xs.drop hi).length) cap) rfl rfl rfl ?_
   refine O.assign (v := .slice (some ⟨gb, 0, none⟩) (lo + (xs.drop hi).length) cap) rfl rfl rfl ?_
   refine WL.nil ?_
   refine W.ret ?_
   have H3 := H.upd i _ _ hL ⟨r2.1, r2.2, r2.3, r2.4, fun k hk hn => r2.5 k hk fun e => hn (by cases e; rfl)⟩ r3 fun b hb => (by cases hb; exact ⟨Nat.lt_of_lt_of_le (hfp gb rfl).2 r2.4, .inl rfl⟩)
   rw [List.set_set, hzl] at H3
   exact ends1 Try.results96 rfl ⟨_, rfl, H3⟩
 ·
  refine W.cond_true (congrArg Value.bool (beq_self_eq_true lo)) ?_
  refine W.seq ?_
  refine W.region ?_
  refine O.move (v := .slice ad xs.length cap) rfl rfl rfl ?_
  refine O.assign (v := .slice ad xs.length cap) rfl rfl rfl ?_
  refine WL.nil ?_
  refine W.ret ?_
  have e1 : L.set i (ownI (.slice ad xs.length cap) 39 (xs.take lo.toNat ++ xs.drop lo.toNat)) = L := by
   rw [List.take_append_drop]
   obtain ⟨q1, q2⟩ := List.getElem?_eq_some_iff.1 hi'
   rw [← q2]
   exact List.set_getElem_self q1
  have e2 : InvD Dq w0 w (L.set i (ownI (.slice ad xs.length cap) 39 (xs.take lo.toNat ++ xs.drop lo.toNat))) := by rw [e1]; exact H
  exact ends1 Try.results96 rfl ⟨_, rfl, e2⟩

set_option maxRecDepth 20000 in
theorem c_sight_without {w0 : World} (va0_0 : Value) (va0_1 : Value) (a0 : GNet) (ha0_0 : SliceR w0 va0_0 a0.Rates) (ha0_1 : SliceR w0 va0_1 a0.Sights) (a1 : Int) {r0 : GNet} (hm : sight_without a0 a1 = some r0) :
  Calls Try.prog 80 #[(.agg #[va0_0, va0_1]), (.int .i64 a1)] w0 (Ret w0 fun w v => ∃ vr0_0 : Value, ∃ vr0_1 : Value, v = (.agg #[vr0_0, vr0_1]) ∧ Inv w0 w [ownI (α := Int) vr0_0 3 r0.Rates, ownI (α := GSight) vr0_1 39 r0.Sights]) := by
 unfold sight_without at hm
 refine calls_of_W Try.func80 rfl Try.ntmps80 (Nat.le_of_ble_eq_true rfl) ?_
 have H := Inv.start (w := w0)
 refine W.seq ?_
 refine W.region ?_
 refine O.box [va0_0, va0_1] H rfl rfl rfl rfl ?_
 intro b1 w1 H hb1
 refine O.alloc [(.slice none 0 0), (.slice none 0 0)] ze25 H rfl rfl rfl ?_
 intro b2 w2 H hb2
 have H := H.addNil (α := Int) (E := 3)
 have H := H.addNil (α := GSight) (E := 39)
 refine WL.nil ?_
 refine W.seq ?_
 obtain ⟨t1, hy1, hm⟩ := bind_some hm
 obtain ⟨t2, hy2, hm⟩ := bind_some hm
 obtain ⟨t3, ht3, hm⟩ := bind_some hm
 have H := H.addGone
 have H := H.addGone
 refine W.drawD 9 [[], [0], [0, 1], [], [3], [0, 1, 2, 3, 4], [], [], [7]] [[1, 2, 5], [2, 5], [5], [4, 5], [5], [], [], [8], []] (fun S f w => ∃ v1 : Value, ∃ v2 : Value, Inv w0 w [] ∧ f 1 = (.int .i64 a1) ∧ f 2 = (.pointer (some ⟨b1, 0, none⟩)) ∧ f 4 = (.pointer (some ⟨b2, 0, none⟩)) ∧ (S 0 = true → f 5 = (.pointer (some (Addr.add (Addr.mk b1 0 none) 0)))) ∧ (S 1 = true → f 6 = va0_0) ∧ (S 2 = true → f 7 = v1) ∧ (S 3 = true → f 8 = (.pointer (some (Addr.add (Addr.mk b1 0 none) 1)))) ∧ (S 4 = true → f 9 = va0_1) ∧ (S 5 = true → f 10 = v2) ∧ (S 6 = true → f 11 = (.int .i64 a1)) ∧ (S 7 = true → f 12 = (.int .i64 a1)) ∧ (S 8 = true → f 13 = (.int .i64 t3)) ∧ (S 5 = true → S 2 = true) ∧ (S 2 = false → S 5 = false → Inv w0 w [boxI b1 25 [va0_0, va0_1], boxI b2 25 [(.slice none 0 0), (.slice none 0 0)], ownI (α := Int) (.slice none 0 0) 3 ([] : List Int), ownI (α := GSight) (.slice none 0 0) 39 ([] : List GSight), goneI, goneI]) ∧ (S 2 = true → S 5 = false → Inv w0 w [boxI b1 25 [va0_0, va0_1], boxI b2 25 [(.slice none 0 0), (.slice none 0 0)], ownI (α := Int) (.slice none 0 0) 3 ([] : List Int), ownI (α := GSight) (.slice none 0 0) 39 ([] : List GSight), ownI (α := Int) v1 3 t1, goneI]) ∧ (S 2 = true → S 5 = true → Inv w0 w [boxI b1 25 [va0_0, va0_1], boxI b2 25 [(.slice none 0 0), (.slice none 0 0)], ownI (α := Int) (.slice none 0 0) 3 ([] : List Int), ownI (α := GSight) (.slice none 0 0) 39 ([] : List GSight), ownI (α := Int) v1 3 t1, ownI (α := GSight) v2 39 t2])) fol (by kernel_rfl) ?_ ?_ ?_
 ·
  exact fun d _ => ⟨.nilFunc, .nilFunc, ((H.ext (below_drawn d)).pick [] [] rfl (by decide)), rfl, rfl, rfl, nF, nF, nF, nF, nF, nF, nF, nF, nF, nF, (fun _ _ => H.ext (below_drawn d)), (fun a _ => nF a), (fun a _ => nF a)⟩
 ·
  refine ⟨?_, ⟨?_, ⟨?_, ⟨?_, ⟨?_, ⟨?_, ⟨?_, ⟨?_, ⟨?_, trivial⟩⟩⟩⟩⟩⟩⟩⟩⟩
  ·
   rintro S f w hS - ⟨e1, e2, e5, -⟩ ⟨v1, v2, B, hf1, hf2, hf4, hd0, t⟩
   obtain ⟨u1, rfl⟩ := up1 hf2
   have H := t.2.2.2.2.2.2.2.2.2.1 e2 e5
   refine O.fieldAddr fd25_0 rfl rfl rfl ?_
   exact WL.nil ⟨v1, v2, B, hf1, rfl, hf4, (fun _ => rfl), t⟩
  ·
   rintro S f w hS ⟨e0, -⟩ ⟨e2, e5, -⟩ ⟨v1, v2, B, hf1, hf2, hf4, hd0, hd1, t⟩
   have hf5 := hd0 e0
   obtain ⟨u2, rfl⟩ := up1 hf5
   have H := t.2.2.2.2.2.2.2.2.1 e2 e5
   refine O.load sc22 rfl rfl rfl (H.cell 0 rfl 0 _ rfl) ?_
   exact WL.nil ⟨v1, v2, B, hf1, hf2, hf4, hd0, (fun _ => rfl), t⟩
  ·
   rintro S f w hS ⟨e0, e1, -⟩ ⟨e5, -⟩ ⟨_, v2, B, hf1, hf2, hf4, hd0, hd1, hd2, hd3, hd4, hd5, hd6, hd7, hd8, C5_2, W0, W1, W2⟩
   have hf6 := hd1 e1
   obtain ⟨u3, rfl⟩ := up1 hf6
   have H := W0 hS e5
   refine O.call Try.call65 rfl rfl rfl (c_slices_Clone_int _ _ (H.arg ha0_0) hy1) ?_
   rintro v1 w3 hb3 ho1
   have H := H.addOwn hb3 ho1
   refine WL.nil ?_
   have H := H.pick [0, 1, 2, 3, 6, 5] [boxI b1 25 [va0_0, va0_1], boxI b2 25 [(.slice none 0 0), (.slice none 0 0)], ownI (α := Int) (.slice none 0 0) 3 ([] : List Int), ownI (α := GSight) (.slice none 0 0) 39 ([] : List GSight), ownI (α := Int) v1 3 t1, goneI] rfl (by decide)
   exact ⟨v1, v2, (H.pick [] [] rfl (by decide)), hf1, hf2, hf4, hd0, hd1, (fun _ => rfl), hd3, hd4, hd5, hd6, hd7, hd8, (fun _ => rfl), (fun a _ => nG a), (fun _ _ => H), (fun _ a => nX e5 a)⟩
  ·
   rintro S f w hS - ⟨e4, e5, -⟩ ⟨v1, v2, B, hf1, hf2, hf4, hd0, hd1, hd2, hd3, t⟩
   obtain ⟨u4, rfl⟩ := up1 hf2
   have H := B
   refine O.fieldAddr fd25_1 rfl rfl rfl ?_
   exact WL.nil ⟨v1, v2, B, hf1, rfl, hf4, hd0, hd1, hd2, (fun _ => rfl), t⟩
  ·
   rintro S f w hS ⟨e3, -⟩ ⟨e5, -⟩ ⟨v1, v2, B, hf1, hf2, hf4, hd0, hd1, hd2, hd3, hd4, hd5, hd6, hd7, hd8, C5_2, W0, W1, W2⟩
   have hf8 := hd3 e3
   obtain ⟨u5, rfl⟩ := up1 hf8
   rcases bool_ft (S 2) with e2 | e2
   ·
    have H := W0 e2 e5
    refine O.load sc23 rfl rfl rfl (H.cell 0 rfl 1 _ rfl) ?_
    exact WL.nil ⟨v1, v2, B, hf1, hf2, hf4, hd0, hd1, hd2, hd3, (fun _ => rfl), hd5, hd6, hd7, hd8, C5_2, (fun _ _ => H), (fun a _ => nX e2 a), (fun a _ => nX e2 a)⟩
   ·
    have H := W1 e2 e5
    refine O.load sc23 rfl rfl rfl (H.cell 0 rfl 1 _ rfl) ?_
    exact WL.nil ⟨v1, v2, B, hf1, hf2, hf4, hd0, hd1, hd2, hd3, (fun _ => rfl), hd5, hd6, hd7, hd8, C5_2, (fun a _ => nT e2 a), (fun _ _ => H), (fun _ a => nX e5 a)⟩
  ·
   rintro S f w hS ⟨e0, e1, e2, e3, e4, -⟩ - ⟨v1, _, B, hf1, hf2, hf4, hd0, hd1, hd2, hd3, hd4, hd5, hd6, hd7, hd8, C5_2, W0, W1, W2⟩
   have hf9 := hd4 e4
   obtain ⟨u6, rfl⟩ := up1 hf9
   have H := W1 e2 hS
   refine O.call Try.call66 rfl rfl rfl (c_slices_Clone_Sight _ _ (H.arg ha0_1) hy2) ?_
   rintro v2 w4 hb4 ho2
   have H := H.addOwn hb4 ho2
   refine WL.nil ?_
   have H := H.pick [0, 1, 2, 3, 4, 6] [boxI b1 25 [va0_0, va0_1], boxI b2 25 [(.slice none 0 0), (.slice none 0 0)], ownI (α := Int) (.slice none 0 0) 3 ([] : List Int), ownI (α := GSight) (.slice none 0 0) 39 ([] : List GSight), ownI (α := Int) v1 3 t1, ownI (α := GSight) v2 39 t2] rfl (by decide)
   exact ⟨v1, v2, (H.pick [] [] rfl (by decide)), hf1, hf2, hf4, hd0, hd1, hd2, hd3, hd4, (fun _ => rfl), hd6, hd7, hd8, (fun _ => e2), (fun a _ => nT e2 a), (fun _ a => nG a), (fun _ _ => H)⟩
  ·
   rintro S f w hS - - ⟨v1, v2, B, hf1, hf2, hf4, hd0, hd1, hd2, hd3, hd4, hd5, hd6, t⟩
   obtain ⟨u7, rfl⟩ := up1 hf1
   have H := B
   refine O.move (v := (.int .i64 a1)) rfl rfl rfl ?_
   exact WL.nil ⟨v1, v2, B, rfl, hf2, hf4, hd0, hd1, hd2, hd3, hd4, hd5, (fun _ => rfl), t⟩
  ·
   rintro S f w hS - ⟨e8, -⟩ ⟨v1, v2, B, hf1, hf2, hf4, hd0, hd1, hd2, hd3, hd4, hd5, hd6, hd7, t⟩
   obtain ⟨u8, rfl⟩ := up1 hf1
   have H := B
   refine O.move (v := (.int .i64 a1)) rfl rfl rfl ?_
   exact WL.nil ⟨v1, v2, B, rfl, hf2, hf4, hd0, hd1, hd2, hd3, hd4, hd5, hd6, (fun _ => rfl), t⟩
  ·
   rintro S f w hS ⟨e7, -⟩ - ⟨v1, v2, B, hf1, hf2, hf4, hd0, hd1, hd2, hd3, hd4, hd5, hd6, hd7, hd8, t⟩
   have hf12 := hd7 e7
   obtain ⟨u9, rfl⟩ := up1 hf12
   have H := B
   refine O.add rfl rfl rfl rfl ht3 ?_
   exact WL.nil ⟨v1, v2, B, hf1, hf2, hf4, hd0, hd1, hd2, hd3, hd4, hd5, hd6, hd7, (fun _ => rfl), t⟩
 ·
  rintro S f w ⟨e0, e1, e2, e3, e4, e5, e6, e7, e8, -⟩ ⟨v1, v2, B, hf1, hf2, hf4, hd0, hd1, hd2, hd3, hd4, hd5, hd6, hd7, hd8, C5_2, W0, W1, W2⟩
  have hf7 := hd2 e2
  have hf10 := hd5 e5
  have hf11 := hd6 e6
  have hf13 := hd8 e8
  have H := W2 e2 e5
  obtain ⟨u10, rfl⟩ := up5 hf4 hf7 hf10 hf11 hf13
  obtain ⟨t4, hy3, hm⟩ := bind_some hm
  refine O.deleteI 5 H rfl c_slices_Delete_GSight hy3 Try.call96 rfl rfl rfl rfl rfl ?_
  intro v3 w5 H
  obtain ⟨ad1, cap1, hvad1, _⟩ := (H.own 4 rfl).shape
  obtain ⟨ad2, cap2, hvad2, _⟩ := (H.own 5 rfl).shape
  refine O.build (v := (.agg #[v1, v3])) (fun w => by rw [hvad1, hvad2]; exact bd25_0_1 _ _ _ _ _ _ w) rfl rfl rfl ?_
  refine O.store 1 0 [v1, v3] [v1, v3] sz25 H rfl rfl rfl rfl rfl rfl ⟨⟨rfl, rfl⟩, rfl⟩ (one_cons (SliceR.one (H.own 4 rfl)) (one_cons (SliceR.one (H.own 5 rfl)) one_nil)) ?_
  intro w6 H
  refine WL.nil ?_
  refine W.ret ?_
  have hq : (GNet.mk t1 t4) = r0 := Option.some.inj (show some (GNet.mk t1 t4) = some r0 from hm)
  subst hq
  exact ends1 Try.results80 ⟨_, rfl, run_loadVar_agg ag25 rfl (H.cell 1 rfl)⟩ ⟨_, rfl, H.base, ⟨_, _, rfl, H.pick [4, 5] [ownI (α := Int) v1 3 t1, ownI (α := GSight) v3 39 t4] rfl (by decide)⟩⟩

set_option maxRecDepth 20000 in
theorem c_sight_implied {w0 : World} (va0_0 : Value) (va0_1 : Value) (a0 : GNet) (ha0_0 : SliceR w0 va0_0 a0.Rates) (ha0_1 : SliceR w0 va0_1 a0.Sights) (a1 : Int) {r0 : Bool} (hm : sight_implied a0 a1 = some r0) :
  Calls Try.prog 79 #[(.agg #[va0_0, va0_1]), (.int .i64 a1)] w0 (Ret w0 fun _ v => v = (.bool r0)) := by
 unfold sight_implied at hm
 refine calls_of_W Try.func79 rfl Try.ntmps79 (Nat.le_of_ble_eq_true rfl) ?_
 have H := Inv.start (w := w0)
 refine W.seq ?_
 refine W.region ?_
 refine O.box [va0_0, va0_1] H rfl rfl rfl rfl ?_
 intro b1 w1 H hb1
 refine O.assign (v := (.bool false)) rfl rfl rfl ?_
 refine WL.nil ?_
 refine W.seq ?_
 refine W.region ?_
 refine O.fieldAddr fd25_1 rfl rfl rfl ?_
 refine O.load sc23 rfl rfl rfl (H.cell 0 rfl 1 _ rfl) ?_
 refine O.move (v := (.int .i64 a1)) rfl rfl rfl ?_
 obtain ⟨x1, hx1, hm⟩ := bind_some hm
 obtain ⟨p1, hp1, hrp1⟩ := fix_indexAddr Try.underlying23 sz39 ha0_1 hx1
 refine hrp1 rfl rfl rfl rfl ?_
 refine O.loadA [(.int .i64 x1.At), (.int .i64 x1.A), (.int .i64 x1.B), (.int .i64 x1.Lo), (.int .i64 x1.Hi)] ag39 rfl rfl rfl rfl ((hp1.mono H.base).flat) ?_
 refine O.alloc [(.int .i64 0), (.int .i64 0), (.int .i64 0), (.int .i64 0), (.int .i64 0)] ze39 H rfl rfl rfl ?_
 intro b2 w2 H hb2
 refine O.store 1 0 [(.int .i64 x1.At), (.int .i64 x1.A), (.int .i64 x1.B), (.int .i64 x1.Lo), (.int .i64 x1.Hi)] [(.int .i64 x1.At), (.int .i64 x1.A), (.int .i64 x1.B), (.int .i64 x1.Lo), (.int .i64 x1.Hi)] sz39 H rfl rfl rfl rfl rfl rfl ⟨⟨rfl, rfl⟩, rfl⟩ (one_cons rfl (one_cons rfl (one_cons rfl (one_cons rfl (one_cons rfl one_nil))))) ?_
 intro w3 H
 refine WL.nil ?_
 refine W.seq ?_
 obtain ⟨t1, hy1, hm⟩ := bind_some hm
 obtain ⟨⟨t2, t3⟩, hy2, hm⟩ := bind_some hm
 have H := H.addGone
 have H := H.addGone
 have H := H.addGone
 refine W.drawD 15 [[], [], [0, 1], [], [3], [], [5], [], [7], [0, 1, 2, 3, 4, 5, 6, 7, 8], [0, 1, 2, 3, 4, 5, 6, 7, 8, 9], [0, 1, 2, 3, 4, 5, 6, 7, 8, 9, 10], [0, 1, 2, 3, 4, 5, 6, 7, 8, 9, 10], [], [0, 1, 2, 3, 4, 5, 6, 7, 8, 9, 10, 11, 13]] [[2, 9, 10, 11, 12, 14], [2, 9, 10, 11, 12, 14], [9, 10, 11, 12, 14], [4, 9, 10, 11, 12, 14], [9, 10, 11, 12, 14], [6, 9, 10, 11, 12, 14], [9, 10, 11, 12, 14], [8, 9, 10, 11, 12, 14], [9, 10, 11, 12, 14], [10, 11, 12, 14], [11, 12, 14], [14], [], [14], []] (fun S f w => ∃ v1 : Value, ∃ v2 : Value, ∃ b3 : Nat, Inv w0 w [] ∧ f 1 = (.int .i64 a1) ∧ f 2 = (.pointer (some ⟨b1, 0, none⟩)) ∧ f 5 = (.pointer (some ⟨b2, 0, none⟩)) ∧ (S 0 = true → f 14 = (.agg #[va0_0, va0_1])) ∧ (S 1 = true → f 15 = (.int .i64 a1)) ∧ (S 2 = true → f 16 = (.agg #[v1, v2])) ∧ (S 3 = true → f 17 = (.pointer (some (Addr.add (Addr.mk b2 0 none) 1)))) ∧ (S 4 = true → f 18 = (.int .i64 x1.A)) ∧ (S 5 = true → f 19 = (.pointer (some (Addr.add (Addr.mk b2 0 none) 2)))) ∧ (S 6 = true → f 20 = (.int .i64 x1.B)) ∧ (S 7 = true → f 21 = (.pointer (some (Addr.add (Addr.mk b2 0 none) 0)))) ∧ (S 8 = true → f 22 = (.int .i64 x1.At)) ∧ (S 9 = true → f 23 = (.tuple #[(.agg (Flat.cells t2).toArray), (.bool t3)])) ∧ (S 10 = true → f 13 = (.tuple #[(.agg (Flat.cells t2).toArray), (.bool t3)])) ∧ (S 11 = true → f 24 = (.agg (Flat.cells t2).toArray)) ∧ (S 12 = true → f 25 = (.bool t3)) ∧ (S 13 = true → f 6 = (.pointer (some ⟨b3, 0, none⟩))) ∧ (S 14 = true → S 2 = true) ∧ (S 14 = true → S 13 = true) ∧ (S 2 = false → S 13 = false → S 14 = false → Inv w0 w [boxI b1 25 [va0_0, va0_1], boxI b2 39 [(.int .i64 x1.At), (.int .i64 x1.A), (.int .i64 x1.B), (.int .i64 x1.Lo), (.int .i64 x1.Hi)], goneI, goneI, goneI]) ∧ (S 2 = true → S 13 = false → S 14 = false → Inv w0 w [boxI b1 25 [va0_0, va0_1], boxI b2 39 [(.int .i64 x1.At), (.int .i64 x1.A), (.int .i64 x1.B), (.int .i64 x1.Lo), (.int .i64 x1.Hi)], ownI (α := Int) v1 3 t1.Rates, ownI (α := GSight) v2 39 t1.Sights, goneI]) ∧ (S 2 = false → S 13 = true → S 14 = false → Inv w0 w [boxI b1 25 [va0_0, va0_1], boxI b2 39 [(.int .i64 x1.At), (.int .i64 x1.A), (.int .i64 x1.B), (.int .i64 x1.Lo), (.int .i64 x1.Hi)], goneI, goneI, boxI b3 30 [(.int .i64 0), (.int .i64 0)]]) ∧ (S 2 = true → S 13 = true → S 14 = false → Inv w0 w [boxI b1 25 [va0_0, va0_1], boxI b2 39 [(.int .i64 x1.At), (.int .i64 x1.A), (.int .i64 x1.B), (.int .i64 x1.Lo), (.int .i64 x1.Hi)], ownI (α := Int) v1 3 t1.Rates, ownI (α := GSight) v2 39 t1.Sights, boxI b3 30 [(.int .i64 0), (.int .i64 0)]]) ∧ (S 2 = true → S 13 = true → S 14 = true → Inv w0 w [boxI b1 25 [va0_0, va0_1], boxI b2 39 [(.int .i64 x1.At), (.int .i64 x1.A), (.int .i64 x1.B), (.int .i64 x1.Lo), (.int .i64 x1.Hi)], ownI (α := Int) v1 3 t1.Rates, ownI (α := GSight) v2 39 t1.Sights, boxI b3 30 [(.int .i64 t2.Lo), (.int .i64 t2.Hi)]])) fol (by kernel_rfl) ?_ ?_ ?_
 ·
  exact fun d _ => ⟨.nilFunc, .nilFunc, 0, ((H.ext (below_drawn d)).pick [] [] rfl (by decide)), rfl, rfl, rfl, nF, nF, nF, nF, nF, nF, nF, nF, nF, nF, nF, nF, nF, nF, nF, nF, (fun _ _ _ => H.ext (below_drawn d)), (fun a _ _ => nF a), (fun _ a _ => nF a), (fun a _ _ => nF a), (fun a _ _ => nF a)⟩
 ·
  refine ⟨?_, ⟨?_, ⟨?_, ⟨?_, ⟨?_, ⟨?_, ⟨?_, ⟨?_, ⟨?_, ⟨?_, ⟨?_, ⟨?_, ⟨?_, ⟨?_, ⟨?_, trivial⟩⟩⟩⟩⟩⟩⟩⟩⟩⟩⟩⟩⟩⟩⟩
  ·
   rintro S f w hS - ⟨e2, e9, e10, e11, e12, e14, -⟩ ⟨v1, v2, b3, B, hf1, hf2, hf5, hd0, hd1, hd2, hd3, hd4, hd5, hd6, hd7, hd8, hd9, hd10, hd11, hd12, hd13, C14_2, C14_13, W0, W1, W2, W3, W4⟩
   obtain ⟨u1, rfl⟩ := up1 hf2
   rcases bool_ft (S 13) with e13 | e13
   ·
    have H := W0 e2 e13 e14
    refine O.loadA [va0_0, va0_1] ag25 rfl rfl rfl rfl (H.cell 0 rfl) ?_
    exact WL.nil ⟨v1, v2, b3, B, hf1, rfl, hf5, (fun _ => rfl), hd1, hd2, hd3, hd4, hd5, hd6, hd7, hd8, hd9, hd10, hd11, hd12, hd13, C14_2, C14_13, (fun _ _ _ => H), (fun a _ _ => nX e2 a), (fun _ a _ => nX e13 a), (fun a _ _ => nX e2 a), (fun a _ _ => nX e2 a)⟩
   ·
    have H := W2 e2 e13 e14
    refine O.loadA [va0_0, va0_1] ag25 rfl rfl rfl rfl (H.cell 0 rfl) ?_
    exact WL.nil ⟨v1, v2, b3, B, hf1, rfl, hf5, (fun _ => rfl), hd1, hd2, hd3, hd4, hd5, hd6, hd7, hd8, hd9, hd10, hd11, hd12, hd13, C14_2, C14_13, (fun _ a _ => nT e13 a), (fun a _ _ => nX e2 a), (fun _ _ _ => H), (fun a _ _ => nX e2 a), (fun a _ _ => nX e2 a)⟩
  ·
   rintro S f w hS - ⟨e2, e9, e10, e11, e12, e14, -⟩ ⟨v1, v2, b3, B, hf1, hf2, hf5, hd0, hd1, t⟩
   obtain ⟨u2, rfl⟩ := up1 hf1
   have H := B
   refine O.move (v := (.int .i64 a1)) rfl rfl rfl ?_
   exact WL.nil ⟨v1, v2, b3, B, rfl, hf2, hf5, hd0, (fun _ => rfl), t⟩
  ·
   rintro S f w hS ⟨e0, e1, -⟩ ⟨e9, e10, e11, e12, e14, -⟩ ⟨_, _, b3, B, hf1, hf2, hf5, hd0, hd1, hd2, hd3, hd4, hd5, hd6, hd7, hd8, hd9, hd10, hd11, hd12, hd13, C14_2, C14_13, W0, W1, W2, W3, W4⟩
   have hf14 := hd0 e0
   have hf15 := hd1 e1
   obtain ⟨u3, rfl⟩ := up2 hf14 hf15
   rcases bool_ft (S 13) with e13 | e13
   ·
    have H := W0 hS e13 e14
    refine O.call Try.call80 rfl rfl rfl (c_sight_without _ _ (GNet.mk a0.Rates a0.Sights) (H.arg ha0_0) (H.arg ha0_1) _ hy1) ?_
    rintro _ w4 hb3 ⟨v1, v2, rfl, ho1⟩
    have H := H.addAll hb3 ho1
    refine WL.nil ?_
    have H := H.pick [0, 1, 5, 6, 4] [boxI b1 25 [va0_0, va0_1], boxI b2 39 [(.int .i64 x1.At), (.int .i64 x1.A), (.int .i64 x1.B), (.int .i64 x1.Lo), (.int .i64 x1.Hi)], ownI (α := Int) v1 3 t1.Rates, ownI (α := GSight) v2 39 t1.Sights, goneI] rfl (by decide)
    exact ⟨v1, v2, b3, (H.pick [] [] rfl (by decide)), hf1, hf2, hf5, hd0, hd1, (fun _ => rfl), hd3, hd4, hd5, hd6, hd7, hd8, hd9, hd10, hd11, hd12, hd13, (fun _ => rfl), C14_13, (fun a _ _ => nG a), (fun _ _ _ => H), (fun a _ _ => nG a), (fun _ a _ => nX e13 a), (fun _ a _ => nX e13 a)⟩
   ·
    have H := W2 hS e13 e14
    refine O.call Try.call80 rfl rfl rfl (c_sight_without _ _ (GNet.mk a0.Rates a0.Sights) (H.arg ha0_0) (H.arg ha0_1) _ hy1) ?_
    rintro _ w4 hb3 ⟨v1, v2, rfl, ho1⟩
    have H := H.addAll hb3 ho1
    refine WL.nil ?_
    have H := H.pick [0, 1, 5, 6, 4] [boxI b1 25 [va0_0, va0_1], boxI b2 39 [(.int .i64 x1.At), (.int .i64 x1.A), (.int .i64 x1.B), (.int .i64 x1.Lo), (.int .i64 x1.Hi)], ownI (α := Int) v1 3 t1.Rates, ownI (α := GSight) v2 39 t1.Sights, boxI b3 30 [(.int .i64 0), (.int .i64 0)]] rfl (by decide)
    exact ⟨v1, v2, b3, (H.pick [] [] rfl (by decide)), hf1, hf2, hf5, hd0, hd1, (fun _ => rfl), hd3, hd4, hd5, hd6, hd7, hd8, hd9, hd10, hd11, hd12, hd13, (fun _ => rfl), C14_13, (fun a _ _ => nG a), (fun _ a _ => nT e13 a), (fun a _ _ => nG a), (fun _ _ _ => H), (fun _ _ a => nX e14 a)⟩
  ·
   rintro S f w hS - ⟨e4, e9, e10, e11, e12, e14, -⟩ ⟨v1, v2, b3, B, hf1, hf2, hf5, hd0, hd1, hd2, hd3, t⟩
   obtain ⟨u4, rfl⟩ := up1 hf5
   have H := B
   refine O.fieldAddr fd39_1 rfl rfl rfl ?_
   exact WL.nil ⟨v1, v2, b3, B, hf1, hf2, rfl, hd0, hd1, hd2, (fun _ => rfl), t⟩
  ·
   rintro S f w hS ⟨e3, -⟩ ⟨e9, e10, e11, e12, e14, -⟩ ⟨v1, v2, b3, B, hf1, hf2, hf5, hd0, hd1, hd2, hd3, hd4, hd5, hd6, hd7, hd8, hd9, hd10, hd11, hd12, hd13, C14_2, C14_13, W0, W1, W2, W3, W4⟩
   have hf17 := hd3 e3
   obtain ⟨u5, rfl⟩ := up1 hf17
   rcases bool_ft (S 2) with e2 | e2
   ·
    rcases bool_ft (S 13) with e13 | e13
    ·
     have H := W0 e2 e13 e14
     refine O.load sc3 rfl rfl rfl (H.cell 1 rfl 1 _ rfl) ?_
     exact WL.nil ⟨v1, v2, b3, B, hf1, hf2, hf5, hd0, hd1, hd2, hd3, (fun _ => rfl), hd5, hd6, hd7, hd8, hd9, hd10, hd11, hd12, hd13, C14_2, C14_13, (fun _ _ _ => H), (fun a _ _ => nX e2 a), (fun _ a _ => nX e13 a), (fun a _ _ => nX e2 a), (fun a _ _ => nX e2 a)⟩
    ·
     have H := W2 e2 e13 e14
     refine O.load sc3 rfl rfl rfl (H.cell 1 rfl 1 _ rfl) ?_
     exact WL.nil ⟨v1, v2, b3, B, hf1, hf2, hf5, hd0, hd1, hd2, hd3, (fun _ => rfl), hd5, hd6, hd7, hd8, hd9, hd10, hd11, hd12, hd13, C14_2, C14_13, (fun _ a _ => nT e13 a), (fun a _ _ => nX e2 a), (fun _ _ _ => H), (fun a _ _ => nX e2 a), (fun a _ _ => nX e2 a)⟩
   ·
    rcases bool_ft (S 13) with e13 | e13
    ·
     have H := W1 e2 e13 e14
     refine O.load sc3 rfl rfl rfl (H.cell 1 rfl 1 _ rfl) ?_
     exact WL.nil ⟨v1, v2, b3, B, hf1, hf2, hf5, hd0, hd1, hd2, hd3, (fun _ => rfl), hd5, hd6, hd7, hd8, hd9, hd10, hd11, hd12, hd13, C14_2, C14_13, (fun a _ _ => nT e2 a), (fun _ _ _ => H), (fun a _ _ => nT e2 a), (fun _ a _ => nX e13 a), (fun _ a _ => nX e13 a)⟩
    ·
     have H := W3 e2 e13 e14
     refine O.load sc3 rfl rfl rfl (H.cell 1 rfl 1 _ rfl) ?_
     exact WL.nil ⟨v1, v2, b3, B, hf1, hf2, hf5, hd0, hd1, hd2, hd3, (fun _ => rfl), hd5, hd6, hd7, hd8, hd9, hd10, hd11, hd12, hd13, C14_2, C14_13, (fun a _ _ => nT e2 a), (fun _ a _ => nT e13 a), (fun a _ _ => nT e2 a), (fun _ _ _ => H), (fun _ _ a => nX e14 a)⟩
  ·
   rintro S f w hS - ⟨e6, e9, e10, e11, e12, e14, -⟩ ⟨v1, v2, b3, B, hf1, hf2, hf5, hd0, hd1, hd2, hd3, hd4, hd5, t⟩
   obtain ⟨u6, rfl⟩ := up1 hf5
   have H := B
   refine O.fieldAddr fd39_2 rfl rfl rfl ?_
   exact WL.nil ⟨v1, v2, b3, B, hf1, hf2, rfl, hd0, hd1, hd2, hd3, hd4, (fun _ => rfl), t⟩
  ·
   rintro S f w hS ⟨e5, -⟩ ⟨e9, e10, e11, e12, e14, -⟩ ⟨v1, v2, b3, B, hf1, hf2, hf5, hd0, hd1, hd2, hd3, hd4, hd5, hd6, hd7, hd8, hd9, hd10, hd11, hd12, hd13, C14_2, C14_13, W0, W1, W2, W3, W4⟩
   have hf19 := hd5 e5
   obtain ⟨u7, rfl⟩ := up1 hf19
   rcases bool_ft (S 2) with e2 | e2
   ·
    rcases bool_ft (S 13) with e13 | e13
    ·
     have H := W0 e2 e13 e14
     refine O.load sc3 rfl rfl rfl (H.cell 1 rfl 2 _ rfl) ?_
     exact WL.nil ⟨v1, v2, b3, B, hf1, hf2, hf5, hd0, hd1, hd2, hd3, hd4, hd5, (fun _ => rfl), hd7, hd8, hd9, hd10, hd11, hd12, hd13, C14_2, C14_13, (fun _ _ _ => H), (fun a _ _ => nX e2 a), (fun _ a _ => nX e13 a), (fun a _ _ => nX e2 a), (fun a _ _ => nX e2 a)⟩
    ·
     have H := W2 e2 e13 e14
     refine O.load sc3 rfl rfl rfl (H.cell 1 rfl 2 _ rfl) ?_
     exact WL.nil ⟨v1, v2, b3, B, hf1, hf2, hf5, hd0, hd1, hd2, hd3, hd4, hd5, (fun _ => rfl), hd7, hd8, hd9, hd10, hd11, hd12, hd13, C14_2, C14_13, (fun _ a _ => nT e13 a), (fun a _ _ => nX e2 a), (fun _ _ _ => H), (fun a _ _ => nX e2 a), (fun a _ _ => nX e2 a)⟩
   ·
    rcases bool_ft (S 13) with e13 | e13
    ·
     have H := W1 e2 e13 e14
     refine O.load sc3 rfl rfl rfl (H.cell 1 rfl 2 _ rfl) ?_
     exact WL.nil ⟨v1, v2, b3, B, hf1, hf2, hf5, hd0, hd1, hd2, hd3, hd4, hd5, (fun _ => rfl), hd7, hd8, hd9, hd10, hd11, hd12, hd13, C14_2, C14_13, (fun a _ _ => nT e2 a), (fun _ _ _ => H), (fun a _ _ => nT e2 a), (fun _ a _ => nX e13 a), (fun _ a _ => nX e13 a)⟩
    ·
     have H := W3 e2 e13 e14
     refine O.load sc3 rfl rfl rfl (H.cell 1 rfl 2 _ rfl) ?_
     exact WL.nil ⟨v1, v2, b3, B, hf1, hf2, hf5, hd0, hd1, hd2, hd3, hd4, hd5, (fun _ => rfl), hd7, hd8, hd9, hd10, hd11, hd12, hd13, C14_2, C14_13, (fun a _ _ => nT e2 a), (fun _ a _ => nT e13 a), (fun a _ _ => nT e2 a), (fun _ _ _ => H), (fun _ _ a => nX e14 a)⟩
  ·
   rintro S f w hS - ⟨e8, e9, e10, e11, e12, e14, -⟩ ⟨v1, v2, b3, B, hf1, hf2, hf5, hd0, hd1, hd2, hd3, hd4, hd5, hd6, hd7, t⟩
   obtain ⟨u8, rfl⟩ := up1 hf5
   have H := B
   refine O.fieldAddr fd39_0 rfl rfl rfl ?_
   exact WL.nil ⟨v1, v2, b3, B, hf1, hf2, rfl, hd0, hd1, hd2, hd3, hd4, hd5, hd6, (fun _ => rfl), t⟩
  ·
   rintro S f w hS ⟨e7, -⟩ ⟨e9, e10, e11, e12, e14, -⟩ ⟨v1, v2, b3, B, hf1, hf2, hf5, hd0, hd1, hd2, hd3, hd4, hd5, hd6, hd7, hd8, hd9, hd10, hd11, hd12, hd13, C14_2, C14_13, W0, W1, W2, W3, W4⟩
   have hf21 := hd7 e7
   obtain ⟨u9, rfl⟩ := up1 hf21
   rcases bool_ft (S 2) with e2 | e2
   ·
    rcases bool_ft (S 13) with e13 | e13
    ·
     have H := W0 e2 e13 e14
     refine O.load sc3 rfl rfl rfl (H.cell 1 rfl 0 _ rfl) ?_
     exact WL.nil ⟨v1, v2, b3, B, hf1, hf2, hf5, hd0, hd1, hd2, hd3, hd4, hd5, hd6, hd7, (fun _ => rfl), hd9, hd10, hd11, hd12, hd13, C14_2, C14_13, (fun _ _ _ => H), (fun a _ _ => nX e2 a), (fun _ a _ => nX e13 a), (fun a _ _ => nX e2 a), (fun a _ _ => nX e2 a)⟩
    ·
     have H := W2 e2 e13 e14
     refine O.load sc3 rfl rfl rfl (H.cell 1 rfl 0 _ rfl) ?_
     exact WL.nil ⟨v1, v2, b3, B, hf1, hf2, hf5, hd0, hd1, hd2, hd3, hd4, hd5, hd6, hd7, (fun _ => rfl), hd9, hd10, hd11, hd12, hd13, C14_2, C14_13, (fun _ a _ => nT e13 a), (fun a _ _ => nX e2 a), (fun _ _ _ => H), (fun a _ _ => nX e2 a), (fun a _ _ => nX e2 a)⟩
   ·
    rcases bool_ft (S 13) with e13 | e13
    ·
     have H := W1 e2 e13 e14
     refine O.load sc3 rfl rfl rfl (H.cell 1 rfl 0 _ rfl) ?_
     exact WL.nil ⟨v1, v2, b3, B, hf1, hf2, hf5, hd0, hd1, hd2, hd3, hd4, hd5, hd6, hd7, (fun _ => rfl), hd9, hd10, hd11, hd12, hd13, C14_2, C14_13, (fun a _ _ => nT e2 a), (fun _ _ _ => H), (fun a _ _ => nT e2 a), (fun _ a _ => nX e13 a), (fun _ a _ => nX e13 a)⟩
    ·
     have H := W3 e2 e13 e14
     refine O.load sc3 rfl rfl rfl (H.cell 1 rfl 0 _ rfl) ?_
     exact WL.nil ⟨v1, v2, b3, B, hf1, hf2, hf5, hd0, hd1, hd2, hd3, hd4, hd5, hd6, hd7, (fun _ => rfl), hd9, hd10, hd11, hd12, hd13, C14_2, C14_13, (fun a _ _ => nT e2 a), (fun _ a _ => nT e13 a), (fun a _ _ => nT e2 a), (fun _ _ _ => H), (fun _ _ a => nX e14 a)⟩
  ·
   rintro S f w hS ⟨e0, e1, e2, e3, e4, e5, e6, e7, e8, -⟩ ⟨e10, e11, e12, e14, -⟩ ⟨v1, v2, b3, B, hf1, hf2, hf5, hd0, hd1, hd2, hd3, hd4, hd5, hd6, hd7, hd8, hd9, hd10, hd11, hd12, hd13, C14_2, C14_13, W0, W1, W2, W3, W4⟩
   have hf16 := hd2 e2
   have hf18 := hd4 e4
   have hf20 := hd6 e6
   have hf22 := hd8 e8
   obtain ⟨u10, rfl⟩ := up4 hf16 hf18 hf20 hf22
   rcases bool_ft (S 13) with e13 | e13
   ·
    have H := W1 e2 e13 e14
    refine O.call Try.call58 rfl rfl rfl (c_sight_between _ _ t1 (H.own 2 rfl) (H.own 3 rfl) _ _ _ hy2) ?_
    rintro _ w5 hb4 rfl
    have H := H.ext hb4
    exact WL.nil ⟨v1, v2, b3, (H.pick [] [] rfl (by decide)), hf1, hf2, hf5, hd0, hd1, hd2, hd3, hd4, hd5, hd6, hd7, hd8, (fun _ => rfl), hd10, hd11, hd12, hd13, C14_2, C14_13, (fun a _ _ => nT e2 a), (fun _ _ _ => H), (fun a _ _ => nT e2 a), (fun _ a _ => nX e13 a), (fun _ a _ => nX e13 a)⟩
   ·
    have H := W3 e2 e13 e14
    refine O.call Try.call58 rfl rfl rfl (c_sight_between _ _ t1 (H.own 2 rfl) (H.own 3 rfl) _ _ _ hy2) ?_
    rintro _ w5 hb4 rfl
    have H := H.ext hb4
    exact WL.nil ⟨v1, v2, b3, (H.pick [] [] rfl (by decide)), hf1, hf2, hf5, hd0, hd1, hd2, hd3, hd4, hd5, hd6, hd7, hd8, (fun _ => rfl), hd10, hd11, hd12, hd13, C14_2, C14_13, (fun a _ _ => nT e2 a), (fun _ a _ => nT e13 a), (fun a _ _ => nT e2 a), (fun _ _ _ => H), (fun _ _ a => nX e14 a)⟩
  ·
   rintro S f w hS ⟨e0, e1, e2, e3, e4, e5, e6, e7, e8, e9, -⟩ ⟨e11, e12, e14, -⟩ ⟨v1, v2, b3, B, hf1, hf2, hf5, hd0, hd1, hd2, hd3, hd4, hd5, hd6, hd7, hd8, hd9, hd10, t⟩
   have hf23 := hd9 e9
   obtain ⟨u11, rfl⟩ := up1 hf23
   have H := B
   refine O.move (v := (.tuple #[(.agg (Flat.cells t2).toArray), (.bool t3)])) rfl rfl rfl ?_
   exact WL.nil ⟨v1, v2, b3, B, hf1, hf2, hf5, hd0, hd1, hd2, hd3, hd4, hd5, hd6, hd7, hd8, hd9, (fun _ => rfl), t⟩
  ·
   rintro S f w hS ⟨e0, e1, e2, e3, e4, e5, e6, e7, e8, e9, e10, -⟩ ⟨e14, -⟩ ⟨v1, v2, b3, B, hf1, hf2, hf5, hd0, hd1, hd2, hd3, hd4, hd5, hd6, hd7, hd8, hd9, hd10, hd11, t⟩
   have hf13 := hd10 e10
   obtain ⟨u12, rfl⟩ := up1 hf13
   have H := B
   refine O.extract (v := (.agg (Flat.cells t2).toArray)) rfl rfl rfl rfl ?_
   exact WL.nil ⟨v1, v2, b3, B, hf1, hf2, hf5, hd0, hd1, hd2, hd3, hd4, hd5, hd6, hd7, hd8, hd9, hd10, (fun _ => rfl), t⟩
  ·
   rintro S f w hS ⟨e0, e1, e2, e3, e4, e5, e6, e7, e8, e9, e10, -⟩ - ⟨v1, v2, b3, B, hf1, hf2, hf5, hd0, hd1, hd2, hd3, hd4, hd5, hd6, hd7, hd8, hd9, hd10, hd11, hd12, t⟩
   have hf13 := hd10 e10
   obtain ⟨u13, rfl⟩ := up1 hf13
   have H := B
   refine O.extract (v := (.bool t3)) rfl rfl rfl rfl ?_
   exact WL.nil ⟨v1, v2, b3, B, hf1, hf2, hf5, hd0, hd1, hd2, hd3, hd4, hd5, hd6, hd7, hd8, hd9, hd10, hd11, (fun _ => rfl), t⟩
  ·
   rintro S f w hS - ⟨e14, -⟩ ⟨v1, v2, _, B, hf1, hf2, hf5, hd0, hd1, hd2, hd3, hd4, hd5, hd6, hd7, hd8, hd9, hd10, hd11, hd12, hd13, C14_2, C14_13, W0, W1, W2, W3, W4⟩
   rcases bool_ft (S 2) with e2 | e2
   ·
    have H := W0 e2 hS e14
    refine O.alloc [(.int .i64 0), (.int .i64 0)] ze30 H rfl rfl rfl ?_
    intro b3 w6 H hb5
    refine WL.nil ?_
    have H := H.pick [0, 1, 2, 3, 5] [boxI b1 25 [va0_0, va0_1], boxI b2 39 [(.int .i64 x1.At), (.int .i64 x1.A), (.int .i64 x1.B), (.int .i64 x1.Lo), (.int .i64 x1.Hi)], goneI, goneI, boxI b3 30 [(.int .i64 0), (.int .i64 0)]] rfl (by decide)
    exact ⟨v1, v2, b3, (H.pick [] [] rfl (by decide)), hf1, hf2, hf5, hd0, hd1, hd2, hd3, hd4, hd5, hd6, hd7, hd8, hd9, hd10, hd11, hd12, (fun _ => rfl), C14_2, (fun _ => rfl), (fun _ a _ => nG a), (fun a _ _ => nX e2 a), (fun _ _ _ => H), (fun a _ _ => nX e2 a), (fun a _ _ => nX e2 a)⟩
   ·
    have H := W1 e2 hS e14
    refine O.alloc [(.int .i64 0), (.int .i64 0)] ze30 H rfl rfl rfl ?_
    intro b3 w6 H hb5
    refine WL.nil ?_
    have H := H.pick [0, 1, 2, 3, 5] [boxI b1 25 [va0_0, va0_1], boxI b2 39 [(.int .i64 x1.At), (.int .i64 x1.A), (.int .i64 x1.B), (.int .i64 x1.Lo), (.int .i64 x1.Hi)], ownI (α := Int) v1 3 t1.Rates, ownI (α := GSight) v2 39 t1.Sights, boxI b3 30 [(.int .i64 0), (.int .i64 0)]] rfl (by decide)
    exact ⟨v1, v2, b3, (H.pick [] [] rfl (by decide)), hf1, hf2, hf5, hd0, hd1, hd2, hd3, hd4, hd5, hd6, hd7, hd8, hd9, hd10, hd11, hd12, (fun _ => rfl), C14_2, (fun _ => rfl), (fun a _ _ => nT e2 a), (fun _ a _ => nG a), (fun a _ _ => nT e2 a), (fun _ _ _ => H), (fun _ _ a => nX e14 a)⟩
  ·
   rintro S f w hS ⟨e0, e1, e2, e3, e4, e5, e6, e7, e8, e9, e10, e11, e13, -⟩ - ⟨v1, v2, b3, B, hf1, hf2, hf5, hd0, hd1, hd2, hd3, hd4, hd5, hd6, hd7, hd8, hd9, hd10, hd11, hd12, hd13, C14_2, C14_13, W0, W1, W2, W3, W4⟩
   have hf6 := hd13 e13
   have hf24 := hd11 e11
   obtain ⟨u14, rfl⟩ := up2 hf6 hf24
   have H := W3 e2 e13 hS
   refine O.store 4 0 [(.int .i64 t2.Lo), (.int .i64 t2.Hi)] [(.int .i64 t2.Lo), (.int .i64 t2.Hi)] sz30 H rfl rfl rfl rfl rfl rfl ⟨⟨rfl, rfl⟩, rfl⟩ (one_cons rfl (one_cons rfl one_nil)) ?_
   intro w7 H
   exact WL.nil ⟨v1, v2, b3, (H.pick [] [] rfl (by decide)), hf1, hf2, hf5, hd0, hd1, hd2, hd3, hd4, hd5, hd6, hd7, hd8, hd9, hd10, hd11, hd12, hd13, (fun _ => e2), (fun _ => e13), (fun a _ _ => nT e2 a), (fun _ a _ => nT e13 a), (fun a _ _ => nT e2 a), (fun _ _ a => nG a), (fun _ _ _ => H)⟩
 ·
  rintro S f w ⟨e0, e1, e2, e3, e4, e5, e6, e7, e8, e9, e10, e11, e12, e13, e14, -⟩ ⟨v1, v2, b3, B, hf1, hf2, hf5, hd0, hd1, hd2, hd3, hd4, hd5, hd6, hd7, hd8, hd9, hd10, hd11, hd12, hd13, C14_2, C14_13, W0, W1, W2, W3, W4⟩
  have hf6 := hd13 e13
  have hf25 := hd12 e12
  have H := W4 e2 e13 e14
  obtain ⟨u15, rfl⟩ := up3 hf5 hf6 hf25
  refine O.assign (v := (.bool t3)) rfl rfl rfl ?_
  refine WL.nil ?_
  refine W.seq ?_
  refine W.region ?_
  refine O.move (v := (.bool t3)) rfl rfl rfl ?_
  refine O.move (v := (.bool t3)) rfl rfl rfl ?_
  refine WL.cut 6 (fun f w => f 5 = (.pointer (some ⟨b2, 0, none⟩)) ∧ f 6 = (.pointer (some ⟨b3, 0, none⟩)) ∧ f 33 = .bool (t3 && (decide (x1.Lo ≤ t2.Lo))) ∧ Inv w0 w [boxI b1 25 [va0_0, va0_1], boxI b2 39 [(.int .i64 x1.At), (.int .i64 x1.A), (.int .i64 x1.B), (.int .i64 x1.Lo), (.int .i64 x1.Hi)], ownI (α := Int) v1 3 t1.Rates, ownI (α := GSight) v2 39 t1.Sights, boxI b3 30 [(.int .i64 t2.Lo), (.int .i64 t2.Hi)]]) ?_ ?_
  ·
   rcases bool_ft t3 with hc1 | hc1
   ·
    refine WL.reset (i := 27) (v := .bool false) (congrArg Value.bool hc1) ?_
    refine O.skip rfl rfl ?_
    refine O.skip rfl rfl ?_
    refine O.skip rfl rfl ?_
    refine O.skip rfl rfl ?_
    refine O.skip rfl rfl ?_
    refine O.pick_false (v := (.bool false)) rfl rfl rfl rfl ?_
    exact WL.nil ⟨rfl, rfl, congrArg Value.bool (and_f hc1), H⟩
   ·
    refine WL.reset (i := 27) (v := .bool true) (congrArg Value.bool hc1) ?_
    refine O.fieldAddr fd30_0 rfl rfl rfl ?_
    refine O.load sc3 rfl rfl rfl (H.cell 4 rfl 0 _ rfl) ?_
    refine O.fieldAddr fd39_3 rfl rfl rfl ?_
    refine O.load sc3 rfl rfl rfl (H.cell 1 rfl 3 _ rfl) ?_
    refine O.geq rfl rfl rfl rfl ?_
    refine O.pick_true (v := (.bool (decide (x1.Lo ≤ t2.Lo)))) rfl rfl rfl rfl ?_
    exact WL.nil ⟨rfl, rfl, congrArg Value.bool (and_t hc1), H⟩
  ·
   rintro f w ⟨hf5, hf6, hf33, H⟩
   obtain ⟨u16, rfl⟩ := up3 hf5 hf6 hf33
   refine O.move (v := (.bool (t3 && (decide (x1.Lo ≤ t2.Lo))))) rfl rfl rfl ?_
   refine WL.cut 6 (fun f w => f 40 = .bool ((t3 && (decide (x1.Lo ≤ t2.Lo))) && (decide (t2.Hi ≤ x1.Hi))) ∧ Inv w0 w [boxI b1 25 [va0_0, va0_1], boxI b2 39 [(.int .i64 x1.At), (.int .i64 x1.A), (.int .i64 x1.B), (.int .i64 x1.Lo), (.int .i64 x1.Hi)], ownI (α := Int) v1 3 t1.Rates, ownI (α := GSight) v2 39 t1.Sights, boxI b3 30 [(.int .i64 t2.Lo), (.int .i64 t2.Hi)]]) ?_ ?_
   ·
    rcases bool_ft (t3 && (decide (x1.Lo ≤ t2.Lo))) with hc2 | hc2
    ·
     refine WL.reset (i := 34) (v := .bool false) (congrArg Value.bool hc2) ?_
     refine O.skip rfl rfl ?_
     refine O.skip rfl rfl ?_
     refine O.skip rfl rfl ?_
     refine O.skip rfl rfl ?_
     refine O.skip rfl rfl ?_
     refine O.pick_false (v := (.bool false)) rfl rfl rfl rfl ?_
     exact WL.nil ⟨congrArg Value.bool (and_f hc2), H⟩
    ·
     refine WL.reset (i := 34) (v := .bool true) (congrArg Value.bool hc2) ?_
     refine O.fieldAddr fd30_1 rfl rfl rfl ?_
     refine O.load sc3 rfl rfl rfl (H.cell 4 rfl 1 _ rfl) ?_
     refine O.fieldAddr fd39_4 rfl rfl rfl ?_
     refine O.load sc3 rfl rfl rfl (H.cell 1 rfl 4 _ rfl) ?_
     refine O.leq rfl rfl rfl rfl ?_
     refine O.pick_true (v := (.bool (decide (t2.Hi ≤ x1.Hi)))) rfl rfl rfl rfl ?_
     exact WL.nil ⟨congrArg Value.bool (and_t hc2), H⟩
   ·
    rintro f w ⟨hf40, H⟩
    obtain ⟨u17, rfl⟩ := up1 hf40
    refine O.assign (v := (.bool ((t3 && (decide (x1.Lo ≤ t2.Lo))) && (decide (t2.Hi ≤ x1.Hi))))) rfl rfl rfl ?_
    refine WL.nil ?_
    refine W.ret ?_
    have hq : ((t3 && (decide (x1.Lo ≤ t2.Lo))) && (decide (t2.Hi ≤ x1.Hi))) = r0 := Option.some.inj (show some ((t3 && (decide (x1.Lo ≤ t2.Lo))) && (decide (t2.Hi ≤ x1.Hi))) = some r0 from hm)
    subst hq
    exact ends1 Try.results79 rfl ⟨_, rfl, H.base, rfl⟩

theorem c_sight_Implied {w0 : World} (va0_0 : Value) (va0_1 : Value) (a0 : GNet) (ha0_0 : SliceR w0 va0_0 a0.Rates) (ha0_1 : SliceR w0 va0_1 a0.Sights) (a1 : Int) {r0 : Bool} {r1 : Int} (hm : sight_Implied a0 a1 = some (r0, r1)) :
  Calls Try.prog 49 #[(.agg #[va0_0, va0_1]), (.int .i64 a1)] w0 (Ret w0 fun _ v => v = .tuple #[(.bool r0), (.int .i64 r1)]) := by
 unfold sight_Implied at hm
 refine calls_of_W Try.func49 rfl Try.ntmps49 (Nat.le_of_ble_eq_true rfl) ?_
 have H := Inv.start (w := w0)
 refine W.seq ?_
 refine W.region ?_
 refine O.box [va0_0, va0_1] H rfl rfl rfl rfl ?_
 intro b1 w1 H hb1
 refine O.assign (v := (.bool false)) rfl rfl rfl ?_
 refine O.assign (v := (.int .i64 0)) rfl rfl rfl ?_
 refine WL.nil ?_
 refine W.seq ?_
 refine W.seq ?_
 refine W.region ?_
 refine O.loadA [va0_0, va0_1] ag25 rfl rfl rfl rfl (H.cell 0 rfl) ?_
 refine O.move (v := (.int .i64 a1)) rfl rfl rfl ?_
 obtain ⟨t1, hy1, hm⟩ := bind_some hm
 refine O.call Try.call83 rfl rfl rfl (c_sight_named _ _ (GNet.mk a0.Rates a0.Sights) (H.arg ha0_0) (H.arg ha0_1) _ hy1) ?_
 rintro _ w2 hb2 rfl
 have H := H.ext hb2
 refine O.assign (v := (.int .i64 t1)) rfl rfl rfl ?_
 refine WL.nil ?_
 refine W.seq ?_
 refine W.region ?_
 refine O.move (v := (.int .i64 t1)) rfl rfl rfl ?_
 refine O.neq rfl rfl rfl rfl ?_
 refine WL.nil ?_
 rcases ite_some hm with ⟨hc1, hm⟩ | ⟨hc1, hm⟩
 ·
  refine W.cond_true (congrArg Value.bool hc1) ?_
  refine W.seq ?_
  refine W.region ?_
  refine O.move (v := (.int .i64 t1)) rfl rfl rfl ?_
  refine O.assign (v := (.bool false)) rfl rfl rfl ?_
  refine O.assign (v := (.int .i64 t1)) rfl rfl rfl ?_
  refine WL.nil ?_
  refine W.ret ?_
  have hq : (false, t1) = (r0, r1) := Option.some.inj (show some (false, t1) = some (r0, r1) from hm)
  obtain ⟨he0, hq0⟩ := Prod.mk.inj hq; clear hq; subst he0
  subst hq0
  exact ends2 Try.results49 rfl rfl ⟨_, rfl, H.base, rfl⟩
 ·
  refine W.cond_false (congrArg Value.bool hc1) ?_
  refine W.skip ?_
  refine W.seq ?_
  refine W.seq ?_
  refine W.region ?_
  refine O.loadA [va0_0, va0_1] ag25 rfl rfl rfl rfl (H.cell 0 rfl) ?_
  obtain ⟨⟨t2, t3⟩, hy2, hm⟩ := bind_some hm
  refine O.call Try.call56 rfl rfl rfl (c_sight_graphOf _ _ (GNet.mk a0.Rates a0.Sights) (H.arg ha0_0) (H.arg ha0_1) _ _ (SliceR.nil (α := GPoint)) hy2) ?_
  rintro _ w3 hb3 ⟨b2, m1, v1, sg1, rfl, hq1, hM1⟩
  have H := H.addAll hb3 hM1
  obtain ⟨⟨t4, t5⟩, hy3, hm⟩ := bind_some hm
  refine O.call Try.call57 rfl rfl rfl (c_sight_graph_circle _ _ _ t2 sg1 (H.cell 1 rfl) (H.map 2 rfl) (H.own 3 rfl) (circle_perm hq1 hy3)) ?_
  rintro v2 w4 hb4 ⟨ho1, hq2⟩
  have H := H.addOwn hb4 ho1
  refine O.neqNilB Try.underlying22 hq2 rfl rfl rfl rfl ?_
  refine WL.nil ?_
  rcases ite_some hm with ⟨hc2, hm⟩ | ⟨hc2, hm⟩
  ·
   refine W.cond_true (congrArg Value.bool hc2) ?_
   refine W.seq ?_
   refine W.region ?_
   refine O.assign (v := (.bool false)) rfl rfl rfl ?_
   refine O.assign (v := (.int .i64 9)) rfl rfl rfl ?_
   refine WL.nil ?_
   refine W.ret ?_
   have hq : (false, 9) = (r0, r1) := Option.some.inj (show some (false, 9) = some (r0, r1) from hm)
   obtain ⟨he0, hq0⟩ := Prod.mk.inj hq; clear hq; subst he0
   subst hq0
   exact ends2 Try.results49 rfl rfl ⟨_, rfl, H.base, rfl⟩
  ·
   refine W.cond_false (congrArg Value.bool hc2) ?_
   refine W.skip ?_
   refine W.seq ?_
   refine W.region ?_
   refine O.loadA [va0_0, va0_1] ag25 rfl rfl rfl rfl (H.cell 0 rfl) ?_
   refine O.move (v := (.int .i64 a1)) rfl rfl rfl ?_
   obtain ⟨t6, hy4, hm⟩ := bind_some hm
   refine O.call Try.call79 rfl rfl rfl (c_sight_implied _ _ (GNet.mk a0.Rates a0.Sights) (H.arg ha0_0) (H.arg ha0_1) _ hy4) ?_
   rintro _ w5 hb5 rfl
   have H := H.ext hb5
   refine O.assign (v := (.bool t6)) rfl rfl rfl ?_
   refine O.assign (v := (.int .i64 0)) rfl rfl rfl ?_
   refine WL.nil ?_
   refine W.ret ?_
   have hq : (t6, 0) = (r0, r1) := Option.some.inj (show some (t6, 0) = some (r0, r1) from hm)
   obtain ⟨he0, hq0⟩ := Prod.mk.inj hq; clear hq; subst he0
   subst hq0
   exact ends2 Try.results49 rfl rfl ⟨_, rfl, H.base, rfl⟩

theorem c_noongunref02_within {w0 : World} (a0 : Int) (a1 : Int) (a2 : Int) {r0 : Bool} (hm : noongunref02_within a0 a1 a2 = some r0) :
  Calls Try.prog 59 #[(.int .i64 a0), (.int .i64 a1), (.int .i64 a2)] w0 (Ret w0 fun _ v => v = (.bool r0)) := by
 unfold noongunref02_within at hm
 refine calls_of_W Try.func59 rfl Try.ntmps59 (Nat.le_of_ble_eq_true rfl) ?_
 have H := Inv.start (w := w0)
 refine W.seq ?_
 refine W.region ?_
 refine O.assign (v := (.bool false)) rfl rfl rfl ?_
 refine WL.nil ?_
 refine W.seq ?_
 refine W.region ?_
 refine O.move (v := (.int .i64 a0)) rfl rfl rfl ?_
 refine O.move (v := (.int .i64 a1)) rfl rfl rfl ?_
 refine O.geq rfl rfl rfl rfl ?_
 refine O.move (v := (.bool (decide (a1 ≤ a0)))) rfl rfl rfl ?_
 refine WL.cut 4 (fun f w => f 14 = .bool ((decide (a1 ≤ a0)) && (decide (a0 ≤ a2))) ∧ Inv w0 w []) ?_ ?_
 ·
  rcases bool_ft (decide (a1 ≤ a0)) with hc1 | hc1
  ·
   refine WL.reset (i := 10) (v := .bool false) (congrArg Value.bool hc1) ?_
   refine O.skip rfl rfl ?_
   refine O.skip rfl rfl ?_
   refine O.skip rfl rfl ?_
   refine O.pick_false (v := (.bool false)) rfl rfl rfl rfl ?_
   exact WL.nil ⟨congrArg Value.bool (and_f hc1), H⟩
  ·
   refine WL.reset (i := 10) (v := .bool true) (congrArg Value.bool hc1) ?_
   refine O.move (v := (.int .i64 a0)) rfl rfl rfl ?_
   refine O.move (v := (.int .i64 a2)) rfl rfl rfl ?_
   refine O.leq rfl rfl rfl rfl ?_
   refine O.pick_true (v := (.bool (decide (a0 ≤ a2)))) rfl rfl rfl rfl ?_
   exact WL.nil ⟨congrArg Value.bool (and_t hc1), H⟩
 ·
  rintro f w ⟨hf14, H⟩
  obtain ⟨u1, rfl⟩ := up1 hf14
  refine O.assign (v := (.bool ((decide (a1 ≤ a0)) && (decide (a0 ≤ a2))))) rfl rfl rfl ?_
  refine WL.nil ?_
  refine W.ret ?_
  have hq : ((decide (a1 ≤ a0)) && (decide (a0 ≤ a2))) = r0 := Option.some.inj (show some ((decide (a1 ≤ a0)) && (decide (a0 ≤ a2))) = some r0 from hm)
  subst hq
  exact ends1 Try.results59 rfl ⟨_, rfl, H.base, rfl⟩

set_option maxRecDepth 20000 in
theorem c_noongunref02_ValidSight {w0 : World} (a0 : GSight) (a1 : Int) {r0 : Bool} (hm : noongunref02_ValidSight a0 a1 = some r0) :
  Calls Try.prog 60 #[(.agg (Flat.cells a0).toArray), (.int .i64 a1)] w0 (Ret w0 fun _ v => v = (.bool r0)) := by
 unfold noongunref02_ValidSight at hm
 refine calls_of_W Try.func60 rfl Try.ntmps60 (Nat.le_of_ble_eq_true rfl) ?_
 have H := Inv.start (w := w0)
 refine W.seq ?_
 refine W.region ?_
 refine O.box [(.int .i64 a0.At), (.int .i64 a0.A), (.int .i64 a0.B), (.int .i64 a0.Lo), (.int .i64 a0.Hi)] H rfl rfl rfl rfl ?_
 intro b1 w1 H hb1
 refine O.assign (v := (.bool false)) rfl rfl rfl ?_
 refine WL.nil ?_
 refine W.seq ?_
 refine W.region ?_
 refine O.fieldAddr fd39_0 rfl rfl rfl ?_
 refine O.load sc3 rfl rfl rfl (H.cell 0 rfl 0 _ rfl) ?_
 obtain ⟨t1, hy1, hm⟩ := bind_some hm
 refine O.call Try.call59 rfl rfl rfl (c_noongunref02_within _ _ _ hy1) ?_
 rintro _ w2 hb2 rfl
 have H := H.ext hb2
 refine O.move (v := (.bool t1)) rfl rfl rfl ?_
 refine WL.cut 4 (fun f w => f 1 = (.int .i64 a1) ∧ f 2 = (.pointer (some ⟨b1, 0, none⟩)) ∧ f 12 = .bool (t1 && (decide (0 ≤ a0.A))) ∧ Inv w0 w [boxI b1 39 [(.int .i64 a0.At), (.int .i64 a0.A), (.int .i64 a0.B), (.int .i64 a0.Lo), (.int .i64 a0.Hi)]]) ?_ ?_
 ·
  rcases bool_ft t1 with hc1 | hc1
  ·
   refine WL.reset (i := 8) (v := .bool false) (congrArg Value.bool hc1) ?_
   refine O.skip rfl rfl ?_
   refine O.skip rfl rfl ?_
   refine O.skip rfl rfl ?_
   refine O.pick_false (v := (.bool false)) rfl rfl rfl rfl ?_
   exact WL.nil ⟨rfl, rfl, congrArg Value.bool (and_f hc1), H⟩
  ·
   refine WL.reset (i := 8) (v := .bool true) (congrArg Value.bool hc1) ?_
   refine O.fieldAddr fd39_1 rfl rfl rfl ?_
   refine O.load sc3 rfl rfl rfl (H.cell 0 rfl 1 _ rfl) ?_
   refine O.geq rfl rfl rfl rfl ?_
   refine O.pick_true (v := (.bool (decide (0 ≤ a0.A)))) rfl rfl rfl rfl ?_
   exact WL.nil ⟨rfl, rfl, congrArg Value.bool (and_t hc1), H⟩
 ·
  rintro f w ⟨hf1, hf2, hf12, H⟩
  obtain ⟨u1, rfl⟩ := up3 hf1 hf2 hf12
  refine O.move (v := (.bool (t1 && (decide (0 ≤ a0.A))))) rfl rfl rfl ?_
  refine WL.cut 5 (fun f w => f 1 = (.int .i64 a1) ∧ f 2 = (.pointer (some ⟨b1, 0, none⟩)) ∧ f 18 = .bool ((t1 && (decide (0 ≤ a0.A))) && (decide (a0.A < a1))) ∧ Inv w0 w [boxI b1 39 [(.int .i64 a0.At), (.int .i64 a0.A), (.int .i64 a0.B), (.int .i64 a0.Lo), (.int .i64 a0.Hi)]]) ?_ ?_
  ·
   rcases bool_ft (t1 && (decide (0 ≤ a0.A))) with hc2 | hc2
   ·
    refine WL.reset (i := 13) (v := .bool false) (congrArg Value.bool hc2) ?_
    refine O.skip rfl rfl ?_
    refine O.skip rfl rfl ?_
    refine O.skip rfl rfl ?_
    refine O.skip rfl rfl ?_
    refine O.pick_false (v := (.bool false)) rfl rfl rfl rfl ?_
    exact WL.nil ⟨rfl, rfl, congrArg Value.bool (and_f hc2), H⟩
   ·
    refine WL.reset (i := 13) (v := .bool true) (congrArg Value.bool hc2) ?_
    refine O.fieldAddr fd39_1 rfl rfl rfl ?_
    refine O.load sc3 rfl rfl rfl (H.cell 0 rfl 1 _ rfl) ?_
    refine O.move (v := (.int .i64 a1)) rfl rfl rfl ?_
    refine O.lss rfl rfl rfl rfl ?_
    refine O.pick_true (v := (.bool (decide (a0.A < a1)))) rfl rfl rfl rfl ?_
    exact WL.nil ⟨rfl, rfl, congrArg Value.bool (and_t hc2), H⟩
  ·
   rintro f w ⟨hf1, hf2, hf18, H⟩
   obtain ⟨u2, rfl⟩ := up3 hf1 hf2 hf18
   refine O.move (v := (.bool ((t1 && (decide (0 ≤ a0.A))) && (decide (a0.A < a1))))) rfl rfl rfl ?_
   refine WL.cut 4 (fun f w => f 1 = (.int .i64 a1) ∧ f 2 = (.pointer (some ⟨b1, 0, none⟩)) ∧ f 23 = .bool (((t1 && (decide (0 ≤ a0.A))) && (decide (a0.A < a1))) && (decide (0 ≤ a0.B))) ∧ Inv w0 w [boxI b1 39 [(.int .i64 a0.At), (.int .i64 a0.A), (.int .i64 a0.B), (.int .i64 a0.Lo), (.int .i64 a0.Hi)]]) ?_ ?_
   ·
    rcases bool_ft ((t1 && (decide (0 ≤ a0.A))) && (decide (a0.A < a1))) with hc3 | hc3
    ·
     refine WL.reset (i := 19) (v := .bool false) (congrArg Value.bool hc3) ?_
     refine O.skip rfl rfl ?_
     refine O.skip rfl rfl ?_
     refine O.skip rfl rfl ?_
     refine O.pick_false (v := (.bool false)) rfl rfl rfl rfl ?_
     exact WL.nil ⟨rfl, rfl, congrArg Value.bool (and_f hc3), H⟩
    ·
     refine WL.reset (i := 19) (v := .bool true) (congrArg Value.bool hc3) ?_
     refine O.fieldAddr fd39_2 rfl rfl rfl ?_
     refine O.load sc3 rfl rfl rfl (H.cell 0 rfl 2 _ rfl) ?_
     refine O.geq rfl rfl rfl rfl ?_
     refine O.pick_true (v := (.bool (decide (0 ≤ a0.B)))) rfl rfl rfl rfl ?_
     exact WL.nil ⟨rfl, rfl, congrArg Value.bool (and_t hc3), H⟩
   ·
    rintro f w ⟨hf1, hf2, hf23, H⟩
    obtain ⟨u3, rfl⟩ := up3 hf1 hf2 hf23
    refine O.move (v := (.bool (((t1 && (decide (0 ≤ a0.A))) && (decide (a0.A < a1))) && (decide (0 ≤ a0.B))))) rfl rfl rfl ?_
    refine WL.cut 5 (fun f w => f 2 = (.pointer (some ⟨b1, 0, none⟩)) ∧ f 29 = .bool ((((t1 && (decide (0 ≤ a0.A))) && (decide (a0.A < a1))) && (decide (0 ≤ a0.B))) && (decide (a0.B < a1))) ∧ Inv w0 w [boxI b1 39 [(.int .i64 a0.At), (.int .i64 a0.A), (.int .i64 a0.B), (.int .i64 a0.Lo), (.int .i64 a0.Hi)]]) ?_ ?_
    ·
     rcases bool_ft (((t1 && (decide (0 ≤ a0.A))) && (decide (a0.A < a1))) && (decide (0 ≤ a0.B))) with hc4 | hc4
     ·
      refine WL.reset (i := 24) (v := .bool false) (congrArg Value.bool hc4) ?_
      refine O.skip rfl rfl ?_
      refine O.skip rfl rfl ?_
      refine O.skip rfl rfl ?_
      refine O.skip rfl rfl ?_
      refine O.pick_false (v := (.bool false)) rfl rfl rfl rfl ?_
      exact WL.nil ⟨rfl, congrArg Value.bool (and_f hc4), H⟩
     ·
      refine WL.reset (i := 24) (v := .bool true) (congrArg Value.bool hc4) ?_
      refine O.fieldAddr fd39_2 rfl rfl rfl ?_
      refine O.load sc3 rfl rfl rfl (H.cell 0 rfl 2 _ rfl) ?_
      refine O.move (v := (.int .i64 a1)) rfl rfl rfl ?_
      refine O.lss rfl rfl rfl rfl ?_
      refine O.pick_true (v := (.bool (decide (a0.B < a1)))) rfl rfl rfl rfl ?_
      exact WL.nil ⟨rfl, congrArg Value.bool (and_t hc4), H⟩
    ·
     rintro f w ⟨hf2, hf29, H⟩
     obtain ⟨u4, rfl⟩ := up2 hf2 hf29
     refine O.move (v := (.bool ((((t1 && (decide (0 ≤ a0.A))) && (decide (a0.A < a1))) && (decide (0 ≤ a0.B))) && (decide (a0.B < a1))))) rfl rfl rfl ?_
     refine WL.cut 6 (fun f w => f 2 = (.pointer (some ⟨b1, 0, none⟩)) ∧ f 36 = .bool (((((t1 && (decide (0 ≤ a0.A))) && (decide (a0.A < a1))) && (decide (0 ≤ a0.B))) && (decide (a0.B < a1))) && (a0.A != a0.B)) ∧ Inv w0 w [boxI b1 39 [(.int .i64 a0.At), (.int .i64 a0.A), (.int .i64 a0.B), (.int .i64 a0.Lo), (.int .i64 a0.Hi)]]) ?_ ?_
     ·
      rcases bool_ft ((((t1 && (decide (0 ≤ a0.A))) && (decide (a0.A < a1))) && (decide (0 ≤ a0.B))) && (decide (a0.B < a1))) with hc5 | hc5
      ·
       refine WL.reset (i := 30) (v := .bool false) (congrArg Value.bool hc5) ?_
       refine O.skip rfl rfl ?_
       refine O.skip rfl rfl ?_
       refine O.skip rfl rfl ?_
       refine O.skip rfl rfl ?_
       refine O.skip rfl rfl ?_
       refine O.pick_false (v := (.bool false)) rfl rfl rfl rfl ?_
       exact WL.nil ⟨rfl, congrArg Value.bool (and_f hc5), H⟩
      ·
       refine WL.reset (i := 30) (v := .bool true) (congrArg Value.bool hc5) ?_
       refine O.fieldAddr fd39_1 rfl rfl rfl ?_
       refine O.load sc3 rfl rfl rfl (H.cell 0 rfl 1 _ rfl) ?_
       refine O.fieldAddr fd39_2 rfl rfl rfl ?_
       refine O.load sc3 rfl rfl rfl (H.cell 0 rfl 2 _ rfl) ?_
       refine O.neq rfl rfl rfl rfl ?_
       refine O.pick_true (v := (.bool (a0.A != a0.B))) rfl rfl rfl rfl ?_
       exact WL.nil ⟨rfl, congrArg Value.bool (and_t hc5), H⟩
     ·
      rintro f w ⟨hf2, hf36, H⟩
      obtain ⟨u5, rfl⟩ := up2 hf2 hf36
      refine O.move (v := (.bool (((((t1 && (decide (0 ≤ a0.A))) && (decide (a0.A < a1))) && (decide (0 ≤ a0.B))) && (decide (a0.B < a1))) && (a0.A != a0.B)))) rfl rfl rfl ?_
      refine WL.cut 4 (fun f w => f 2 = (.pointer (some ⟨b1, 0, none⟩)) ∧ f 41 = .bool ((((((t1 && (decide (0 ≤ a0.A))) && (decide (a0.A < a1))) && (decide (0 ≤ a0.B))) && (decide (a0.B < a1))) && (a0.A != a0.B)) && (decide ((-86400000) ≤ a0.Lo))) ∧ Inv w0 w [boxI b1 39 [(.int .i64 a0.At), (.int .i64 a0.A), (.int .i64 a0.B), (.int .i64 a0.Lo), (.int .i64 a0.Hi)]]) ?_ ?_
      ·
       rcases bool_ft (((((t1 && (decide (0 ≤ a0.A))) && (decide (a0.A < a1))) && (decide (0 ≤ a0.B))) && (decide (a0.B < a1))) && (a0.A != a0.B)) with hc6 | hc6
       ·
        refine WL.reset (i := 37) (v := .bool false) (congrArg Value.bool hc6) ?_
        refine O.skip rfl rfl ?_
        refine O.skip rfl rfl ?_
        refine O.skip rfl rfl ?_
        refine O.pick_false (v := (.bool false)) rfl rfl rfl rfl ?_
        exact WL.nil ⟨rfl, congrArg Value.bool (and_f hc6), H⟩
       ·
        refine WL.reset (i := 37) (v := .bool true) (congrArg Value.bool hc6) ?_
        refine O.fieldAddr fd39_3 rfl rfl rfl ?_
        refine O.load sc3 rfl rfl rfl (H.cell 0 rfl 3 _ rfl) ?_
        refine O.leq rfl rfl rfl rfl ?_
        refine O.pick_true (v := (.bool (decide ((-86400000) ≤ a0.Lo)))) rfl rfl rfl rfl ?_
        exact WL.nil ⟨rfl, congrArg Value.bool (and_t hc6), H⟩
      ·
       rintro f w ⟨hf2, hf41, H⟩
       obtain ⟨u6, rfl⟩ := up2 hf2 hf41
       refine O.move (v := (.bool ((((((t1 && (decide (0 ≤ a0.A))) && (decide (a0.A < a1))) && (decide (0 ≤ a0.B))) && (decide (a0.B < a1))) && (a0.A != a0.B)) && (decide ((-86400000) ≤ a0.Lo))))) rfl rfl rfl ?_
       refine WL.cut 6 (fun f w => f 2 = (.pointer (some ⟨b1, 0, none⟩)) ∧ f 48 = .bool (((((((t1 && (decide (0 ≤ a0.A))) && (decide (a0.A < a1))) && (decide (0 ≤ a0.B))) && (decide (a0.B < a1))) && (a0.A != a0.B)) && (decide ((-86400000) ≤ a0.Lo))) && (decide (a0.Lo ≤ a0.Hi))) ∧ Inv w0 w [boxI b1 39 [(.int .i64 a0.At), (.int .i64 a0.A), (.int .i64 a0.B), (.int .i64 a0.Lo), (.int .i64 a0.Hi)]]) ?_ ?_
       ·
        rcases bool_ft ((((((t1 && (decide (0 ≤ a0.A))) && (decide (a0.A < a1))) && (decide (0 ≤ a0.B))) && (decide (a0.B < a1))) && (a0.A != a0.B)) && (decide ((-86400000) ≤ a0.Lo))) with hc7 | hc7
        ·
         refine WL.reset (i := 42) (v := .bool false) (congrArg Value.bool hc7) ?_
         refine O.skip rfl rfl ?_
         refine O.skip rfl rfl ?_
         refine O.skip rfl rfl ?_
         refine O.skip rfl rfl ?_
         refine O.skip rfl rfl ?_
         refine O.pick_false (v := (.bool false)) rfl rfl rfl rfl ?_
         exact WL.nil ⟨rfl, congrArg Value.bool (and_f hc7), H⟩
        ·
         refine WL.reset (i := 42) (v := .bool true) (congrArg Value.bool hc7) ?_
         refine O.fieldAddr fd39_3 rfl rfl rfl ?_
         refine O.load sc3 rfl rfl rfl (H.cell 0 rfl 3 _ rfl) ?_
         refine O.fieldAddr fd39_4 rfl rfl rfl ?_
         refine O.load sc3 rfl rfl rfl (H.cell 0 rfl 4 _ rfl) ?_
         refine O.leq rfl rfl rfl rfl ?_
         refine O.pick_true (v := (.bool (decide (a0.Lo ≤ a0.Hi)))) rfl rfl rfl rfl ?_
         exact WL.nil ⟨rfl, congrArg Value.bool (and_t hc7), H⟩
       ·
        rintro f w ⟨hf2, hf48, H⟩
        obtain ⟨u7, rfl⟩ := up2 hf2 hf48
        refine O.move (v := (.bool (((((((t1 && (decide (0 ≤ a0.A))) && (decide (a0.A < a1))) && (decide (0 ≤ a0.B))) && (decide (a0.B < a1))) && (a0.A != a0.B)) && (decide ((-86400000) ≤ a0.Lo))) && (decide (a0.Lo ≤ a0.Hi))))) rfl rfl rfl ?_
        refine WL.cut 4 (fun f w => f 53 = .bool ((((((((t1 && (decide (0 ≤ a0.A))) && (decide (a0.A < a1))) && (decide (0 ≤ a0.B))) && (decide (a0.B < a1))) && (a0.A != a0.B)) && (decide ((-86400000) ≤ a0.Lo))) && (decide (a0.Lo ≤ a0.Hi))) && (decide (a0.Hi ≤ 86400000))) ∧ Inv w0 w [boxI b1 39 [(.int .i64 a0.At), (.int .i64 a0.A), (.int .i64 a0.B), (.int .i64 a0.Lo), (.int .i64 a0.Hi)]]) ?_ ?_
        ·
         rcases bool_ft (((((((t1 && (decide (0 ≤ a0.A))) && (decide (a0.A < a1))) && (decide (0 ≤ a0.B))) && (decide (a0.B < a1))) && (a0.A != a0.B)) && (decide ((-86400000) ≤ a0.Lo))) && (decide (a0.Lo ≤ a0.Hi))) with hc8 | hc8
         ·
          refine WL.reset (i := 49) (v := .bool false) (congrArg Value.bool hc8) ?_
          refine O.skip rfl rfl ?_
          refine O.skip rfl rfl ?_
          refine O.skip rfl rfl ?_
          refine O.pick_false (v := (.bool false)) rfl rfl rfl rfl ?_
          exact WL.nil ⟨congrArg Value.bool (and_f hc8), H⟩
         ·
          refine WL.reset (i := 49) (v := .bool true) (congrArg Value.bool hc8) ?_
          refine O.fieldAddr fd39_4 rfl rfl rfl ?_
          refine O.load sc3 rfl rfl rfl (H.cell 0 rfl 4 _ rfl) ?_
          refine O.leq rfl rfl rfl rfl ?_
          refine O.pick_true (v := (.bool (decide (a0.Hi ≤ 86400000)))) rfl rfl rfl rfl ?_
          exact WL.nil ⟨congrArg Value.bool (and_t hc8), H⟩
        ·
         rintro f w ⟨hf53, H⟩
         obtain ⟨u8, rfl⟩ := up1 hf53
         refine O.assign (v := (.bool ((((((((t1 && (decide (0 ≤ a0.A))) && (decide (a0.A < a1))) && (decide (0 ≤ a0.B))) && (decide (a0.B < a1))) && (a0.A != a0.B)) && (decide ((-86400000) ≤ a0.Lo))) && (decide (a0.Lo ≤ a0.Hi))) && (decide (a0.Hi ≤ 86400000))))) rfl rfl rfl ?_
         refine WL.nil ?_
         refine W.ret ?_
         have hq : ((((((((t1 && (decide (0 ≤ a0.A))) && (decide (a0.A < a1))) && (decide (0 ≤ a0.B))) && (decide (a0.B < a1))) && (a0.A != a0.B)) && (decide ((-86400000) ≤ a0.Lo))) && (decide (a0.Lo ≤ a0.Hi))) && (decide (a0.Hi ≤ 86400000))) = r0 := Option.some.inj (show some ((((((((t1 && (decide (0 ≤ a0.A))) && (decide (a0.A < a1))) && (decide (0 ≤ a0.B))) && (decide (a0.B < a1))) && (a0.A != a0.B)) && (decide ((-86400000) ≤ a0.Lo))) && (decide (a0.Lo ≤ a0.Hi))) && (decide (a0.Hi ≤ 86400000))) = some r0 from hm)
         subst hq
         exact ends1 Try.results60 rfl ⟨_, rfl, H.base, rfl⟩

set_option maxRecDepth 20000 in
theorem c_noongunref02_Valid {w0 : World} (va0_0 : Value) (va0_1 : Value) (a0 : GNet) (ha0_0 : SliceR w0 va0_0 a0.Rates) (ha0_1 : SliceR w0 va0_1 a0.Sights) {r0 : Bool} (hm : noongunref02_Valid a0 = some r0) :
  Calls Try.prog 18 #[(.agg #[va0_0, va0_1])] w0 (Ret w0 fun _ v => v = (.bool r0)) := by
 unfold noongunref02_Valid at hm
 refine calls_of_W Try.func18 rfl Try.ntmps18 (Nat.le_of_ble_eq_true rfl) ?_
 have H := Inv.start (w := w0)
 refine W.seq ?_
 refine W.region ?_
 refine O.box [va0_0, va0_1] H rfl rfl rfl rfl ?_
 intro b1 w1 H hb1
 refine O.assign (v := (.bool false)) rfl rfl rfl ?_
 refine WL.nil ?_
 refine W.seq ?_
 refine W.seq ?_
 refine W.region ?_
 refine O.fieldAddr fd25_0 rfl rfl rfl ?_
 refine O.load sc22 rfl rfl rfl (H.cell 0 rfl 0 _ rfl) ?_
 refine O.lenS Try.underlying22 (H.arg ha0_0) rfl rfl rfl ?_
 obtain ⟨t1, hy1, hm⟩ := bind_some hm
 refine O.call Try.call59 rfl rfl rfl (c_noongunref02_within _ _ _ hy1) ?_
 rintro _ w2 hb2 rfl
 have H := H.ext hb2
 refine O.not rfl rfl rfl ?_
 refine O.move (v := (.bool (!t1))) rfl rfl rfl ?_
 obtain ⟨b2, hm1, hm⟩ := bind_some hm
 refine WL.cut 6 (fun f w => f 1 = (.pointer (some ⟨b1, 0, none⟩)) ∧ f 18 = .bool b2 ∧ Inv w0 w [boxI b1 25 [va0_0, va0_1]]) ?_ ?_
 ·
  rcases ite_some hm1 with ⟨hc1, hm1⟩ | ⟨hc1, hm1⟩
  ·
   refine WL.reset (i := 12) (v := .bool true) (congrArg Value.bool hc1) ?_
   refine O.skip rfl rfl ?_
   refine O.skip rfl rfl ?_
   refine O.skip rfl rfl ?_
   refine O.skip rfl rfl ?_
   refine O.skip rfl rfl ?_
   refine O.pick_true (v := (.bool true)) rfl rfl rfl rfl ?_
   refine WL.nil ?_
   have hq : true = b2 := Option.some.inj (show some true = some b2 from hm1)
   subst hq
   exact ⟨rfl, rfl, H⟩
  ·
   refine WL.reset (i := 12) (v := .bool false) (congrArg Value.bool hc1) ?_
   refine O.fieldAddr fd25_0 rfl rfl rfl ?_
   refine O.load sc22 rfl rfl rfl (H.cell 0 rfl 0 _ rfl) ?_
   obtain ⟨x1, hx1, hm1⟩ := bind_some hm1
   obtain ⟨p1, hp1, hrp1⟩ := fix_indexAddr Try.underlying22 sz3 ha0_0 hx1
   refine hrp1 rfl rfl rfl rfl ?_
   refine O.load sc3 rfl rfl rfl ((hp1.mono H.base).flat 0 _ rfl) ?_
   refine O.neq rfl rfl rfl rfl ?_
   refine O.pick_false (v := (.bool (x1 != 0))) rfl rfl rfl rfl ?_
   refine WL.nil ?_
   have hq : (x1 != 0) = b2 := Option.some.inj (show some (x1 != 0) = some b2 from hm1)
   subst hq
   exact ⟨rfl, rfl, H⟩
 ·
  rintro f w ⟨hf1, hf18, H⟩
  obtain ⟨u1, rfl⟩ := up2 hf1 hf18
  refine O.move (v := (.bool b2)) rfl rfl rfl ?_
  refine WL.cut 5 (fun f w => f 1 = (.pointer (some ⟨b1, 0, none⟩)) ∧ f 24 = .bool (b2 || (decide (30 < ((a0.Sights.length : Nat) : Int)))) ∧ Inv w0 w [boxI b1 25 [va0_0, va0_1]]) ?_ ?_
  ·
   rcases bool_ft b2 with hc2 | hc2
   ·
    refine WL.reset (i := 19) (v := .bool false) (congrArg Value.bool hc2) ?_
    refine O.fieldAddr fd25_1 rfl rfl rfl ?_
    refine O.load sc23 rfl rfl rfl (H.cell 0 rfl 1 _ rfl) ?_
    refine O.lenS Try.underlying23 (H.arg ha0_1) rfl rfl rfl ?_
    refine O.gtr rfl rfl rfl rfl ?_
    refine O.pick_false (v := (.bool (decide (30 < ((a0.Sights.length : Nat) : Int))))) rfl rfl rfl rfl ?_
    exact WL.nil ⟨rfl, congrArg Value.bool (or_f hc2), H⟩
   ·
    refine WL.reset (i := 19) (v := .bool true) (congrArg Value.bool hc2) ?_
    refine O.skip rfl rfl ?_
    refine O.skip rfl rfl ?_
    refine O.skip rfl rfl ?_
    refine O.skip rfl rfl ?_
    refine O.pick_true (v := (.bool true)) rfl rfl rfl rfl ?_
    exact WL.nil ⟨rfl, congrArg Value.bool (or_t hc2), H⟩
  ·
   rintro f w ⟨hf1, hf24, H⟩
   obtain ⟨u2, rfl⟩ := up2 hf1 hf24
   refine WL.nil ?_
   rcases ite_some hm with ⟨hc3, hm⟩ | ⟨hc3, hm⟩
   ·
    refine W.cond_true (congrArg Value.bool hc3) ?_
    refine W.seq ?_
    refine W.region ?_
    refine O.assign (v := (.bool false)) rfl rfl rfl ?_
    refine WL.nil ?_
    refine W.ret ?_
    have hq : false = r0 := Option.some.inj (show some false = some r0 from hm)
    subst hq
    exact ends1 Try.results18 rfl ⟨_, rfl, H.base, rfl⟩
   ·
    refine W.cond_false (congrArg Value.bool hc3) ?_
    refine W.skip ?_
    refine W.seq ?_
    refine W.seq ?_
    refine W.region ?_
    refine O.fieldAddr fd25_0 rfl rfl rfl ?_
    refine O.load sc22 rfl rfl rfl (H.cell 0 rfl 0 _ rfl) ?_
    refine O.lenS Try.underlying22 (H.arg ha0_0) rfl rfl rfl ?_
    refine O.move (v := (.int .i64 0)) rfl rfl rfl ?_
    refine WL.nil ?_
    obtain ⟨o1, hm2, hm⟩ := bind_some hm
    refine W.via (fun f w => o1 = .next () ∧ f 1 = (.pointer (some ⟨b1, 0, none⟩)) ∧ Inv w0 w [boxI b1 25 [va0_0, va0_1]]) ?_ ?_
    ·
     refine W.block ?_
     refine W.rangeL (i := 0) hm2 (fun rem ik1 s f w => () = s ∧ a0.Rates.drop ik1 = rem ∧ f 28 = .int .i64 (ik1 : Int) ∧ f 27 = (.int .i64 ((a0.Rates.length : Nat) : Int)) ∧ f 1 = (.pointer (some ⟨b1, 0, none⟩)) ∧ f 26 = va0_0 ∧ Inv w0 w [boxI b1 25 [va0_0, va0_1]]) ?_ ?_ ?_
     ·
      exact ⟨rfl, List.drop_zero, rfl, rfl, rfl, rfl, H⟩
     ·
      rintro yk1 xs ik1 _ st f w ⟨rfl, hdropk1, hf28, hf27, hf1, hf26, H⟩ hm3
      have hltk1 := drop_lt hdropk1; have hixk1 := drop_idx hdropk1
      obtain ⟨u3, rfl⟩ := up4 hf28 hf27 hf1 hf26
      have hinck1 := addI_lt hltk1 (H.arg ha0_0).len_le
      refine W.seq ?_
      refine W.region ?_
      refine O.lss rfl rfl rfl rfl ?_
      refine WL.nil ?_
      refine W.seq ?_
      refine W.cond_true (congrArg Value.bool (decide_eq_true hltk1)) ?_
      refine W.skip ?_
      refine W.seq ?_
      refine W.block ?_
      refine W.seq ?_
      refine W.region ?_
      obtain ⟨p2, hp2, hrp2⟩ := fix_indexAddr Try.underlying22 sz3 ha0_0 hixk1
      refine hrp2 rfl rfl rfl rfl ?_
      refine O.load sc3 rfl rfl rfl ((hp2.mono H.base).flat 0 _ rfl) ?_
      refine O.assign (v := (.int .i64 yk1)) rfl rfl rfl ?_
      refine WL.nil ?_
      refine W.seq ?_
      refine W.region ?_
      refine O.move (v := (.int .i64 yk1)) rfl rfl rfl ?_
      obtain ⟨t2, hy2, hm3⟩ := bind_some hm3
      refine O.call Try.call59 rfl rfl rfl (c_noongunref02_within _ _ _ hy2) ?_
      rintro _ w3 hb3 rfl
      have H := H.ext hb3
      refine O.not rfl rfl rfl ?_
      refine WL.nil ?_
      rcases ite_some hm3 with ⟨hc4, hm3⟩ | ⟨hc4, hm3⟩
      ·
       refine W.cond_true (congrArg Value.bool hc4) ?_
       refine W.seq ?_
       refine W.region ?_
       refine O.assign (v := (.bool false)) rfl rfl rfl ?_
       refine WL.nil ?_
       refine W.ret ?_
       obtain rfl := Option.some.inj hm3
       refine ⟨_, rfl, ?_⟩
       rintro rfl
       have hq : false = r0 := Option.some.inj (show some false = some r0 from hm)
       subst hq
       exact ends1 Try.results18 rfl ⟨_, rfl, H.base, rfl⟩
      ·
       refine W.cond_false (congrArg Value.bool hc4) ?_
       refine W.skip ?_
       refine W.region ?_
       refine O.add rfl rfl rfl rfl hinck1 ?_
       refine O.move (v := .int .i64 ((ik1 : Int) + 1)) rfl rfl rfl ?_
       refine WL.nil ?_
       obtain rfl := Option.some.inj hm3
       exact ⟨_, rfl, rfl, drop_next hdropk1, rfl, rfl, rfl, rfl, H⟩
     ·
      rintro ik1 _ f w ⟨rfl, hdropk1, hf28, hf27, hf1, hf26, H⟩ hfin
      have hltk1 := drop_end hdropk1
      obtain ⟨u4, rfl⟩ := up4 hf28 hf27 hf1 hf26
      refine W.seq ?_
      refine W.region ?_
      refine O.lss rfl rfl rfl rfl ?_
      refine WL.nil ?_
      refine W.seq ?_
      refine W.cond_false (congrArg Value.bool (decide_eq_false hltk1)) ?_
      refine W.exit ?_
      obtain rfl : Ctl.next () = o1 := hfin
      refine xT rfl ?_
      exact ⟨rfl, rfl, H⟩
    ·
     rintro f w ⟨rfl, hf1, H⟩
     obtain ⟨u5, rfl⟩ := up1 hf1
     refine W.seq ?_
     refine W.seq ?_
     refine W.region ?_
     refine O.fieldAddr fd25_1 rfl rfl rfl ?_
     refine O.load sc23 rfl rfl rfl (H.cell 0 rfl 1 _ rfl) ?_
     refine O.lenS Try.underlying23 (H.arg ha0_1) rfl rfl rfl ?_
     refine O.move (v := (.int .i64 0)) rfl rfl rfl ?_
     refine WL.nil ?_
     obtain ⟨o2, hm4, hm⟩ := bind_some hm
     refine W.via (fun f w => o2 = .next () ∧ Inv w0 w []) ?_ ?_
     ·
      refine W.block ?_
      refine W.rangeL (i := 0) hm4 (fun rem ik2 s f w => () = s ∧ a0.Sights.drop ik2 = rem ∧ f 39 = .int .i64 (ik2 : Int) ∧ f 38 = (.int .i64 ((a0.Sights.length : Nat) : Int)) ∧ f 1 = (.pointer (some ⟨b1, 0, none⟩)) ∧ f 37 = va0_1 ∧ Inv w0 w [boxI b1 25 [va0_0, va0_1]]) ?_ ?_ ?_
      ·
       exact ⟨rfl, List.drop_zero, rfl, rfl, rfl, rfl, H⟩
      ·
       rintro yk2 xs ik2 _ st f w ⟨rfl, hdropk2, hf39, hf38, hf1, hf37, H⟩ hm5
       have hltk2 := drop_lt hdropk2; have hixk2 := drop_idx hdropk2
       obtain ⟨u6, rfl⟩ := up4 hf39 hf38 hf1 hf37
       have hinck2 := addI_lt hltk2 (H.arg ha0_1).len_le
       refine W.seq ?_
       refine W.region ?_
       refine O.lss rfl rfl rfl rfl ?_
       refine WL.nil ?_
       refine W.seq ?_
       refine W.cond_true (congrArg Value.bool (decide_eq_true hltk2)) ?_
       refine W.skip ?_
       refine W.seq ?_
       refine W.block ?_
       refine W.seq ?_
       refine W.region ?_
       obtain ⟨p3, hp3, hrp3⟩ := fix_indexAddr Try.underlying23 sz39 ha0_1 hixk2
       refine hrp3 rfl rfl rfl rfl ?_
       refine O.loadA [(.int .i64 yk2.At), (.int .i64 yk2.A), (.int .i64 yk2.B), (.int .i64 yk2.Lo), (.int .i64 yk2.Hi)] ag39 rfl rfl rfl rfl ((hp3.mono H.base).flat) ?_
       refine O.alloc [(.int .i64 0), (.int .i64 0), (.int .i64 0), (.int .i64 0), (.int .i64 0)] ze39 H rfl rfl rfl ?_
       intro b3 w4 H hb4
       refine O.store 1 0 [(.int .i64 yk2.At), (.int .i64 yk2.A), (.int .i64 yk2.B), (.int .i64 yk2.Lo), (.int .i64 yk2.Hi)] [(.int .i64 yk2.At), (.int .i64 yk2.A), (.int .i64 yk2.B), (.int .i64 yk2.Lo), (.int .i64 yk2.Hi)] sz39 H rfl rfl rfl rfl rfl rfl ⟨⟨rfl, rfl⟩, rfl⟩ (one_cons rfl (one_cons rfl (one_cons rfl (one_cons rfl (one_cons rfl one_nil))))) ?_
       intro w5 H
       refine WL.nil ?_
       refine W.seq ?_
       refine W.region ?_
       refine O.loadA [(.int .i64 yk2.At), (.int .i64 yk2.A), (.int .i64 yk2.B), (.int .i64 yk2.Lo), (.int .i64 yk2.Hi)] ag39 rfl rfl rfl rfl (H.cell 1 rfl) ?_
       refine O.fieldAddr fd25_0 rfl rfl rfl ?_
       refine O.load sc22 rfl rfl rfl (H.cell 0 rfl 0 _ rfl) ?_
       refine O.lenS Try.underlying22 (H.arg ha0_0) rfl rfl rfl ?_
       obtain ⟨t3, hy3, hm5⟩ := bind_some hm5
       refine O.call Try.call60 rfl rfl rfl (c_noongunref02_ValidSight yk2 _ hy3) ?_
       rintro _ w6 hb5 rfl
       have H := H.ext hb5
       refine O.not rfl rfl rfl ?_
       refine WL.nil ?_
       rcases ite_some hm5 with ⟨hc5, hm5⟩ | ⟨hc5, hm5⟩
       ·
        refine W.cond_true (congrArg Value.bool hc5) ?_
        refine W.seq ?_
        refine W.region ?_
        refine O.assign (v := (.bool false)) rfl rfl rfl ?_
        refine WL.nil ?_
        refine W.ret ?_
        obtain rfl := Option.some.inj hm5
        refine ⟨_, rfl, ?_⟩
        rintro rfl
        have hq : false = r0 := Option.some.inj (show some false = some r0 from hm)
        subst hq
        exact ends1 Try.results18 rfl ⟨_, rfl, H.base, rfl⟩
       ·
        refine W.cond_false (congrArg Value.bool hc5) ?_
        refine W.skip ?_
        refine W.region ?_
        refine O.add rfl rfl rfl rfl hinck2 ?_
        refine O.move (v := .int .i64 ((ik2 : Int) + 1)) rfl rfl rfl ?_
        refine WL.nil ?_
        have H := H.keep [0] [boxI b1 25 [va0_0, va0_1]] rfl (by decide)
        obtain rfl := Option.some.inj hm5
        exact ⟨_, rfl, rfl, drop_next hdropk2, rfl, rfl, rfl, rfl, H⟩
      ·
       rintro ik2 _ f w ⟨rfl, hdropk2, hf39, hf38, hf1, hf37, H⟩ hfin
       have hltk2 := drop_end hdropk2
       obtain ⟨u7, rfl⟩ := up4 hf39 hf38 hf1 hf37
       refine W.seq ?_
       refine W.region ?_
       refine O.lss rfl rfl rfl rfl ?_
       refine WL.nil ?_
       refine W.seq ?_
       refine W.cond_false (congrArg Value.bool (decide_eq_false hltk2)) ?_
       refine W.exit ?_
       obtain rfl : Ctl.next () = o2 := hfin
       have H := H.keep [] [] rfl (by decide)
       refine xT rfl ?_
       exact ⟨rfl, H⟩
     ·
      rintro f w ⟨rfl, H⟩
      refine W.seq ?_
      refine W.region ?_
      refine O.assign (v := (.bool true)) rfl rfl rfl ?_
      refine WL.nil ?_
      refine W.ret ?_
      have hq : true = r0 := Option.some.inj (show some true = some r0 from hm)
      subst hq
      exact ends1 Try.results18 rfl ⟨_, rfl, H.base, rfl⟩

set_option maxRecDepth 20000 in
theorem c_noongunref02_without {w0 : World} (va0_0 : Value) (va0_1 : Value) (a0 : GNet) (ha0_0 : SliceR w0 va0_0 a0.Rates) (ha0_1 : SliceR w0 va0_1 a0.Sights) (a1 : Int) {r0 : GNet} (hm : noongunref02_without a0 a1 = some r0) :
  Calls Try.prog 82 #[(.agg #[va0_0, va0_1]), (.int .i64 a1)] w0 (Ret w0 fun w v => ∃ vr0_0 : Value, ∃ vr0_1 : Value, v = (.agg #[vr0_0, vr0_1]) ∧ Inv w0 w [ownI (α := Int) vr0_0 3 r0.Rates, ownI (α := GSight) vr0_1 39 r0.Sights]) := by
 unfold noongunref02_without at hm
 refine calls_of_W Try.func82 rfl Try.ntmps82 (Nat.le_of_ble_eq_true rfl) ?_
 have H := Inv.start (w := w0)
 refine W.seq ?_
 refine W.region ?_
 refine O.box [va0_0, va0_1] H rfl rfl rfl rfl ?_
 intro b1 w1 H hb1
 refine O.alloc [(.slice none 0 0), (.slice none 0 0)] ze25 H rfl rfl rfl ?_
 intro b2 w2 H hb2
 have H := H.addNil (α := Int) (E := 3)
 have H := H.addNil (α := GSight) (E := 39)
 refine WL.nil ?_
 refine W.seq ?_
 refine W.region ?_
 refine O.buildEmpty (α := Int) Try.underlying22 el3 H rfl rfl ?_
 intro b3 w3 H hb3
 refine O.fieldAddr fd25_0 rfl rfl rfl ?_
 refine O.load sc22 rfl rfl rfl (H.cell 0 rfl 0 _ rfl) ?_
 obtain ⟨t1, ht1, hm⟩ := bind_some hm
 refine O.append 4 Try.underlying22 el3 rfl H rfl (H.arg ha0_0) ht1 rfl rfl rfl rfl ?_
 intro v1 w4 H
 obtain ⟨ad1, cap1, hvad1, _⟩ := (H.own 4 rfl).shape
 refine O.build (v := (.agg #[v1, (.slice none 0 0)])) (fun w => by rw [hvad1]; exact bd25_0 _ _ _ w) rfl rfl rfl ?_
 refine O.alloc [(.slice none 0 0), (.slice none 0 0)] ze25 H rfl rfl rfl ?_
 intro b4 w5 H hb4
 have H := H.addNil (α := Int) (E := 3)
 have H := H.addNil (α := GSight) (E := 39)
 have H := H.addNil (α := GSight) (E := 39)
 refine O.store 5 0 [v1, (.slice none 0 0)] [v1, (.slice none 0 0)] sz25 H rfl rfl rfl rfl rfl rfl ⟨⟨rfl, rfl⟩, rfl⟩ (one_cons (SliceR.one (H.own 4 rfl)) (one_cons rfl one_nil)) ?_
 intro w6 H
 refine WL.nil ?_
 refine W.seq ?_
 refine W.seq ?_
 refine W.region ?_
 refine O.fieldAddr fd25_1 rfl rfl rfl ?_
 refine O.load sc23 rfl rfl rfl (H.cell 0 rfl 1 _ rfl) ?_
 refine O.lenS Try.underlying23 (H.arg ha0_1) rfl rfl rfl ?_
 refine O.move (v := (.int .i64 0)) rfl rfl rfl ?_
 refine WL.nil ?_
 obtain ⟨s1, hm1, hm⟩ := bind_some hm
 refine W.via (fun f w => ∃ v5 : Value, f 4 = (.pointer (some ⟨b2, 0, none⟩)) ∧ f 5 = (.pointer (some ⟨b4, 0, none⟩)) ∧ Inv w0 w [boxI b2 25 [(.slice none 0 0), (.slice none 0 0)], ownI (α := Int) (.slice none 0 0) 3 ([] : List Int), ownI (α := GSight) (.slice none 0 0) 39 ([] : List GSight), ownI (α := Int) v1 3 t1, boxI b4 25 [v1, v5], ownI (α := GSight) v5 39 s1]) ?_ ?_
 ·
  refine W.block ?_
  have hbdik1 := (H.arg ha0_1).len_le
  have H := H.keep [1, 2, 3, 4, 5, 8] [boxI b2 25 [(.slice none 0 0), (.slice none 0 0)], ownI (α := Int) (.slice none 0 0) 3 ([] : List Int), ownI (α := GSight) (.slice none 0 0) 39 ([] : List GSight), ownI (α := Int) v1 3 t1, boxI b4 25 [v1, (.slice none 0 0)], ownI (α := GSight) (.slice none 0 0) 39 ([] : List GSight)] rfl (by decide)
  refine W.rangeN (i := 0) hm1 (fun rem ik1 s f w => ∃ z2 : (List GSight), ∃ v3 : Value, z2 = s ∧ (ik1 : Int) + rem = max 0 ((a0.Sights.length : Nat) : Int) ∧ f 16 = .int .i64 (ik1 : Int) ∧ f 15 = (.int .i64 ((a0.Sights.length : Nat) : Int)) ∧ f 1 = (.int .i64 a1) ∧ f 4 = (.pointer (some ⟨b2, 0, none⟩)) ∧ f 5 = (.pointer (some ⟨b4, 0, none⟩)) ∧ f 14 = va0_1 ∧ Inv w0 w [boxI b2 25 [(.slice none 0 0), (.slice none 0 0)], ownI (α := Int) (.slice none 0 0) 3 ([] : List Int), ownI (α := GSight) (.slice none 0 0) 39 ([] : List GSight), ownI (α := Int) v1 3 t1, boxI b4 25 [v1, v3], ownI (α := GSight) v3 39 z2]) ?_ ?_ ?_
  ·
   exact ⟨_, (.slice none 0 0), rfl, rangeN_start, rfl, rfl, rfl, rfl, rfl, rfl, H⟩
  ·
   rintro k ik1 _ st f w ⟨z2, v3, rfl, hdropk1, hf16, hf15, hf1, hf4, hf5, hf14, H⟩ hm2
   have hltk1 := rangeN_lt hdropk1
   obtain ⟨u1, rfl⟩ := up6 hf16 hf15 hf1 hf4 hf5 hf14
   have hinck1 := addI_lt hltk1 hbdik1
   refine W.seq ?_
   refine W.region ?_
   refine O.lss rfl rfl rfl rfl ?_
   refine WL.nil ?_
   refine W.seq ?_
   refine W.cond_true (congrArg Value.bool (decide_eq_true hltk1)) ?_
   refine W.skip ?_
   refine W.seq ?_
   obtain ⟨s2, hm3, hm2⟩ := bind_some hm2
   refine W.via (fun f w => ∃ v6 : Value, f 1 = (.int .i64 a1) ∧ f 4 = (.pointer (some ⟨b2, 0, none⟩)) ∧ f 5 = (.pointer (some ⟨b4, 0, none⟩)) ∧ f 14 = va0_1 ∧ f 15 = (.int .i64 ((a0.Sights.length : Nat) : Int)) ∧ f 16 = (.int .i64 (ik1 : Int)) ∧ Inv w0 w [boxI b2 25 [(.slice none 0 0), (.slice none 0 0)], ownI (α := Int) (.slice none 0 0) 3 ([] : List Int), ownI (α := GSight) (.slice none 0 0) 39 ([] : List GSight), ownI (α := Int) v1 3 t1, boxI b4 25 [v1, v6], ownI (α := GSight) v6 39 s2]) ?_ ?_
   ·
    refine W.block ?_
    refine W.seq ?_
    refine W.region ?_
    refine O.move (v := (.int .i64 (ik1 : Int))) rfl rfl rfl ?_
    obtain ⟨x1, hx1, hm3⟩ := bind_some hm3
    obtain ⟨p1, hp1, hrp1⟩ := fix_indexAddr Try.underlying23 sz39 ha0_1 hx1
    refine hrp1 rfl rfl rfl rfl ?_
    refine O.loadA [(.int .i64 x1.At), (.int .i64 x1.A), (.int .i64 x1.B), (.int .i64 x1.Lo), (.int .i64 x1.Hi)] ag39 rfl rfl rfl rfl ((hp1.mono H.base).flat) ?_
    refine O.alloc [(.int .i64 0), (.int .i64 0), (.int .i64 0), (.int .i64 0), (.int .i64 0)] ze39 H rfl rfl rfl ?_
    intro b5 w7 H hb5
    refine O.assign (v := (.int .i64 (ik1 : Int))) rfl rfl rfl ?_
    refine O.store 6 0 [(.int .i64 x1.At), (.int .i64 x1.A), (.int .i64 x1.B), (.int .i64 x1.Lo), (.int .i64 x1.Hi)] [(.int .i64 x1.At), (.int .i64 x1.A), (.int .i64 x1.B), (.int .i64 x1.Lo), (.int .i64 x1.Hi)] sz39 H rfl rfl rfl rfl rfl rfl ⟨⟨rfl, rfl⟩, rfl⟩ (one_cons rfl (one_cons rfl (one_cons rfl (one_cons rfl (one_cons rfl one_nil))))) ?_
    intro w8 H
    refine WL.nil ?_
    refine W.seq ?_
    refine W.region ?_
    refine O.move (v := (.int .i64 (ik1 : Int))) rfl rfl rfl ?_
    refine O.move (v := (.int .i64 a1)) rfl rfl rfl ?_
    refine O.neq rfl rfl rfl rfl ?_
    refine WL.nil ?_
    obtain ⟨s3, hm4, hm3⟩ := bind_some hm3
    refine W.via (fun f w => ∃ v7 : Value, f 1 = (.int .i64 a1) ∧ f 4 = (.pointer (some ⟨b2, 0, none⟩)) ∧ f 5 = (.pointer (some ⟨b4, 0, none⟩)) ∧ f 14 = va0_1 ∧ f 15 = (.int .i64 ((a0.Sights.length : Nat) : Int)) ∧ f 16 = (.int .i64 (ik1 : Int)) ∧ Inv w0 w [boxI b2 25 [(.slice none 0 0), (.slice none 0 0)], ownI (α := Int) (.slice none 0 0) 3 ([] : List Int), ownI (α := GSight) (.slice none 0 0) 39 ([] : List GSight), ownI (α := Int) v1 3 t1, boxI b4 25 [v1, v7], ownI (α := GSight) v7 39 s3]) ?_ ?_
    ·
     rcases ite_some hm4 with ⟨hc1, hm4⟩ | ⟨hc1, hm4⟩
     ·
      refine W.cond_true (congrArg Value.bool hc1) ?_
      refine W.region ?_
      refine O.fieldAddr fd25_1 rfl rfl rfl ?_
      refine O.load sc23 rfl rfl rfl (H.cell 4 rfl 1 _ rfl) ?_
      refine O.loadA [(.int .i64 x1.At), (.int .i64 x1.A), (.int .i64 x1.B), (.int .i64 x1.Lo), (.int .i64 x1.Hi)] ag39 rfl rfl rfl rfl (H.cell 6 rfl) ?_
      refine O.buildSlice (α := GSight) [(.agg (Flat.cells x1).toArray)] [x1] Try.underlying23 el39 H rfl rfl rfl rfl rfl rfl rfl ?_
      intro v8 w9 H hb6
      obtain ⟨t2, ht2, hm4⟩ := bind_some hm4
      refine O.append 5 Try.underlying23 el39 rfl H rfl (H.own 7 rfl) ht2 rfl rfl rfl rfl ?_
      intro v9 w10 H
      refine O.fieldAddr fd25_1 rfl rfl rfl ?_
      refine O.store 4 1 [v9] [v1, v9] sz23 H rfl rfl rfl rfl rfl (SliceR.cells1 (H.own 5 rfl)) ⟨⟨rfl, rfl⟩, rfl⟩ (one_cons (SliceR.one (H.own 5 rfl)) one_nil) ?_
      intro w11 H
      refine WL.nil ?_
      have H := H.keep [0, 1, 2, 3, 4, 5] [boxI b2 25 [(.slice none 0 0), (.slice none 0 0)], ownI (α := Int) (.slice none 0 0) 3 ([] : List Int), ownI (α := GSight) (.slice none 0 0) 39 ([] : List GSight), ownI (α := Int) v1 3 t1, boxI b4 25 [v1, v9], ownI (α := GSight) v9 39 t2] rfl (by decide)
      have hq : t2 = s3 := Option.some.inj (show some t2 = some s3 from hm4)
      subst hq
      exact ⟨v9, rfl, rfl, rfl, rfl, rfl, rfl, H⟩
     ·
      refine W.cond_false (congrArg Value.bool hc1) ?_
      refine W.skip ?_
      have H := H.keep [0, 1, 2, 3, 4, 5] [boxI b2 25 [(.slice none 0 0), (.slice none 0 0)], ownI (α := Int) (.slice none 0 0) 3 ([] : List Int), ownI (α := GSight) (.slice none 0 0) 39 ([] : List GSight), ownI (α := Int) v1 3 t1, boxI b4 25 [v1, v3], ownI (α := GSight) v3 39 z2] rfl (by decide)
      have hq : z2 = s3 := Option.some.inj (show some z2 = some s3 from hm4)
      subst hq
      exact ⟨v3, rfl, rfl, rfl, rfl, rfl, rfl, H⟩
    ·
     rintro f w ⟨v7, hf1, hf4, hf5, hf14, hf15, hf16, H⟩
     obtain ⟨u2, rfl⟩ := up6 hf1 hf4 hf5 hf14 hf15 hf16
     have hq : s3 = s2 := Option.some.inj (show some s3 = some s2 from hm3)
     subst hq
     exact ⟨v7, rfl, rfl, rfl, rfl, rfl, rfl, H⟩
   ·
    rintro f w ⟨v6, hf1, hf4, hf5, hf14, hf15, hf16, H⟩
    obtain ⟨u3, rfl⟩ := up6 hf1 hf4 hf5 hf14 hf15 hf16
    refine W.region ?_
    refine O.add rfl rfl rfl rfl hinck1 ?_
    refine O.move (v := .int .i64 ((ik1 : Int) + 1)) rfl rfl rfl ?_
    refine WL.nil ?_
    obtain rfl := Option.some.inj hm2
    exact ⟨_, rfl, _, v6, rfl, rangeN_next hdropk1, rfl, rfl, rfl, rfl, rfl, rfl, H⟩
  ·
   rintro ik1 _ f w ⟨z2, v3, rfl, hdropk1, hf16, hf15, hf1, hf4, hf5, hf14, H⟩ hfin
   have hltk1 := rangeN_end hdropk1
   obtain ⟨u4, rfl⟩ := up6 hf16 hf15 hf1 hf4 hf5 hf14
   refine W.seq ?_
   refine W.region ?_
   refine O.lss rfl rfl rfl rfl ?_
   refine WL.nil ?_
   refine W.seq ?_
   refine W.cond_false (congrArg Value.bool (decide_eq_false hltk1)) ?_
   refine W.exit ?_
   have hq : z2 = s1 := hfin
   subst hq
   refine xT rfl ?_
   exact ⟨v3, rfl, rfl, H⟩
 ·
  rintro f w ⟨v5, hf4, hf5, H⟩
  obtain ⟨u5, rfl⟩ := up2 hf4 hf5
  refine W.seq ?_
  refine W.region ?_
  refine O.loadA [v1, v5] ag25 rfl rfl rfl rfl (H.cell 4 rfl) ?_
  refine O.store 0 0 [v1, v5] [v1, v5] sz25 H rfl rfl rfl rfl rfl rfl ⟨⟨rfl, rfl⟩, rfl⟩ (one_cons (SliceR.one (H.own 3 rfl)) (one_cons (SliceR.one (H.own 5 rfl)) one_nil)) ?_
  intro w12 H
  refine WL.nil ?_
  refine W.ret ?_
  have hq : (GNet.mk t1 s1) = r0 := Option.some.inj (show some (GNet.mk t1 s1) = some r0 from hm)
  subst hq
  exact ends1 Try.results82 ⟨_, rfl, run_loadVar_agg ag25 rfl (H.cell 0 rfl)⟩ ⟨_, rfl, H.base, ⟨_, _, rfl, H.pick [3, 5] [ownI (α := Int) v1 3 t1, ownI (α := GSight) v5 39 s1] rfl (by decide)⟩⟩

theorem c_noongunref02_named {w0 : World} (va0_0 : Value) (va0_1 : Value) (a0 : GNet) (ha0_0 : SliceR w0 va0_0 a0.Rates) (ha0_1 : SliceR w0 va0_1 a0.Sights) (a1 : Int) {r0 : Bool} (hm : noongunref02_named a0 a1 = some r0) :
  Calls Try.prog 74 #[(.agg #[va0_0, va0_1]), (.int .i64 a1)] w0 (Ret w0 fun _ v => v = (.bool r0)) := by
 unfold noongunref02_named at hm
 refine calls_of_W Try.func74 rfl Try.ntmps74 (Nat.le_of_ble_eq_true rfl) ?_
 have H := Inv.start (w := w0)
 refine W.seq ?_
 refine W.region ?_
 refine O.box [va0_0, va0_1] H rfl rfl rfl rfl ?_
 intro b1 w1 H hb1
 refine O.assign (v := (.bool false)) rfl rfl rfl ?_
 refine WL.nil ?_
 refine W.seq ?_
 refine W.region ?_
 refine O.move (v := (.int .i64 a1)) rfl rfl rfl ?_
 refine O.geq rfl rfl rfl rfl ?_
 refine O.move (v := (.bool (decide (0 ≤ a1)))) rfl rfl rfl ?_
 refine WL.cut 6 (fun f w => f 13 = .bool ((decide (0 ≤ a1)) && (decide (a1 < ((a0.Rates.length : Nat) : Int)))) ∧ Inv w0 w [boxI b1 25 [va0_0, va0_1]]) ?_ ?_
 ·
  rcases bool_ft (decide (0 ≤ a1)) with hc1 | hc1
  ·
   refine WL.reset (i := 7) (v := .bool false) (congrArg Value.bool hc1) ?_
   refine O.skip rfl rfl ?_
   refine O.skip rfl rfl ?_
   refine O.skip rfl rfl ?_
   refine O.skip rfl rfl ?_
   refine O.skip rfl rfl ?_
   refine O.pick_false (v := (.bool false)) rfl rfl rfl rfl ?_
   exact WL.nil ⟨congrArg Value.bool (and_f hc1), H⟩
  ·
   refine WL.reset (i := 7) (v := .bool true) (congrArg Value.bool hc1) ?_
   refine O.move (v := (.int .i64 a1)) rfl rfl rfl ?_
   refine O.fieldAddr fd25_0 rfl rfl rfl ?_
   refine O.load sc22 rfl rfl rfl (H.cell 0 rfl 0 _ rfl) ?_
   refine O.lenS Try.underlying22 (H.arg ha0_0) rfl rfl rfl ?_
   refine O.lss rfl rfl rfl rfl ?_
   refine O.pick_true (v := (.bool (decide (a1 < ((a0.Rates.length : Nat) : Int))))) rfl rfl rfl rfl ?_
   exact WL.nil ⟨congrArg Value.bool (and_t hc1), H⟩
 ·
  rintro f w ⟨hf13, H⟩
  obtain ⟨u1, rfl⟩ := up1 hf13
  refine O.assign (v := (.bool ((decide (0 ≤ a1)) && (decide (a1 < ((a0.Rates.length : Nat) : Int)))))) rfl rfl rfl ?_
  refine WL.nil ?_
  refine W.ret ?_
  have hq : ((decide (0 ≤ a1)) && (decide (a1 < ((a0.Rates.length : Nat) : Int)))) = r0 := Option.some.inj (show some ((decide (0 ≤ a1)) && (decide (a1 < ((a0.Rates.length : Nat) : Int)))) = some r0 from hm)
  subst hq
  exact ends1 Try.results74 rfl ⟨_, rfl, H.base, rfl⟩

set_option maxRecDepth 20000 in
theorem c_noongunref02_asked {w0 : World} (va0_0 : Value) (va0_1 : Value) (a0 : GNet) (ha0_0 : SliceR w0 va0_0 a0.Rates) (ha0_1 : SliceR w0 va0_1 a0.Sights) (a1 : Int) (va2 : Value) (a2 : (List Int)) (ha2 : SliceR w0 va2 a2) {r0 : Int} (hm : noongunref02_asked a0 a1 a2 = some r0) :
  Calls Try.prog 61 #[(.agg #[va0_0, va0_1]), (.int .i64 a1), va2] w0 (Ret w0 fun _ v => v = (.int .i64 r0)) := by
 unfold noongunref02_asked at hm
 refine calls_of_W Try.func61 rfl Try.ntmps61 (Nat.le_of_ble_eq_true rfl) ?_
 have H := Inv.start (w := w0)
 refine W.seq ?_
 refine W.region ?_
 refine O.box [va0_0, va0_1] H rfl rfl rfl rfl ?_
 intro b1 w1 H hb1
 refine O.assign (v := (.int .i64 0)) rfl rfl rfl ?_
 refine WL.nil ?_
 refine W.seq ?_
 refine W.seq ?_
 refine W.region ?_
 refine O.loadA [va0_0, va0_1] ag25 rfl rfl rfl rfl (H.cell 0 rfl) ?_
 obtain ⟨t1, hy1, hm⟩ := bind_some hm
 refine O.call Try.call18 rfl rfl rfl (c_noongunref02_Valid _ _ (GNet.mk a0.Rates a0.Sights) (H.arg ha0_0) (H.arg ha0_1) hy1) ?_
 rintro _ w2 hb2 rfl
 have H := H.ext hb2
 refine O.not rfl rfl rfl ?_
 refine WL.nil ?_
 rcases ite_some hm with ⟨hc1, hm⟩ | ⟨hc1, hm⟩
 ·
  refine W.cond_true (congrArg Value.bool hc1) ?_
  refine W.seq ?_
  refine W.region ?_
  refine O.assign (v := (.int .i64 1)) rfl rfl rfl ?_
  refine WL.nil ?_
  refine W.ret ?_
  have hq : 1 = r0 := Option.some.inj (show some 1 = some r0 from hm)
  subst hq
  exact ends1 Try.results61 rfl ⟨_, rfl, H.base, rfl⟩
 ·
  refine W.cond_false (congrArg Value.bool hc1) ?_
  refine W.skip ?_
  refine W.seq ?_
  refine W.seq ?_
  refine W.region ?_
  refine O.move (v := va2) rfl rfl rfl ?_
  refine O.lenS Try.underlying22 (H.arg ha2) rfl rfl rfl ?_
  refine O.move (v := (.int .i64 0)) rfl rfl rfl ?_
  refine WL.nil ?_
  obtain ⟨o1, hm1, hm⟩ := bind_some hm
  refine W.via (fun f w => o1 = .next () ∧ f 1 = (.int .i64 a1) ∧ Inv w0 w []) ?_ ?_
  ·
   refine W.block ?_
   refine W.rangeL (i := 0) hm1 (fun rem ik1 s f w => () = s ∧ a2.drop ik1 = rem ∧ f 14 = .int .i64 (ik1 : Int) ∧ f 13 = (.int .i64 ((a2.length : Nat) : Int)) ∧ f 1 = (.int .i64 a1) ∧ f 3 = (.pointer (some ⟨b1, 0, none⟩)) ∧ f 12 = va2 ∧ Inv w0 w [boxI b1 25 [va0_0, va0_1]]) ?_ ?_ ?_
   ·
    exact ⟨rfl, List.drop_zero, rfl, rfl, rfl, rfl, rfl, H⟩
   ·
    rintro yk1 xs ik1 _ st f w ⟨rfl, hdropk1, hf14, hf13, hf1, hf3, hf12, H⟩ hm2
    have hltk1 := drop_lt hdropk1; have hixk1 := drop_idx hdropk1
    obtain ⟨u1, rfl⟩ := up5 hf14 hf13 hf1 hf3 hf12
    have hinck1 := addI_lt hltk1 (H.arg ha2).len_le
    refine W.seq ?_
    refine W.region ?_
    refine O.lss rfl rfl rfl rfl ?_
    refine WL.nil ?_
    refine W.seq ?_
    refine W.cond_true (congrArg Value.bool (decide_eq_true hltk1)) ?_
    refine W.skip ?_
    refine W.seq ?_
    refine W.block ?_
    refine W.seq ?_
    refine W.region ?_
    obtain ⟨p1, hp1, hrp1⟩ := fix_indexAddr Try.underlying22 sz3 ha2 hixk1
    refine hrp1 rfl rfl rfl rfl ?_
    refine O.load sc3 rfl rfl rfl ((hp1.mono H.base).flat 0 _ rfl) ?_
    refine O.assign (v := (.int .i64 yk1)) rfl rfl rfl ?_
    refine WL.nil ?_
    refine W.seq ?_
    refine W.region ?_
    refine O.loadA [va0_0, va0_1] ag25 rfl rfl rfl rfl (H.cell 0 rfl) ?_
    refine O.move (v := (.int .i64 yk1)) rfl rfl rfl ?_
    obtain ⟨t2, hy2, hm2⟩ := bind_some hm2
    refine O.call Try.call74 rfl rfl rfl (c_noongunref02_named _ _ (GNet.mk a0.Rates a0.Sights) (H.arg ha0_0) (H.arg ha0_1) _ hy2) ?_
    rintro _ w3 hb3 rfl
    have H := H.ext hb3
    refine O.not rfl rfl rfl ?_
    refine WL.nil ?_
    rcases ite_some hm2 with ⟨hc2, hm2⟩ | ⟨hc2, hm2⟩
    ·
     refine W.cond_true (congrArg Value.bool hc2) ?_
     refine W.seq ?_
     refine W.region ?_
     refine O.assign (v := (.int .i64 5)) rfl rfl rfl ?_
     refine WL.nil ?_
     refine W.ret ?_
     obtain rfl := Option.some.inj hm2
     refine ⟨_, rfl, ?_⟩
     rintro rfl
     have hq : 5 = r0 := Option.some.inj (show some 5 = some r0 from hm)
     subst hq
     exact ends1 Try.results61 rfl ⟨_, rfl, H.base, rfl⟩
    ·
     refine W.cond_false (congrArg Value.bool hc2) ?_
     refine W.skip ?_
     refine W.region ?_
     refine O.add rfl rfl rfl rfl hinck1 ?_
     refine O.move (v := .int .i64 ((ik1 : Int) + 1)) rfl rfl rfl ?_
     refine WL.nil ?_
     obtain rfl := Option.some.inj hm2
     exact ⟨_, rfl, rfl, drop_next hdropk1, rfl, rfl, rfl, rfl, rfl, H⟩
   ·
    rintro ik1 _ f w ⟨rfl, hdropk1, hf14, hf13, hf1, hf3, hf12, H⟩ hfin
    have hltk1 := drop_end hdropk1
    obtain ⟨u2, rfl⟩ := up5 hf14 hf13 hf1 hf3 hf12
    refine W.seq ?_
    refine W.region ?_
    refine O.lss rfl rfl rfl rfl ?_
    refine WL.nil ?_
    refine W.seq ?_
    refine W.cond_false (congrArg Value.bool (decide_eq_false hltk1)) ?_
    refine W.exit ?_
    obtain rfl : Ctl.next () = o1 := hfin
    have H := H.keep [] [] rfl (by decide)
    refine xT rfl ?_
    exact ⟨rfl, rfl, H⟩
  ·
   rintro f w ⟨rfl, hf1, H⟩
   obtain ⟨u3, rfl⟩ := up1 hf1
   refine W.seq ?_
   refine W.seq ?_
   refine W.region ?_
   refine O.move (v := (.int .i64 a1)) rfl rfl rfl ?_
   obtain ⟨t3, hy3, hm⟩ := bind_some hm
   refine O.call Try.call59 rfl rfl rfl (c_noongunref02_within _ _ _ hy3) ?_
   rintro _ w4 hb4 rfl
   have H := H.ext hb4
   refine O.not rfl rfl rfl ?_
   refine WL.nil ?_
   rcases ite_some hm with ⟨hc3, hm⟩ | ⟨hc3, hm⟩
   ·
    refine W.cond_true (congrArg Value.bool hc3) ?_
    refine W.seq ?_
    refine W.region ?_
    refine O.assign (v := (.int .i64 7)) rfl rfl rfl ?_
    refine WL.nil ?_
    refine W.ret ?_
    have hq : 7 = r0 := Option.some.inj (show some 7 = some r0 from hm)
    subst hq
    exact ends1 Try.results61 rfl ⟨_, rfl, H.base, rfl⟩
   ·
    refine W.cond_false (congrArg Value.bool hc3) ?_
    refine W.skip ?_
    refine W.seq ?_
    refine W.region ?_
    refine O.assign (v := (.int .i64 0)) rfl rfl rfl ?_
    refine WL.nil ?_
    refine W.ret ?_
    have hq : 0 = r0 := Option.some.inj (show some 0 = some r0 from hm)
    subst hq
    exact ends1 Try.results61 rfl ⟨_, rfl, H.base, rfl⟩

set_option maxRecDepth 20000 in
theorem c_noongunref02_between {w0 : World} (va0_0 : Value) (va0_1 : Value) (a0 : GNet) (ha0_0 : SliceR w0 va0_0 a0.Rates) (ha0_1 : SliceR w0 va0_1 a0.Sights) (a1 : GPoint) (a2 : GPoint) {r0 : GSpan} {r1 : Int} (hm : noongunref02_between a0 a1 a2 = some (r0, r1)) :
  Calls Try.prog 62 #[(.agg #[va0_0, va0_1]), (.agg (Flat.cells a1).toArray), (.agg (Flat.cells a2).toArray)] w0 (Ret w0 fun _ v => v = .tuple #[(.agg (Flat.cells r0).toArray), (.int .i64 r1)]) := by
 unfold noongunref02_between at hm
 refine calls_of_W Try.func62 rfl Try.ntmps62 (Nat.le_of_ble_eq_true rfl) ?_
 have H := Inv.start (w := w0)
 refine W.seq ?_
 refine W.region ?_
 refine O.box [va0_0, va0_1] H rfl rfl rfl rfl ?_
 intro b1 w1 H hb1
 refine O.box [(.int .i64 a1.clock), (.int .i64 a1.at_)] H rfl rfl rfl rfl ?_
 intro b2 w2 H hb2
 refine O.box [(.int .i64 a2.clock), (.int .i64 a2.at_)] H rfl rfl rfl rfl ?_
 intro b3 w3 H hb3
 refine O.alloc [(.int .i64 0), (.int .i64 0)] ze30 H rfl rfl rfl ?_
 intro b4 w4 H hb4
 refine O.assign (v := (.int .i64 0)) rfl rfl rfl ?_
 refine WL.nil ?_
 refine W.seq ?_
 refine W.region ?_
 refine O.loadA [va0_0, va0_1] ag25 rfl rfl rfl rfl (H.cell 0 rfl) ?_
 refine O.loadA [(.int .i64 a1.clock), (.int .i64 a1.at_)] ag78 rfl rfl rfl rfl (H.cell 1 rfl) ?_
 refine O.loadA [(.int .i64 a2.clock), (.int .i64 a2.at_)] ag78 rfl rfl rfl rfl (H.cell 2 rfl) ?_
 refine O.buildSlice (α := GPoint) [(.agg (Flat.cells a1).toArray), (.agg (Flat.cells a2).toArray)] [a1, a2] Try.underlying91 el78 H rfl rfl rfl rfl rfl rfl rfl ?_
 intro v1 w5 H hb5
 have H := H.pick [0, 1, 2, 3, 4] ([boxI b1 25 [va0_0, va0_1], boxI b2 78 [(.int .i64 a1.clock), (.int .i64 a1.at_)], boxI b3 78 [(.int .i64 a2.clock), (.int .i64 a2.at_)], boxI b4 30 [(.int .i64 0), (.int .i64 0)]] ++ [ownI (α := GPoint) v1 78 ([a1, a2] : List GPoint)]) rfl (by decide)
 obtain ⟨⟨t1, t2⟩, hy1, hm⟩ := bind_some hm
 refine O.callF [boxI b1 25 [va0_0, va0_1], boxI b2 78 [(.int .i64 a1.clock), (.int .i64 a1.at_)], boxI b3 78 [(.int .i64 a2.clock), (.int .i64 a2.at_)], boxI b4 30 [(.int .i64 0), (.int .i64 0)]] [ownI (α := GPoint) v1 78 ([a1, a2] : List GPoint)] H Try.call67 rfl rfl rfl (c_ref_ways _ _ (GNet.mk a0.Rates a0.Sights) _ ([a1, a2] : List GPoint) (fun _ hb => ha0_0.mono (Inv.belowF H hb)) (fun _ hb => ha0_1.mono (Inv.belowF H hb)) (InvD.frame H) hy1) ?_
 intro vq w6 Lq H hvq
 obtain ⟨b5, v2, v3, rc1, rfl, rfl⟩ := hvq
 have H := H.addGone
 have H := H.pick [0, 1, 2, 3, 7, 4, 5, 6] [boxI b1 25 [va0_0, va0_1], boxI b2 78 [(.int .i64 a1.clock), (.int .i64 a1.at_)], boxI b3 78 [(.int .i64 a2.clock), (.int .i64 a2.at_)], boxI b4 30 [(.int .i64 0), (.int .i64 0)], goneI, boxI b5 118 [v2, v3], ownI (α := GPoint) v2 78 t1, mtxI (α := Int) v3 22 3 rc1 t2] rfl (by decide)
 refine O.assign (v := (.pointer (some ⟨b5, 0, none⟩))) rfl rfl rfl ?_
 refine WL.nil ?_
 refine W.seq ?_
 refine W.seq ?_
 refine W.region ?_
 refine O.move (v := (.pointer (some ⟨b5, 0, none⟩))) rfl rfl rfl ?_
 obtain ⟨t3, hy2, hm⟩ := bind_some hm
 refine O.call Try.call68 rfl rfl rfl (c_noongunref02_graph_consistent _ _ _ (GRefgraph.mk t1 t2) (H.cell 5 rfl) (H.own 6 rfl) (H.mtxRd 7 rfl) hy2) ?_
 rintro _ w7 hb6 rfl
 have H := H.ext hb6
 refine O.not rfl rfl rfl ?_
 refine WL.nil ?_
 rcases ite_some hm with ⟨hc1, hm⟩ | ⟨hc1, hm⟩
 ·
  refine W.cond_true (congrArg Value.bool hc1) ?_
  refine W.seq ?_
  refine W.region ?_
  refine O.build (v := (.agg (Flat.cells (GSpan.mk 0 0)).toArray)) (fun w => bd30_  w) rfl rfl rfl ?_
  refine O.store 3 0 [(.int .i64 0), (.int .i64 0)] [(.int .i64 0), (.int .i64 0)] sz30 H rfl rfl rfl rfl rfl rfl ⟨⟨rfl, rfl⟩, rfl⟩ (one_cons rfl (one_cons rfl one_nil)) ?_
  intro w8 H
  refine O.assign (v := (.int .i64 9)) rfl rfl rfl ?_
  refine WL.nil ?_
  refine W.ret ?_
  have hq : ((GSpan.mk 0 0), 9) = (r0, r1) := Option.some.inj (show some ((GSpan.mk 0 0), 9) = some (r0, r1) from hm)
  obtain ⟨he0, hq0⟩ := Prod.mk.inj hq; clear hq; subst he0
  subst hq0
  exact ends2 Try.results62 ⟨_, rfl, run_loadVar_agg ag30 rfl (H.cell 3 rfl)⟩ rfl ⟨_, rfl, H.base, rfl⟩
 ·
  refine W.cond_false (congrArg Value.bool hc1) ?_
  refine W.skip ?_
  refine W.seq ?_
  obtain ⟨t4, hy3, hm⟩ := bind_some hm
  obtain ⟨x1, hx1, hm⟩ := bind_some hm
  obtain ⟨rw1, hirw1, hrw1⟩ := H.mtxRow 7 rfl hx1
  obtain ⟨p1, hp1, hrp1⟩ := fix_indexAddr Try.underlying116 sz22 (H.mtxC 7 rfl) hirw1
  obtain ⟨t5, hy4, hm⟩ := bind_some hm
  obtain ⟨x2, hx2, hm⟩ := bind_some hm
  obtain ⟨p2, hp2, hrp2⟩ := fix_indexAddr Try.underlying22 sz3 (H.mtxElem 7 rfl hrw1) hx2
  obtain ⟨t6, hy5, hm⟩ := bind_some hm
  obtain ⟨x3, hx3, hm⟩ := bind_some hm
  obtain ⟨rw2, hirw2, hrw2⟩ := H.mtxRow 7 rfl hx3
  obtain ⟨p3, hp3, hrp3⟩ := fix_indexAddr Try.underlying116 sz22 (H.mtxC 7 rfl) hirw2
  obtain ⟨t7, hy6, hm⟩ := bind_some hm
  obtain ⟨x4, hx4, hm⟩ := bind_some hm
  obtain ⟨p4, hp4, hrp4⟩ := fix_indexAddr Try.underlying22 sz3 (H.mtxElem 7 rfl hrw2) hx4
  refine W.drawN 29 (fun f => f 6 = (.pointer (some ⟨b4, 0, none⟩)) ∧ f 9 = (.int .i64 x2) ∧ f 47 = (.int .i64 x4)) fol (by kernel_rfl) ?_ ?_
  ·
   refine PL.of (fun _ w8 _ hx => O.move (v := (.pointer (some ⟨b5, 0, none⟩))) rfl rfl rfl (WL.nil ⟨rfl, hx⟩)) ?_
   refine PL.of (fun _ w8 _ hx => O.nilCheck rfl rfl rfl (WL.nil ⟨rfl, hx⟩)) ?_
   refine PL.of (fun _ w8 _ hx => O.fieldAddr fd118_1 rfl rfl rfl (WL.nil ⟨rfl, hx⟩)) ?_
   refine PL.of (fun _ w8 _ hx => by have H := H.ext hx; exact O.load sc116 rfl rfl rfl (H.cell 5 rfl 1 _ rfl) (WL.nil ⟨rfl, hx⟩)) ?_
   refine PL.of (fun _ w8 _ hx => O.move (v := (.pointer (some ⟨b5, 0, none⟩))) rfl rfl rfl (WL.nil ⟨rfl, hx⟩)) ?_
   refine PL.of (fun _ w8 _ hx => by have H := H.ext hx; exact O.loadA [(.int .i64 a2.clock), (.int .i64 a2.at_)] ag78 rfl rfl rfl rfl (H.cell 2 rfl) (WL.nil ⟨rfl, hx⟩)) ?_
   refine PL.of (fun _ w8 _ hx => by have H := H.ext hx; exact O.call Try.call93 rfl rfl rfl (c_noongunref02_graph_index _ _ _ (GRefgraph.mk t1 t2) (H.cell 5 rfl) (H.own 6 rfl) (H.mtxRd 7 rfl) a2 hy3) (by rintro _ _ hb rfl; exact WL.nil ⟨rfl, hx.trans (hb.mono hx.size)⟩)) ?_
   refine PL.of (fun _ w8 _ hx => hrp1 rfl rfl rfl rfl (WL.nil ⟨rfl, hx⟩)) ?_
   refine PL.of (fun _ w8 _ hx => by have hp1 := hp1.mono hx; exact O.load sc22 rfl rfl rfl (hp1.flat 0 _ rfl) (WL.nil ⟨rfl, hx⟩)) ?_
   refine PL.of (fun _ w8 _ hx => O.move (v := (.pointer (some ⟨b5, 0, none⟩))) rfl rfl rfl (WL.nil ⟨rfl, hx⟩)) ?_
   refine PL.of (fun _ w8 _ hx => by have H := H.ext hx; exact O.loadA [(.int .i64 a1.clock), (.int .i64 a1.at_)] ag78 rfl rfl rfl rfl (H.cell 1 rfl) (WL.nil ⟨rfl, hx⟩)) ?_
   refine PL.of (fun _ w8 _ hx => by have H := H.ext hx; exact O.call Try.call93 rfl rfl rfl (c_noongunref02_graph_index _ _ _ (GRefgraph.mk t1 t2) (H.cell 5 rfl) (H.own 6 rfl) (H.mtxRd 7 rfl) a1 hy4) (by rintro _ _ hb rfl; exact WL.nil ⟨rfl, hx.trans (hb.mono hx.size)⟩)) ?_
   refine PL.of (fun _ w8 _ hx => hrp2 rfl rfl rfl rfl (WL.nil ⟨rfl, hx⟩)) ?_
   refine PL.of (fun _ w8 _ hx => by have hp2 := hp2.mono hx; exact O.load sc3 rfl rfl rfl (hp2.flat 0 _ rfl) (WL.nil ⟨rfl, hx⟩)) ?_
   refine PL.of (fun _ w8 _ hx => O.move (v := (.pointer (some ⟨b5, 0, none⟩))) rfl rfl rfl (WL.nil ⟨rfl, hx⟩)) ?_
   refine PL.of (fun _ w8 _ hx => O.nilCheck rfl rfl rfl (WL.nil ⟨rfl, hx⟩)) ?_
   refine PL.of (fun _ w8 _ hx => O.fieldAddr fd118_1 rfl rfl rfl (WL.nil ⟨rfl, hx⟩)) ?_
   refine PL.of (fun _ w8 _ hx => by have H := H.ext hx; exact O.load sc116 rfl rfl rfl (H.cell 5 rfl 1 _ rfl) (WL.nil ⟨rfl, hx⟩)) ?_
   refine PL.of (fun _ w8 _ hx => O.move (v := (.pointer (some ⟨b5, 0, none⟩))) rfl rfl rfl (WL.nil ⟨rfl, hx⟩)) ?_
   refine PL.of (fun _ w8 _ hx => by have H := H.ext hx; exact O.loadA [(.int .i64 a1.clock), (.int .i64 a1.at_)] ag78 rfl rfl rfl rfl (H.cell 1 rfl) (WL.nil ⟨rfl, hx⟩)) ?_
   refine PL.of (fun _ w8 _ hx => by have H := H.ext hx; exact O.call Try.call93 rfl rfl rfl (c_noongunref02_graph_index _ _ _ (GRefgraph.mk t1 t2) (H.cell 5 rfl) (H.own 6 rfl) (H.mtxRd 7 rfl) a1 hy5) (by rintro _ _ hb rfl; exact WL.nil ⟨rfl, hx.trans (hb.mono hx.size)⟩)) ?_
   refine PL.of (fun _ w8 _ hx => hrp3 rfl rfl rfl rfl (WL.nil ⟨rfl, hx⟩)) ?_
   refine PL.of (fun _ w8 _ hx => by have hp3 := hp3.mono hx; exact O.load sc22 rfl rfl rfl (hp3.flat 0 _ rfl) (WL.nil ⟨rfl, hx⟩)) ?_
   refine PL.of (fun _ w8 _ hx => O.move (v := (.pointer (some ⟨b5, 0, none⟩))) rfl rfl rfl (WL.nil ⟨rfl, hx⟩)) ?_
   refine PL.of (fun _ w8 _ hx => by have H := H.ext hx; exact O.loadA [(.int .i64 a2.clock), (.int .i64 a2.at_)] ag78 rfl rfl rfl rfl (H.cell 2 rfl) (WL.nil ⟨rfl, hx⟩)) ?_
   refine PL.of (fun _ w8 _ hx => by have H := H.ext hx; exact O.call Try.call93 rfl rfl rfl (c_noongunref02_graph_index _ _ _ (GRefgraph.mk t1 t2) (H.cell 5 rfl) (H.own 6 rfl) (H.mtxRd 7 rfl) a2 hy6) (by rintro _ _ hb rfl; exact WL.nil ⟨rfl, hx.trans (hb.mono hx.size)⟩)) ?_
   refine PL.of (fun _ w8 _ hx => hrp4 rfl rfl rfl rfl (WL.nil ⟨rfl, hx⟩)) ?_
   refine PL.of (fun _ w8 _ hx => by have hp4 := hp4.mono hx; exact O.load sc3 rfl rfl rfl (hp4.flat 0 _ rfl) (WL.nil ⟨rfl, hx⟩)) ?_
   refine PL.of (fun _ w8 _ hx => O.assign (v := (.int .i64 x2)) rfl rfl rfl (WL.nil ⟨rfl, hx⟩)) ?_
   refine PL.nil ?_
   exact ⟨rfl, rfl, rfl⟩
  ·
   rintro f w ⟨hf6, hf9, hf47⟩ hmd hx
   have H := H.ext hx
   have hp1 := hp1.mono hx
   have hp2 := hp2.mono hx
   have hp3 := hp3.mono hx
   have hp4 := hp4.mono hx
   obtain ⟨u1, rfl⟩ := up3 hf6 hf9 hf47
   refine O.assign (v := (.int .i64 x4)) rfl rfl rfl ?_
   refine WL.nil ?_
   refine W.seq ?_
   refine W.seq ?_
   refine W.region ?_
   refine O.move (v := (.int .i64 x2)) rfl rfl rfl ?_
   refine O.eql rfl rfl rfl rfl ?_
   refine O.move (v := (.bool (x2 == 1152921504606846976))) rfl rfl rfl ?_
   refine WL.cut 3 (fun f w => f 6 = (.pointer (some ⟨b4, 0, none⟩)) ∧ f 9 = (.int .i64 x2) ∧ f 10 = (.int .i64 x4) ∧ f 53 = .bool ((x2 == 1152921504606846976) || (x4 == 1152921504606846976)) ∧ Inv w0 w [boxI b1 25 [va0_0, va0_1], boxI b2 78 [(.int .i64 a1.clock), (.int .i64 a1.at_)], boxI b3 78 [(.int .i64 a2.clock), (.int .i64 a2.at_)], boxI b4 30 [(.int .i64 0), (.int .i64 0)], goneI, boxI b5 118 [v2, v3], ownI (α := GPoint) v2 78 t1, mtxI (α := Int) v3 22 3 rc1 t2]) ?_ ?_
   ·
    rcases bool_ft (x2 == 1152921504606846976) with hc2 | hc2
    ·
     refine WL.reset (i := 50) (v := .bool false) (congrArg Value.bool hc2) ?_
     refine O.move (v := (.int .i64 x4)) rfl rfl rfl ?_
     refine O.eql rfl rfl rfl rfl ?_
     refine O.pick_false (v := (.bool (x4 == 1152921504606846976))) rfl rfl rfl rfl ?_
     exact WL.nil ⟨rfl, rfl, rfl, congrArg Value.bool (or_f hc2), H⟩
    ·
     refine WL.reset (i := 50) (v := .bool true) (congrArg Value.bool hc2) ?_
     refine O.skip rfl rfl ?_
     refine O.skip rfl rfl ?_
     refine O.pick_true (v := (.bool true)) rfl rfl rfl rfl ?_
     exact WL.nil ⟨rfl, rfl, rfl, congrArg Value.bool (or_t hc2), H⟩
   ·
    rintro f w ⟨hf6, hf9, hf10, hf53, H⟩
    obtain ⟨u2, rfl⟩ := up4 hf6 hf9 hf10 hf53
    refine WL.nil ?_
    rcases ite_some hm with ⟨hc3, hm⟩ | ⟨hc3, hm⟩
    ·
     refine W.cond_true (congrArg Value.bool hc3) ?_
     refine W.seq ?_
     refine W.region ?_
     refine O.build (v := (.agg (Flat.cells (GSpan.mk 0 0)).toArray)) (fun w => bd30_  w) rfl rfl rfl ?_
     refine O.store 3 0 [(.int .i64 0), (.int .i64 0)] [(.int .i64 0), (.int .i64 0)] sz30 H rfl rfl rfl rfl rfl rfl ⟨⟨rfl, rfl⟩, rfl⟩ (one_cons rfl (one_cons rfl one_nil)) ?_
     intro w9 H
     refine O.assign (v := (.int .i64 8)) rfl rfl rfl ?_
     refine WL.nil ?_
     refine W.ret ?_
     have hq : ((GSpan.mk 0 0), 8) = (r0, r1) := Option.some.inj (show some ((GSpan.mk 0 0), 8) = some (r0, r1) from hm)
     obtain ⟨he0, hq0⟩ := Prod.mk.inj hq; clear hq; subst he0
     subst hq0
     exact ends2 Try.results62 ⟨_, rfl, run_loadVar_agg ag30 rfl (H.cell 3 rfl)⟩ rfl ⟨_, rfl, H.base, rfl⟩
    ·
     refine W.cond_false (congrArg Value.bool hc3) ?_
     refine W.skip ?_
     refine W.seq ?_
     refine W.region ?_
     refine O.move (v := (.int .i64 x4)) rfl rfl rfl ?_
     obtain ⟨t8, ht8, hm⟩ := bind_some hm
     refine O.neg rfl rfl rfl ht8 ?_
     refine O.move (v := (.int .i64 x2)) rfl rfl rfl ?_
     refine O.build (v := (.agg (Flat.cells (GSpan.mk t8 x2)).toArray)) (fun w => bd30_0_1 _ _ w) rfl rfl rfl ?_
     refine O.store 3 0 [(.int .i64 t8), (.int .i64 x2)] [(.int .i64 t8), (.int .i64 x2)] sz30 H rfl rfl rfl rfl rfl rfl ⟨⟨rfl, rfl⟩, rfl⟩ (one_cons rfl (one_cons rfl one_nil)) ?_
     intro w10 H
     refine O.assign (v := (.int .i64 0)) rfl rfl rfl ?_
     refine WL.nil ?_
     refine W.ret ?_
     have hq : ((GSpan.mk t8 x2), 0) = (r0, r1) := Option.some.inj (show some ((GSpan.mk t8 x2), 0) = some (r0, r1) from hm)
     obtain ⟨he0, hq0⟩ := Prod.mk.inj hq; clear hq; subst he0
     subst hq0
     exact ends2 Try.results62 ⟨_, rfl, run_loadVar_agg ag30 rfl (H.cell 3 rfl)⟩ rfl ⟨_, rfl, H.base, rfl⟩

theorem c_noongunref02_Between {w0 : World} (va0_0 : Value) (va0_1 : Value) (a0 : GNet) (ha0_0 : SliceR w0 va0_0 a0.Rates) (ha0_1 : SliceR w0 va0_1 a0.Sights) (a1 : Int) (a2 : Int) (a3 : Int) {r0 : GSpan} {r1 : Int} (hm : noongunref02_Between a0 a1 a2 a3 = some (r0, r1)) :
  Calls Try.prog 23 #[(.agg #[va0_0, va0_1]), (.int .i64 a1), (.int .i64 a2), (.int .i64 a3)] w0 (Ret w0 fun _ v => v = .tuple #[(.agg (Flat.cells r0).toArray), (.int .i64 r1)]) := by
 unfold noongunref02_Between at hm
 refine calls_of_W Try.func23 rfl Try.ntmps23 (Nat.le_of_ble_eq_true rfl) ?_
 have H := Inv.start (w := w0)
 refine W.seq ?_
 refine W.region ?_
 refine O.box [va0_0, va0_1] H rfl rfl rfl rfl ?_
 intro b1 w1 H hb1
 refine O.alloc [(.int .i64 0), (.int .i64 0)] ze30 H rfl rfl rfl ?_
 intro b2 w2 H hb2
 refine O.assign (v := (.int .i64 0)) rfl rfl rfl ?_
 refine WL.nil ?_
 refine W.seq ?_
 refine W.seq ?_
 refine W.region ?_
 refine O.loadA [va0_0, va0_1] ag25 rfl rfl rfl rfl (H.cell 0 rfl) ?_
 refine O.move (v := (.int .i64 a3)) rfl rfl rfl ?_
 refine O.move (v := (.int .i64 a1)) rfl rfl rfl ?_
 refine O.move (v := (.int .i64 a2)) rfl rfl rfl ?_
 refine O.buildSlice (α := Int) [(.int .i64 a1), (.int .i64 a2)] [a1, a2] Try.underlying22 el3 H rfl rfl rfl rfl rfl rfl rfl ?_
 intro v1 w3 H hb3
 obtain ⟨t1, hy1, hm⟩ := bind_some hm
 refine O.call Try.call61 rfl rfl rfl (c_noongunref02_asked _ _ (GNet.mk a0.Rates a0.Sights) (H.arg ha0_0) (H.arg ha0_1) _ _ _ (H.own 2 rfl) hy1) ?_
 rintro _ w4 hb4 rfl
 have H := H.ext hb4
 refine O.assign (v := (.int .i64 t1)) rfl rfl rfl ?_
 refine WL.nil ?_
 refine W.seq ?_
 refine W.region ?_
 refine O.move (v := (.int .i64 t1)) rfl rfl rfl ?_
 refine O.neq rfl rfl rfl rfl ?_
 refine WL.nil ?_
 rcases ite_some hm with ⟨hc1, hm⟩ | ⟨hc1, hm⟩
 ·
  refine W.cond_true (congrArg Value.bool hc1) ?_
  refine W.seq ?_
  refine W.region ?_
  refine O.build (v := (.agg (Flat.cells (GSpan.mk 0 0)).toArray)) (fun w => bd30_  w) rfl rfl rfl ?_
  refine O.move (v := (.int .i64 t1)) rfl rfl rfl ?_
  refine O.store 1 0 [(.int .i64 0), (.int .i64 0)] [(.int .i64 0), (.int .i64 0)] sz30 H rfl rfl rfl rfl rfl rfl ⟨⟨rfl, rfl⟩, rfl⟩ (one_cons rfl (one_cons rfl one_nil)) ?_
  intro w5 H
  refine O.assign (v := (.int .i64 t1)) rfl rfl rfl ?_
  refine WL.nil ?_
  refine W.ret ?_
  have hq : ((GSpan.mk 0 0), t1) = (r0, r1) := Option.some.inj (show some ((GSpan.mk 0 0), t1) = some (r0, r1) from hm)
  obtain ⟨he0, hq0⟩ := Prod.mk.inj hq; clear hq; subst he0
  subst hq0
  exact ends2 Try.results23 ⟨_, rfl, run_loadVar_agg ag30 rfl (H.cell 1 rfl)⟩ rfl ⟨_, rfl, H.base, rfl⟩
 ·
  refine W.cond_false (congrArg Value.bool hc1) ?_
  refine W.skip ?_
  refine W.seq ?_
  obtain ⟨t2, hy2, hm⟩ := bind_some hm
  obtain ⟨t3, hy3, hm⟩ := bind_some hm
  obtain ⟨⟨t4, t5⟩, hy4, hm⟩ := bind_some hm
  refine W.drawN 10 (fun f => f 8 = (.pointer (some ⟨b2, 0, none⟩)) ∧ f 29 = (.agg (Flat.cells t4).toArray) ∧ f 30 = (.int .i64 t5)) fol (by kernel_rfl) ?_ ?_
  ·
   refine PL.of (fun _ w8 _ hx => by have H := H.ext hx; exact O.loadA [va0_0, va0_1] ag25 rfl rfl rfl rfl (H.cell 0 rfl) (WL.nil ⟨rfl, hx⟩)) ?_
   refine PL.of (fun _ w8 _ hx => O.move (v := (.int .i64 a1)) rfl rfl rfl (WL.nil ⟨rfl, hx⟩)) ?_
   refine PL.of (fun _ w8 _ hx => O.move (v := (.int .i64 a3)) rfl rfl rfl (WL.nil ⟨rfl, hx⟩)) ?_
   refine PL.of (fun _ w8 _ hx => O.call Try.call63 rfl rfl rfl (c_noongunref02_spot _ _ hy2) (by rintro _ _ hb rfl; exact WL.nil ⟨rfl, hx.trans (hb.mono hx.size)⟩)) ?_
   refine PL.of (fun _ w8 _ hx => O.move (v := (.int .i64 a2)) rfl rfl rfl (WL.nil ⟨rfl, hx⟩)) ?_
   refine PL.of (fun _ w8 _ hx => O.move (v := (.int .i64 a3)) rfl rfl rfl (WL.nil ⟨rfl, hx⟩)) ?_
   refine PL.of (fun _ w8 _ hx => O.call Try.call63 rfl rfl rfl (c_noongunref02_spot _ _ hy3) (by rintro _ _ hb rfl; exact WL.nil ⟨rfl, hx.trans (hb.mono hx.size)⟩)) ?_
   refine PL.of (fun _ w8 _ hx => by have H := H.ext hx; exact O.call Try.call62 rfl rfl rfl (c_noongunref02_between _ _ (GNet.mk a0.Rates a0.Sights) (H.arg ha0_0) (H.arg ha0_1) t2 t3 hy4) (by rintro _ _ hb rfl; exact WL.nil ⟨rfl, hx.trans (hb.mono hx.size)⟩)) ?_
   refine PL.of (fun _ w8 _ hx => O.extract (v := (.agg (Flat.cells t4).toArray)) rfl rfl rfl rfl (WL.nil ⟨rfl, hx⟩)) ?_
   refine PL.of (fun _ w8 _ hx => O.extract (v := (.int .i64 t5)) rfl rfl rfl rfl (WL.nil ⟨rfl, hx⟩)) ?_
   refine PL.nil ?_
   exact ⟨rfl, rfl, rfl⟩
  ·
   rintro f w ⟨hf8, hf29, hf30⟩ hmd hx
   have H := H.ext hx
   obtain ⟨u1, rfl⟩ := up3 hf8 hf29 hf30
   refine O.store 1 0 [(.int .i64 t4.Lo), (.int .i64 t4.Hi)] [(.int .i64 t4.Lo), (.int .i64 t4.Hi)] sz30 H rfl rfl rfl rfl rfl rfl ⟨⟨rfl, rfl⟩, rfl⟩ (one_cons rfl (one_cons rfl one_nil)) ?_
   intro w6 H
   refine O.assign (v := (.int .i64 t5)) rfl rfl rfl ?_
   refine WL.nil ?_
   refine W.ret ?_
   have hq : (t4, t5) = (r0, r1) := Option.some.inj (show some (t4, t5) = some (r0, r1) from hm)
   obtain ⟨he0, hq0⟩ := Prod.mk.inj hq; clear hq; subst he0
   subst hq0
   exact ends2 Try.results23 ⟨_, rfl, run_loadVar_agg ag30 rfl (H.cell 1 rfl)⟩ rfl ⟨_, rfl, H.base, rfl⟩

set_option maxRecDepth 20000 in
theorem c_noongunref02_implied {w0 : World} (va0_0 : Value) (va0_1 : Value) (a0 : GNet) (ha0_0 : SliceR w0 va0_0 a0.Rates) (ha0_1 : SliceR w0 va0_1 a0.Sights) (a1 : Int) {r0 : Bool} (hm : noongunref02_implied a0 a1 = some r0) :
  Calls Try.prog 84 #[(.agg #[va0_0, va0_1]), (.int .i64 a1)] w0 (Ret w0 fun _ v => v = (.bool r0)) := by
 unfold noongunref02_implied at hm
 refine calls_of_W Try.func84 rfl Try.ntmps84 (Nat.le_of_ble_eq_true rfl) ?_
 have H := Inv.start (w := w0)
 refine W.seq ?_
 refine W.region ?_
 refine O.box [va0_0, va0_1] H rfl rfl rfl rfl ?_
 intro b1 w1 H hb1
 refine O.assign (v := (.bool false)) rfl rfl rfl ?_
 refine WL.nil ?_
 refine W.seq ?_
 refine W.region ?_
 refine O.fieldAddr fd25_1 rfl rfl rfl ?_
 refine O.load sc23 rfl rfl rfl (H.cell 0 rfl 1 _ rfl) ?_
 refine O.move (v := (.int .i64 a1)) rfl rfl rfl ?_
 obtain ⟨x1, hx1, hm⟩ := bind_some hm
 obtain ⟨p1, hp1, hrp1⟩ := fix_indexAddr Try.underlying23 sz39 ha0_1 hx1
 refine hrp1 rfl rfl rfl rfl ?_
 refine O.loadA [(.int .i64 x1.At), (.int .i64 x1.A), (.int .i64 x1.B), (.int .i64 x1.Lo), (.int .i64 x1.Hi)] ag39 rfl rfl rfl rfl ((hp1.mono H.base).flat) ?_
 refine O.alloc [(.int .i64 0), (.int .i64 0), (.int .i64 0), (.int .i64 0), (.int .i64 0)] ze39 H rfl rfl rfl ?_
 intro b2 w2 H hb2
 refine O.store 1 0 [(.int .i64 x1.At), (.int .i64 x1.A), (.int .i64 x1.B), (.int .i64 x1.Lo), (.int .i64 x1.Hi)] [(.int .i64 x1.At), (.int .i64 x1.A), (.int .i64 x1.B), (.int .i64 x1.Lo), (.int .i64 x1.Hi)] sz39 H rfl rfl rfl rfl rfl rfl ⟨⟨rfl, rfl⟩, rfl⟩ (one_cons rfl (one_cons rfl (one_cons rfl (one_cons rfl (one_cons rfl one_nil))))) ?_
 intro w3 H
 refine WL.nil ?_
 refine W.seq ?_
 obtain ⟨t1, hy1, hm⟩ := bind_some hm
 obtain ⟨⟨t2, t3⟩, hy2, hm⟩ := bind_some hm
 have H := H.addGone
 have H := H.addGone
 have H := H.addGone
 refine W.drawD 15 [[], [], [0, 1], [], [3], [], [5], [], [7], [0, 1, 2, 3, 4, 5, 6, 7, 8], [0, 1, 2, 3, 4, 5, 6, 7, 8, 9], [0, 1, 2, 3, 4, 5, 6, 7, 8, 9, 10], [0, 1, 2, 3, 4, 5, 6, 7, 8, 9, 10], [], [0, 1, 2, 3, 4, 5, 6, 7, 8, 9, 10, 11, 13]] [[2, 9, 10, 11, 12, 14], [2, 9, 10, 11, 12, 14], [9, 10, 11, 12, 14], [4, 9, 10, 11, 12, 14], [9, 10, 11, 12, 14], [6, 9, 10, 11, 12, 14], [9, 10, 11, 12, 14], [8, 9, 10, 11, 12, 14], [9, 10, 11, 12, 14], [10, 11, 12, 14], [11, 12, 14], [14], [], [14], []] (fun S f w => ∃ v1 : Value, ∃ v2 : Value, ∃ b3 : Nat, Inv w0 w [] ∧ f 1 = (.int .i64 a1) ∧ f 2 = (.pointer (some ⟨b1, 0, none⟩)) ∧ f 5 = (.pointer (some ⟨b2, 0, none⟩)) ∧ (S 0 = true → f 14 = (.agg #[va0_0, va0_1])) ∧ (S 1 = true → f 15 = (.int .i64 a1)) ∧ (S 2 = true → f 16 = (.agg #[v1, v2])) ∧ (S 3 = true → f 17 = (.pointer (some (Addr.add (Addr.mk b2 0 none) 1)))) ∧ (S 4 = true → f 18 = (.int .i64 x1.A)) ∧ (S 5 = true → f 19 = (.pointer (some (Addr.add (Addr.mk b2 0 none) 2)))) ∧ (S 6 = true → f 20 = (.int .i64 x1.B)) ∧ (S 7 = true → f 21 = (.pointer (some (Addr.add (Addr.mk b2 0 none) 0)))) ∧ (S 8 = true → f 22 = (.int .i64 x1.At)) ∧ (S 9 = true → f 23 = (.tuple #[(.agg (Flat.cells t2).toArray), (.int .i64 t3)])) ∧ (S 10 = true → f 13 = (.tuple #[(.agg (Flat.cells t2).toArray), (.int .i64 t3)])) ∧ (S 11 = true → f 24 = (.agg (Flat.cells t2).toArray)) ∧ (S 12 = true → f 25 = (.int .i64 t3)) ∧ (S 13 = true → f 6 = (.pointer (some ⟨b3, 0, none⟩))) ∧ (S 14 = true → S 2 = true) ∧ (S 14 = true → S 13 = true) ∧ (S 2 = false → S 13 = false → S 14 = false → Inv w0 w [boxI b1 25 [va0_0, va0_1], boxI b2 39 [(.int .i64 x1.At), (.int .i64 x1.A), (.int .i64 x1.B), (.int .i64 x1.Lo), (.int .i64 x1.Hi)], goneI, goneI, goneI]) ∧ (S 2 = true → S 13 = false → S 14 = false → Inv w0 w [boxI b1 25 [va0_0, va0_1], boxI b2 39 [(.int .i64 x1.At), (.int .i64 x1.A), (.int .i64 x1.B), (.int .i64 x1.Lo), (.int .i64 x1.Hi)], ownI (α := Int) v1 3 t1.Rates, ownI (α := GSight) v2 39 t1.Sights, goneI]) ∧ (S 2 = false → S 13 = true → S 14 = false → Inv w0 w [boxI b1 25 [va0_0, va0_1], boxI b2 39 [(.int .i64 x1.At), (.int .i64 x1.A), (.int .i64 x1.B), (.int .i64 x1.Lo), (.int .i64 x1.Hi)], goneI, goneI, boxI b3 30 [(.int .i64 0), (.int .i64 0)]]) ∧ (S 2 = true → S 13 = true → S 14 = false → Inv w0 w [boxI b1 25 [va0_0, va0_1], boxI b2 39 [(.int .i64 x1.At), (.int .i64 x1.A), (.int .i64 x1.B), (.int .i64 x1.Lo), (.int .i64 x1.Hi)], ownI (α := Int) v1 3 t1.Rates, ownI (α := GSight) v2 39 t1.Sights, boxI b3 30 [(.int .i64 0), (.int .i64 0)]]) ∧ (S 2 = true → S 13 = true → S 14 = true → Inv w0 w [boxI b1 25 [va0_0, va0_1], boxI b2 39 [(.int .i64 x1.At), (.int .i64 x1.A), (.int .i64 x1.B), (.int .i64 x1.Lo), (.int .i64 x1.Hi)], ownI (α := Int) v1 3 t1.Rates, ownI (α := GSight) v2 39 t1.Sights, boxI b3 30 [(.int .i64 t2.Lo), (.int .i64 t2.Hi)]])) fol (by kernel_rfl) ?_ ?_ ?_
 ·
  exact fun d _ => ⟨.nilFunc, .nilFunc, 0, ((H.ext (below_drawn d)).pick [] [] rfl (by decide)), rfl, rfl, rfl, nF, nF, nF, nF, nF, nF, nF, nF, nF, nF, nF, nF, nF, nF, nF, nF, (fun _ _ _ => H.ext (below_drawn d)), (fun a _ _ => nF a), (fun _ a _ => nF a), (fun a _ _ => nF a), (fun a _ _ => nF a)⟩
 ·
  refine ⟨?_, ⟨?_, ⟨?_, ⟨?_, ⟨?_, ⟨?_, ⟨?_, ⟨?_, ⟨?_, ⟨?_, ⟨?_, ⟨?_, ⟨?_, ⟨?_, ⟨?_, trivial⟩⟩⟩⟩⟩⟩⟩⟩⟩⟩⟩⟩⟩⟩⟩
  ·
   rintro S f w hS - ⟨e2, e9, e10, e11, e12, e14, -⟩ ⟨v1, v2, b3, B, hf1, hf2, hf5, hd0, hd1, hd2, hd3, hd4, hd5, hd6, hd7, hd8, hd9, hd10, hd11, hd12, hd13, C14_2, C14_13, W0, W1, W2, W3, W4⟩
   obtain ⟨u1, rfl⟩ := up1 hf2
   rcases bool_ft (S 13) with e13 | e13
   ·
    have H := W0 e2 e13 e14
    refine O.loadA [va0_0, va0_1] ag25 rfl rfl rfl rfl (H.cell 0 rfl) ?_
    exact WL.nil ⟨v1, v2, b3, B, hf1, rfl, hf5, (fun _ => rfl), hd1, hd2, hd3, hd4, hd5, hd6, hd7, hd8, hd9, hd10, hd11, hd12, hd13, C14_2, C14_13, (fun _ _ _ => H), (fun a _ _ => nX e2 a), (fun _ a _ => nX e13 a), (fun a _ _ => nX e2 a), (fun a _ _ => nX e2 a)⟩
   ·
    have H := W2 e2 e13 e14
    refine O.loadA [va0_0, va0_1] ag25 rfl rfl rfl rfl (H.cell 0 rfl) ?_
    exact WL.nil ⟨v1, v2, b3, B, hf1, rfl, hf5, (fun _ => rfl), hd1, hd2, hd3, hd4, hd5, hd6, hd7, hd8, hd9, hd10, hd11, hd12, hd13, C14_2, C14_13, (fun _ a _ => nT e13 a), (fun a _ _ => nX e2 a), (fun _ _ _ => H), (fun a _ _ => nX e2 a), (fun a _ _ => nX e2 a)⟩
  ·
   rintro S f w hS - ⟨e2, e9, e10, e11, e12, e14, -⟩ ⟨v1, v2, b3, B, hf1, hf2, hf5, hd0, hd1, t⟩
   obtain ⟨u2, rfl⟩ := up1 hf1
   have H := B
   refine O.move (v := (.int .i64 a1)) rfl rfl rfl ?_
   exact WL.nil ⟨v1, v2, b3, B, rfl, hf2, hf5, hd0, (fun _ => rfl), t⟩
  ·
   rintro S f w hS ⟨e0, e1, -⟩ ⟨e9, e10, e11, e12, e14, -⟩ ⟨_, _, b3, B, hf1, hf2, hf5, hd0, hd1, hd2, hd3, hd4, hd5, hd6, hd7, hd8, hd9, hd10, hd11, hd12, hd13, C14_2, C14_13, W0, W1, W2, W3, W4⟩
   have hf14 := hd0 e0
   have hf15 := hd1 e1
   obtain ⟨u3, rfl⟩ := up2 hf14 hf15
   rcases bool_ft (S 13) with e13 | e13
   ·
    have H := W0 hS e13 e14
    refine O.call Try.call82 rfl rfl rfl (c_noongunref02_without _ _ (GNet.mk a0.Rates a0.Sights) (H.arg ha0_0) (H.arg ha0_1) _ hy1) ?_
    rintro _ w4 hb3 ⟨v1, v2, rfl, ho1⟩
    have H := H.addAll hb3 ho1
    refine WL.nil ?_
    have H := H.pick [0, 1, 5, 6, 4] [boxI b1 25 [va0_0, va0_1], boxI b2 39 [(.int .i64 x1.At), (.int .i64 x1.A), (.int .i64 x1.B), (.int .i64 x1.Lo), (.int .i64 x1.Hi)], ownI (α := Int) v1 3 t1.Rates, ownI (α := GSight) v2 39 t1.Sights, goneI] rfl (by decide)
    exact ⟨v1, v2, b3, (H.pick [] [] rfl (by decide)), hf1, hf2, hf5, hd0, hd1, (fun _ => rfl), hd3, hd4, hd5, hd6, hd7, hd8, hd9, hd10, hd11, hd12, hd13, (fun _ => rfl), C14_13, (fun a _ _ => nG a), (fun _ _ _ => H), (fun a _ _ => nG a), (fun _ a _ => nX e13 a), (fun _ a _ => nX e13 a)⟩
   ·
    have H := W2 hS e13 e14
    refine O.call Try.call82 rfl rfl rfl (c_noongunref02_without _ _ (GNet.mk a0.Rates a0.Sights) (H.arg ha0_0) (H.arg ha0_1) _ hy1) ?_
    rintro _ w4 hb3 ⟨v1, v2, rfl, ho1⟩
    have H := H.addAll hb3 ho1
    refine WL.nil ?_
    have H := H.pick [0, 1, 5, 6, 4] [boxI b1 25 [va0_0, va0_1], boxI b2 39 [(.int .i64 x1.At), (.int .i64 x1.A), (.int .i64 x1.B), (.int .i64 x1.Lo), (.int .i64 x1.Hi)], ownI (α := Int) v1 3 t1.Rates, ownI (α := GSight) v2 39 t1.Sights, boxI b3 30 [(.int .i64 0), (.int .i64 0)]] rfl (by decide)
    exact ⟨v1, v2, b3, (H.pick [] [] rfl (by decide)), hf1, hf2, hf5, hd0, hd1, (fun _ => rfl), hd3, hd4, hd5, hd6, hd7, hd8, hd9, hd10, hd11, hd12, hd13, (fun _ => rfl), C14_13, (fun a _ _ => nG a), (fun _ a _ => nT e13 a), (fun a _ _ => nG a), (fun _ _ _ => H), (fun _ _ a => nX e14 a)⟩
  ·
   rintro S f w hS - ⟨e4, e9, e10, e11, e12, e14, -⟩ ⟨v1, v2, b3, B, hf1, hf2, hf5, hd0, hd1, hd2, hd3, t⟩
   obtain ⟨u4, rfl⟩ := up1 hf5
   have H := B
   refine O.fieldAddr fd39_1 rfl rfl rfl ?_
   exact WL.nil ⟨v1, v2, b3, B, hf1, hf2, rfl, hd0, hd1, hd2, (fun _ => rfl), t⟩
  ·
   rintro S f w hS ⟨e3, -⟩ ⟨e9, e10, e11, e12, e14, -⟩ ⟨v1, v2, b3, B, hf1, hf2, hf5, hd0, hd1, hd2, hd3, hd4, hd5, hd6, hd7, hd8, hd9, hd10, hd11, hd12, hd13, C14_2, C14_13, W0, W1, W2, W3, W4⟩
   have hf17 := hd3 e3
   obtain ⟨u5, rfl⟩ := up1 hf17
   rcases bool_ft (S 2) with e2 | e2
   ·
    rcases bool_ft (S 13) with e13 | e13
    ·
     have H := W0 e2 e13 e14
     refine O.load sc3 rfl rfl rfl (H.cell 1 rfl 1 _ rfl) ?_
     exact WL.nil ⟨v1, v2, b3, B, hf1, hf2, hf5, hd0, hd1, hd2, hd3, (fun _ => rfl), hd5, hd6, hd7, hd8, hd9, hd10, hd11, hd12, hd13, C14_2, C14_13, (fun _ _ _ => H), (fun a _ _ => nX e2 a), (fun _ a _ => nX e13 a), (fun a _ _ => nX e2 a), (fun a _ _ => nX e2 a)⟩
    ·
     have H := W2 e2 e13 e14
     refine O.load sc3 rfl rfl rfl (H.cell 1 rfl 1 _ rfl) ?_
     exact WL.nil ⟨v1, v2, b3, B, hf1, hf2, hf5, hd0, hd1, hd2, hd3, (fun _ => rfl), hd5, hd6, hd7, hd8, hd9, hd10, hd11, hd12, hd13, C14_2, C14_13, (fun _ a _ => nT e13 a), (fun a _ _ => nX e2 a), (fun _ _ _ => H), (fun a _ _ => nX e2 a), (fun a _ _ => nX e2 a)⟩
   ·
    rcases bool_ft (S 13) with e13 | e13
    ·
     have H := W1 e2 e13 e14
     refine O.load sc3 rfl rfl rfl (H.cell 1 rfl 1 _ rfl) ?_
     exact WL.nil ⟨v1, v2, b3, B, hf1, hf2, hf5, hd0, hd1, hd2, hd3, (fun _ => rfl), hd5, hd6, hd7, hd8, hd9, hd10, hd11, hd12, hd13, C14_2, C14_13, (fun a _ _ => nT e2 a), (fun _ _ _ => H), (fun a _ _ => nT e2 a), (fun _ a _ => nX e13 a), (fun _ a _ => nX e13 a)⟩
    ·
     have H := W3 e2 e13 e14
     refine O.load sc3 rfl rfl rfl (H.cell 1 rfl 1 _ rfl) ?_
     exact WL.nil ⟨v1, v2, b3, B, hf1, hf2, hf5, hd0, hd1, hd2, hd3, (fun _ => rfl), hd5, hd6, hd7, hd8, hd9, hd10, hd11, hd12, hd13, C14_2, C14_13, (fun a _ _ => nT e2 a), (fun _ a _ => nT e13 a), (fun a _ _ => nT e2 a), (fun _ _ _ => H), (fun _ _ a => nX e14 a)⟩
  ·
   rintro S f w hS - ⟨e6, e9, e10, e11, e12, e14, -⟩ ⟨v1, v2, b3, B, hf1, hf2, hf5, hd0, hd1, hd2, hd3, hd4, hd5, t⟩
   obtain ⟨u6, rfl⟩ := up1 hf5
   have H := B
   refine O.fieldAddr fd39_2 rfl rfl rfl ?_
   exact WL.nil ⟨v1, v2, b3, B, hf1, hf2, rfl, hd0, hd1, hd2, hd3, hd4, (fun _ => rfl), t⟩
  ·
   rintro S f w hS ⟨e5, -⟩ ⟨e9, e10, e11, e12, e14, -⟩ ⟨v1, v2, b3, B, hf1, hf2, hf5, hd0, hd1, hd2, hd3, hd4, hd5, hd6, hd7, hd8, hd9, hd10, hd11, hd12, hd13, C14_2, C14_13, W0, W1, W2, W3, W4⟩
   have hf19 := hd5 e5
   obtain ⟨u7, rfl⟩ := up1 hf19
   rcases bool_ft (S 2) with e2 | e2
   ·
    rcases bool_ft (S 13) with e13 | e13
    ·
     have H := W0 e2 e13 e14
     refine O.load sc3 rfl rfl rfl (H.cell 1 rfl 2 _ rfl) ?_
     exact WL.nil ⟨v1, v2, b3, B, hf1, hf2, hf5, hd0, hd1, hd2, hd3, hd4, hd5, (fun _ => rfl), hd7, hd8, hd9, hd10, hd11, hd12, hd13, C14_2, C14_13, (fun _ _ _ => H), (fun a _ _ => nX e2 a), (fun _ a _ => nX e13 a), (fun a _ _ => nX e2 a), (fun a _ _ => nX e2 a)⟩
    ·
     have H := W2 e2 e13 e14
     refine O.load sc3 rfl rfl rfl (H.cell 1 rfl 2 _ rfl) ?_
     exact WL.nil ⟨v1, v2, b3, B, hf1, hf2, hf5, hd0, hd1, hd2, hd3, hd4, hd5, (fun _ => rfl), hd7, hd8, hd9, hd10, hd11, hd12, hd13, C14_2, C14_13, (fun _ a _ => nT e13 a), (fun a _ _ => nX e2 a), (fun _ _ _ => H), (fun a _ _ => nX e2 a), (fun a _ _ => nX e2 a)⟩
   ·
    rcases bool_ft (S 13) with e13 | e13
    ·
     have H := W1 e2 e13 e14
     refine O.load sc3 rfl rfl rfl (H.cell 1 rfl 2 _ rfl) ?_
     exact WL.nil ⟨v1, v2, b3, B, hf1, hf2, hf5, hd0, hd1, hd2, hd3, hd4, hd5, (fun _ => rfl), hd7, hd8, hd9, hd10, hd11, hd12, hd13, C14_2, C14_13, (fun a _ _ => nT e2 a), (fun _ _ _ => H), (fun a _ _ => nT e2 a), (fun _ a _ => nX e13 a), (fun _ a _ => nX e13 a)⟩
    ·
     have H := W3 e2 e13 e14
     refine O.load sc3 rfl rfl rfl (H.cell 1 rfl 2 _ rfl) ?_
     exact WL.nil ⟨v1, v2, b3, B, hf1, hf2, hf5, hd0, hd1, hd2, hd3, hd4, hd5, (fun _ => rfl), hd7, hd8, hd9, hd10, hd11, hd12, hd13, C14_2, C14_13, (fun a _ _ => nT e2 a), (fun _ a _ => nT e13 a), (fun a _ _ => nT e2 a), (fun _ _ _ => H), (fun _ _ a => nX e14 a)⟩
  ·
   rintro S f w hS - ⟨e8, e9, e10, e11, e12, e14, -⟩ ⟨v1, v2, b3, B, hf1, hf2, hf5, hd0, hd1, hd2, hd3, hd4, hd5, hd6, hd7, t⟩
   obtain ⟨u8, rfl⟩ := up1 hf5
   have H := B
   refine O.fieldAddr fd39_0 rfl rfl rfl ?_
   exact WL.nil ⟨v1, v2, b3, B, hf1, hf2, rfl, hd0, hd1, hd2, hd3, hd4, hd5, hd6, (fun _ => rfl), t⟩
  ·
   rintro S f w hS ⟨e7, -⟩ ⟨e9, e10, e11, e12, e14, -⟩ ⟨v1, v2, b3, B, hf1, hf2, hf5, hd0, hd1, hd2, hd3, hd4, hd5, hd6, hd7, hd8, hd9, hd10, hd11, hd12, hd13, C14_2, C14_13, W0, W1, W2, W3, W4⟩
   have hf21 := hd7 e7
   obtain ⟨u9, rfl⟩ := up1 hf21
   rcases bool_ft (S 2) with e2 | e2
   ·
    rcases bool_ft (S 13) with e13 | e13
    ·
     have H := W0 e2 e13 e14
     refine O.load sc3 rfl rfl rfl (H.cell 1 rfl 0 _ rfl) ?_
     exact WL.nil ⟨v1, v2, b3, B, hf1, hf2, hf5, hd0, hd1, hd2, hd3, hd4, hd5, hd6, hd7, (fun _ => rfl), hd9, hd10, hd11, hd12, hd13, C14_2, C14_13, (fun _ _ _ => H), (fun a _ _ => nX e2 a), (fun _ a _ => nX e13 a), (fun a _ _ => nX e2 a), (fun a _ _ => nX e2 a)⟩
    ·
     have H := W2 e2 e13 e14
     refine O.load sc3 rfl rfl rfl (H.cell 1 rfl 0 _ rfl) ?_
     exact WL.nil ⟨v1, v2, b3, B, hf1, hf2, hf5, hd0, hd1, hd2, hd3, hd4, hd5, hd6, hd7, (fun _ => rfl), hd9, hd10, hd11, hd12, hd13, C14_2, C14_13, (fun _ a _ => nT e13 a), (fun a _ _ => nX e2 a), (fun _ _ _ => H), (fun a _ _ => nX e2 a), (fun a _ _ => nX e2 a)⟩
   ·
    rcases bool_ft (S 13) with e13 | e13
    ·
     have H := W1 e2 e13 e14
     refine O.load sc3 rfl rfl rfl (H.cell 1 rfl 0 _ rfl) ?_
     exact WL.nil ⟨v1, v2, b3, B, hf1, hf2, hf5, hd0, hd1, hd2, hd3, hd4, hd5, hd6, hd7, (fun _ => rfl), hd9, hd10, hd11, hd12, hd13, C14_2, C14_13, (fun a _ _ => nT e2 a), (fun _ _ _ => H), (fun a _ _ => nT e2 a), (fun _ a _ => nX e13 a), (fun _ a _ => nX e13 a)⟩
    ·
     have H := W3 e2 e13 e14
     refine O.load sc3 rfl rfl rfl (H.cell 1 rfl 0 _ rfl) ?_
     exact WL.nil ⟨v1, v2, b3, B, hf1, hf2, hf5, hd0, hd1, hd2, hd3, hd4, hd5, hd6, hd7, (fun _ => rfl), hd9, hd10, hd11, hd12, hd13, C14_2, C14_13, (fun a _ _ => nT e2 a), (fun _ a _ => nT e13 a), (fun a _ _ => nT e2 a), (fun _ _ _ => H), (fun _ _ a => nX e14 a)⟩
  ·
   rintro S f w hS ⟨e0, e1, e2, e3, e4, e5, e6, e7, e8, -⟩ ⟨e10, e11, e12, e14, -⟩ ⟨v1, v2, b3, B, hf1, hf2, hf5, hd0, hd1, hd2, hd3, hd4, hd5, hd6, hd7, hd8, hd9, hd10, hd11, hd12, hd13, C14_2, C14_13, W0, W1, W2, W3, W4⟩
   have hf16 := hd2 e2
   have hf18 := hd4 e4
   have hf20 := hd6 e6
   have hf22 := hd8 e8
   obtain ⟨u10, rfl⟩ := up4 hf16 hf18 hf20 hf22
   rcases bool_ft (S 13) with e13 | e13
   ·
    have H := W1 e2 e13 e14
    refine O.call Try.call23 rfl rfl rfl (c_noongunref02_Between _ _ t1 (H.own 2 rfl) (H.own 3 rfl) _ _ _ hy2) ?_
    rintro _ w5 hb4 rfl
    have H := H.ext hb4
    exact WL.nil ⟨v1, v2, b3, (H.pick [] [] rfl (by decide)), hf1, hf2, hf5, hd0, hd1, hd2, hd3, hd4, hd5, hd6, hd7, hd8, (fun _ => rfl), hd10, hd11, hd12, hd13, C14_2, C14_13, (fun a _ _ => nT e2 a), (fun _ _ _ => H), (fun a _ _ => nT e2 a), (fun _ a _ => nX e13 a), (fun _ a _ => nX e13 a)⟩
   ·
    have H := W3 e2 e13 e14
    refine O.call Try.call23 rfl rfl rfl (c_noongunref02_Between _ _ t1 (H.own 2 rfl) (H.own 3 rfl) _ _ _ hy2) ?_
    rintro _ w5 hb4 rfl
    have H := H.ext hb4
    exact WL.nil ⟨v1, v2, b3, (H.pick [] [] rfl (by decide)), hf1, hf2, hf5, hd0, hd1, hd2, hd3, hd4, hd5, hd6, hd7, hd8, (fun _ => rfl), hd10, hd11, hd12, hd13, C14_2, C14_13, (fun a _ _ => nT e2 a), (fun _ a _ => nT e13 a), (fun a _ _ => nT e2 a), (fun _ _ _ => H), (fun _ _ a => nX e14 a)⟩
  ·
   rintro S f w hS ⟨e0, e1, e2, e3, e4, e5, e6, e7, e8, e9, -⟩ ⟨e11, e12, e14, -⟩ ⟨v1, v2, b3, B, hf1, hf2, hf5, hd0, hd1, hd2, hd3, hd4, hd5, hd6, hd7, hd8, hd9, hd10, t⟩
   have hf23 := hd9 e9
   obtain ⟨u11, rfl⟩ := up1 hf23
   have H := B
   refine O.move (v := (.tuple #[(.agg (Flat.cells t2).toArray), (.int .i64 t3)])) rfl rfl rfl ?_
   exact WL.nil ⟨v1, v2, b3, B, hf1, hf2, hf5, hd0, hd1, hd2, hd3, hd4, hd5, hd6, hd7, hd8, hd9, (fun _ => rfl), t⟩
  ·
   rintro S f w hS ⟨e0, e1, e2, e3, e4, e5, e6, e7, e8, e9, e10, -⟩ ⟨e14, -⟩ ⟨v1, v2, b3, B, hf1, hf2, hf5, hd0, hd1, hd2, hd3, hd4, hd5, hd6, hd7, hd8, hd9, hd10, hd11, t⟩
   have hf13 := hd10 e10
   obtain ⟨u12, rfl⟩ := up1 hf13
   have H := B
   refine O.extract (v := (.agg (Flat.cells t2).toArray)) rfl rfl rfl rfl ?_
   exact WL.nil ⟨v1, v2, b3, B, hf1, hf2, hf5, hd0, hd1, hd2, hd3, hd4, hd5, hd6, hd7, hd8, hd9, hd10, (fun _ => rfl), t⟩
  ·
   rintro S f w hS ⟨e0, e1, e2, e3, e4, e5, e6, e7, e8, e9, e10, -⟩ - ⟨v1, v2, b3, B, hf1, hf2, hf5, hd0, hd1, hd2, hd3, hd4, hd5, hd6, hd7, hd8, hd9, hd10, hd11, hd12, t⟩
   have hf13 := hd10 e10
   obtain ⟨u13, rfl⟩ := up1 hf13
   have H := B
   refine O.extract (v := (.int .i64 t3)) rfl rfl rfl rfl ?_
   exact WL.nil ⟨v1, v2, b3, B, hf1, hf2, hf5, hd0, hd1, hd2, hd3, hd4, hd5, hd6, hd7, hd8, hd9, hd10, hd11, (fun _ => rfl), t⟩
  ·
   rintro S f w hS - ⟨e14, -⟩ ⟨v1, v2, _, B, hf1, hf2, hf5, hd0, hd1, hd2, hd3, hd4, hd5, hd6, hd7, hd8, hd9, hd10, hd11, hd12, hd13, C14_2, C14_13, W0, W1, W2, W3, W4⟩
   rcases bool_ft (S 2) with e2 | e2
   ·
    have H := W0 e2 hS e14
    refine O.alloc [(.int .i64 0), (.int .i64 0)] ze30 H rfl rfl rfl ?_
    intro b3 w6 H hb5
    refine WL.nil ?_
    have H := H.pick [0, 1, 2, 3, 5] [boxI b1 25 [va0_0, va0_1], boxI b2 39 [(.int .i64 x1.At), (.int .i64 x1.A), (.int .i64 x1.B), (.int .i64 x1.Lo), (.int .i64 x1.Hi)], goneI, goneI, boxI b3 30 [(.int .i64 0), (.int .i64 0)]] rfl (by decide)
    exact ⟨v1, v2, b3, (H.pick [] [] rfl (by decide)), hf1, hf2, hf5, hd0, hd1, hd2, hd3, hd4, hd5, hd6, hd7, hd8, hd9, hd10, hd11, hd12, (fun _ => rfl), C14_2, (fun _ => rfl), (fun _ a _ => nG a), (fun a _ _ => nX e2 a), (fun _ _ _ => H), (fun a _ _ => nX e2 a), (fun a _ _ => nX e2 a)⟩
   ·
    have H := W1 e2 hS e14
    refine O.alloc [(.int .i64 0), (.int .i64 0)] ze30 H rfl rfl rfl ?_
    intro b3 w6 H hb5
    refine WL.nil ?_
    have H := H.pick [0, 1, 2, 3, 5] [boxI b1 25 [va0_0, va0_1], boxI b2 39 [(.int .i64 x1.At), (.int .i64 x1.A), (.int .i64 x1.B), (.int .i64 x1.Lo), (.int .i64 x1.Hi)], ownI (α := Int) v1 3 t1.Rates, ownI (α := GSight) v2 39 t1.Sights, boxI b3 30 [(.int .i64 0), (.int .i64 0)]] rfl (by decide)
    exact ⟨v1, v2, b3, (H.pick [] [] rfl (by decide)), hf1, hf2, hf5, hd0, hd1, hd2, hd3, hd4, hd5, hd6, hd7, hd8, hd9, hd10, hd11, hd12, (fun _ => rfl), C14_2, (fun _ => rfl), (fun a _ _ => nT e2 a), (fun _ a _ => nG a), (fun a _ _ => nT e2 a), (fun _ _ _ => H), (fun _ _ a => nX e14 a)⟩
  ·
   rintro S f w hS ⟨e0, e1, e2, e3, e4, e5, e6, e7, e8, e9, e10, e11, e13, -⟩ - ⟨v1, v2, b3, B, hf1, hf2, hf5, hd0, hd1, hd2, hd3, hd4, hd5, hd6, hd7, hd8, hd9, hd10, hd11, hd12, hd13, C14_2, C14_13, W0, W1, W2, W3, W4⟩
   have hf6 := hd13 e13
   have hf24 := hd11 e11
   obtain ⟨u14, rfl⟩ := up2 hf6 hf24
   have H := W3 e2 e13 hS
   refine O.store 4 0 [(.int .i64 t2.Lo), (.int .i64 t2.Hi)] [(.int .i64 t2.Lo), (.int .i64 t2.Hi)] sz30 H rfl rfl rfl rfl rfl rfl ⟨⟨rfl, rfl⟩, rfl⟩ (one_cons rfl (one_cons rfl one_nil)) ?_
   intro w7 H
   exact WL.nil ⟨v1, v2, b3, (H.pick [] [] rfl (by decide)), hf1, hf2, hf5, hd0, hd1, hd2, hd3, hd4, hd5, hd6, hd7, hd8, hd9, hd10, hd11, hd12, hd13, (fun _ => e2), (fun _ => e13), (fun a _ _ => nT e2 a), (fun _ a _ => nT e13 a), (fun a _ _ => nT e2 a), (fun _ _ a => nG a), (fun _ _ _ => H)⟩
 ·
  rintro S f w ⟨e0, e1, e2, e3, e4, e5, e6, e7, e8, e9, e10, e11, e12, e13, e14, -⟩ ⟨v1, v2, b3, B, hf1, hf2, hf5, hd0, hd1, hd2, hd3, hd4, hd5, hd6, hd7, hd8, hd9, hd10, hd11, hd12, hd13, C14_2, C14_13, W0, W1, W2, W3, W4⟩
  have hf6 := hd13 e13
  have hf25 := hd12 e12
  have H := W4 e2 e13 e14
  obtain ⟨u15, rfl⟩ := up3 hf5 hf6 hf25
  refine O.assign (v := (.int .i64 t3)) rfl rfl rfl ?_
  refine WL.nil ?_
  refine W.seq ?_
  refine W.region ?_
  refine O.move (v := (.int .i64 t3)) rfl rfl rfl ?_
  refine O.eql rfl rfl rfl rfl ?_
  refine O.move (v := (.bool (t3 == 0))) rfl rfl rfl ?_
  refine WL.cut 6 (fun f w => f 5 = (.pointer (some ⟨b2, 0, none⟩)) ∧ f 6 = (.pointer (some ⟨b3, 0, none⟩)) ∧ f 34 = .bool ((t3 == 0) && (decide (x1.Lo ≤ t2.Lo))) ∧ Inv w0 w [boxI b1 25 [va0_0, va0_1], boxI b2 39 [(.int .i64 x1.At), (.int .i64 x1.A), (.int .i64 x1.B), (.int .i64 x1.Lo), (.int .i64 x1.Hi)], ownI (α := Int) v1 3 t1.Rates, ownI (α := GSight) v2 39 t1.Sights, boxI b3 30 [(.int .i64 t2.Lo), (.int .i64 t2.Hi)]]) ?_ ?_
  ·
   rcases bool_ft (t3 == 0) with hc1 | hc1
   ·
    refine WL.reset (i := 28) (v := .bool false) (congrArg Value.bool hc1) ?_
    refine O.skip rfl rfl ?_
    refine O.skip rfl rfl ?_
    refine O.skip rfl rfl ?_
    refine O.skip rfl rfl ?_
    refine O.skip rfl rfl ?_
    refine O.pick_false (v := (.bool false)) rfl rfl rfl rfl ?_
    exact WL.nil ⟨rfl, rfl, congrArg Value.bool (and_f hc1), H⟩
   ·
    refine WL.reset (i := 28) (v := .bool true) (congrArg Value.bool hc1) ?_
    refine O.fieldAddr fd39_3 rfl rfl rfl ?_
    refine O.load sc3 rfl rfl rfl (H.cell 1 rfl 3 _ rfl) ?_
    refine O.fieldAddr fd30_0 rfl rfl rfl ?_
    refine O.load sc3 rfl rfl rfl (H.cell 4 rfl 0 _ rfl) ?_
    refine O.leq rfl rfl rfl rfl ?_
    refine O.pick_true (v := (.bool (decide (x1.Lo ≤ t2.Lo)))) rfl rfl rfl rfl ?_
    exact WL.nil ⟨rfl, rfl, congrArg Value.bool (and_t hc1), H⟩
  ·
   rintro f w ⟨hf5, hf6, hf34, H⟩
   obtain ⟨u16, rfl⟩ := up3 hf5 hf6 hf34
   refine O.move (v := (.bool ((t3 == 0) && (decide (x1.Lo ≤ t2.Lo))))) rfl rfl rfl ?_
   refine WL.cut 6 (fun f w => f 41 = .bool (((t3 == 0) && (decide (x1.Lo ≤ t2.Lo))) && (decide (t2.Hi ≤ x1.Hi))) ∧ Inv w0 w [boxI b1 25 [va0_0, va0_1], boxI b2 39 [(.int .i64 x1.At), (.int .i64 x1.A), (.int .i64 x1.B), (.int .i64 x1.Lo), (.int .i64 x1.Hi)], ownI (α := Int) v1 3 t1.Rates, ownI (α := GSight) v2 39 t1.Sights, boxI b3 30 [(.int .i64 t2.Lo), (.int .i64 t2.Hi)]]) ?_ ?_
   ·
    rcases bool_ft ((t3 == 0) && (decide (x1.Lo ≤ t2.Lo))) with hc2 | hc2
    ·
     refine WL.reset (i := 35) (v := .bool false) (congrArg Value.bool hc2) ?_
     refine O.skip rfl rfl ?_
     refine O.skip rfl rfl ?_
     refine O.skip rfl rfl ?_
     refine O.skip rfl rfl ?_
     refine O.skip rfl rfl ?_
     refine O.pick_false (v := (.bool false)) rfl rfl rfl rfl ?_
     exact WL.nil ⟨congrArg Value.bool (and_f hc2), H⟩
    ·
     refine WL.reset (i := 35) (v := .bool true) (congrArg Value.bool hc2) ?_
     refine O.fieldAddr fd30_1 rfl rfl rfl ?_
     refine O.load sc3 rfl rfl rfl (H.cell 4 rfl 1 _ rfl) ?_
     refine O.fieldAddr fd39_4 rfl rfl rfl ?_
     refine O.load sc3 rfl rfl rfl (H.cell 1 rfl 4 _ rfl) ?_
     refine O.leq rfl rfl rfl rfl ?_
     refine O.pick_true (v := (.bool (decide (t2.Hi ≤ x1.Hi)))) rfl rfl rfl rfl ?_
     exact WL.nil ⟨congrArg Value.bool (and_t hc2), H⟩
   ·
    rintro f w ⟨hf41, H⟩
    obtain ⟨u17, rfl⟩ := up1 hf41
    refine O.assign (v := (.bool (((t3 == 0) && (decide (x1.Lo ≤ t2.Lo))) && (decide (t2.Hi ≤ x1.Hi))))) rfl rfl rfl ?_
    refine WL.nil ?_
    refine W.ret ?_
    have hq : (((t3 == 0) && (decide (x1.Lo ≤ t2.Lo))) && (decide (t2.Hi ≤ x1.Hi))) = r0 := Option.some.inj (show some (((t3 == 0) && (decide (x1.Lo ≤ t2.Lo))) && (decide (t2.Hi ≤ x1.Hi))) = some r0 from hm)
    subst hq
    exact ends1 Try.results84 rfl ⟨_, rfl, H.base, rfl⟩

theorem c_noongunref02_Implied {w0 : World} (va0_0 : Value) (va0_1 : Value) (a0 : GNet) (ha0_0 : SliceR w0 va0_0 a0.Rates) (ha0_1 : SliceR w0 va0_1 a0.Sights) (a1 : Int) {r0 : Bool} {r1 : Int} (hm : noongunref02_Implied a0 a1 = some (r0, r1)) :
  Calls Try.prog 50 #[(.agg #[va0_0, va0_1]), (.int .i64 a1)] w0 (Ret w0 fun _ v => v = .tuple #[(.bool r0), (.int .i64 r1)]) := by
 unfold noongunref02_Implied at hm
 refine calls_of_W Try.func50 rfl Try.ntmps50 (Nat.le_of_ble_eq_true rfl) ?_
 have H := Inv.start (w := w0)
 refine W.seq ?_
 refine W.region ?_
 refine O.box [va0_0, va0_1] H rfl rfl rfl rfl ?_
 intro b1 w1 H hb1
 refine O.assign (v := (.bool false)) rfl rfl rfl ?_
 refine O.assign (v := (.int .i64 0)) rfl rfl rfl ?_
 refine WL.nil ?_
 refine W.seq ?_
 refine W.seq ?_
 refine W.region ?_
 refine O.loadA [va0_0, va0_1] ag25 rfl rfl rfl rfl (H.cell 0 rfl) ?_
 obtain ⟨t1, hy1, hm⟩ := bind_some hm
 refine O.call Try.call18 rfl rfl rfl (c_noongunref02_Valid _ _ (GNet.mk a0.Rates a0.Sights) (H.arg ha0_0) (H.arg ha0_1) hy1) ?_
 rintro _ w2 hb2 rfl
 have H := H.ext hb2
 refine O.not rfl rfl rfl ?_
 refine WL.nil ?_
 rcases ite_some hm with ⟨hc1, hm⟩ | ⟨hc1, hm⟩
 ·
  refine W.cond_true (congrArg Value.bool hc1) ?_
  refine W.seq ?_
  refine W.region ?_
  refine O.assign (v := (.bool false)) rfl rfl rfl ?_
  refine O.assign (v := (.int .i64 1)) rfl rfl rfl ?_
  refine WL.nil ?_
  refine W.ret ?_
  have hq : (false, 1) = (r0, r1) := Option.some.inj (show some (false, 1) = some (r0, r1) from hm)
  obtain ⟨he0, hq0⟩ := Prod.mk.inj hq; clear hq; subst he0
  subst hq0
  exact ends2 Try.results50 rfl rfl ⟨_, rfl, H.base, rfl⟩
 ·
  refine W.cond_false (congrArg Value.bool hc1) ?_
  refine W.skip ?_
  refine W.seq ?_
  refine W.seq ?_
  refine W.region ?_
  refine O.move (v := (.int .i64 a1)) rfl rfl rfl ?_
  refine O.fieldAddr fd25_1 rfl rfl rfl ?_
  refine O.load sc23 rfl rfl rfl (H.cell 0 rfl 1 _ rfl) ?_
  refine O.lenS Try.underlying23 (H.arg ha0_1) rfl rfl rfl ?_
  obtain ⟨t2, ht2, hm⟩ := bind_some hm
  refine O.sub rfl rfl rfl rfl ht2 ?_
  obtain ⟨t3, hy2, hm⟩ := bind_some hm
  refine O.call Try.call59 rfl rfl rfl (c_noongunref02_within _ _ _ hy2) ?_
  rintro _ w3 hb3 rfl
  have H := H.ext hb3
  refine O.not rfl rfl rfl ?_
  refine WL.nil ?_
  rcases ite_some hm with ⟨hc2, hm⟩ | ⟨hc2, hm⟩
  ·
   refine W.cond_true (congrArg Value.bool hc2) ?_
   refine W.seq ?_
   refine W.region ?_
   refine O.assign (v := (.bool false)) rfl rfl rfl ?_
   refine O.assign (v := (.int .i64 5)) rfl rfl rfl ?_
   refine WL.nil ?_
   refine W.ret ?_
   have hq : (false, 5) = (r0, r1) := Option.some.inj (show some (false, 5) = some (r0, r1) from hm)
   obtain ⟨he0, hq0⟩ := Prod.mk.inj hq; clear hq; subst he0
   subst hq0
   exact ends2 Try.results50 rfl rfl ⟨_, rfl, H.base, rfl⟩
  ·
   refine W.cond_false (congrArg Value.bool hc2) ?_
   refine W.skip ?_
   refine W.seq ?_
   refine W.seq ?_
   refine W.region ?_
   refine O.loadA [va0_0, va0_1] ag25 rfl rfl rfl rfl (H.cell 0 rfl) ?_
   have H := H.addNil (α := GPoint) (E := 78)
   have H := H.pick [0, 1] ([boxI b1 25 [va0_0, va0_1]] ++ [ownI (α := GPoint) (.slice none 0 0) 78 ([] : List GPoint)]) rfl (by decide)
   obtain ⟨⟨t4, t5⟩, hy3, hm⟩ := bind_some hm
   refine O.callF [boxI b1 25 [va0_0, va0_1]] [ownI (α := GPoint) (.slice none 0 0) 78 ([] : List GPoint)] H Try.call67 rfl rfl rfl (c_ref_ways _ _ (GNet.mk a0.Rates a0.Sights) _ ([] : List GPoint) (fun _ hb => ha0_0.mono (Inv.belowF H hb)) (fun _ hb => ha0_1.mono (Inv.belowF H hb)) (InvD.frame H) hy3) ?_
   intro vq w4 Lq H hvq
   obtain ⟨b2, v1, v2, rc1, rfl, rfl⟩ := hvq
   have H := H.addGone
   have H := H.pick [0, 4, 1, 2, 3] [boxI b1 25 [va0_0, va0_1], goneI, boxI b2 118 [v1, v2], ownI (α := GPoint) v1 78 t4, mtxI (α := Int) v2 22 3 rc1 t5] rfl (by decide)
   obtain ⟨t6, hy4, hm⟩ := bind_some hm
   refine O.call Try.call68 rfl rfl rfl (c_noongunref02_graph_consistent _ _ _ (GRefgraph.mk t4 t5) (H.cell 2 rfl) (H.own 3 rfl) (H.mtxRd 4 rfl) hy4) ?_
   rintro _ w5 hb4 rfl
   have H := H.ext hb4
   refine O.not rfl rfl rfl ?_
   refine WL.nil ?_
   rcases ite_some hm with ⟨hc3, hm⟩ | ⟨hc3, hm⟩
   ·
    refine W.cond_true (congrArg Value.bool hc3) ?_
    refine W.seq ?_
    refine W.region ?_
    refine O.assign (v := (.bool false)) rfl rfl rfl ?_
    refine O.assign (v := (.int .i64 9)) rfl rfl rfl ?_
    refine WL.nil ?_
    refine W.ret ?_
    have hq : (false, 9) = (r0, r1) := Option.some.inj (show some (false, 9) = some (r0, r1) from hm)
    obtain ⟨he0, hq0⟩ := Prod.mk.inj hq; clear hq; subst he0
    subst hq0
    exact ends2 Try.results50 rfl rfl ⟨_, rfl, H.base, rfl⟩
   ·
    refine W.cond_false (congrArg Value.bool hc3) ?_
    refine W.skip ?_
    refine W.seq ?_
    refine W.region ?_
    refine O.loadA [va0_0, va0_1] ag25 rfl rfl rfl rfl (H.cell 0 rfl) ?_
    refine O.move (v := (.int .i64 a1)) rfl rfl rfl ?_
    obtain ⟨t7, hy5, hm⟩ := bind_some hm
    refine O.call Try.call84 rfl rfl rfl (c_noongunref02_implied _ _ (GNet.mk a0.Rates a0.Sights) (H.arg ha0_0) (H.arg ha0_1) _ hy5) ?_
    rintro _ w6 hb5 rfl
    have H := H.ext hb5
    refine O.assign (v := (.bool t7)) rfl rfl rfl ?_
    refine O.assign (v := (.int .i64 0)) rfl rfl rfl ?_
    refine WL.nil ?_
    refine W.ret ?_
    have hq : (t7, 0) = (r0, r1) := Option.some.inj (show some (t7, 0) = some (r0, r1) from hm)
    obtain ⟨he0, hq0⟩ := Prod.mk.inj hq; clear hq; subst he0
    subst hq0
    exact ends2 Try.results50 rfl rfl ⟨_, rfl, H.base, rfl⟩

theorem c_sight_agrees {w0 : World} (va0_0 : Value) (va0_1 : Value) (a0 : GNet) (ha0_0 : SliceR w0 va0_0 a0.Rates) (ha0_1 : SliceR w0 va0_1 a0.Sights) {r0 : Int} (hm : sight_agrees a0 = some r0) :
  Calls Try.prog 78 #[(.agg #[va0_0, va0_1])] w0 (Ret w0 fun _ v => v = (.int .i64 r0)) := by
 unfold sight_agrees at hm
 refine calls_of_W Try.func78 rfl Try.ntmps78 (Nat.le_of_ble_eq_true rfl) ?_
 have H := Inv.start (w := w0)
 refine W.seq ?_
 refine W.region ?_
 refine O.box [va0_0, va0_1] H rfl rfl rfl rfl ?_
 intro b1 w1 H hb1
 refine O.assign (v := (.int .i64 0)) rfl rfl rfl ?_
 refine WL.nil ?_
 refine W.seq ?_
 refine W.region ?_
 refine O.loadA [va0_0, va0_1] ag25 rfl rfl rfl rfl (H.cell 0 rfl) ?_
 obtain ⟨⟨t1, t2⟩, hy1, hm⟩ := bind_some hm
 refine O.call Try.call20 rfl rfl rfl (c_sight_Consistent _ _ (GNet.mk a0.Rates a0.Sights) (H.arg ha0_0) (H.arg ha0_1) hy1) ?_
 rintro _ w2 hb2 rfl
 have H := H.ext hb2
 refine O.move (v := (.tuple #[(.bool t1), (.int .i64 t2)])) rfl rfl rfl ?_
 refine O.extract (v := (.bool t1)) rfl rfl rfl rfl ?_
 refine O.extract (v := (.int .i64 t2)) rfl rfl rfl rfl ?_
 refine O.assign (v := (.bool t1)) rfl rfl rfl ?_
 refine O.assign (v := (.int .i64 t2)) rfl rfl rfl ?_
 refine WL.nil ?_
 refine W.seq ?_
 refine W.seq ?_
 refine W.region ?_
 refine O.move (v := (.int .i64 t2)) rfl rfl rfl ?_
 refine O.eql rfl rfl rfl rfl ?_
 refine O.move (v := (.bool (t2 == 0))) rfl rfl rfl ?_
 refine WL.cut 3 (fun f w => f 4 = (.int .i64 t2) ∧ f 15 = .bool ((t2 == 0) && (!t1)) ∧ Inv w0 w [boxI b1 25 [va0_0, va0_1]]) ?_ ?_
 ·
  rcases bool_ft (t2 == 0) with hc1 | hc1
  ·
   refine WL.reset (i := 12) (v := .bool false) (congrArg Value.bool hc1) ?_
   refine O.skip rfl rfl ?_
   refine O.skip rfl rfl ?_
   refine O.pick_false (v := (.bool false)) rfl rfl rfl rfl ?_
   exact WL.nil ⟨rfl, congrArg Value.bool (and_f hc1), H⟩
  ·
   refine WL.reset (i := 12) (v := .bool true) (congrArg Value.bool hc1) ?_
   refine O.move (v := (.bool t1)) rfl rfl rfl ?_
   refine O.not rfl rfl rfl ?_
   refine O.pick_true (v := (.bool (!t1))) rfl rfl rfl rfl ?_
   exact WL.nil ⟨rfl, congrArg Value.bool (and_t hc1), H⟩
 ·
  rintro f w ⟨hf4, hf15, H⟩
  obtain ⟨u1, rfl⟩ := up2 hf4 hf15
  refine WL.nil ?_
  rcases ite_some hm with ⟨hc2, hm⟩ | ⟨hc2, hm⟩
  ·
   refine W.cond_true (congrArg Value.bool hc2) ?_
   refine W.seq ?_
   refine W.region ?_
   refine O.assign (v := (.int .i64 9)) rfl rfl rfl ?_
   refine WL.nil ?_
   refine W.ret ?_
   have hq : 9 = r0 := Option.some.inj (show some 9 = some r0 from hm)
   subst hq
   exact ends1 Try.results78 rfl ⟨_, rfl, H.base, rfl⟩
  ·
   refine W.cond_false (congrArg Value.bool hc2) ?_
   refine W.skip ?_
   refine W.seq ?_
   refine W.region ?_
   refine O.move (v := (.int .i64 t2)) rfl rfl rfl ?_
   refine O.assign (v := (.int .i64 t2)) rfl rfl rfl ?_
   refine WL.nil ?_
   refine W.ret ?_
   have hq : t2 = r0 := Option.some.inj (show some t2 = some r0 from hm)
   subst hq
   exact ends1 Try.results78 rfl ⟨_, rfl, H.base, rfl⟩

set_option maxRecDepth 20000 in
theorem c_sight_Tight {w0 : World} (va0_0 : Value) (va0_1 : Value) (a0 : GNet) (ha0_0 : SliceR w0 va0_0 a0.Rates) (ha0_1 : SliceR w0 va0_1 a0.Sights) {r0 : GNet} {r1 : Int} (hm : sight_Tight a0 = some (r0, r1)) :
  Calls Try.prog 42 #[(.agg #[va0_0, va0_1])] w0 (Ret w0 fun w v => ∃ vr0_0 : Value, ∃ vr0_1 : Value, v = .tuple #[(.agg #[vr0_0, vr0_1]), (.int .i64 r1)] ∧ Inv w0 w [ownI (α := Int) vr0_0 3 r0.Rates, ownI (α := GSight) vr0_1 39 r0.Sights]) := by
 unfold sight_Tight at hm
 refine calls_of_W Try.func42 rfl Try.ntmps42 (Nat.le_of_ble_eq_true rfl) ?_
 have H := Inv.start (w := w0)
 refine W.seq ?_
 refine W.region ?_
 refine O.box [va0_0, va0_1] H rfl rfl rfl rfl ?_
 intro b1 w1 H hb1
 refine O.alloc [(.slice none 0 0), (.slice none 0 0)] ze25 H rfl rfl rfl ?_
 intro b2 w2 H hb2
 have H := H.addNil (α := Int) (E := 3)
 have H := H.addNil (α := GSight) (E := 39)
 refine O.assign (v := (.int .i64 0)) rfl rfl rfl ?_
 refine WL.nil ?_
 refine W.seq ?_
 refine W.seq ?_
 refine W.region ?_
 refine O.loadA [va0_0, va0_1] ag25 rfl rfl rfl rfl (H.cell 0 rfl) ?_
 obtain ⟨t1, hy1, hm⟩ := bind_some hm
 refine O.call Try.call78 rfl rfl rfl (c_sight_agrees _ _ (GNet.mk a0.Rates a0.Sights) (H.arg ha0_0) (H.arg ha0_1) hy1) ?_
 rintro _ w3 hb3 rfl
 have H := H.ext hb3
 refine O.assign (v := (.int .i64 t1)) rfl rfl rfl ?_
 refine WL.nil ?_
 refine W.seq ?_
 refine W.region ?_
 refine O.move (v := (.int .i64 t1)) rfl rfl rfl ?_
 refine O.neq rfl rfl rfl rfl ?_
 refine WL.nil ?_
 rcases ite_some hm with ⟨hc1, hm⟩ | ⟨hc1, hm⟩
 ·
  refine W.cond_true (congrArg Value.bool hc1) ?_
  refine W.seq ?_
  refine W.region ?_
  refine O.build (v := (.agg #[(.slice none 0 0), (.slice none 0 0)])) (fun w => bd25_  w) rfl rfl rfl ?_
  refine O.move (v := (.int .i64 t1)) rfl rfl rfl ?_
  have H := H.addNil (α := Int) (E := 3)
  have H := H.addNil (α := GSight) (E := 39)
  refine O.store 1 0 [(.slice none 0 0), (.slice none 0 0)] [(.slice none 0 0), (.slice none 0 0)] sz25 H rfl rfl rfl rfl rfl rfl ⟨⟨rfl, rfl⟩, rfl⟩ (one_cons rfl (one_cons rfl one_nil)) ?_
  intro w4 H
  refine O.assign (v := (.int .i64 t1)) rfl rfl rfl ?_
  refine WL.nil ?_
  refine W.ret ?_
  have hq : ((GNet.mk ([] : List Int) ([] : List GSight)), t1) = (r0, r1) := Option.some.inj (show some ((GNet.mk ([] : List Int) ([] : List GSight)), t1) = some (r0, r1) from hm)
  obtain ⟨he0, hq0⟩ := Prod.mk.inj hq; clear hq; subst he0
  subst hq0
  exact ends2 Try.results42 ⟨_, rfl, run_loadVar_agg ag25 rfl (H.cell 1 rfl)⟩ rfl ⟨_, rfl, H.base, ⟨_, _, rfl, H.pick [4, 5] [ownI (α := Int) (.slice none 0 0) 3 ([] : List Int), ownI (α := GSight) (.slice none 0 0) 39 ([] : List GSight)] rfl (by decide)⟩⟩
 ·
  refine W.cond_false (congrArg Value.bool hc1) ?_
  refine W.skip ?_
  refine W.seq ?_
  refine W.region ?_
  refine O.fieldAddr fd25_0 rfl rfl rfl ?_
  refine O.load sc22 rfl rfl rfl (H.cell 0 rfl 0 _ rfl) ?_
  obtain ⟨t2, hy2, hm⟩ := bind_some hm
  refine O.call Try.call65 rfl rfl rfl (c_slices_Clone_int _ _ (H.arg ha0_0) hy2) ?_
  rintro v1 w5 hb4 ho1
  have H := H.addOwn hb4 ho1
  obtain ⟨ad1, cap1, hvad1, _⟩ := (H.own 4 rfl).shape
  refine O.build (v := (.agg #[v1, (.slice none 0 0)])) (fun w => by rw [hvad1]; exact bd25_0 _ _ _ w) rfl rfl rfl ?_
  refine O.alloc [(.slice none 0 0), (.slice none 0 0)] ze25 H rfl rfl rfl ?_
  intro b3 w6 H hb5
  have H := H.addNil (α := Int) (E := 3)
  have H := H.addNil (α := GSight) (E := 39)
  have H := H.addNil (α := GSight) (E := 39)
  refine O.store 5 0 [v1, (.slice none 0 0)] [v1, (.slice none 0 0)] sz25 H rfl rfl rfl rfl rfl rfl ⟨⟨rfl, rfl⟩, rfl⟩ (one_cons (SliceR.one (H.own 4 rfl)) (one_cons rfl one_nil)) ?_
  intro w7 H
  refine WL.nil ?_
  refine W.seq ?_
  refine W.seq ?_
  refine W.region ?_
  refine O.fieldAddr fd25_1 rfl rfl rfl ?_
  refine O.load sc23 rfl rfl rfl (H.cell 0 rfl 1 _ rfl) ?_
  refine O.lenS Try.underlying23 (H.arg ha0_1) rfl rfl rfl ?_
  refine O.move (v := (.int .i64 0)) rfl rfl rfl ?_
  refine WL.nil ?_
  obtain ⟨s1, hm1, hm⟩ := bind_some hm
  refine W.via (fun f w => ∃ v5 : Value, f 2 = (.pointer (some ⟨b2, 0, none⟩)) ∧ f 5 = (.pointer (some ⟨b3, 0, none⟩)) ∧ Inv w0 w [boxI b2 25 [(.slice none 0 0), (.slice none 0 0)], ownI (α := Int) (.slice none 0 0) 3 ([] : List Int), ownI (α := GSight) (.slice none 0 0) 39 ([] : List GSight), ownI (α := Int) v1 3 t2, boxI b3 25 [v1, v5], ownI (α := GSight) v5 39 s1]) ?_ ?_
  ·
   refine W.block ?_
   have H := H.keep [0, 1, 2, 3, 4, 5, 8] [boxI b1 25 [va0_0, va0_1], boxI b2 25 [(.slice none 0 0), (.slice none 0 0)], ownI (α := Int) (.slice none 0 0) 3 ([] : List Int), ownI (α := GSight) (.slice none 0 0) 39 ([] : List GSight), ownI (α := Int) v1 3 t2, boxI b3 25 [v1, (.slice none 0 0)], ownI (α := GSight) (.slice none 0 0) 39 ([] : List GSight)] rfl (by decide)
   refine W.rangeL (i := 0) hm1 (fun rem ik1 s f w => ∃ z2 : (List GSight), ∃ v3 : Value, z2 = s ∧ a0.Sights.drop ik1 = rem ∧ f 23 = .int .i64 (ik1 : Int) ∧ f 22 = (.int .i64 ((a0.Sights.length : Nat) : Int)) ∧ f 1 = (.pointer (some ⟨b1, 0, none⟩)) ∧ f 2 = (.pointer (some ⟨b2, 0, none⟩)) ∧ f 5 = (.pointer (some ⟨b3, 0, none⟩)) ∧ f 21 = va0_1 ∧ Inv w0 w [boxI b1 25 [va0_0, va0_1], boxI b2 25 [(.slice none 0 0), (.slice none 0 0)], ownI (α := Int) (.slice none 0 0) 3 ([] : List Int), ownI (α := GSight) (.slice none 0 0) 39 ([] : List GSight), ownI (α := Int) v1 3 t2, boxI b3 25 [v1, v3], ownI (α := GSight) v3 39 z2]) ?_ ?_ ?_
   ·
    exact ⟨_, (.slice none 0 0), rfl, List.drop_zero, rfl, rfl, rfl, rfl, rfl, rfl, H⟩
   ·
    rintro yk1 xs ik1 _ st f w ⟨z2, v3, rfl, hdropk1, hf23, hf22, hf1, hf2, hf5, hf21, H⟩ hm2
    have hltk1 := drop_lt hdropk1; have hixk1 := drop_idx hdropk1
    obtain ⟨u1, rfl⟩ := up6 hf23 hf22 hf1 hf2 hf5 hf21
    have hinck1 := addI_lt hltk1 (H.arg ha0_1).len_le
    refine W.seq ?_
    refine W.region ?_
    refine O.lss rfl rfl rfl rfl ?_
    refine WL.nil ?_
    refine W.seq ?_
    refine W.cond_true (congrArg Value.bool (decide_eq_true hltk1)) ?_
    refine W.skip ?_
    refine W.seq ?_
    refine W.block ?_
    refine W.seq ?_
    refine W.region ?_
    obtain ⟨p1, hp1, hrp1⟩ := fix_indexAddr Try.underlying23 sz39 ha0_1 hixk1
    refine hrp1 rfl rfl rfl rfl ?_
    refine O.loadA [(.int .i64 yk1.At), (.int .i64 yk1.A), (.int .i64 yk1.B), (.int .i64 yk1.Lo), (.int .i64 yk1.Hi)] ag39 rfl rfl rfl rfl ((hp1.mono H.base).flat) ?_
    refine O.alloc [(.int .i64 0), (.int .i64 0), (.int .i64 0), (.int .i64 0), (.int .i64 0)] ze39 H rfl rfl rfl ?_
    intro b4 w8 H hb6
    refine O.store 7 0 [(.int .i64 yk1.At), (.int .i64 yk1.A), (.int .i64 yk1.B), (.int .i64 yk1.Lo), (.int .i64 yk1.Hi)] [(.int .i64 yk1.At), (.int .i64 yk1.A), (.int .i64 yk1.B), (.int .i64 yk1.Lo), (.int .i64 yk1.Hi)] sz39 H rfl rfl rfl rfl rfl rfl ⟨⟨rfl, rfl⟩, rfl⟩ (one_cons rfl (one_cons rfl (one_cons rfl (one_cons rfl (one_cons rfl one_nil))))) ?_
    intro w9 H
    refine WL.nil ?_
    refine W.seq ?_
    refine W.region ?_
    refine O.loadA [va0_0, va0_1] ag25 rfl rfl rfl rfl (H.cell 0 rfl) ?_
    refine O.fieldAddr fd39_1 rfl rfl rfl ?_
    refine O.load sc3 rfl rfl rfl (H.cell 7 rfl 1 _ rfl) ?_
    refine O.fieldAddr fd39_2 rfl rfl rfl ?_
    refine O.load sc3 rfl rfl rfl (H.cell 7 rfl 2 _ rfl) ?_
    refine O.fieldAddr fd39_0 rfl rfl rfl ?_
    refine O.load sc3 rfl rfl rfl (H.cell 7 rfl 0 _ rfl) ?_
    obtain ⟨⟨t3, t4⟩, hy3, hm2⟩ := bind_some hm2
    refine O.call Try.call58 rfl rfl rfl (c_sight_between _ _ (GNet.mk a0.Rates a0.Sights) (H.arg ha0_0) (H.arg ha0_1) _ _ _ hy3) ?_
    rintro _ w10 hb7 rfl
    have H := H.ext hb7
    refine O.move (v := (.tuple #[(.agg (Flat.cells t3).toArray), (.bool t4)])) rfl rfl rfl ?_
    refine O.extract (v := (.agg (Flat.cells t3).toArray)) rfl rfl rfl rfl ?_
    refine O.extract (v := (.bool t4)) rfl rfl rfl rfl ?_
    refine O.alloc [(.int .i64 0), (.int .i64 0)] ze30 H rfl rfl rfl ?_
    intro b5 w11 H hb8
    refine O.store 8 0 [(.int .i64 t3.Lo), (.int .i64 t3.Hi)] [(.int .i64 t3.Lo), (.int .i64 t3.Hi)] sz30 H rfl rfl rfl rfl rfl rfl ⟨⟨rfl, rfl⟩, rfl⟩ (one_cons rfl (one_cons rfl one_nil)) ?_
    intro w12 H
    refine O.assign (v := (.bool t4)) rfl rfl rfl ?_
    refine WL.nil ?_
    refine W.seq ?_
    refine W.drawS 5 [2, 3] (fun w9 => Inv w0 w9 [boxI b1 25 [va0_0, va0_1], boxI b2 25 [(.slice none 0 0), (.slice none 0 0)], ownI (α := Int) (.slice none 0 0) 3 ([] : List Int), ownI (α := GSight) (.slice none 0 0) 39 ([] : List GSight), ownI (α := Int) v1 3 t2, boxI b3 25 [v1, v3], ownI (α := GSight) v3 39 z2, boxI b4 39 [(.int .i64 yk1.At), (.int .i64 yk1.A), (.int .i64 yk1.B), (.int .i64 t3.Lo), (.int .i64 yk1.Hi)], boxI b5 30 [(.int .i64 t3.Lo), (.int .i64 t3.Hi)]]) (fun f => f 1 = (.pointer (some ⟨b1, 0, none⟩)) ∧ f 2 = (.pointer (some ⟨b2, 0, none⟩)) ∧ f 5 = (.pointer (some ⟨b3, 0, none⟩)) ∧ f 7 = (.pointer (some ⟨b4, 0, none⟩)) ∧ f 21 = va0_1 ∧ f 22 = (.int .i64 ((a0.Sights.length : Nat) : Int)) ∧ f 23 = (.int .i64 (ik1 : Int)) ∧ f 39 = (.int .i64 t3.Lo) ∧ f 41 = (.int .i64 t3.Hi) ∧ f 42 = (.pointer (some (Addr.add (Addr.mk b4 0 none) 3)))) fol (by kernel_rfl) rfl ?_ ?_ ?_
    ·
     refine PL.of (fun b w8 hb hx => match b, hb, hx with | none, _, hx => by exact O.fieldAddr fd30_0 rfl rfl rfl (WL.nil ⟨rfl, hx⟩) | some _, hb, _ => absurd (hb rfl) (by decide)) ?_
     refine PL.of (fun b w8 hb hx => match b, hb, hx with | none, _, hx => by have H := H.ext hx; exact O.load sc3 rfl rfl rfl (H.cell 8 rfl 0 _ rfl) (WL.nil ⟨rfl, hx⟩) | some _, hb, _ => absurd (hb rfl) (by decide)) ?_
     refine PL.of (fun b w8 _ hx => match b, hx with | none, hx => by exact O.fieldAddr fd30_1 rfl rfl rfl (WL.nil ⟨rfl, hx⟩) | some _, H => O.fieldAddr fd30_1 rfl rfl rfl (WL.nil ⟨rfl, H⟩)) ?_
     refine PL.of (fun b w8 _ hx => match b, hx with | none, hx => by have H := H.ext hx; exact O.load sc3 rfl rfl rfl (H.cell 8 rfl 1 _ rfl) (WL.nil ⟨rfl, hx⟩) | some _, H => O.load sc3 rfl rfl rfl (H.cell 8 rfl 1 _ rfl) (WL.nil ⟨rfl, H⟩)) ?_
     refine PL.of (fun b w8 hb hx => match b, hb, hx with | none, _, hx => by exact O.fieldAddr fd39_3 rfl rfl rfl (WL.nil ⟨rfl, hx⟩) | some _, hb, _ => absurd (hb rfl) (by decide)) ?_
     refine PL.nil ?_
     exact ⟨rfl, rfl, rfl, rfl, rfl, rfl, rfl, rfl, rfl, rfl⟩
    ·
     rintro f ⟨hf1, hf2, hf5, hf7, hf21, hf22, hf23, hf39, hf41, hf42⟩ w hx
     obtain ⟨u2, rfl⟩ : ∃ u2, f = (upd (upd (upd (upd (upd (upd (upd (upd (upd (upd u2 1 (.pointer (some ⟨b1, 0, none⟩))) 2 (.pointer (some ⟨b2, 0, none⟩))) 5 (.pointer (some ⟨b3, 0, none⟩))) 7 (.pointer (some ⟨b4, 0, none⟩))) 21 va0_1) 22 (.int .i64 ((a0.Sights.length : Nat) : Int))) 23 (.int .i64 (ik1 : Int))) 39 (.int .i64 t3.Lo)) 41 (.int .i64 t3.Hi)) 42 (.pointer (some (Addr.add (Addr.mk b4 0 none) 3)))) := ⟨f, by rw [upd_self hf1, upd_self hf2, upd_self hf5, upd_self hf7, upd_self hf21, upd_self hf22, upd_self hf23, upd_self hf39, upd_self hf41, upd_self hf42]⟩
     have H := H.ext hx
     exact O.store 7 3 [(.int .i64 t3.Lo)] [(.int .i64 yk1.At), (.int .i64 yk1.A), (.int .i64 yk1.B), (.int .i64 t3.Lo), (.int .i64 yk1.Hi)] sz3 H rfl rfl rfl rfl rfl rfl ⟨⟨rfl, rfl⟩, rfl⟩ (one_cons rfl one_nil) (fun _ H => WL.nil ⟨rfl, H⟩)
    ·
     rintro f w ⟨hf1, hf2, hf5, hf7, hf21, hf22, hf23, hf39, hf41, hf42⟩ hmd H
     obtain ⟨u3, rfl⟩ : ∃ u3, f = (upd (upd (upd (upd (upd (upd (upd (upd (upd (upd u3 1 (.pointer (some ⟨b1, 0, none⟩))) 2 (.pointer (some ⟨b2, 0, none⟩))) 5 (.pointer (some ⟨b3, 0, none⟩))) 7 (.pointer (some ⟨b4, 0, none⟩))) 21 va0_1) 22 (.int .i64 ((a0.Sights.length : Nat) : Int))) 23 (.int .i64 (ik1 : Int))) 39 (.int .i64 t3.Lo)) 41 (.int .i64 t3.Hi)) 42 (.pointer (some (Addr.add (Addr.mk b4 0 none) 3)))) := ⟨f, by rw [upd_self hf1, upd_self hf2, upd_self hf5, upd_self hf7, upd_self hf21, upd_self hf22, upd_self hf23, upd_self hf39, upd_self hf41, upd_self hf42]⟩
     refine O.fieldAddr fd39_4 rfl rfl rfl ?_
     refine O.store 7 4 [(.int .i64 t3.Hi)] [(.int .i64 yk1.At), (.int .i64 yk1.A), (.int .i64 yk1.B), (.int .i64 t3.Lo), (.int .i64 t3.Hi)] sz3 H rfl rfl rfl rfl rfl rfl ⟨⟨rfl, rfl⟩, rfl⟩ (one_cons rfl one_nil) ?_
     intro w13 H
     refine WL.nil ?_
     refine W.region ?_
     refine O.fieldAddr fd25_1 rfl rfl rfl ?_
     refine O.load sc23 rfl rfl rfl (H.cell 5 rfl 1 _ rfl) ?_
     refine O.loadA [(.int .i64 yk1.At), (.int .i64 yk1.A), (.int .i64 yk1.B), (.int .i64 t3.Lo), (.int .i64 t3.Hi)] ag39 rfl rfl rfl rfl (H.cell 7 rfl) ?_
     refine O.buildSlice (α := GSight) [(.agg (Flat.cells (GSight.mk yk1.At yk1.A yk1.B t3.Lo t3.Hi)).toArray)] [(GSight.mk yk1.At yk1.A yk1.B t3.Lo t3.Hi)] Try.underlying23 el39 H rfl rfl rfl rfl rfl rfl rfl ?_
     intro v6 w14 H hb9
     obtain ⟨t5, ht5, hm2⟩ := bind_some hm2
     refine O.append 6 Try.underlying23 el39 rfl H rfl (H.own 9 rfl) ht5 rfl rfl rfl rfl ?_
     intro v7 w15 H
     refine O.fieldAddr fd25_1 rfl rfl rfl ?_
     refine O.store 5 1 [v7] [v1, v7] sz23 H rfl rfl rfl rfl rfl (SliceR.cells1 (H.own 6 rfl)) ⟨⟨rfl, rfl⟩, rfl⟩ (one_cons (SliceR.one (H.own 6 rfl)) one_nil) ?_
     intro w16 H
     refine WL.nil ?_
     refine W.region ?_
     refine O.add rfl rfl rfl rfl hinck1 ?_
     refine O.move (v := .int .i64 ((ik1 : Int) + 1)) rfl rfl rfl ?_
     refine WL.nil ?_
     have H := H.keep [0, 1, 2, 3, 4, 5, 6] [boxI b1 25 [va0_0, va0_1], boxI b2 25 [(.slice none 0 0), (.slice none 0 0)], ownI (α := Int) (.slice none 0 0) 3 ([] : List Int), ownI (α := GSight) (.slice none 0 0) 39 ([] : List GSight), ownI (α := Int) v1 3 t2, boxI b3 25 [v1, v7], ownI (α := GSight) v7 39 t5] rfl (by decide)
     obtain rfl := Option.some.inj hm2
     exact ⟨_, rfl, _, v7, rfl, drop_next hdropk1, rfl, rfl, rfl, rfl, rfl, rfl, H⟩
   ·
    rintro ik1 _ f w ⟨z2, v3, rfl, hdropk1, hf23, hf22, hf1, hf2, hf5, hf21, H⟩ hfin
    have hltk1 := drop_end hdropk1
    obtain ⟨u4, rfl⟩ := up6 hf23 hf22 hf1 hf2 hf5 hf21
    refine W.seq ?_
    refine W.region ?_
    refine O.lss rfl rfl rfl rfl ?_
    refine WL.nil ?_
    refine W.seq ?_
    refine W.cond_false (congrArg Value.bool (decide_eq_false hltk1)) ?_
    refine W.exit ?_
    have hq : z2 = s1 := hfin
    subst hq
    have H := H.keep [1, 2, 3, 4, 5, 6] [boxI b2 25 [(.slice none 0 0), (.slice none 0 0)], ownI (α := Int) (.slice none 0 0) 3 ([] : List Int), ownI (α := GSight) (.slice none 0 0) 39 ([] : List GSight), ownI (α := Int) v1 3 t2, boxI b3 25 [v1, v3], ownI (α := GSight) v3 39 z2] rfl (by decide)
    refine xT rfl ?_
    exact ⟨v3, rfl, rfl, H⟩
  ·
   rintro f w ⟨v5, hf2, hf5, H⟩
   obtain ⟨u5, rfl⟩ := up2 hf2 hf5
   refine W.seq ?_
   refine W.region ?_
   refine O.loadA [v1, v5] ag25 rfl rfl rfl rfl (H.cell 4 rfl) ?_
   refine O.store 0 0 [v1, v5] [v1, v5] sz25 H rfl rfl rfl rfl rfl rfl ⟨⟨rfl, rfl⟩, rfl⟩ (one_cons (SliceR.one (H.own 3 rfl)) (one_cons (SliceR.one (H.own 5 rfl)) one_nil)) ?_
   intro w17 H
   refine O.assign (v := (.int .i64 0)) rfl rfl rfl ?_
   refine WL.nil ?_
   refine W.ret ?_
   have hq : ((GNet.mk t2 s1), 0) = (r0, r1) := Option.some.inj (show some ((GNet.mk t2 s1), 0) = some (r0, r1) from hm)
   obtain ⟨he0, hq0⟩ := Prod.mk.inj hq; clear hq; subst he0
   subst hq0
   exact ends2 Try.results42 ⟨_, rfl, run_loadVar_agg ag25 rfl (H.cell 0 rfl)⟩ rfl ⟨_, rfl, H.base, ⟨_, _, rfl, H.pick [3, 5] [ownI (α := Int) v1 3 t2, ownI (α := GSight) v5 39 s1] rfl (by decide)⟩⟩

set_option maxRecDepth 20000 in
theorem c_noongunref02_Tight {w0 : World} (va0_0 : Value) (va0_1 : Value) (a0 : GNet) (ha0_0 : SliceR w0 va0_0 a0.Rates) (ha0_1 : SliceR w0 va0_1 a0.Sights) {r0 : GNet} {r1 : Int} (hm : noongunref02_Tight a0 = some (r0, r1)) :
  Calls Try.prog 51 #[(.agg #[va0_0, va0_1])] w0 (Ret w0 fun w v => ∃ vr0_0 : Value, ∃ vr0_1 : Value, v = .tuple #[(.agg #[vr0_0, vr0_1]), (.int .i64 r1)] ∧ Inv w0 w [ownI (α := Int) vr0_0 3 r0.Rates, ownI (α := GSight) vr0_1 39 r0.Sights]) := by
 unfold noongunref02_Tight at hm
 refine calls_of_W Try.func51 rfl Try.ntmps51 (Nat.le_of_ble_eq_true rfl) ?_
 have H := Inv.start (w := w0)
 refine W.seq ?_
 refine W.region ?_
 refine O.box [va0_0, va0_1] H rfl rfl rfl rfl ?_
 intro b1 w1 H hb1
 refine O.alloc [(.slice none 0 0), (.slice none 0 0)] ze25 H rfl rfl rfl ?_
 intro b2 w2 H hb2
 have H := H.addNil (α := Int) (E := 3)
 have H := H.addNil (α := GSight) (E := 39)
 refine O.assign (v := (.int .i64 0)) rfl rfl rfl ?_
 refine WL.nil ?_
 refine W.seq ?_
 refine W.seq ?_
 refine W.region ?_
 refine O.loadA [va0_0, va0_1] ag25 rfl rfl rfl rfl (H.cell 0 rfl) ?_
 obtain ⟨t1, hy1, hm⟩ := bind_some hm
 refine O.call Try.call18 rfl rfl rfl (c_noongunref02_Valid _ _ (GNet.mk a0.Rates a0.Sights) (H.arg ha0_0) (H.arg ha0_1) hy1) ?_
 rintro _ w3 hb3 rfl
 have H := H.ext hb3
 refine O.not rfl rfl rfl ?_
 refine WL.nil ?_
 rcases ite_some hm with ⟨hc1, hm⟩ | ⟨hc1, hm⟩
 ·
  refine W.cond_true (congrArg Value.bool hc1) ?_
  refine W.seq ?_
  refine W.region ?_
  refine O.build (v := (.agg #[(.slice none 0 0), (.slice none 0 0)])) (fun w => bd25_  w) rfl rfl rfl ?_
  have H := H.addNil (α := Int) (E := 3)
  have H := H.addNil (α := GSight) (E := 39)
  refine O.store 1 0 [(.slice none 0 0), (.slice none 0 0)] [(.slice none 0 0), (.slice none 0 0)] sz25 H rfl rfl rfl rfl rfl rfl ⟨⟨rfl, rfl⟩, rfl⟩ (one_cons rfl (one_cons rfl one_nil)) ?_
  intro w4 H
  refine O.assign (v := (.int .i64 1)) rfl rfl rfl ?_
  refine WL.nil ?_
  refine W.ret ?_
  have hq : ((GNet.mk ([] : List Int) ([] : List GSight)), 1) = (r0, r1) := Option.some.inj (show some ((GNet.mk ([] : List Int) ([] : List GSight)), 1) = some (r0, r1) from hm)
  obtain ⟨he0, hq0⟩ := Prod.mk.inj hq; clear hq; subst he0
  subst hq0
  exact ends2 Try.results51 ⟨_, rfl, run_loadVar_agg ag25 rfl (H.cell 1 rfl)⟩ rfl ⟨_, rfl, H.base, ⟨_, _, rfl, H.pick [4, 5] [ownI (α := Int) (.slice none 0 0) 3 ([] : List Int), ownI (α := GSight) (.slice none 0 0) 39 ([] : List GSight)] rfl (by decide)⟩⟩
 ·
  refine W.cond_false (congrArg Value.bool hc1) ?_
  refine W.skip ?_
  refine W.seq ?_
  refine W.seq ?_
  refine W.region ?_
  refine O.loadA [va0_0, va0_1] ag25 rfl rfl rfl rfl (H.cell 0 rfl) ?_
  have H := H.addNil (α := GPoint) (E := 78)
  have H := H.pick [0, 1, 2, 3, 4] ([boxI b1 25 [va0_0, va0_1], boxI b2 25 [(.slice none 0 0), (.slice none 0 0)], ownI (α := Int) (.slice none 0 0) 3 ([] : List Int), ownI (α := GSight) (.slice none 0 0) 39 ([] : List GSight)] ++ [ownI (α := GPoint) (.slice none 0 0) 78 ([] : List GPoint)]) rfl (by decide)
  obtain ⟨⟨t2, t3⟩, hy2, hm⟩ := bind_some hm
  refine O.callF [boxI b1 25 [va0_0, va0_1], boxI b2 25 [(.slice none 0 0), (.slice none 0 0)], ownI (α := Int) (.slice none 0 0) 3 ([] : List Int), ownI (α := GSight) (.slice none 0 0) 39 ([] : List GSight)] [ownI (α := GPoint) (.slice none 0 0) 78 ([] : List GPoint)] H Try.call67 rfl rfl rfl (c_ref_ways _ _ (GNet.mk a0.Rates a0.Sights) _ ([] : List GPoint) (fun _ hb => ha0_0.mono (Inv.belowF H hb)) (fun _ hb => ha0_1.mono (Inv.belowF H hb)) (InvD.frame H) hy2) ?_
  intro vq w5 Lq H hvq
  obtain ⟨b3, v1, v2, rc1, rfl, rfl⟩ := hvq
  have H := H.addGone
  have H := H.pick [0, 1, 2, 3, 7, 4, 5, 6] [boxI b1 25 [va0_0, va0_1], boxI b2 25 [(.slice none 0 0), (.slice none 0 0)], ownI (α := Int) (.slice none 0 0) 3 ([] : List Int), ownI (α := GSight) (.slice none 0 0) 39 ([] : List GSight), goneI, boxI b3 118 [v1, v2], ownI (α := GPoint) v1 78 t2, mtxI (α := Int) v2 22 3 rc1 t3] rfl (by decide)
  obtain ⟨t4, hy3, hm⟩ := bind_some hm
  refine O.call Try.call68 rfl rfl rfl (c_noongunref02_graph_consistent _ _ _ (GRefgraph.mk t2 t3) (H.cell 5 rfl) (H.own 6 rfl) (H.mtxRd 7 rfl) hy3) ?_
  rintro _ w6 hb4 rfl
  have H := H.ext hb4
  refine O.not rfl rfl rfl ?_
  refine WL.nil ?_
  rcases ite_some hm with ⟨hc2, hm⟩ | ⟨hc2, hm⟩
  ·
   refine W.cond_true (congrArg Value.bool hc2) ?_
   refine W.seq ?_
   refine W.region ?_
   refine O.build (v := (.agg #[(.slice none 0 0), (.slice none 0 0)])) (fun w => bd25_  w) rfl rfl rfl ?_
   have H := H.addNil (α := Int) (E := 3)
   have H := H.addNil (α := GSight) (E := 39)
   refine O.store 1 0 [(.slice none 0 0), (.slice none 0 0)] [(.slice none 0 0), (.slice none 0 0)] sz25 H rfl rfl rfl rfl rfl rfl ⟨⟨rfl, rfl⟩, rfl⟩ (one_cons rfl (one_cons rfl one_nil)) ?_
   intro w7 H
   refine O.assign (v := (.int .i64 9)) rfl rfl rfl ?_
   refine WL.nil ?_
   refine W.ret ?_
   have hq : ((GNet.mk ([] : List Int) ([] : List GSight)), 9) = (r0, r1) := Option.some.inj (show some ((GNet.mk ([] : List Int) ([] : List GSight)), 9) = some (r0, r1) from hm)
   obtain ⟨he0, hq0⟩ := Prod.mk.inj hq; clear hq; subst he0
   subst hq0
   exact ends2 Try.results51 ⟨_, rfl, run_loadVar_agg ag25 rfl (H.cell 1 rfl)⟩ rfl ⟨_, rfl, H.base, ⟨_, _, rfl, H.pick [8, 9] [ownI (α := Int) (.slice none 0 0) 3 ([] : List Int), ownI (α := GSight) (.slice none 0 0) 39 ([] : List GSight)] rfl (by decide)⟩⟩
  ·
   refine W.cond_false (congrArg Value.bool hc2) ?_
   refine W.skip ?_
   refine W.seq ?_
   refine W.region ?_
   refine O.loadA [va0_0, va0_1] ag25 rfl rfl rfl rfl (H.cell 0 rfl) ?_
   obtain ⟨t5, hy4, hm⟩ := bind_some hm
   refine O.call Try.call82 rfl rfl rfl (c_noongunref02_without _ _ (GNet.mk a0.Rates a0.Sights) (H.arg ha0_0) (H.arg ha0_1) _ hy4) ?_
   rintro _ w8 hb5 ⟨v3, v4, rfl, ho1⟩
   have H := H.addAll hb5 ho1
   refine O.alloc [(.slice none 0 0), (.slice none 0 0)] ze25 H rfl rfl rfl ?_
   intro b4 w9 H hb6
   have H := H.addNil (α := Int) (E := 3)
   have H := H.addNil (α := GSight) (E := 39)
   refine O.store 10 0 [v3, v4] [v3, v4] sz25 H rfl rfl rfl rfl rfl rfl ⟨⟨rfl, rfl⟩, rfl⟩ (one_cons (SliceR.one (H.own 8 rfl)) (one_cons (SliceR.one (H.own 9 rfl)) one_nil)) ?_
   intro w10 H
   refine WL.nil ?_
   refine W.seq ?_
   refine W.seq ?_
   refine W.region ?_
   refine O.fieldAddr fd25_1 rfl rfl rfl ?_
   refine O.load sc23 rfl rfl rfl (H.cell 0 rfl 1 _ rfl) ?_
   refine O.lenS Try.underlying23 (H.arg ha0_1) rfl rfl rfl ?_
   refine O.move (v := (.int .i64 0)) rfl rfl rfl ?_
   refine WL.nil ?_
   obtain ⟨s1, hm1, hm⟩ := bind_some hm
   refine W.via (fun f w => ∃ v8 : Value, f 2 = (.pointer (some ⟨b2, 0, none⟩)) ∧ f 4 = (.pointer (some ⟨b4, 0, none⟩)) ∧ Inv w0 w [boxI b2 25 [(.slice none 0 0), (.slice none 0 0)], ownI (α := Int) (.slice none 0 0) 3 ([] : List Int), ownI (α := GSight) (.slice none 0 0) 39 ([] : List GSight), ownI (α := Int) v3 3 t5.Rates, ownI (α := GSight) v8 39 s1, boxI b4 25 [v3, v8]]) ?_ ?_
   ·
    refine W.block ?_
    have hbdik1 := (H.arg ha0_1).len_le
    have H := H.keep [0, 1, 2, 3, 8, 9, 10] [boxI b1 25 [va0_0, va0_1], boxI b2 25 [(.slice none 0 0), (.slice none 0 0)], ownI (α := Int) (.slice none 0 0) 3 ([] : List Int), ownI (α := GSight) (.slice none 0 0) 39 ([] : List GSight), ownI (α := Int) v3 3 t5.Rates, ownI (α := GSight) v4 39 t5.Sights, boxI b4 25 [v3, v4]] rfl (by decide)
    refine W.rangeN (i := 0) hm1 (fun rem ik1 s f w => ∃ z2 : (List GSight), ∃ v6 : Value, z2 = s ∧ (ik1 : Int) + rem = max 0 ((a0.Sights.length : Nat) : Int) ∧ f 23 = .int .i64 (ik1 : Int) ∧ f 22 = (.int .i64 ((a0.Sights.length : Nat) : Int)) ∧ f 1 = (.pointer (some ⟨b1, 0, none⟩)) ∧ f 2 = (.pointer (some ⟨b2, 0, none⟩)) ∧ f 4 = (.pointer (some ⟨b4, 0, none⟩)) ∧ f 21 = va0_1 ∧ Inv w0 w [boxI b1 25 [va0_0, va0_1], boxI b2 25 [(.slice none 0 0), (.slice none 0 0)], ownI (α := Int) (.slice none 0 0) 3 ([] : List Int), ownI (α := GSight) (.slice none 0 0) 39 ([] : List GSight), ownI (α := Int) v3 3 t5.Rates, ownI (α := GSight) v6 39 z2, boxI b4 25 [v3, v6]]) ?_ ?_ ?_
    ·
     exact ⟨_, v4, rfl, rangeN_start, rfl, rfl, rfl, rfl, rfl, rfl, H⟩
    ·
     rintro k ik1 _ st f w ⟨z2, v6, rfl, hdropk1, hf23, hf22, hf1, hf2, hf4, hf21, H⟩ hm2
     have hltk1 := rangeN_lt hdropk1
     obtain ⟨u1, rfl⟩ := up6 hf23 hf22 hf1 hf2 hf4 hf21
     have hinck1 := addI_lt hltk1 hbdik1
     refine W.seq ?_
     refine W.region ?_
     refine O.lss rfl rfl rfl rfl ?_
     refine WL.nil ?_
     refine W.seq ?_
     refine W.cond_true (congrArg Value.bool (decide_eq_true hltk1)) ?_
     refine W.skip ?_
     refine W.seq ?_
     refine W.block ?_
     refine W.seq ?_
     refine W.region ?_
     refine O.move (v := (.int .i64 (ik1 : Int))) rfl rfl rfl ?_
     obtain ⟨x1, hx1, hm2⟩ := bind_some hm2
     obtain ⟨p1, hp1, hrp1⟩ := fix_indexAddr Try.underlying23 sz39 ha0_1 hx1
     refine hrp1 rfl rfl rfl rfl ?_
     refine O.loadA [(.int .i64 x1.At), (.int .i64 x1.A), (.int .i64 x1.B), (.int .i64 x1.Lo), (.int .i64 x1.Hi)] ag39 rfl rfl rfl rfl ((hp1.mono H.base).flat) ?_
     refine O.alloc [(.int .i64 0), (.int .i64 0), (.int .i64 0), (.int .i64 0), (.int .i64 0)] ze39 H rfl rfl rfl ?_
     intro b5 w11 H hb7
     refine O.assign (v := (.int .i64 (ik1 : Int))) rfl rfl rfl ?_
     refine O.store 7 0 [(.int .i64 x1.At), (.int .i64 x1.A), (.int .i64 x1.B), (.int .i64 x1.Lo), (.int .i64 x1.Hi)] [(.int .i64 x1.At), (.int .i64 x1.A), (.int .i64 x1.B), (.int .i64 x1.Lo), (.int .i64 x1.Hi)] sz39 H rfl rfl rfl rfl rfl rfl ⟨⟨rfl, rfl⟩, rfl⟩ (one_cons rfl (one_cons rfl (one_cons rfl (one_cons rfl (one_cons rfl one_nil))))) ?_
     intro w12 H
     refine WL.nil ?_
     refine W.seq ?_
     refine W.region ?_
     refine O.loadA [va0_0, va0_1] ag25 rfl rfl rfl rfl (H.cell 0 rfl) ?_
     refine O.fieldAddr fd39_1 rfl rfl rfl ?_
     refine O.load sc3 rfl rfl rfl (H.cell 7 rfl 1 _ rfl) ?_
     refine O.fieldAddr fd39_2 rfl rfl rfl ?_
     refine O.load sc3 rfl rfl rfl (H.cell 7 rfl 2 _ rfl) ?_
     refine O.fieldAddr fd39_0 rfl rfl rfl ?_
     refine O.load sc3 rfl rfl rfl (H.cell 7 rfl 0 _ rfl) ?_
     obtain ⟨⟨t6, t7⟩, hy5, hm2⟩ := bind_some hm2
     refine O.call Try.call23 rfl rfl rfl (c_noongunref02_Between _ _ (GNet.mk a0.Rates a0.Sights) (H.arg ha0_0) (H.arg ha0_1) _ _ _ hy5) ?_
     rintro _ w13 hb8 rfl
     have H := H.ext hb8
     refine O.move (v := (.tuple #[(.agg (Flat.cells t6).toArray), (.int .i64 t7)])) rfl rfl rfl ?_
     refine O.extract (v := (.agg (Flat.cells t6).toArray)) rfl rfl rfl rfl ?_
     refine O.extract (v := (.int .i64 t7)) rfl rfl rfl rfl ?_
     refine O.alloc [(.int .i64 0), (.int .i64 0)] ze30 H rfl rfl rfl ?_
     intro b6 w14 H hb9
     refine O.store 8 0 [(.int .i64 t6.Lo), (.int .i64 t6.Hi)] [(.int .i64 t6.Lo), (.int .i64 t6.Hi)] sz30 H rfl rfl rfl rfl rfl rfl ⟨⟨rfl, rfl⟩, rfl⟩ (one_cons rfl (one_cons rfl one_nil)) ?_
     intro w15 H
     refine O.assign (v := (.int .i64 t7)) rfl rfl rfl ?_
     refine WL.nil ?_
     obtain ⟨x2, hx2, hm2⟩ := bind_some hm2
     refine W.drawD 13 [[], [0], [], [], [3], [], [], [6], [], [8], [0, 1, 2, 6, 7], [0, 1, 2, 6, 7, 10], [0, 1, 2, 6, 7, 10, 11]] [[1, 10, 11, 12], [10, 11, 12], [10, 11, 12], [4], [], [], [7, 10, 11, 12], [10, 11, 12], [9], [], [11, 12], [12], []] (fun S f w => ∃ b7 : Nat, Inv w0 w [] ∧ f 1 = (.pointer (some ⟨b1, 0, none⟩)) ∧ f 2 = (.pointer (some ⟨b2, 0, none⟩)) ∧ f 4 = (.pointer (some ⟨b4, 0, none⟩)) ∧ f 5 = (.int .i64 (ik1 : Int)) ∧ f 7 = (.pointer (some ⟨b6, 0, none⟩)) ∧ f 21 = va0_1 ∧ f 22 = (.int .i64 ((a0.Sights.length : Nat) : Int)) ∧ f 23 = (.int .i64 (ik1 : Int)) ∧ (S 0 = true → f 39 = (.pointer (some (Addr.add (Addr.mk b4 0 none) 1)))) ∧ (S 1 = true → f 40 = v6) ∧ (S 2 = true → f 41 = (.int .i64 (ik1 : Int))) ∧ (S 3 = true → f 42 = (.pointer (some (Addr.add (Addr.mk b4 0 none) 1)))) ∧ (S 4 = true → f 43 = v6) ∧ (S 5 = true → f 44 = (.int .i64 (ik1 : Int))) ∧ (S 6 = true → f 45 = (.pointer (some (Addr.add (Addr.mk b6 0 none) 0)))) ∧ (S 7 = true → f 46 = (.int .i64 t6.Lo)) ∧ (S 8 = true → f 47 = (.pointer (some (Addr.add (Addr.mk b6 0 none) 1)))) ∧ (S 9 = true → f 48 = (.int .i64 t6.Hi)) ∧ (S 10 = true → f 49 = (.pointer (some ⟨b7, Int.toNat (ik1 : Int) * Flat.size GSight, none⟩))) ∧ (S 11 = true → f 50 = (.pointer (some (Addr.add ⟨b7, Int.toNat (ik1 : Int) * Flat.size GSight, none⟩ 3)))) ∧ (S 10 = true → Value.ownBlock v6 = some b7) ∧ (S 10 = true → S 12 = false → (ElemAt w (⟨b7, Int.toNat (ik1 : Int) * Flat.size GSight, none⟩ : Addr) x2)) ∧ (S 12 = false → Inv w0 w [boxI b1 25 [va0_0, va0_1], boxI b2 25 [(.slice none 0 0), (.slice none 0 0)], ownI (α := Int) (.slice none 0 0) 3 ([] : List Int), ownI (α := GSight) (.slice none 0 0) 39 ([] : List GSight), ownI (α := Int) v3 3 t5.Rates, ownI (α := GSight) v6 39 z2, boxI b4 25 [v3, v6], boxI b5 39 [(.int .i64 x1.At), (.int .i64 x1.A), (.int .i64 x1.B), (.int .i64 x1.Lo), (.int .i64 x1.Hi)], boxI b6 30 [(.int .i64 t6.Lo), (.int .i64 t6.Hi)]]) ∧ (S 12 = true → Inv w0 w [boxI b1 25 [va0_0, va0_1], boxI b2 25 [(.slice none 0 0), (.slice none 0 0)], ownI (α := Int) (.slice none 0 0) 3 ([] : List Int), ownI (α := GSight) (.slice none 0 0) 39 ([] : List GSight), ownI (α := Int) v3 3 t5.Rates, ownI (α := GSight) v6 39 (z2.set (Int.toNat (ik1 : Int)) (GSight.mk x2.At x2.A x2.B t6.Lo x2.Hi)), boxI b4 25 [v3, v6], boxI b5 39 [(.int .i64 x1.At), (.int .i64 x1.A), (.int .i64 x1.B), (.int .i64 x1.Lo), (.int .i64 x1.Hi)], boxI b6 30 [(.int .i64 t6.Lo), (.int .i64 t6.Hi)]])) fol (by kernel_rfl) ?_ ?_ ?_
     ·
      exact fun d _ => ⟨0, ((H.ext (below_drawn d)).pick [] [] rfl (by decide)), rfl, rfl, rfl, rfl, rfl, rfl, rfl, rfl, nF, nF, nF, nF, nF, nF, nF, nF, nF, nF, nF, nF, nF, nF, (fun _ => H.ext (below_drawn d)), nF⟩
     ·
      refine ⟨?_, ⟨?_, ⟨?_, ⟨?_, ⟨?_, ⟨?_, ⟨?_, ⟨?_, ⟨?_, ⟨?_, ⟨?_, ⟨?_, ⟨?_, trivial⟩⟩⟩⟩⟩⟩⟩⟩⟩⟩⟩⟩⟩
      ·
       rintro S f w hS - ⟨e1, e10, e11, e12, -⟩ ⟨b7, B, hf1, hf2, hf4, hf5, hf7, hf21, hf22, hf23, hd0, hd1, hd2, hd3, hd4, hd5, hd6, hd7, hd8, hd9, hd10, hd11, Fhob1, Fhp2, t⟩
       obtain ⟨u2, rfl⟩ := up1 hf4
       have H := t.1 e12
       refine O.fieldAddr fd25_1 rfl rfl rfl ?_
       exact WL.nil ⟨b7, B, hf1, hf2, rfl, hf5, hf7, hf21, hf22, hf23, (fun _ => rfl), hd1, hd2, hd3, hd4, hd5, hd6, hd7, hd8, hd9, hd10, hd11, Fhob1, (fun g0 g1 => Fhp2 g0 g1), t⟩
      ·
       rintro S f w hS ⟨e0, -⟩ ⟨e10, e11, e12, -⟩ ⟨b7, B, hf1, hf2, hf4, hf5, hf7, hf21, hf22, hf23, hd0, hd1, hd2, hd3, hd4, hd5, hd6, hd7, hd8, hd9, hd10, hd11, Fhob1, Fhp2, t⟩
       have hf39 := hd0 e0
       obtain ⟨u3, rfl⟩ := up1 hf39
       have H := t.1 e12
       refine O.load sc23 rfl rfl rfl (H.cell 6 rfl 1 _ rfl) ?_
       exact WL.nil ⟨b7, B, hf1, hf2, hf4, hf5, hf7, hf21, hf22, hf23, hd0, (fun _ => rfl), hd2, hd3, hd4, hd5, hd6, hd7, hd8, hd9, hd10, hd11, Fhob1, (fun g0 g1 => Fhp2 g0 g1), t⟩
      ·
       rintro S f w hS - ⟨e10, e11, e12, -⟩ ⟨b7, B, hf1, hf2, hf4, hf5, hf7, hf21, hf22, hf23, hd0, hd1, hd2, hd3, hd4, hd5, hd6, hd7, hd8, hd9, hd10, hd11, Fhob1, Fhp2, t⟩
       obtain ⟨u4, rfl⟩ := up1 hf5
       have H := t.1 e12
       refine O.move (v := (.int .i64 (ik1 : Int))) rfl rfl rfl ?_
       exact WL.nil ⟨b7, B, hf1, hf2, hf4, rfl, hf7, hf21, hf22, hf23, hd0, hd1, (fun _ => rfl), hd3, hd4, hd5, hd6, hd7, hd8, hd9, hd10, hd11, Fhob1, (fun g0 g1 => Fhp2 g0 g1), t⟩
      ·
       rintro S f w hS - ⟨e4, -⟩ ⟨b7, B, hf1, hf2, hf4, hf5, hf7, hf21, hf22, hf23, hd0, hd1, hd2, hd3, hd4, hd5, hd6, hd7, hd8, hd9, hd10, hd11, Fhob1, Fhp2, W0, W1⟩
       obtain ⟨u5, rfl⟩ := up1 hf4
       rcases bool_ft (S 12) with e12 | e12
       ·
        have H := W0 e12
        refine O.fieldAddr fd25_1 rfl rfl rfl ?_
        exact WL.nil ⟨b7, B, hf1, hf2, rfl, hf5, hf7, hf21, hf22, hf23, hd0, hd1, hd2, (fun _ => rfl), hd4, hd5, hd6, hd7, hd8, hd9, hd10, hd11, Fhob1, (fun g0 g1 => Fhp2 g0 g1), (fun _ => H), (nX e12)⟩
       ·
        have H := W1 e12
        refine O.fieldAddr fd25_1 rfl rfl rfl ?_
        exact WL.nil ⟨b7, B, hf1, hf2, rfl, hf5, hf7, hf21, hf22, hf23, hd0, hd1, hd2, (fun _ => rfl), hd4, hd5, hd6, hd7, hd8, hd9, hd10, hd11, Fhob1, (fun g0 g1 => Fhp2 g0 g1), (nT e12), (fun _ => H)⟩
      ·
       rintro S f w hS ⟨e3, -⟩ - ⟨b7, B, hf1, hf2, hf4, hf5, hf7, hf21, hf22, hf23, hd0, hd1, hd2, hd3, hd4, hd5, hd6, hd7, hd8, hd9, hd10, hd11, Fhob1, Fhp2, W0, W1⟩
       have hf42 := hd3 e3
       obtain ⟨u6, rfl⟩ := up1 hf42
       rcases bool_ft (S 12) with e12 | e12
       ·
        have H := W0 e12
        refine O.load sc23 rfl rfl rfl (H.cell 6 rfl 1 _ rfl) ?_
        exact WL.nil ⟨b7, B, hf1, hf2, hf4, hf5, hf7, hf21, hf22, hf23, hd0, hd1, hd2, hd3, (fun _ => rfl), hd5, hd6, hd7, hd8, hd9, hd10, hd11, Fhob1, (fun g0 g1 => Fhp2 g0 g1), (fun _ => H), (nX e12)⟩
       ·
        have H := W1 e12
        refine O.load sc23 rfl rfl rfl (H.cell 6 rfl 1 _ rfl) ?_
        exact WL.nil ⟨b7, B, hf1, hf2, hf4, hf5, hf7, hf21, hf22, hf23, hd0, hd1, hd2, hd3, (fun _ => rfl), hd5, hd6, hd7, hd8, hd9, hd10, hd11, Fhob1, (fun g0 g1 => Fhp2 g0 g1), (nT e12), (fun _ => H)⟩
      ·
       rintro S f w hS - - ⟨b7, B, hf1, hf2, hf4, hf5, hf7, hf21, hf22, hf23, hd0, hd1, hd2, hd3, hd4, hd5, hd6, hd7, hd8, hd9, hd10, hd11, Fhob1, Fhp2, W0, W1⟩
       obtain ⟨u7, rfl⟩ := up1 hf5
       rcases bool_ft (S 12) with e12 | e12
       ·
        have H := W0 e12
        refine O.move (v := (.int .i64 (ik1 : Int))) rfl rfl rfl ?_
        exact WL.nil ⟨b7, B, hf1, hf2, hf4, rfl, hf7, hf21, hf22, hf23, hd0, hd1, hd2, hd3, hd4, (fun _ => rfl), hd6, hd7, hd8, hd9, hd10, hd11, Fhob1, (fun g0 g1 => Fhp2 g0 g1), (fun _ => H), (nX e12)⟩
       ·
        have H := W1 e12
        refine O.move (v := (.int .i64 (ik1 : Int))) rfl rfl rfl ?_
        exact WL.nil ⟨b7, B, hf1, hf2, hf4, rfl, hf7, hf21, hf22, hf23, hd0, hd1, hd2, hd3, hd4, (fun _ => rfl), hd6, hd7, hd8, hd9, hd10, hd11, Fhob1, (fun g0 g1 => Fhp2 g0 g1), (nT e12), (fun _ => H)⟩
      ·
       rintro S f w hS - ⟨e7, e10, e11, e12, -⟩ ⟨b7, B, hf1, hf2, hf4, hf5, hf7, hf21, hf22, hf23, hd0, hd1, hd2, hd3, hd4, hd5, hd6, hd7, hd8, hd9, hd10, hd11, Fhob1, Fhp2, t⟩
       obtain ⟨u8, rfl⟩ := up1 hf7
       have H := t.1 e12
       refine O.fieldAddr fd30_0 rfl rfl rfl ?_
       exact WL.nil ⟨b7, B, hf1, hf2, hf4, hf5, rfl, hf21, hf22, hf23, hd0, hd1, hd2, hd3, hd4, hd5, (fun _ => rfl), hd7, hd8, hd9, hd10, hd11, Fhob1, (fun g0 g1 => Fhp2 g0 g1), t⟩
      ·
       rintro S f w hS ⟨e6, -⟩ ⟨e10, e11, e12, -⟩ ⟨b7, B, hf1, hf2, hf4, hf5, hf7, hf21, hf22, hf23, hd0, hd1, hd2, hd3, hd4, hd5, hd6, hd7, hd8, hd9, hd10, hd11, Fhob1, Fhp2, t⟩
       have hf45 := hd6 e6
       obtain ⟨u9, rfl⟩ := up1 hf45
       have H := t.1 e12
       refine O.load sc3 rfl rfl rfl (H.cell 8 rfl 0 _ rfl) ?_
       exact WL.nil ⟨b7, B, hf1, hf2, hf4, hf5, hf7, hf21, hf22, hf23, hd0, hd1, hd2, hd3, hd4, hd5, hd6, (fun _ => rfl), hd8, hd9, hd10, hd11, Fhob1, (fun g0 g1 => Fhp2 g0 g1), t⟩
      ·
       rintro S f w hS - ⟨e9, -⟩ ⟨b7, B, hf1, hf2, hf4, hf5, hf7, hf21, hf22, hf23, hd0, hd1, hd2, hd3, hd4, hd5, hd6, hd7, hd8, hd9, hd10, hd11, Fhob1, Fhp2, W0, W1⟩
       obtain ⟨u10, rfl⟩ := up1 hf7
       rcases bool_ft (S 12) with e12 | e12
       ·
        have H := W0 e12
        refine O.fieldAddr fd30_1 rfl rfl rfl ?_
        exact WL.nil ⟨b7, B, hf1, hf2, hf4, hf5, rfl, hf21, hf22, hf23, hd0, hd1, hd2, hd3, hd4, hd5, hd6, hd7, (fun _ => rfl), hd9, hd10, hd11, Fhob1, (fun g0 g1 => Fhp2 g0 g1), (fun _ => H), (nX e12)⟩
       ·
        have H := W1 e12
        refine O.fieldAddr fd30_1 rfl rfl rfl ?_
        exact WL.nil ⟨b7, B, hf1, hf2, hf4, hf5, rfl, hf21, hf22, hf23, hd0, hd1, hd2, hd3, hd4, hd5, hd6, hd7, (fun _ => rfl), hd9, hd10, hd11, Fhob1, (fun g0 g1 => Fhp2 g0 g1), (nT e12), (fun _ => H)⟩
      ·
       rintro S f w hS ⟨e8, -⟩ - ⟨b7, B, hf1, hf2, hf4, hf5, hf7, hf21, hf22, hf23, hd0, hd1, hd2, hd3, hd4, hd5, hd6, hd7, hd8, hd9, hd10, hd11, Fhob1, Fhp2, W0, W1⟩
       have hf47 := hd8 e8
       obtain ⟨u11, rfl⟩ := up1 hf47
       rcases bool_ft (S 12) with e12 | e12
       ·
        have H := W0 e12
        refine O.load sc3 rfl rfl rfl (H.cell 8 rfl 1 _ rfl) ?_
        exact WL.nil ⟨b7, B, hf1, hf2, hf4, hf5, hf7, hf21, hf22, hf23, hd0, hd1, hd2, hd3, hd4, hd5, hd6, hd7, hd8, (fun _ => rfl), hd10, hd11, Fhob1, (fun g0 g1 => Fhp2 g0 g1), (fun _ => H), (nX e12)⟩
       ·
        have H := W1 e12
        refine O.load sc3 rfl rfl rfl (H.cell 8 rfl 1 _ rfl) ?_
        exact WL.nil ⟨b7, B, hf1, hf2, hf4, hf5, hf7, hf21, hf22, hf23, hd0, hd1, hd2, hd3, hd4, hd5, hd6, hd7, hd8, (fun _ => rfl), hd10, hd11, Fhob1, (fun g0 g1 => Fhp2 g0 g1), (nT e12), (fun _ => H)⟩
      ·
       rintro S f w hS ⟨e0, e1, e2, e6, e7, -⟩ ⟨e11, e12, -⟩ ⟨_, B, hf1, hf2, hf4, hf5, hf7, hf21, hf22, hf23, hd0, hd1, hd2, hd3, hd4, hd5, hd6, hd7, hd8, hd9, hd10, hd11, Fhob1, Fhp2, t⟩
       have hf40 := hd1 e1
       have hf41 := hd2 e2
       obtain ⟨u12, rfl⟩ := up2 hf40 hf41
       have H := t.1 e12
       refine O.indexOwn 5 Try.underlying23 sz39 H rfl hx2 rfl rfl rfl rfl ?_
       intro b7 hob1 hp2
       exact WL.nil ⟨b7, B, hf1, hf2, hf4, hf5, hf7, hf21, hf22, hf23, hd0, hd1, hd2, hd3, hd4, hd5, hd6, hd7, hd8, hd9, (fun _ => rfl), (fun a => nT a e11), (fun _ => hob1), (fun _ _ => hp2), t⟩
      ·
       rintro S f w hS ⟨e0, e1, e2, e6, e7, e10, -⟩ ⟨e12, -⟩ ⟨b7, B, hf1, hf2, hf4, hf5, hf7, hf21, hf22, hf23, hd0, hd1, hd2, hd3, hd4, hd5, hd6, hd7, hd8, hd9, hd10, hd11, Fhob1, Fhp2, t⟩
       have hf49 := hd10 e10
       obtain ⟨u13, rfl⟩ := up1 hf49
       have H := t.1 e12
       have hp2 := Fhp2 e10 e12
       have hob1 := Fhob1 e10
       refine O.fieldAddr fd39_3 rfl rfl rfl ?_
       exact WL.nil ⟨b7, B, hf1, hf2, hf4, hf5, hf7, hf21, hf22, hf23, hd0, hd1, hd2, hd3, hd4, hd5, hd6, hd7, hd8, hd9, hd10, (fun _ => rfl), Fhob1, (fun g0 g1 => Fhp2 g0 g1), t⟩
      ·
       rintro S f w hS ⟨e0, e1, e2, e6, e7, e10, e11, -⟩ - ⟨b7, B, hf1, hf2, hf4, hf5, hf7, hf21, hf22, hf23, hd0, hd1, hd2, hd3, hd4, hd5, hd6, hd7, hd8, hd9, hd10, hd11, Fhob1, Fhp2, W0, W1⟩
       have hf46 := hd7 e7
       have hf50 := hd11 e11
       obtain ⟨u14, rfl⟩ := up2 hf46 hf50
       have H := W0 hS
       have hp2 := Fhp2 e10 hS
       have hob1 := Fhob1 e10
       refine O.storeOwn (α := GSight) (i0 := (ik1 : Int)) (x0 := x2) 5 3 (GSight.mk x2.At x2.A x2.B t6.Lo x2.Hi) [(.int .i64 t6.Lo)] sz3 H rfl hob1 hx2 rfl rfl rfl rfl rfl rfl rfl rfl (one_cons rfl one_nil) ?_
       intro w16 H
       clear hp2
       exact WL.nil ⟨b7, (H.pick [] [] rfl (by decide)), hf1, hf2, hf4, hf5, hf7, hf21, hf22, hf23, hd0, hd1, hd2, hd3, hd4, hd5, hd6, hd7, hd8, hd9, hd10, hd11, Fhob1, (fun g0 g1 => nG g1), nG, (fun _ => H)⟩
     ·
      rintro S f w ⟨e0, e1, e2, e3, e4, e5, e6, e7, e8, e9, e10, e11, e12, -⟩ ⟨b7, B, hf1, hf2, hf4, hf5, hf7, hf21, hf22, hf23, hd0, hd1, hd2, hd3, hd4, hd5, hd6, hd7, hd8, hd9, hd10, hd11, Fhob1, Fhp2, W0, W1⟩
      have hf43 := hd4 e4
      have hf44 := hd5 e5
      have hf48 := hd9 e9
      have H := W1 e12
      obtain ⟨u15, rfl⟩ := up9 hf1 hf2 hf4 hf21 hf22 hf23 hf43 hf44 hf48
      obtain ⟨x3, hx3, hm2⟩ := bind_some hm2
      refine O.indexOwn 5 Try.underlying23 sz39 H rfl hx3 rfl rfl rfl rfl ?_
      intro b8 hob2 hp3
      refine O.fieldAddr fd39_4 rfl rfl rfl ?_
      refine O.storeOwn (α := GSight) (i0 := (ik1 : Int)) (x0 := x3) 5 4 (GSight.mk x3.At x3.A x3.B x3.Lo t6.Hi) [(.int .i64 t6.Hi)] sz3 H rfl hob2 hx3 rfl rfl rfl rfl rfl rfl rfl rfl (one_cons rfl one_nil) ?_
      intro w17 H
      clear hp3
      refine WL.nil ?_
      refine W.region ?_
      refine O.add rfl rfl rfl rfl hinck1 ?_
      refine O.move (v := .int .i64 ((ik1 : Int) + 1)) rfl rfl rfl ?_
      refine WL.nil ?_
      have H := H.keep [0, 1, 2, 3, 4, 5, 6] [boxI b1 25 [va0_0, va0_1], boxI b2 25 [(.slice none 0 0), (.slice none 0 0)], ownI (α := Int) (.slice none 0 0) 3 ([] : List Int), ownI (α := GSight) (.slice none 0 0) 39 ([] : List GSight), ownI (α := Int) v3 3 t5.Rates, ownI (α := GSight) v6 39 ((z2.set (Int.toNat (ik1 : Int)) (GSight.mk x2.At x2.A x2.B t6.Lo x2.Hi)).set (Int.toNat (ik1 : Int)) (GSight.mk x3.At x3.A x3.B x3.Lo t6.Hi)), boxI b4 25 [v3, v6]] rfl (by decide)
      obtain rfl := Option.some.inj hm2
      exact ⟨_, rfl, _, v6, rfl, rangeN_next hdropk1, rfl, rfl, rfl, rfl, rfl, rfl, H⟩
    ·
     rintro ik1 _ f w ⟨z2, v6, rfl, hdropk1, hf23, hf22, hf1, hf2, hf4, hf21, H⟩ hfin
     have hltk1 := rangeN_end hdropk1
     obtain ⟨u16, rfl⟩ := up6 hf23 hf22 hf1 hf2 hf4 hf21
     refine W.seq ?_
     refine W.region ?_
     refine O.lss rfl rfl rfl rfl ?_
     refine WL.nil ?_
     refine W.seq ?_
     refine W.cond_false (congrArg Value.bool (decide_eq_false hltk1)) ?_
     refine W.exit ?_
     have hq : z2 = s1 := hfin
     subst hq
     have H := H.keep [1, 2, 3, 4, 5, 6] [boxI b2 25 [(.slice none 0 0), (.slice none 0 0)], ownI (α := Int) (.slice none 0 0) 3 ([] : List Int), ownI (α := GSight) (.slice none 0 0) 39 ([] : List GSight), ownI (α := Int) v3 3 t5.Rates, ownI (α := GSight) v6 39 z2, boxI b4 25 [v3, v6]] rfl (by decide)
     refine xT rfl ?_
     exact ⟨v6, rfl, rfl, H⟩
   ·
    rintro f w ⟨v8, hf2, hf4, H⟩
    obtain ⟨u17, rfl⟩ := up2 hf2 hf4
    refine W.seq ?_
    refine W.region ?_
    refine O.loadA [v3, v8] ag25 rfl rfl rfl rfl (H.cell 5 rfl) ?_
    refine O.store 0 0 [v3, v8] [v3, v8] sz25 H rfl rfl rfl rfl rfl rfl ⟨⟨rfl, rfl⟩, rfl⟩ (one_cons (SliceR.one (H.own 3 rfl)) (one_cons (SliceR.one (H.own 4 rfl)) one_nil)) ?_
    intro w18 H
    refine O.assign (v := (.int .i64 0)) rfl rfl rfl ?_
    refine WL.nil ?_
    refine W.ret ?_
    have hq : ((GNet.mk t5.Rates s1), 0) = (r0, r1) := Option.some.inj (show some ((GNet.mk t5.Rates s1), 0) = some (r0, r1) from hm)
    obtain ⟨he0, hq0⟩ := Prod.mk.inj hq; clear hq; subst he0
    subst hq0
    exact ends2 Try.results51 ⟨_, rfl, run_loadVar_agg ag25 rfl (H.cell 0 rfl)⟩ rfl ⟨_, rfl, H.base, ⟨_, _, rfl, H.pick [3, 4] [ownI (α := Int) v3 3 t5.Rates, ownI (α := GSight) v8 39 s1] rfl (by decide)⟩⟩

theorem c_slices_Delete_Int : DelI Try.prog 81 Int 3 := by
 intro Dq w0 w L i v xs zs lo hi H hi' hz
 obtain ⟨h0, h1, h2, rfl⟩ := delI_some hz
 have hR := H.own i hi'
 have hz3 : SizeT Try.prog 3 (Ty.size Int) := SizeT.mk (by kernel_rfl)
 have hzf : SizeT Try.prog 3 (Flat.size Int) := SizeT.mk (by kernel_rfl)
 obtain ⟨ad, cap, rfl, hcap, _⟩ := hR.shape
 refine calls_of_W Try.func81 rfl Try.ntmps81 (Nat.le_of_ble_eq_true rfl) ?_
 refine W.seq ?_
 refine W.region ?_
 refine O.assign (v := .slice none 0 0) rfl rfl rfl ?_
 refine WL.nil ?_
 refine W.seq ?_
 refine W.region ?_
 refine O.move (v := .slice ad xs.length cap) rfl rfl rfl ?_
 refine O.move (v := .int .i64 lo) rfl rfl rfl ?_
 refine O.move (v := .int .i64 hi) rfl rfl rfl ?_
 refine O.move (v := .slice ad xs.length cap) rfl rfl rfl ?_
 refine O.lenS Try.underlying22 hR rfl rfl rfl ?_
 refine O.slice3 Try.underlying22 hz3 h0 h1 h2 (by omega) rfl rfl rfl rfl rfl rfl fun v' => ?_
 refine WL.nil ?_
 refine W.seq ?_
 refine W.seq ?_
 refine W.region ?_
 refine O.move (v := .int .i64 lo) rfl rfl rfl ?_
 refine O.move (v := .int .i64 hi) rfl rfl rfl ?_
 refine O.eql (a := lo) (b := hi) rfl rfl rfl rfl ?_
 refine WL.nil ?_
 rcases Int.lt_or_eq_of_le h1 with hlt | rfl
 ·
  refine W.cond_false (congrArg Value.bool (beq_eq_false_iff_ne.2 (by omega))) ?_
  refine W.skip ?_
  refine W.seq ?_
  refine W.region ?_
  refine O.move (v := .slice ad xs.length cap) rfl rfl rfl ?_
  refine O.lenS Try.underlying22 hR rfl rfl rfl ?_
  refine O.assign (v := .int .i64 (xs.length : Int)) rfl rfl rfl ?_
  refine WL.nil ?_
  obtain ⟨gb, rfl⟩ : ∃ gb, ad = some ⟨gb, 0, none⟩ := by
   obtain ⟨_, ⟨h3, h4⟩ | ⟨gb, _, _, hv, _⟩⟩ := (H.items _ (List.mem_of_getElem? hi')).1
   · omega
   · cases hv; exact ⟨gb, rfl⟩
  obtain ⟨lo, rfl⟩ := Int.eq_ofNat_of_zero_le h0
  obtain ⟨hi, rfl⟩ := Int.eq_ofNat_of_zero_le (Int.le_trans h0 h1)
  have hdl : (xs.drop hi).length = xs.length - hi := List.length_drop
  have htl : (xs.take lo).length = lo := by rw [List.length_take]; omega
  have hs2 : SliceR w (sliced (some ⟨gb, 0, none⟩) hi xs.length cap (Ty.size Int)) (xs.drop hi) := by
   obtain ⟨a', l', c', e, _, _, h5⟩ := sliced_sliceR hR (show cutI xs (hi : Int) ((xs.length : Nat) : Int) = some (xs.drop hi) by unfold cutI; rw [if_pos (by omega), Int.toNat_natCast, Int.toNat_natCast, List.take_length])
   cases e
   exact h5
  refine W.seq ?_
  refine W.drawD 7 [[], [], [0, 1], [], [], [3, 4], [2, 5]] [[2, 6], [2, 6], [6], [5, 6], [5, 6], [6], []] (fun S f w' => f 0 = .slice (some ⟨gb, 0, none⟩) xs.length cap ∧ f 1 = .int .i64 (lo : Int) ∧ f 2 = .int .i64 (hi : Int) ∧ f 7 = .int .i64 (xs.length : Int) ∧ (S 0 = true → f 20 = .slice (some ⟨gb, 0, none⟩) xs.length cap) ∧ (S 1 = true → f 21 = .int .i64 (lo : Int)) ∧ (S 2 = true → f 22 = sliced (some ⟨gb, 0, none⟩) 0 lo cap (Ty.size Int)) ∧ (S 3 = true → f 23 = .slice (some ⟨gb, 0, none⟩) xs.length cap) ∧ (S 4 = true → f 24 = .int .i64 (hi : Int)) ∧ (S 5 = true → f 25 = sliced (some ⟨gb, 0, none⟩) hi xs.length cap (Ty.size Int)) ∧ (S 6 = true → f 26 = .slice (some ⟨gb, 0, none⟩) (lo + (xs.drop hi).length) cap) ∧ (S 6 = false → InvD Dq w0 w' L ∧ SliceR w' (sliced (some ⟨gb, 0, none⟩) hi xs.length cap (Ty.size Int)) (xs.drop hi)) ∧ (S 6 = true → InvD Dq w0 w' (L.set i (ownI (.slice (some ⟨gb, 0, none⟩) (lo + (xs.drop hi).length) cap) 3 (xs.take lo ++ xs.drop hi))))) fol (by kernel_rfl) ?_ ?_ ?_
  · exact fun d _ => ⟨rfl, rfl, rfl, rfl, nF, nF, nF, nF, nF, nF, nF, (fun _ => ⟨H.ext (below_drawn d), hs2.mono (below_drawn d)⟩), nF⟩
  ·
   refine ⟨?_, ?_, ?_, ?_, ?_, ?_, ?_, trivial⟩
   ·
    rintro S f w' hS - ⟨-, e6, -⟩ ⟨f0, f1, f2, f7, d0, d1, d2, d3, d4, d5, d6, W0, W1⟩
    refine O.move (v := .slice (some ⟨gb, 0, none⟩) xs.length cap) rfl rfl f0 ?_
    exact WL.nil ⟨f0, f1, f2, f7, fun _ => rfl, d1, d2, d3, d4, d5, d6, W0, W1⟩
   ·
    rintro S f w' hS - ⟨-, e6, -⟩ ⟨f0, f1, f2, f7, d0, d1, d2, d3, d4, d5, d6, W0, W1⟩
    refine O.move (v := .int .i64 (lo : Int)) rfl rfl f1 ?_
    exact WL.nil ⟨f0, f1, f2, f7, d0, fun _ => rfl, d2, d3, d4, d5, d6, W0, W1⟩
   ·
    rintro S f w' hS ⟨e0, e1, -⟩ ⟨e6, -⟩ ⟨f0, f1, f2, f7, d0, d1, d2, d3, d4, d5, d6, W0, W1⟩
    refine O.sliceHv Try.underlying22 hz3 (Int.natCast_nonneg _) (by omega) rfl rfl (d0 e0) (d1 e1) ?_
    exact WL.nil ⟨f0, f1, f2, f7, d0, d1, fun _ => rfl, d3, d4, d5, d6, W0, W1⟩
   ·
    rintro S f w' hS - ⟨-, e6, -⟩ ⟨f0, f1, f2, f7, d0, d1, d2, d3, d4, d5, d6, W0, W1⟩
    refine O.move (v := .slice (some ⟨gb, 0, none⟩) xs.length cap) rfl rfl f0 ?_
    exact WL.nil ⟨f0, f1, f2, f7, d0, d1, d2, fun _ => rfl, d4, d5, d6, W0, W1⟩
   ·
    rintro S f w' hS - ⟨-, e6, -⟩ ⟨f0, f1, f2, f7, d0, d1, d2, d3, d4, d5, d6, W0, W1⟩
    refine O.move (v := .int .i64 (hi : Int)) rfl rfl f2 ?_
    exact WL.nil ⟨f0, f1, f2, f7, d0, d1, d2, d3, fun _ => rfl, d5, d6, W0, W1⟩
   ·
    rintro S f w' hS ⟨e3, e4, -⟩ ⟨e6, -⟩ ⟨f0, f1, f2, f7, d0, d1, d2, d3, d4, d5, d6, W0, W1⟩
    refine O.sliceLv Try.underlying22 hz3 (Int.natCast_nonneg _) (by omega) rfl rfl (d3 e3) (d4 e4) ?_
    exact WL.nil ⟨f0, f1, f2, f7, d0, d1, d2, d3, d4, fun _ => rfl, d6, W0, W1⟩
   ·
    rintro S f w' hS ⟨e2, e5, -⟩ - ⟨f0, f1, f2, f7, d0, d1, d2, d3, d4, d5, d6, W0, W1⟩
    obtain ⟨H, hs2⟩ := W0 hS
    obtain ⟨hok, hfp⟩ := H.items _ (List.mem_of_getElem? hi')
    have hc : sliced (some ⟨gb, 0, none⟩) 0 lo cap (Ty.size Int) = .slice (some ⟨gb, 0, none⟩) lo cap := by unfold sliced; simp [Addr.add_lit]
    obtain ⟨w2, r1, r2, r3⟩ := run_append_back (T0 := 22) Try.underlying22 (show ElemT Try.prog 3 (Flat.size Int) 8 from ElemT.mk (z := (.int .i64 (0))) (by kernel_rfl) rfl) hok hs2 (m := lo) (by omega) (by omega)
    refine O.appendV r1 rfl rfl ((d2 e2).trans hc) (d5 e5) ?_
    exact WL.nil ⟨f0, f1, f2, f7, d0, d1, d2, d3, d4, d5, fun _ => rfl, nG, fun _ => H.upd i _ _ hi' ⟨r2.1, r2.2, r2.3, r2.4, fun k hk hn => r2.5 k hk fun e => hn (by cases e; rfl)⟩ r3 fun b hb => (by cases hb; exact ⟨Nat.lt_of_lt_of_le (hfp gb rfl).2 r2.4, .inl rfl⟩)⟩
  ·
   rintro S f w' ⟨_, _, _, _, _, _, e6, -⟩ ⟨f0, f1, f2, f7, d0, d1, d2, d3, d4, d5, d6, W0, W1⟩
   have H := W1 e6
   have f26 := d6 e6
   have hL : (L.set i (ownI (.slice (some ⟨gb, 0, none⟩) (lo + (xs.drop hi).length) cap) 3 (xs.take lo ++ xs.drop hi)))[i]? = some (ownI (.slice (some ⟨gb, 0, none⟩) (lo + (xs.drop hi).length) cap) 3 (xs.take lo ++ xs.drop hi)) := by
    rw [List.getElem?_set_self (List.getElem?_eq_some_iff.1 hi').1]
   refine O.assign (v := .slice (some ⟨gb, 0, none⟩) (lo + (xs.drop hi).length) cap) rfl rfl f26 ?_
   refine WL.nil ?_
   refine W.seq ?_
   refine W.region ?_
   have hzl : (xs.take lo ++ xs.drop hi).length = lo + (xs.drop hi).length := by rw [List.length_append, htl]
   have hR2 := H.own i hL
   rw [← hzl] at hR2 hL H
   refine O.move (v := .slice (some ⟨gb, 0, none⟩) (xs.take lo ++ xs.drop hi).length cap) rfl rfl (by rw [hzl]; rfl) ?_
   refine O.move (v := .slice (some ⟨gb, 0, none⟩) (xs.take lo ++ xs.drop hi).length cap) rfl rfl (by rw [hzl]; rfl) ?_
   refine O.lenS Try.underlying22 hR2 rfl rfl rfl ?_
   refine O.move (v := .int .i64 (xs.length : Int)) rfl rfl f7 ?_
   refine O.sliceLHv Try.underlying22 hzf (Int.natCast_nonneg _) (by rw [hzl]; omega) (by omega) rfl rfl rfl rfl rfl ?_
   obtain ⟨hok, hfp⟩ := H.items _ (List.mem_of_getElem? hL)
   obtain ⟨w2, r1, r2, r3⟩ := run_clear_tail (T0 := 0) (k := xs.length - (xs.take lo ++ xs.drop hi).length) Try.underlying22 (show ZeroT Try.prog 3 (Flat.val ((0) : Int)) from ZeroT.mk (by kernel_rfl)) hok rfl (by rw [hzl]; omega)
   refine O.clearV r1 rfl ?_ ?_
   ·
    rw [show (xs.take lo ++ xs.drop hi).length + (xs.length - (xs.take lo ++ xs.drop hi).length) = xs.length by rw [hzl]; omega]
    rfl
   refine WL.nil ?_
   refine W.seq ?_
   refine W.region ?_
   refine O.move (v := .slice (some ⟨gb, 0, none⟩) (lo + (xs.drop hi).length) cap) rfl rfl rfl ?_
   refine O.assign (v := .slice (some ⟨gb, 0, none⟩) (lo + (xs.drop hi).length) cap) rfl rfl rfl ?_
   refine WL.nil ?_
   refine W.ret ?_
   have H3 := H.upd i _ _ hL ⟨r2.1, r2.2, r2.3, r2.4, fun k hk hn => r2.5 k hk fun e => hn (by cases e; rfl)⟩ r3 fun b hb => (by cases hb; exact ⟨Nat.lt_of_lt_of_le (hfp gb rfl).2 r2.4, .inl rfl⟩)
   rw [List.set_set, hzl] at H3
   exact ends1 Try.results81 rfl ⟨_, rfl, H3⟩
 ·
  refine W.cond_true (congrArg Value.bool (beq_self_eq_true lo)) ?_
  refine W.seq ?_
  refine W.region ?_
  refine O.move (v := .slice ad xs.length cap) rfl rfl rfl ?_
  refine O.assign (v := .slice ad xs.length cap) rfl rfl rfl ?_
  refine WL.nil ?_
  refine W.ret ?_
  have e1 : L.set i (ownI (.slice ad xs.length cap) 3 (xs.take lo.toNat ++ xs.drop lo.toNat)) = L := by
   rw [List.take_append_drop]
   obtain ⟨q1, q2⟩ := List.getElem?_eq_some_iff.1 hi'
   rw [← q2]
   exact List.set_getElem_self q1
  have e2 : InvD Dq w0 w (L.set i (ownI (.slice ad xs.length cap) 3 (xs.take lo.toNat ++ xs.drop lo.toNat))) := by rw [e1]; exact H
  exact ends1 Try.results81 rfl ⟨_, rfl, e2⟩

set_option maxRecDepth 20000 in
theorem c_sight_Needed {w0 : World} (va0_0 : Value) (va0_1 : Value) (a0 : GNet) (ha0_0 : SliceR w0 va0_0 a0.Rates) (ha0_1 : SliceR w0 va0_1 a0.Sights) {r0 : (List Int)} {r1 : Int} (hm : sight_Needed a0 = some (r0, r1)) :
  Calls Try.prog 43 #[(.agg #[va0_0, va0_1])] w0 (Ret w0 fun w v => ∃ vr0 : Value, v = .tuple #[vr0, (.int .i64 r1)] ∧ OwnR w0 w vr0 3 r0) := by
 unfold sight_Needed at hm
 refine calls_of_W Try.func43 rfl Try.ntmps43 (Nat.le_of_ble_eq_true rfl) ?_
 have H := Inv.start (w := w0)
 refine W.seq ?_
 refine W.region ?_
 refine O.box [va0_0, va0_1] H rfl rfl rfl rfl ?_
 intro b1 w1 H hb1
 have H := H.addNil (α := Int) (E := 3)
 refine O.assign (v := (.slice none 0 0)) rfl rfl rfl ?_
 refine O.assign (v := (.int .i64 0)) rfl rfl rfl ?_
 refine WL.nil ?_
 refine W.seq ?_
 refine W.seq ?_
 refine W.region ?_
 refine O.loadA [va0_0, va0_1] ag25 rfl rfl rfl rfl (H.cell 0 rfl) ?_
 obtain ⟨t1, hy1, hm⟩ := bind_some hm
 refine O.call Try.call78 rfl rfl rfl (c_sight_agrees _ _ (GNet.mk a0.Rates a0.Sights) (H.arg ha0_0) (H.arg ha0_1) hy1) ?_
 rintro _ w2 hb2 rfl
 have H := H.ext hb2
 refine O.assign (v := (.int .i64 t1)) rfl rfl rfl ?_
 refine WL.nil ?_
 refine W.seq ?_
 refine W.region ?_
 refine O.move (v := (.int .i64 t1)) rfl rfl rfl ?_
 refine O.neq rfl rfl rfl rfl ?_
 refine WL.nil ?_
 rcases ite_some hm with ⟨hc1, hm⟩ | ⟨hc1, hm⟩
 ·
  refine W.cond_true (congrArg Value.bool hc1) ?_
  refine W.seq ?_
  refine W.region ?_
  refine O.move (v := (.int .i64 t1)) rfl rfl rfl ?_
  have H := H.addNil (α := Int) (E := 3)
  refine O.assign (v := (.slice none 0 0)) rfl rfl rfl ?_
  refine O.assign (v := (.int .i64 t1)) rfl rfl rfl ?_
  refine WL.nil ?_
  refine W.ret ?_
  have hq : (([] : List Int), t1) = (r0, r1) := Option.some.inj (show some (([] : List Int), t1) = some (r0, r1) from hm)
  obtain ⟨he0, hq0⟩ := Prod.mk.inj hq; clear hq; subst he0
  subst hq0
  exact ends2 Try.results43 rfl rfl ⟨_, rfl, H.base, ⟨_, rfl, H.ownR 2 rfl⟩⟩
 ·
  refine W.cond_false (congrArg Value.bool hc1) ?_
  refine W.skip ?_
  refine W.seq ?_
  refine W.region ?_
  have H := H.addNil (α := Int) (E := 3)
  refine O.assign (v := (.slice none 0 0)) rfl rfl rfl ?_
  refine WL.nil ?_
  refine W.seq ?_
  refine W.seq ?_
  refine W.region ?_
  refine O.fieldAddr fd25_1 rfl rfl rfl ?_
  refine O.load sc23 rfl rfl rfl (H.cell 0 rfl 1 _ rfl) ?_
  refine O.lenS Try.underlying23 (H.arg ha0_1) rfl rfl rfl ?_
  refine O.move (v := (.int .i64 0)) rfl rfl rfl ?_
  refine WL.nil ?_
  obtain ⟨s1, hm1, hm⟩ := bind_some hm
  refine W.via (fun f w => ∃ v4 : Value, f 1 = (.pointer (some ⟨b1, 0, none⟩)) ∧ f 5 = v4 ∧ Inv w0 w [boxI b1 25 [va0_0, va0_1], ownI (α := Int) v4 3 s1]) ?_ ?_
  ·
   refine W.block ?_
   have hbdik1 := (H.arg ha0_1).len_le
   have H := H.keep [0, 2] [boxI b1 25 [va0_0, va0_1], ownI (α := Int) (.slice none 0 0) 3 ([] : List Int)] rfl (by decide)
   refine W.rangeN (i := 0) hm1 (fun rem ik1 s f w => ∃ z2 : (List Int), ∃ v2 : Value, z2 = s ∧ (ik1 : Int) + rem = max 0 ((a0.Sights.length : Nat) : Int) ∧ f 17 = .int .i64 (ik1 : Int) ∧ f 16 = (.int .i64 ((a0.Sights.length : Nat) : Int)) ∧ f 1 = (.pointer (some ⟨b1, 0, none⟩)) ∧ f 5 = v2 ∧ Inv w0 w [boxI b1 25 [va0_0, va0_1], ownI (α := Int) v2 3 z2]) ?_ ?_ ?_
   ·
    exact ⟨_, (.slice none 0 0), rfl, rangeN_start, rfl, rfl, rfl, rfl, H⟩
   ·
    rintro k ik1 _ st f w ⟨z2, v2, rfl, hdropk1, hf17, hf16, hf1, hf5, H⟩ hm2
    have hltk1 := rangeN_lt hdropk1
    obtain ⟨u1, rfl⟩ := up4 hf17 hf16 hf1 hf5
    have hinck1 := addI_lt hltk1 hbdik1
    refine W.seq ?_
    refine W.region ?_
    refine O.lss rfl rfl rfl rfl ?_
    refine WL.nil ?_
    refine W.seq ?_
    refine W.cond_true (congrArg Value.bool (decide_eq_true hltk1)) ?_
    refine W.skip ?_
    refine W.seq ?_
    refine W.block ?_
    refine W.seq ?_
    refine W.region ?_
    refine O.move (v := (.int .i64 (ik1 : Int))) rfl rfl rfl ?_
    refine O.assign (v := (.int .i64 (ik1 : Int))) rfl rfl rfl ?_
    refine WL.nil ?_
    refine W.region ?_
    refine O.move (v := v2) rfl rfl rfl ?_
    refine O.move (v := (.int .i64 (ik1 : Int))) rfl rfl rfl ?_
    refine O.buildSlice (α := Int) [(.int .i64 (ik1 : Int))] [(ik1 : Int)] Try.underlying22 el3 H rfl rfl rfl rfl rfl rfl rfl ?_
    intro v5 w3 H hb3
    obtain ⟨t2, ht2, hm2⟩ := bind_some hm2
    refine O.append 1 Try.underlying22 el3 rfl H rfl (H.own 2 rfl) ht2 rfl rfl rfl rfl ?_
    intro v6 w4 H
    refine O.assign (v := v6) rfl rfl rfl ?_
    refine WL.nil ?_
    refine W.region ?_
    refine O.add rfl rfl rfl rfl hinck1 ?_
    refine O.move (v := .int .i64 ((ik1 : Int) + 1)) rfl rfl rfl ?_
    refine WL.nil ?_
    have H := H.keep [0, 1] [boxI b1 25 [va0_0, va0_1], ownI (α := Int) v6 3 t2] rfl (by decide)
    obtain rfl := Option.some.inj hm2
    exact ⟨_, rfl, _, v6, rfl, rangeN_next hdropk1, rfl, rfl, rfl, rfl, H⟩
   ·
    rintro ik1 _ f w ⟨z2, v2, rfl, hdropk1, hf17, hf16, hf1, hf5, H⟩ hfin
    have hltk1 := rangeN_end hdropk1
    obtain ⟨u2, rfl⟩ := up4 hf17 hf16 hf1 hf5
    refine W.seq ?_
    refine W.region ?_
    refine O.lss rfl rfl rfl rfl ?_
    refine WL.nil ?_
    refine W.seq ?_
    refine W.cond_false (congrArg Value.bool (decide_eq_false hltk1)) ?_
    refine W.exit ?_
    have hq : z2 = s1 := hfin
    subst hq
    refine xT rfl ?_
    exact ⟨v2, rfl, rfl, H⟩
  ·
   rintro f w ⟨v4, hf1, hf5, H⟩
   obtain ⟨u3, rfl⟩ := up2 hf1 hf5
   refine W.seq ?_
   refine W.region ?_
   refine O.loadA [va0_0, va0_1] ag25 rfl rfl rfl rfl (H.cell 0 rfl) ?_
   refine O.alloc [(.slice none 0 0), (.slice none 0 0)] ze25 H rfl rfl rfl ?_
   intro b2 w5 H hb4
   have H := H.addNil (α := Int) (E := 3)
   have H := H.addNil (α := GSight) (E := 39)
   have H := H.argOr ha0_0
   have H := H.argOr ha0_1
   refine O.store 2 0 [va0_0, va0_1] [va0_0, va0_1] sz25 H rfl rfl rfl rfl rfl rfl ⟨⟨rfl, rfl⟩, rfl⟩ (one_cons (SliceR.one (H.orR 5 rfl)) (one_cons (SliceR.one (H.orR 6 rfl)) one_nil)) ?_
   intro w6 H
   refine WL.nil ?_
   refine W.seq ?_
   refine W.seq ?_
   refine W.region ?_
   refine O.fieldAddr fd25_1 rfl rfl rfl ?_
   refine O.load sc23 rfl rfl rfl (H.cell 0 rfl 1 _ rfl) ?_
   refine O.lenS Try.underlying23 (H.arg ha0_1) rfl rfl rfl ?_
   obtain ⟨t3, ht3, hm⟩ := bind_some hm
   refine O.sub rfl rfl rfl rfl ht3 ?_
   refine O.assign (v := (.int .i64 t3)) rfl rfl rfl ?_
   refine WL.nil ?_
   obtain ⟨s2, hm3, hm⟩ := bind_some hm
   refine W.via (fun f w => ∃ v16 : Value, f 5 = v16 ∧ Inv w0 w [ownI (α := Int) v16 3 s2]) ?_ ?_
   ·
    refine W.block ?_
    have H := H.keep [1, 2, 5, 6] [ownI (α := Int) v4 3 s1, boxI b2 25 [va0_0, va0_1], orI (α := Int) w0 va0_0 a0.Rates, orI (α := GSight) w0 va0_1 a0.Sights] rfl (by decide)
    refine W.loopR hm3 (fun s f w => ∃ z8 : Int, ∃ z9 : (List Int), ∃ z10 : (List Int), ∃ z11 : (List GSight), ∃ v10 : Value, ∃ v11 : Value, ∃ v12 : Value, (z8, z9, z10, z11) = s ∧ f 5 = v10 ∧ f 7 = (.pointer (some ⟨b2, 0, none⟩)) ∧ f 8 = (.int .i64 z8) ∧ Inv w0 w [ownI (α := Int) v10 3 z9, boxI b2 25 [v11, v12], orI (α := Int) w0 v11 z10, orI (α := GSight) w0 v12 z11]) ?_ ?_
    ·
     exact ⟨_, _, _, _, v4, va0_0, va0_1, rfl, rfl, rfl, rfl, H⟩
    ·
     rintro _ st f w ⟨z8, z9, z10, z11, v10, v11, v12, rfl, hf5, hf7, hf8, H⟩ hm4
     obtain ⟨u4, rfl⟩ := up3 hf5 hf7 hf8
     refine W.seq ?_
     refine W.seq ?_
     refine W.region ?_
     refine O.move (v := (.int .i64 z8)) rfl rfl rfl ?_
     refine O.geq rfl rfl rfl rfl ?_
     refine WL.nil ?_
     rcases ite_some hm4 with ⟨hc2, hm4⟩ | ⟨hc2, hm4⟩
     ·
      refine W.cond_true (congrArg Value.bool hc2) ?_
      refine W.skip ?_
      refine W.seq ?_
      obtain ⟨⟨s3, s4, s5⟩, hm5, hm4⟩ := bind_some hm4
      refine W.via (fun f w => ∃ v17 : Value, ∃ v18 : Value, ∃ v19 : Value, f 5 = v17 ∧ f 7 = (.pointer (some ⟨b2, 0, none⟩)) ∧ f 8 = (.int .i64 z8) ∧ Inv w0 w [ownI (α := Int) v17 3 s3, boxI b2 25 [v18, v19], orI (α := Int) w0 v18 s4, orI (α := GSight) w0 v19 s5]) ?_ ?_
      ·
       refine W.block ?_
       refine W.seq ?_
       refine W.region ?_
       refine O.loadA [v11, v12] ag25 rfl rfl rfl rfl (H.cell 1 rfl) ?_
       refine O.move (v := (.int .i64 z8)) rfl rfl rfl ?_
       obtain ⟨t4, hy2, hm5⟩ := bind_some hm5
       refine O.call Try.call79 rfl rfl rfl (c_sight_implied _ _ (GNet.mk z10 z11) (H.orR 2 rfl) (H.orR 3 rfl) _ hy2) ?_
       rintro _ w7 hb5 rfl
       have H := H.ext hb5
       refine WL.nil ?_
       obtain ⟨⟨s6, s7, s8⟩, hm6, hm5⟩ := bind_some hm5
       refine W.via (fun f w => ∃ v20 : Value, ∃ v21 : Value, ∃ v22 : Value, f 5 = v20 ∧ f 7 = (.pointer (some ⟨b2, 0, none⟩)) ∧ f 8 = (.int .i64 z8) ∧ Inv w0 w [ownI (α := Int) v20 3 s6, boxI b2 25 [v21, v22], orI (α := Int) w0 v21 s7, orI (α := GSight) w0 v22 s8]) ?_ ?_
       ·
        rcases ite_some hm6 with ⟨hc3, hm6⟩ | ⟨hc3, hm6⟩
        ·
         refine W.cond_true (congrArg Value.bool hc3) ?_
         refine W.region ?_
         refine O.loadA [v11, v12] ag25 rfl rfl rfl rfl (H.cell 1 rfl) ?_
         refine O.move (v := (.int .i64 z8)) rfl rfl rfl ?_
         obtain ⟨t5, hy3, hm6⟩ := bind_some hm6
         refine O.call Try.call80 rfl rfl rfl (c_sight_without _ _ (GNet.mk z10 z11) (H.orR 2 rfl) (H.orR 3 rfl) _ hy3) ?_
         rintro _ w8 hb6 ⟨v23, v24, rfl, ho1⟩
         have H := H.addAll hb6 ho1
         refine O.move (v := v10) rfl rfl rfl ?_
         refine O.move (v := (.int .i64 z8)) rfl rfl rfl ?_
         refine O.move (v := (.int .i64 z8)) rfl rfl rfl ?_
         obtain ⟨t6, ht6, hm6⟩ := bind_some hm6
         refine O.add rfl rfl rfl rfl ht6 ?_
         obtain ⟨t7, hy4, hm6⟩ := bind_some hm6
         refine O.deleteI 0 H rfl c_slices_Delete_Int hy4 Try.call81 rfl rfl rfl rfl rfl ?_
         intro v25 w9 H
         have H := H.ownOr 4 rfl
         have H := H.ownOr 5 rfl
         refine O.store 1 0 [v23, v24] [v23, v24] sz25 H rfl rfl rfl rfl rfl rfl ⟨⟨rfl, rfl⟩, rfl⟩ (one_cons (SliceR.one (H.orR 4 rfl)) (one_cons (SliceR.one (H.orR 5 rfl)) one_nil)) ?_
         intro w10 H
         refine O.assign (v := v25) rfl rfl rfl ?_
         refine WL.nil ?_
         have H := H.keep [0, 1, 4, 5] [ownI (α := Int) v25 3 t7, boxI b2 25 [v23, v24], orI (α := Int) w0 v23 t5.Rates, orI (α := GSight) w0 v24 t5.Sights] rfl (by decide)
         have hq : (t7, t5.Rates, t5.Sights) = (s6, s7, s8) := Option.some.inj (show some (t7, t5.Rates, t5.Sights) = some (s6, s7, s8) from hm6)
         obtain ⟨he0, hq0⟩ := Prod.mk.inj hq; clear hq; subst he0
         obtain ⟨he1, hq1⟩ := Prod.mk.inj hq0; clear hq0; subst he1
         subst hq1
         exact ⟨v25, v23, v24, rfl, rfl, rfl, H⟩
        ·
         refine W.cond_false (congrArg Value.bool hc3) ?_
         refine W.skip ?_
         have hq : (z9, z10, z11) = (s6, s7, s8) := Option.some.inj (show some (z9, z10, z11) = some (s6, s7, s8) from hm6)
         obtain ⟨he0, hq0⟩ := Prod.mk.inj hq; clear hq; subst he0
         obtain ⟨he1, hq1⟩ := Prod.mk.inj hq0; clear hq0; subst he1
         subst hq1
         exact ⟨v10, v11, v12, rfl, rfl, rfl, H⟩
       ·
        rintro f w ⟨v20, v21, v22, hf5, hf7, hf8, H⟩
        obtain ⟨u5, rfl⟩ := up3 hf5 hf7 hf8
        have hq : (s6, s7, s8) = (s3, s4, s5) := Option.some.inj (show some (s6, s7, s8) = some (s3, s4, s5) from hm5)
        obtain ⟨he0, hq0⟩ := Prod.mk.inj hq; clear hq; subst he0
        obtain ⟨he1, hq1⟩ := Prod.mk.inj hq0; clear hq0; subst he1
        subst hq1
        exact ⟨v20, v21, v22, rfl, rfl, rfl, H⟩
      ·
       rintro f w ⟨v17, v18, v19, hf5, hf7, hf8, H⟩
       obtain ⟨u6, rfl⟩ := up3 hf5 hf7 hf8
       refine W.region ?_
       refine O.move (v := (.int .i64 z8)) rfl rfl rfl ?_
       obtain ⟨t8, ht8, hm4⟩ := bind_some hm4
       refine O.sub rfl rfl rfl rfl ht8 ?_
       refine O.assign (v := (.int .i64 t8)) rfl rfl rfl ?_
       refine WL.nil ?_
       obtain rfl := Option.some.inj hm4
       exact ⟨_, rfl, _, _, _, _, v17, v18, v19, rfl, rfl, rfl, rfl, H⟩
     ·
      refine W.cond_false (congrArg Value.bool hc2) ?_
      refine W.exit ?_
      obtain rfl := Option.some.inj hm4
      refine ⟨_, rfl, ?_⟩
      intro hy
      have hq : z9 = s2 := hy
      subst hq
      have H := H.keep [0] [ownI (α := Int) v10 3 z9] rfl (by decide)
      refine xT rfl ?_
      exact ⟨v10, rfl, H⟩
   ·
    rintro f w ⟨v16, hf5, H⟩
    obtain ⟨u7, rfl⟩ := up1 hf5
    refine W.seq ?_
    refine W.region ?_
    refine O.move (v := v16) rfl rfl rfl ?_
    refine O.assign (v := v16) rfl rfl rfl ?_
    refine O.assign (v := (.int .i64 0)) rfl rfl rfl ?_
    refine WL.nil ?_
    refine W.ret ?_
    have hq : (s2, 0) = (r0, r1) := Option.some.inj (show some (s2, 0) = some (r0, r1) from hm)
    obtain ⟨he0, hq0⟩ := Prod.mk.inj hq; clear hq; subst he0
    subst hq0
    exact ends2 Try.results43 rfl rfl ⟨_, rfl, H.base, ⟨_, rfl, H.ownR 0 rfl⟩⟩

end Go.Proofs
