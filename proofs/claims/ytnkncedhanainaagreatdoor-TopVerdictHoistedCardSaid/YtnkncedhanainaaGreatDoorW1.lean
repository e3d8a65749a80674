/-
  The walks: each function does what its model says, where the model has a value. No other condition.
-/
import Derived.Test.YtnkncedhanainaaGreatDoorW0
namespace Go.Proofs
open Go.Fw Go.RowKit Go.Shelf
theorem it_ball_states_c1 {wi : World} {Kp : World → Prop} (pc0 : Addr) (vc0 : Value) (c0 : List GEvent) (pc1 : Addr) (c1 : GMast) {r : List (GBall × Int)} (hm : ball_states_c1 c0 c1 = some r)
    (hk : ∀ w, Kp w → (∀ j c, [vc0][j]? = some c → w.cell? (pc0.add j) = some c) ∧ SliceR w vc0 c0 ∧ (∀ j c, (Flat.cells c1)[j]? = some c → w.cell? (pc1.add j) = some c)) :
    IterAt Tryz.prog 63 #[.pointer (some pc0), .pointer (some pc1)] (repP (α := GBall) (β := Int)) (fun ys => ys = r) Kp wi := by
  intro l J Jx hc h0
  refine calls_of_W Tryz.func63 rfl Tryz.ntmps63 (Nat.le_of_ble_eq_true rfl) ?_
  have H := InvI.start hc h0
  have hK := hk _ (InvI.kp H)
  unfold ball_states_c1 at hm
  refine W.seq ?_
  refine W.region ?_
  refine O.alloc (Flat.cells (GBall.mk 0 0 false 0)) ze51 H rfl rfl rfl ?_
  intro b4 w1 H hb1
  refine WL.nil ?_
  have hK := hk _ (InvI.kp H)
  refine W.seq ?_
  refine W.region ?_
  refine O.load (q := pc0) (v := vc0) sc24 rfl rfl rfl (hK.1 0 _ rfl) ?_
  refine O.lenS Tryz.underlying24 hK.2.1 rfl rfl rfl ?_
  refine O.move (v := (.int .i64 0)) rfl rfl rfl ?_
  refine WL.nil ?_
  refine W.block ?_
  refine W.loopL (l := c0) (fun rem f w => ∃ ik : Nat, c0.drop ik = rem ∧ f 11 = .int .i64 (ik : Int) ∧ f 10 = .int .i64 (c0.length : Int) ∧ f 9 = vc0 ∧ f 0 = .func (.yield l) #[] #[] ∧ f 2 = .pointer (some pc1) ∧ f 4 = .pointer (some ⟨b4, 0, none⟩) ∧
    ∃ (pre : List (GBall × Int)) (s : GBall) (l' : List (GBall × Int)), pre ++ l' = r ∧ ball_statesF c1 s rem = some l' ∧ ∃ C, InvI wi w [consI hc pre C, boxI b4 51 (Flat.cells s)]) ?_ ?_ ?_
  · exact ⟨0, List.drop_zero, rfl, rfl, rfl, rfl, rfl, rfl, [], _, r, rfl, hm, _, H⟩
  · rintro y xs f w ⟨ik, hd, hf11, hf10, hf9, hf0, hf2, hf4, pre, s, l', hpre, hm, C, H⟩
    have hlt := drop_lt hd; have hix := drop_idx hd
    obtain ⟨u1, rfl⟩ : ∃ u1, f = (upd (upd (upd (upd (upd (upd u1 11 (.int .i64 (ik : Int))) 10 (.int .i64 (c0.length : Int))) 9 vc0) 0 (.func (.yield l) #[] #[])) 2 (.pointer (some pc1))) 4 (.pointer (some ⟨b4, 0, none⟩))) :=
      ⟨f, by rw [upd_self hf11, upd_self hf10, upd_self hf9, upd_self hf0, upd_self hf2, upd_self hf4]⟩
    have hK := hk _ (InvI.kp H)
    have hinc := addI_lt hlt hK.2.1.len_le
    rw [ball_statesF] at hm
    obtain ⟨⟨s', e'⟩, hnext, hm⟩ := bind_some hm
    refine W.seq ?_
    refine W.region ?_
    refine O.lss rfl rfl rfl rfl ?_
    refine WL.nil ?_
    refine W.seq ?_
    refine W.cond_true (congrArg Value.bool (decide_eq_true hlt)) ?_
    refine W.skip ?_
    refine W.seq ?_
    refine W.block ?_
    refine W.seq ?_
    refine W.region ?_
    refine O.indexAddr Tryz.underlying24 sz86 hK.2.1 hix rfl rfl rfl rfl ?_
    intro p1 hp1
    refine O.loadA (Flat.cells y) ag86 rfl rfl rfl rfl (hp1.flat) ?_
    refine O.alloc (Flat.cells (GEvent.mk 0 0 0)) ze86 H rfl rfl rfl ?_
    intro b6 w2 H hb2
    refine O.store 2 0 (Flat.cells y) (Flat.cells y) sz86 H rfl rfl rfl rfl rfl rfl ⟨⟨rfl, rfl⟩, rfl⟩ (Flat.one y) ?_
    intro w3 H
    refine WL.nil ?_
    have hK := hk _ (InvI.kp H)
    refine W.seq ?_
    refine W.region ?_
    refine O.loadA (q := pc1) (Flat.cells c1) ag23 rfl rfl rfl rfl (hK.2.2) ?_
    refine O.loadA (Flat.cells s) ag51 rfl rfl rfl rfl (H.cell 1 rfl) ?_
    refine O.loadA (Flat.cells y) ag86 rfl rfl rfl rfl (H.cell 2 rfl) ?_
    refine O.call Tryz.call64 rfl rfl rfl (c_ball_next c1 s y hnext) ?_
    rintro _ w4 hb3 rfl
    have H := H.ext hb3
    refine O.move (v := .tuple #[.agg (Flat.cells s').toArray, .int .i64 e']) rfl rfl rfl ?_
    refine O.extract (v := .agg (Flat.cells s').toArray) rfl rfl rfl rfl ?_
    refine O.extract (v := .int .i64 e') rfl rfl rfl rfl ?_
    refine O.alloc (Flat.cells (GBall.mk 0 0 false 0)) ze51 H rfl rfl rfl ?_
    intro b7 w5 H hb4
    refine O.store 3 0 (Flat.cells s') (Flat.cells s') sz51 H rfl rfl rfl rfl rfl rfl ⟨⟨rfl, rfl⟩, rfl⟩ (Flat.one s') ?_
    intro w6 H
    refine O.assign (v := .int .i64 e') rfl rfl rfl ?_
    refine WL.nil ?_
    have hS : ∃ rest, pre ++ (s', e') :: rest = r := by
      split at hm
      · obtain ⟨l2, _, h2⟩ := bind_some hm
        exact ⟨l2, by rw [← hpre, ← Option.some.inj h2]⟩
      · exact ⟨[], by rw [← hpre, ← Option.some.inj hm]⟩
    refine W.seq ?_
    refine W.seq ?_
    refine W.region ?_
    refine O.move (v := (.func (.yield l) #[] #[])) rfl rfl rfl ?_
    refine O.loadA (Flat.cells s') ag51 rfl rfl rfl rfl (H.cell 3 rfl) ?_
    refine O.move (v := .int .i64 e') rfl rfl rfl ?_
    refine O.yield (s', e') [.agg (Flat.cells s').toArray, .int .i64 e'] H hS rfl rfl rfl rfl rfl ?_ ?_
    · intro w' C' H
      refine O.not rfl rfl rfl ?_
      refine O.move (v := .bool false) rfl rfl rfl ?_
      refine O.move (v := .int .i64 e') rfl rfl rfl ?_
      refine O.neq rfl rfl rfl rfl ?_
      refine O.pick_false (v := .bool (e' != 0)) rfl rfl rfl rfl ?_
      refine WL.nil ?_
      by_cases he : e' = 0
      · subst he
        rw [if_pos rfl] at hm
        obtain ⟨l2, hl2, h2⟩ := bind_some hm
        refine W.cond_false rfl ?_
        refine W.skip ?_
        refine W.region ?_
        refine O.loadA (Flat.cells s') ag51 rfl rfl rfl rfl (H.cell 3 rfl) ?_
        refine O.store 1 0 (Flat.cells s') (Flat.cells s') sz51 H rfl rfl rfl rfl rfl rfl ⟨⟨rfl, rfl⟩, rfl⟩ (Flat.one s') ?_
        intro w7 H
        refine WL.nil ?_
        refine W.region ?_
        refine O.add rfl rfl rfl rfl hinc ?_
        refine O.move (v := .int .i64 ((ik : Int) + 1)) rfl rfl rfl ?_
        exact WL.nil ⟨ik + 1, drop_next hd, rfl, rfl, rfl, rfl, rfl, rfl, pre ++ [(s', 0)], s', l2, by rw [← hpre, ← Option.some.inj h2]; simp, hl2, _, H.pick [0, 1] [consI hc (pre ++ [(s', 0)]) C', boxI b4 51 (Flat.cells s')] rfl (by decide)⟩
      · rw [if_neg he] at hm
        refine W.cond_true (congrArg Value.bool (bne_iff_ne.2 he)) ?_
        refine W.ret ?_
        refine ends0 Tryz.results63 ⟨_, _, rfl, .inl ⟨_, ?_, (H.items _ (List.mem_cons_self ..)).1⟩⟩
        rw [← hpre, ← Option.some.inj hm]
    · intro w' C' H
      refine O.not rfl rfl rfl ?_
      refine O.move (v := .bool true) rfl rfl rfl ?_
      refine O.skip rfl rfl ?_
      refine O.skip rfl rfl ?_
      refine O.pick_true (v := .bool true) rfl rfl rfl rfl ?_
      refine WL.nil ?_
      refine W.cond_true rfl ?_
      refine W.ret ?_
      exact ends0 Tryz.results63 ⟨_, _, rfl, .inr (H.items _ (List.mem_cons_self ..)).1⟩
  · rintro f w ⟨ik, hd, hf11, hf10, hf9, hf0, hf2, hf4, pre, s, l', hpre, hm, C, H⟩
    have hlt := drop_end hd
    obtain ⟨u1, rfl⟩ := up2 hf11 hf10
    refine W.seq ?_
    refine W.region ?_
    refine O.lss rfl rfl rfl rfl ?_
    refine WL.nil ?_
    refine W.seq ?_
    refine W.cond_false (congrArg Value.bool (decide_eq_false hlt)) ?_
    refine W.exit ?_
    refine xT rfl ?_
    refine ends0 Tryz.results63 ⟨_, C, rfl, .inl ⟨_, ?_, (H.items _ (List.mem_cons_self ..)).1⟩⟩
    rw [ball_statesF] at hm
    rw [← hpre, ← Option.some.inj hm, List.append_nil]

theorem c_ball_states {w0 : World} (a0 : GMast) (va1 : Value) (a1 : (List GEvent)) (ha1 : SliceR w0 va1 a1) :
  Calls Tryz.prog 43 #[(.agg (Flat.cells a0).toArray), va1] w0 (Ret w0 fun w v => ∃ b2 : Nat, ∃ b1 : Nat, v = (.func (.func 63) #[] #[(.pointer (some ⟨b2, 0, none⟩)), (.pointer (some ⟨b1, 0, none⟩))]) ∧ Inv w0 w [boxI b2 24 [va1], boxI b1 23 [(.int .i64 a0.Noon), (.int .i64 a0.Half), (.int .i64 a0.Full), (.int .i64 a0.Late), (.int .i64 a0.Again), (.int .i64 a0.Wind)]]) := by
 refine calls_of_W Tryz.func43 rfl Tryz.ntmps43 (Nat.le_of_ble_eq_true rfl) ?_
 have H := Inv.start (w := w0)
 refine W.seq ?_
 refine W.region ?_
 refine O.box [(.int .i64 a0.Noon), (.int .i64 a0.Half), (.int .i64 a0.Full), (.int .i64 a0.Late), (.int .i64 a0.Again), (.int .i64 a0.Wind)] H rfl rfl rfl rfl ?_
 intro b1 w1 H hb1
 refine O.box [va1] H rfl rfl rfl (SliceR.cells1 (H.arg ha1)) ?_
 intro b2 w2 H hb2
 refine O.assign (v := .nilFunc) rfl rfl rfl ?_
 refine WL.nil ?_
 refine W.seq ?_
 refine W.region ?_
 refine O.makeFunc rfl rfl rfl rfl ?_
 refine O.assign (v := (.func (.func 63) #[] #[(.pointer (some ⟨b2, 0, none⟩)), (.pointer (some ⟨b1, 0, none⟩))])) rfl rfl rfl ?_
 refine WL.nil ?_
 refine W.ret ?_
 exact ends1 Tryz.results43 rfl ⟨_, rfl, H.base, ⟨_, _, rfl, H.pick [1, 0] [boxI b2 24 [va1], boxI b1 23 [(.int .i64 a0.Noon), (.int .i64 a0.Half), (.int .i64 a0.Full), (.int .i64 a0.Late), (.int .i64 a0.Again), (.int .i64 a0.Wind)]] rfl (by decide)⟩⟩

set_option maxRecDepth 20000 in
theorem c_ball_Run {w0 : World} (a0 : GMast) (va1 : Value) (a1 : (List GEvent)) (ha1 : SliceR w0 va1 a1) {r0 : GBall} {r1 : Int} {r2 : Int} (hm : ball_Run a0 a1 = some (r0, r1, r2)) :
  Calls Tryz.prog 15 #[(.agg (Flat.cells a0).toArray), va1] w0 (Ret w0 fun _ v => v = .tuple #[(.agg (Flat.cells r0).toArray), (.int .i64 r1), (.int .i64 r2)]) := by
 unfold ball_Run at hm
 refine calls_of_WM Tryz.func15 rfl Tryz.ntmps15 (Nat.le_of_ble_eq_true rfl) ?_
 have H := Inv.startM (w0 := w0)
 have hmk : (fr0 #[(.agg (Flat.cells a0).toArray), va1]).marks = [] := rfl
 refine W.seq ?_
 refine W.region ?_
 refine O.box [(.int .i64 a0.Noon), (.int .i64 a0.Half), (.int .i64 a0.Full), (.int .i64 a0.Late), (.int .i64 a0.Again), (.int .i64 a0.Wind)] H rfl rfl rfl rfl ?_
 intro b1 w1 H hb1
 refine O.alloc [(.int .i64 0), (.int .i64 0), (.bool false), (.int .i64 0)] ze51 H rfl rfl rfl ?_
 intro b2 w2 H hb2
 refine O.alloc [(.int .i64 0)] ze3 H rfl rfl rfl ?_
 intro b3 w3 H hb3
 refine O.alloc [(.int .i64 0)] ze26 H rfl rfl rfl ?_
 intro b4 w4 H hb4
 refine WL.nil ?_
 refine W.seq ?_
 refine W.block ?_
 refine W.seq ?_
 refine W.region ?_
 refine O.loadA [(.int .i64 a0.Noon), (.int .i64 a0.Half), (.int .i64 a0.Full), (.int .i64 a0.Late), (.int .i64 a0.Again), (.int .i64 a0.Wind)] ag23 rfl rfl rfl rfl (H.cell 1 rfl) ?_
 obtain ⟨t1, hy1, hm⟩ := bind_some hm
 refine O.call Tryz.call42 rfl rfl rfl (c_ball_ValidMast a0 hy1) ?_
 rintro _ w5 hb5 rfl
 have H := H.ext hb5
 refine O.not rfl rfl rfl ?_
 refine O.assign (v := (.bool (!t1))) rfl rfl rfl ?_
 refine WL.nil ?_
 rcases ite_some hm with ⟨hc1, hm⟩ | ⟨hc1, hm⟩
 ·
  refine W.cond_true (congrArg Value.bool hc1) ?_
  refine W.seq ?_
  refine W.region ?_
  refine O.build (v := (.agg (Flat.cells (GBall.mk 0 0 false 0)).toArray)) (fun w => bd51_  w) rfl rfl rfl ?_
  refine O.store 2 0 [(.int .i64 0), (.int .i64 0), (.bool false), (.int .i64 0)] [(.int .i64 0), (.int .i64 0), (.bool false), (.int .i64 0)] sz51 H rfl rfl rfl rfl rfl rfl ⟨⟨rfl, rfl⟩, rfl⟩ (one_cons rfl (one_cons rfl (one_cons rfl (one_cons rfl one_nil)))) ?_
  intro w6 H
  refine O.store 3 0 [(.int .i64 0)] [(.int .i64 0)] sz3 H rfl rfl rfl rfl rfl rfl ⟨⟨rfl, rfl⟩, rfl⟩ (one_cons rfl one_nil) ?_
  intro w7 H
  refine O.store 4 0 [(.int .i64 1)] [(.int .i64 1)] sz26 H rfl rfl rfl rfl rfl rfl ⟨⟨rfl, rfl⟩, rfl⟩ (one_cons rfl one_nil) ?_
  intro w8 H
  refine WL.nil ?_
  refine W.ret ?_
  refine endsM_mk H hmk ?_
  intro w H _
  have hq : ((GBall.mk 0 0 false 0), 0, 1) = (r0, r1, r2) := Option.some.inj (show some ((GBall.mk 0 0 false 0), 0, 1) = some (r0, r1, r2) from hm)
  obtain ⟨he0, hq0⟩ := Prod.mk.inj hq; clear hq; subst he0
  obtain ⟨he1, hq1⟩ := Prod.mk.inj hq0; clear hq0; subst he1
  subst hq1
  exact ends3 Tryz.results15 ⟨_, rfl, run_loadVar_agg ag51 rfl (H.cell 2 rfl)⟩ ⟨_, rfl, run_loadVar_scalar sc3 (H.cell 3 rfl 0 _ rfl)⟩ ⟨_, rfl, run_loadVar_scalar sc26 (H.cell 4 rfl 0 _ rfl)⟩ ⟨_, rfl, H.base, rfl⟩
 ·
  refine W.cond_false (congrArg Value.bool hc1) ?_
  refine W.seq ?_
  refine W.region ?_
  refine O.move (v := va1) rfl rfl rfl ?_
  refine O.lenS Tryz.underlying24 (H.arg ha1) rfl rfl rfl ?_
  refine O.gtr rfl rfl rfl rfl ?_
  refine O.assign (v := (.bool (decide (100 < ((a1.length : Nat) : Int))))) rfl rfl rfl ?_
  refine WL.nil ?_
  rcases ite_some hm with ⟨hc2, hm⟩ | ⟨hc2, hm⟩
  ·
   refine W.cond_true (congrArg Value.bool hc2) ?_
   refine W.seq ?_
   refine W.region ?_
   refine O.build (v := (.agg (Flat.cells (GBall.mk 0 0 false 0)).toArray)) (fun w => bd51_  w) rfl rfl rfl ?_
   refine O.store 2 0 [(.int .i64 0), (.int .i64 0), (.bool false), (.int .i64 0)] [(.int .i64 0), (.int .i64 0), (.bool false), (.int .i64 0)] sz51 H rfl rfl rfl rfl rfl rfl ⟨⟨rfl, rfl⟩, rfl⟩ (one_cons rfl (one_cons rfl (one_cons rfl (one_cons rfl one_nil)))) ?_
   intro w9 H
   refine O.store 3 0 [(.int .i64 0)] [(.int .i64 0)] sz3 H rfl rfl rfl rfl rfl rfl ⟨⟨rfl, rfl⟩, rfl⟩ (one_cons rfl one_nil) ?_
   intro w10 H
   refine O.store 4 0 [(.int .i64 7)] [(.int .i64 7)] sz26 H rfl rfl rfl rfl rfl rfl ⟨⟨rfl, rfl⟩, rfl⟩ (one_cons rfl one_nil) ?_
   intro w11 H
   refine WL.nil ?_
   refine W.ret ?_
   refine endsM_mk H hmk ?_
   intro w H _
   have hq : ((GBall.mk 0 0 false 0), 0, 7) = (r0, r1, r2) := Option.some.inj (show some ((GBall.mk 0 0 false 0), 0, 7) = some (r0, r1, r2) from hm)
   obtain ⟨he0, hq0⟩ := Prod.mk.inj hq; clear hq; subst he0
   obtain ⟨he1, hq1⟩ := Prod.mk.inj hq0; clear hq0; subst he1
   subst hq1
   exact ends3 Tryz.results15 ⟨_, rfl, run_loadVar_agg ag51 rfl (H.cell 2 rfl)⟩ ⟨_, rfl, run_loadVar_scalar sc3 (H.cell 3 rfl 0 _ rfl)⟩ ⟨_, rfl, run_loadVar_scalar sc26 (H.cell 4 rfl 0 _ rfl)⟩ ⟨_, rfl, H.base, rfl⟩
  ·
   refine W.cond_false (congrArg Value.bool hc2) ?_
   refine W.skip ?_
   refine W.seq ?_
   refine W.region ?_
   refine O.alloc [(.int .i64 0), (.int .i64 0), (.bool false), (.int .i64 0)] ze51 H rfl rfl rfl ?_
   intro b5 w12 H hb6
   refine WL.nil ?_
   refine W.seq ?_
   refine W.region ?_
   refine O.alloc [(.int .i64 0)] ze3 H rfl rfl rfl ?_
   intro b6 w13 H hb7
   refine O.store 6 0 [(.int .i64 0)] [(.int .i64 0)] sz3 H rfl rfl rfl rfl rfl rfl ⟨⟨rfl, rfl⟩, rfl⟩ (one_cons rfl one_nil) ?_
   intro w14 H
   refine WL.nil ?_
   refine W.seq ?_
   refine W.seq ?_
   refine W.region ?_
   refine O.loadA [(.int .i64 a0.Noon), (.int .i64 a0.Half), (.int .i64 a0.Full), (.int .i64 a0.Late), (.int .i64 a0.Again), (.int .i64 a0.Wind)] ag23 rfl rfl rfl rfl (H.cell 1 rfl) ?_
   refine O.move (v := va1) rfl rfl rfl ?_
   refine O.call Tryz.call43 rfl rfl rfl (c_ball_states a0 _ _ (H.arg ha1)) ?_
   rintro _ w15 hb8 ⟨b7, b8, rfl, hM1⟩
   have H := H.addAll hb8 hM1
   refine WL.nil ?_
   obtain ⟨xs1, hxs1, hm⟩ := bind_some hm
   obtain ⟨o1, hm1, hm⟩ := bind_some hm
   refine W.via (fun f w => ∃ s1 : Int, ∃ s2 : Int, ∃ s3 : Bool, ∃ s4 : Int, ∃ s5 : Int, ∃ ms1 : List Nat, o1 = .next (s1, s2, s3, s4, s5) ∧ f 4 = (.pointer (some ⟨b2, 0, none⟩)) ∧ f 5 = (.pointer (some ⟨b3, 0, none⟩)) ∧ f 6 = (.pointer (some ⟨b4, 0, none⟩)) ∧ f 7 = (.pointer (some ⟨b5, 0, none⟩)) ∧ f 8 = (.pointer (some ⟨b6, 0, none⟩)) ∧ f.marks = ms1 ∧ Inv w0 w [marksI ms1, boxI b2 51 [(.int .i64 0), (.int .i64 0), (.bool false), (.int .i64 0)], boxI b3 3 [(.int .i64 0)], boxI b4 26 [(.int .i64 0)], boxI b5 51 [(.int .i64 s1), (.int .i64 s2), (.bool s3), (.int .i64 s4)], boxI b6 3 [(.int .i64 s5)]]) ?_ ?_
   ·
    refine W.block ?_
    have H := H.keep [0, 2, 3, 4, 5, 6, 7, 8] [marksI [], boxI b2 51 [(.int .i64 0), (.int .i64 0), (.bool false), (.int .i64 0)], boxI b3 3 [(.int .i64 0)], boxI b4 26 [(.int .i64 0)], boxI b5 51 [(.int .i64 0), (.int .i64 0), (.bool false), (.int .i64 0)], boxI b6 3 [(.int .i64 0)], boxI b7 24 [va1], boxI b8 23 [(.int .i64 a0.Noon), (.int .i64 a0.Half), (.int .i64 a0.Full), (.int .i64 a0.Late), (.int .i64 a0.Again), (.int .i64 a0.Wind)]] rfl (by decide)
    refine W.rangeFuncL (α := (GBall × Int)) (σ := Int × Int × Bool × Int × Int) (X := Ctl (Int × Int × Bool × Int × Int) (GBall × Int × Int)) (xs := xs1) (rep := (repP (α := GBall) (β := Int))) hm1 (fun s L => ∃ z6 : Int, ∃ z7 : Int, ∃ z8 : Bool, ∃ z9 : Int, ∃ z10 : Int, (z6, z7, z8, z9, z10) = s ∧ L = [boxI b2 51 [(.int .i64 0), (.int .i64 0), (.bool false), (.int .i64 0)], boxI b3 3 [(.int .i64 0)], boxI b4 26 [(.int .i64 0)], boxI b5 51 [(.int .i64 z6), (.int .i64 z7), (.bool z8), (.int .i64 z9)], boxI b6 3 [(.int .i64 z10)], boxI b7 24 [va1], boxI b8 23 [(.int .i64 a0.Noon), (.int .i64 a0.Half), (.int .i64 a0.Full), (.int .i64 a0.Late), (.int .i64 a0.Again), (.int .i64 a0.Wind)]]) (fun y j L => match j with | some j => j = 1 ∧ (False) | none => ∃ q1 : Int, ∃ q2 : Int, y = Ctl.ret ((GBall.mk 0 0 false 0), q1, q2) ∧ L = [boxI b2 51 [(.int .i64 0), (.int .i64 0), (.bool false), (.int .i64 0)], boxI b3 3 [(.int .i64 q1)], boxI b4 26 [(.int .i64 q2)]]) rfl Tryz.call63 rfl (fun _ _ _ h => by rw [h]; rfl) (fun Kp W hs hk => it_ball_states_c1 _ _ a1 _ a0 hxs1 fun w1 hw => by obtain ⟨_, _, _, _, ⟨_, _, _, _, _, _, rfl⟩, H⟩ := hk w1 hw; exact ⟨H.cell 8 rfl, (H.arg ha1), H.cell 9 rfl⟩) H ⟨_, _, _, _, _, rfl, rfl⟩ ?_ ?_ ?_ ?_
    ·
     rintro _ rs lp lp2 iz x1 _ st _ w _ ⟨z6, z7, z8, z9, z10, rfl, rfl⟩ rfl hm2 H
     change W _ _ _ _ _ _ _ (upd (upd _ 24 (.agg (Flat.cells x1.1).toArray)) 25 (.int .i64 x1.2)) w
     refine W.seq ?_
     refine W.region ?_
     refine O.alloc [(.int .i64 0), (.int .i64 0), (.bool false), (.int .i64 0)] ze51 H rfl rfl rfl ?_
     intro b9 w16 H hb9
     refine O.store 10 0 [(.int .i64 x1.1.Place), (.int .i64 x1.1.Wind), (.bool x1.1.Flag), (.int .i64 x1.1.At)] [(.int .i64 x1.1.Place), (.int .i64 x1.1.Wind), (.bool x1.1.Flag), (.int .i64 x1.1.At)] sz51 H rfl rfl rfl rfl rfl rfl ⟨⟨rfl, rfl⟩, rfl⟩ (one_cons rfl (one_cons rfl (one_cons rfl (one_cons rfl one_nil)))) ?_
     intro w17 H
     refine WL.nil ?_
     refine W.region ?_
     refine O.assign (v := (.int .i64 x1.2)) rfl rfl rfl ?_
     refine WL.nil ?_
     refine ⟨_, H, fun w hsl H => ?_⟩
     refine W.block ?_
     refine W.seq ?_
     refine W.seq ?_
     refine W.region ?_
     refine O.move (v := (.int .i64 x1.2)) rfl rfl rfl ?_
     refine O.neq rfl rfl rfl rfl ?_
     refine WL.nil ?_
     rcases ite_some hm2 with ⟨hc3, hm2⟩ | ⟨hc3, hm2⟩
     ·
      refine W.cond_true (congrArg Value.bool hc3) ?_
      refine W.seq ?_
      refine W.drawD 5 [[], [], [], [0], [0, 1, 3]] [[3, 4], [4], [], [4], []] (fun S f w => Inv w0 w [] ∧ f 4 = (.pointer (some ⟨b2, 0, none⟩)) ∧ f 5 = (.pointer (some ⟨b3, 0, none⟩)) ∧ f 6 = (.pointer (some ⟨b4, 0, none⟩)) ∧ f 7 = (.pointer (some ⟨b5, 0, none⟩)) ∧ f 8 = (.pointer (some ⟨b6, 0, none⟩)) ∧ f 10 = (.int .i64 x1.2) ∧ f 23 = (.func (.func 63) #[] #[(.pointer (some ⟨b7, 0, none⟩)), (.pointer (some ⟨b8, 0, none⟩))]) ∧ (S 0 = true → f 28 = (.agg (Flat.cells (GBall.mk 0 0 false 0)).toArray)) ∧ (S 1 = true → f 29 = (.int .i64 z10)) ∧ (S 2 = true → f 30 = (.int .i64 x1.2)) ∧ (S 4 = false → Inv w0 w [rs, lp2, marksI [], boxI b2 51 [(.int .i64 0), (.int .i64 0), (.bool false), (.int .i64 0)], boxI b3 3 [(.int .i64 0)], boxI b4 26 [(.int .i64 0)], boxI b5 51 [(.int .i64 z6), (.int .i64 z7), (.bool z8), (.int .i64 z9)], boxI b6 3 [(.int .i64 z10)], boxI b7 24 [va1], boxI b8 23 [(.int .i64 a0.Noon), (.int .i64 a0.Half), (.int .i64 a0.Full), (.int .i64 a0.Late), (.int .i64 a0.Again), (.int .i64 a0.Wind)], boxI b9 51 [(.int .i64 x1.1.Place), (.int .i64 x1.1.Wind), (.bool x1.1.Flag), (.int .i64 x1.1.At)]]) ∧ (S 4 = true → Inv w0 w [rs, lp2, marksI [], boxI b2 51 [(.int .i64 0), (.int .i64 0), (.bool false), (.int .i64 0)], boxI b3 3 [(.int .i64 z10)], boxI b4 26 [(.int .i64 0)], boxI b5 51 [(.int .i64 z6), (.int .i64 z7), (.bool z8), (.int .i64 z9)], boxI b6 3 [(.int .i64 z10)], boxI b7 24 [va1], boxI b8 23 [(.int .i64 a0.Noon), (.int .i64 a0.Half), (.int .i64 a0.Full), (.int .i64 a0.Late), (.int .i64 a0.Again), (.int .i64 a0.Wind)], boxI b9 51 [(.int .i64 x1.1.Place), (.int .i64 x1.1.Wind), (.bool x1.1.Flag), (.int .i64 x1.1.At)]])) fol (by kernel_rfl) ?_ ?_ ?_
      ·
       exact fun d _ => ⟨((H.ext (below_drawn d)).pick [] [] rfl (by decide)), rfl, rfl, rfl, rfl, rfl, rfl, rfl, nF, nF, nF, (fun _ => H.ext (below_drawn d)), nF⟩
      ·
       refine ⟨?_, ⟨?_, ⟨?_, ⟨?_, ⟨?_, trivial⟩⟩⟩⟩⟩
       ·
        rintro S f w hS - ⟨e3, e4, -⟩ ⟨B, hf4, hf5, hf6, hf7, hf8, hf10, hf23, hd0, t⟩
        have H := t.2.2.1 e4
        refine O.build (v := (.agg (Flat.cells (GBall.mk 0 0 false 0)).toArray)) (fun w => bd51_  w) rfl rfl rfl ?_
        exact WL.nil ⟨B, hf4, hf5, hf6, hf7, hf8, hf10, hf23, (fun _ => rfl), t⟩
       ·
        rintro S f w hS - ⟨e4, -⟩ ⟨B, hf4, hf5, hf6, hf7, hf8, hf10, hf23, hd0, hd1, t⟩
        obtain ⟨u1, rfl⟩ := up1 hf8
        have H := t.2.1 e4
        refine O.load sc3 rfl rfl rfl (H.cell 7 rfl 0 _ rfl) ?_
        exact WL.nil ⟨B, hf4, hf5, hf6, hf7, rfl, hf10, hf23, hd0, (fun _ => rfl), t⟩
       ·
        rintro S f w hS - - ⟨B, hf4, hf5, hf6, hf7, hf8, hf10, hf23, hd0, hd1, hd2, t⟩
        obtain ⟨u2, rfl⟩ := up1 hf10
        have H := B
        refine O.move (v := (.int .i64 x1.2)) rfl rfl rfl ?_
        exact WL.nil ⟨B, hf4, hf5, hf6, hf7, hf8, rfl, hf23, hd0, hd1, (fun _ => rfl), t⟩
       ·
        rintro S f w hS ⟨e0, -⟩ ⟨e4, -⟩ ⟨B, hf4, hf5, hf6, hf7, hf8, hf10, hf23, hd0, hd1, hd2, W0, W1⟩
        have hf28 := hd0 e0
        obtain ⟨u3, rfl⟩ := up2 hf4 hf28
        have H := W0 e4
        refine O.store 3 0 [(.int .i64 0), (.int .i64 0), (.bool false), (.int .i64 0)] [(.int .i64 0), (.int .i64 0), (.bool false), (.int .i64 0)] sz51 H rfl rfl rfl rfl rfl rfl ⟨⟨rfl, rfl⟩, rfl⟩ (one_cons rfl (one_cons rfl (one_cons rfl (one_cons rfl one_nil)))) ?_
        intro w18 H
        exact WL.nil ⟨(H.pick [] [] rfl (by decide)), rfl, hf5, hf6, hf7, hf8, hf10, hf23, hd0, hd1, hd2, (fun _ => H), (nX e4)⟩
       ·
        rintro S f w hS ⟨e0, e1, e3, -⟩ - ⟨B, hf4, hf5, hf6, hf7, hf8, hf10, hf23, hd0, hd1, hd2, W0, W1⟩
        have hf29 := hd1 e1
        obtain ⟨u4, rfl⟩ := up2 hf5 hf29
        have H := W0 hS
        refine O.store 4 0 [(.int .i64 z10)] [(.int .i64 z10)] sz3 H rfl rfl rfl rfl rfl rfl ⟨⟨rfl, rfl⟩, rfl⟩ (one_cons rfl one_nil) ?_
        intro w19 H
        exact WL.nil ⟨(H.pick [] [] rfl (by decide)), hf4, rfl, hf6, hf7, hf8, hf10, hf23, hd0, hd1, hd2, nG, (fun _ => H)⟩
      ·
       rintro S f w ⟨e0, e1, e2, e3, e4, -⟩ ⟨B, hf4, hf5, hf6, hf7, hf8, hf10, hf23, hd0, hd1, hd2, W0, W1⟩
       have hf30 := hd2 e2
       have H := W1 e4
       obtain ⟨u5, rfl⟩ := up7 hf4 hf5 hf6 hf7 hf8 hf23 hf30
       refine O.store 5 0 [(.int .i64 x1.2)] [(.int .i64 x1.2)] sz26 H rfl rfl rfl rfl rfl rfl ⟨⟨rfl, rfl⟩, rfl⟩ (one_cons rfl one_nil) ?_
       intro w20 H
       refine WL.nil ?_
       refine W.ret ?_
       have H := H.keep [0, 1, 2, 3, 4, 5] [rs, lp2, marksI [], boxI b2 51 [(.int .i64 0), (.int .i64 0), (.bool false), (.int .i64 0)], boxI b3 3 [(.int .i64 z10)], boxI b4 26 [(.int .i64 x1.2)]] rfl (by decide)
       obtain rfl := Option.some.inj hm2
       refine ⟨_, rfl, fun _ => ⟨_, ⟨_, _, rfl, rfl⟩, H⟩⟩
     ·
      refine W.cond_false (congrArg Value.bool hc3) ?_
      refine W.skip ?_
      refine W.seq ?_
      refine W.region ?_
      refine O.loadA [(.int .i64 x1.1.Place), (.int .i64 x1.1.Wind), (.bool x1.1.Flag), (.int .i64 x1.1.At)] ag51 rfl rfl rfl rfl (H.cell 10 rfl) ?_
      refine O.store 6 0 [(.int .i64 x1.1.Place), (.int .i64 x1.1.Wind), (.bool x1.1.Flag), (.int .i64 x1.1.At)] [(.int .i64 x1.1.Place), (.int .i64 x1.1.Wind), (.bool x1.1.Flag), (.int .i64 x1.1.At)] sz51 H rfl rfl rfl rfl rfl rfl ⟨⟨rfl, rfl⟩, rfl⟩ (one_cons rfl (one_cons rfl (one_cons rfl (one_cons rfl one_nil)))) ?_
      intro w21 H
      refine WL.nil ?_
      refine W.region ?_
      refine O.load sc3 rfl rfl rfl (H.cell 7 rfl 0 _ rfl) ?_
      obtain ⟨t2, ht2, hm2⟩ := bind_some hm2
      refine O.add rfl rfl rfl rfl ht2 ?_
      refine O.store 7 0 [(.int .i64 t2)] [(.int .i64 t2)] sz3 H rfl rfl rfl rfl rfl rfl ⟨⟨rfl, rfl⟩, rfl⟩ (one_cons rfl one_nil) ?_
      intro w22 H
      refine WL.nil ?_
      have H := H.keep [0, 1, 2, 3, 4, 5, 6, 7, 8, 9] [rs, lp2, marksI [], boxI b2 51 [(.int .i64 0), (.int .i64 0), (.bool false), (.int .i64 0)], boxI b3 3 [(.int .i64 0)], boxI b4 26 [(.int .i64 0)], boxI b5 51 [(.int .i64 x1.1.Place), (.int .i64 x1.1.Wind), (.bool x1.1.Flag), (.int .i64 x1.1.At)], boxI b6 3 [(.int .i64 t2)], boxI b7 24 [va1], boxI b8 23 [(.int .i64 a0.Noon), (.int .i64 a0.Half), (.int .i64 a0.Full), (.int .i64 a0.Late), (.int .i64 a0.Again), (.int .i64 a0.Wind)]] rfl (by decide)
      obtain rfl := Option.some.inj hm2
      exact ⟨_, _, rfl, ⟨_, _, _, _, _, rfl, rfl⟩, H⟩
    ·
     rintro D1 _ _ w ⟨z6, z7, z8, z9, z10, rfl, rfl⟩ hfin H
     obtain rfl : Ctl.next (z6, z7, z8, z9, z10) = o1 := hfin
     have H := H.keep [0, 1, 2, 3, 4, 5] [marksI (D1 :: []), boxI b2 51 [(.int .i64 0), (.int .i64 0), (.bool false), (.int .i64 0)], boxI b3 3 [(.int .i64 0)], boxI b4 26 [(.int .i64 0)], boxI b5 51 [(.int .i64 z6), (.int .i64 z7), (.bool z8), (.int .i64 z9)], boxI b6 3 [(.int .i64 z10)]] rfl (by decide)
     have hmk := congrArg (D1 :: ·) hmk
     exact ⟨_, _, _, _, _, _, rfl, rfl, rfl, rfl, rfl, rfl, hmk, H⟩
    ·
     rintro _ _ _ _ ⟨_, h⟩; exact h.elim
    ·
     rintro D1 _ w ⟨q1, q2, hy, rfl⟩ H
     subst hy
     have hmk := congrArg (D1 :: ·) hmk
     refine endsM_mk H hmk ?_
     intro w H _
     have hq : ((GBall.mk 0 0 false 0), q1, q2) = (r0, r1, r2) := Option.some.inj (show some ((GBall.mk 0 0 false 0), q1, q2) = some (r0, r1, r2) from hm)
     obtain ⟨he0, hq0⟩ := Prod.mk.inj hq; clear hq; subst he0
     obtain ⟨he1, hq1⟩ := Prod.mk.inj hq0; clear hq0; subst he1
     subst hq1
     exact ends3 Tryz.results15 ⟨_, rfl, run_loadVar_agg ag51 rfl (H.cell 1 rfl)⟩ ⟨_, rfl, run_loadVar_scalar sc3 (H.cell 2 rfl 0 _ rfl)⟩ ⟨_, rfl, run_loadVar_scalar sc26 (H.cell 3 rfl 0 _ rfl)⟩ ⟨_, rfl, H.base, rfl⟩
   ·
    rintro f w ⟨s1, s2, s3, s4, s5, ms1, rfl, hf4, hf5, hf6, hf7, hf8, hmk, H⟩
    obtain ⟨u6, rfl⟩ := up5 hf4 hf5 hf6 hf7 hf8
    refine W.seq ?_
    refine W.drawS 2 [1] (fun w9 => Inv w0 w9 [marksI ms1, boxI b2 51 [(.int .i64 s1), (.int .i64 s2), (.bool s3), (.int .i64 s4)], boxI b3 3 [(.int .i64 0)], boxI b4 26 [(.int .i64 0)], boxI b5 51 [(.int .i64 s1), (.int .i64 s2), (.bool s3), (.int .i64 s4)], boxI b6 3 [(.int .i64 s5)]]) (fun f => f 4 = (.pointer (some ⟨b2, 0, none⟩)) ∧ f 5 = (.pointer (some ⟨b3, 0, none⟩)) ∧ f 6 = (.pointer (some ⟨b4, 0, none⟩)) ∧ f 34 = (.agg (Flat.cells (GBall.mk s1 s2 s3 s4)).toArray) ∧ f 35 = (.int .i64 s5)) fol (by kernel_rfl) rfl ?_ ?_ ?_
    ·
     refine PL.of (fun b w8 hb hx => match b, hb, hx with | none, _, hx => by have H := H.ext hx; exact O.loadA [(.int .i64 s1), (.int .i64 s2), (.bool s3), (.int .i64 s4)] ag51 rfl rfl rfl rfl (H.cell 4 rfl) (WL.nil ⟨rfl, hx⟩) | some _, hb, _ => absurd (hb rfl) (by decide)) ?_
     refine PL.of (fun b w8 _ hx => match b, hx with | none, hx => by have H := H.ext hx; exact O.load sc3 rfl rfl rfl (H.cell 5 rfl 0 _ rfl) (WL.nil ⟨rfl, hx⟩) | some _, H => O.load sc3 rfl rfl rfl (H.cell 5 rfl 0 _ rfl) (WL.nil ⟨rfl, H⟩)) ?_
     refine PL.nil ?_
     exact ⟨rfl, rfl, rfl, rfl, rfl⟩
    ·
     rintro f ⟨hf4, hf5, hf6, hf34, hf35⟩ w hx
     obtain ⟨u7, rfl⟩ := up5 hf4 hf5 hf6 hf34 hf35
     have H := H.ext hx
     exact O.store 1 0 [(.int .i64 s1), (.int .i64 s2), (.bool s3), (.int .i64 s4)] [(.int .i64 s1), (.int .i64 s2), (.bool s3), (.int .i64 s4)] sz51 H rfl rfl rfl rfl rfl rfl ⟨⟨rfl, rfl⟩, rfl⟩ (one_cons rfl (one_cons rfl (one_cons rfl (one_cons rfl one_nil)))) (fun _ H => WL.nil ⟨rfl, H⟩)
    ·
     rintro f w ⟨hf4, hf5, hf6, hf34, hf35⟩ hmd H
     have hmk := hmd.trans hmk
     obtain ⟨u8, rfl⟩ := up5 hf4 hf5 hf6 hf34 hf35
     refine O.store 2 0 [(.int .i64 s5)] [(.int .i64 s5)] sz3 H rfl rfl rfl rfl rfl rfl ⟨⟨rfl, rfl⟩, rfl⟩ (one_cons rfl one_nil) ?_
     intro w23 H
     refine O.store 3 0 [(.int .i64 0)] [(.int .i64 0)] sz26 H rfl rfl rfl rfl rfl rfl ⟨⟨rfl, rfl⟩, rfl⟩ (one_cons rfl one_nil) ?_
     intro w24 H
     refine WL.nil ?_
     refine W.ret ?_
     refine endsM_mk H hmk ?_
     intro w H _
     have hq : ((GBall.mk s1 s2 s3 s4), s5, 0) = (r0, r1, r2) := Option.some.inj (show some ((GBall.mk s1 s2 s3 s4), s5, 0) = some (r0, r1, r2) from hm)
     obtain ⟨he0, hq0⟩ := Prod.mk.inj hq; clear hq; subst he0
     obtain ⟨he1, hq1⟩ := Prod.mk.inj hq0; clear hq0; subst he1
     subst hq1
     exact ends3 Tryz.results15 ⟨_, rfl, run_loadVar_agg ag51 rfl (H.cell 1 rfl)⟩ ⟨_, rfl, run_loadVar_scalar sc3 (H.cell 2 rfl 0 _ rfl)⟩ ⟨_, rfl, run_loadVar_scalar sc26 (H.cell 3 rfl 0 _ rfl)⟩ ⟨_, rfl, H.base, rfl⟩

theorem c_slices_IndexFunc_Event {w0 : World} (va0 : Value) (a0 : (List GEvent)) (ha0 : SliceR w0 va0 a0) (va1 : Value) (a1 : GEvent → Option (Bool)) (ha1 : ∀ (w : World), Below w0.heap.size w0 w → ∀ (x0 : GEvent) (y0 : Bool), a1 x0 = some y0 → CallsV Tryz.prog va1 #[(.agg (Flat.cells x0).toArray)] w (Ret w fun _ v => v = (.bool y0))) {r0 : Int} (hm : slices_IndexFunc_Event a0 a1 = some r0) :
  Calls Tryz.prog 48 #[va0, va1] w0 (Ret w0 fun _ v => v = (.int .i64 r0)) := by
 unfold slices_IndexFunc_Event at hm
 refine calls_of_W Tryz.func48 rfl Tryz.ntmps48 (Nat.le_of_ble_eq_true rfl) ?_
 have H := Inv.start (w := w0)
 refine W.seq ?_
 refine W.region ?_
 refine O.assign (v := (.int .i64 0)) rfl rfl rfl ?_
 refine WL.nil ?_
 refine W.seq ?_
 refine W.seq ?_
 refine W.region ?_
 refine O.move (v := va0) rfl rfl rfl ?_
 refine O.lenS Tryz.underlying24 (H.arg ha0) rfl rfl rfl ?_
 refine O.move (v := (.int .i64 0)) rfl rfl rfl ?_
 refine WL.nil ?_
 obtain ⟨o1, hm1, hm⟩ := bind_some hm
 refine W.via (fun f w => o1 = .next () ∧ Inv w0 w []) ?_ ?_
 ·
  refine W.block ?_
  have hbdik1 := (H.arg ha0).len_le
  refine W.rangeN (i := 0) hm1 (fun rem ik1 s f w => () = s ∧ (ik1 : Int) + rem = max 0 ((a0.length : Nat) : Int) ∧ f 8 = .int .i64 (ik1 : Int) ∧ f 7 = (.int .i64 ((a0.length : Nat) : Int)) ∧ f 0 = va0 ∧ f 1 = va1 ∧ Inv w0 w []) ?_ ?_ ?_
  ·
   exact ⟨rfl, rangeN_start, rfl, rfl, rfl, rfl, H⟩
  ·
   rintro k ik1 _ st f w ⟨rfl, hdropk1, hf8, hf7, hf0, hf1, H⟩ hm2
   have hltk1 := rangeN_lt hdropk1
   obtain ⟨u1, rfl⟩ := up4 hf8 hf7 hf0 hf1
   have hinck1 := addI_lt hltk1 hbdik1
   refine W.seq ?_
   refine W.region ?_
   refine O.lss rfl rfl rfl rfl ?_
   refine WL.nil ?_
   refine W.seq ?_
   refine W.cond_true (congrArg Value.bool (decide_eq_true hltk1)) ?_
   refine W.skip ?_
   refine W.seq ?_
   refine W.block ?_
   refine W.seq ?_
   refine W.region ?_
   refine O.move (v := (.int .i64 (ik1 : Int))) rfl rfl rfl ?_
   refine O.assign (v := (.int .i64 (ik1 : Int))) rfl rfl rfl ?_
   refine WL.nil ?_
   refine W.seq ?_
   refine W.region ?_
   refine O.move (v := va1) rfl rfl rfl ?_
   refine O.move (v := va0) rfl rfl rfl ?_
   refine O.move (v := (.int .i64 (ik1 : Int))) rfl rfl rfl ?_
   obtain ⟨x1, hx1, hm2⟩ := bind_some hm2
   obtain ⟨p1, hp1, hrp1⟩ := fix_indexAddr Tryz.underlying24 sz86 ha0 hx1
   refine hrp1 rfl rfl rfl rfl ?_
   refine O.loadA [(.int .i64 x1.At), (.int .i64 x1.Kind), (.int .i64 x1.N)] ag86 rfl rfl rfl rfl ((hp1.mono H.base).flat) ?_
   obtain ⟨t1, hy1, hm2⟩ := bind_some hm2
   refine O.callV rfl rfl rfl rfl (ha1 _ H.base x1 _ hy1) ?_
   rintro _ w1 hb1 rfl
   have H := H.ext hb1
   refine WL.nil ?_
   rcases ite_some hm2 with ⟨hc1, hm2⟩ | ⟨hc1, hm2⟩
   ·
    refine W.cond_true (congrArg Value.bool hc1) ?_
    refine W.seq ?_
    refine W.region ?_
    refine O.move (v := (.int .i64 (ik1 : Int))) rfl rfl rfl ?_
    refine O.assign (v := (.int .i64 (ik1 : Int))) rfl rfl rfl ?_
    refine WL.nil ?_
    refine W.ret ?_
    obtain rfl := Option.some.inj hm2
    refine ⟨_, rfl, ?_⟩
    rintro rfl
    have hq : (ik1 : Int) = r0 := Option.some.inj (show some (ik1 : Int) = some r0 from hm)
    subst hq
    exact ends1 Tryz.results48 rfl ⟨_, rfl, H.base, rfl⟩
   ·
    refine W.cond_false (congrArg Value.bool hc1) ?_
    refine W.skip ?_
    refine W.region ?_
    refine O.add rfl rfl rfl rfl hinck1 ?_
    refine O.move (v := .int .i64 ((ik1 : Int) + 1)) rfl rfl rfl ?_
    refine WL.nil ?_
    obtain rfl := Option.some.inj hm2
    exact ⟨_, rfl, rfl, rangeN_next hdropk1, rfl, rfl, rfl, rfl, H⟩
  ·
   rintro ik1 _ f w ⟨rfl, hdropk1, hf8, hf7, hf0, hf1, H⟩ hfin
   have hltk1 := rangeN_end hdropk1
   obtain ⟨u2, rfl⟩ := up4 hf8 hf7 hf0 hf1
   refine W.seq ?_
   refine W.region ?_
   refine O.lss rfl rfl rfl rfl ?_
   refine WL.nil ?_
   refine W.seq ?_
   refine W.cond_false (congrArg Value.bool (decide_eq_false hltk1)) ?_
   refine W.exit ?_
   obtain rfl : Ctl.next () = o1 := hfin
   refine xT rfl ?_
   exact ⟨rfl, H⟩
 ·
  rintro f w ⟨rfl, H⟩
  refine W.seq ?_
  refine W.region ?_
  refine O.assign (v := (.int .i64 (-1))) rfl rfl rfl ?_
  refine WL.nil ?_
  refine W.ret ?_
  have hq : (-1) = r0 := Option.some.inj (show some (-1) = some r0 from hm)
  subst hq
  exact ends1 Tryz.results48 rfl ⟨_, rfl, H.base, rfl⟩

theorem c_slices_ContainsFunc_Event {w0 : World} (va0 : Value) (a0 : (List GEvent)) (ha0 : SliceR w0 va0 a0) (va1 : Value) (a1 : GEvent → Option (Bool)) (ha1 : ∀ (w : World), Below w0.heap.size w0 w → ∀ (x0 : GEvent) (y0 : Bool), a1 x0 = some y0 → CallsV Tryz.prog va1 #[(.agg (Flat.cells x0).toArray)] w (Ret w fun _ v => v = (.bool y0))) {r0 : Bool} (hm : slices_ContainsFunc_Event a0 a1 = some r0) :
  Calls Tryz.prog 45 #[va0, va1] w0 (Ret w0 fun _ v => v = (.bool r0)) := by
 unfold slices_ContainsFunc_Event at hm
 refine calls_of_W Tryz.func45 rfl Tryz.ntmps45 (Nat.le_of_ble_eq_true rfl) ?_
 have H := Inv.start (w := w0)
 refine W.seq ?_
 refine W.region ?_
 refine O.assign (v := (.bool false)) rfl rfl rfl ?_
 refine WL.nil ?_
 refine W.seq ?_
 refine W.region ?_
 refine O.move (v := va0) rfl rfl rfl ?_
 refine O.move (v := va1) rfl rfl rfl ?_
 obtain ⟨t1, hy1, hm⟩ := bind_some hm
 refine O.call Tryz.call48 rfl rfl rfl (c_slices_IndexFunc_Event _ _ (H.arg ha0) va1 a1 (fun w hw => ha1 w (H.base.trans (hw.mono H.base.size))) hy1) ?_
 rintro _ w1 hb1 rfl
 have H := H.ext hb1
 refine O.geq rfl rfl rfl rfl ?_
 refine O.assign (v := (.bool (decide (0 ≤ t1)))) rfl rfl rfl ?_
 refine WL.nil ?_
 refine W.ret ?_
 have hq : (decide (0 ≤ t1)) = r0 := Option.some.inj (show some (decide (0 ≤ t1)) = some r0 from hm)
 subst hq
 exact ends1 Tryz.results45 rfl ⟨_, rfl, H.base, rfl⟩

theorem c_ball_verdict_c1_c1 {w0 : World} (a0 : GEvent) {r0 : Bool} (hm : ball_verdict_c1_c1 a0 = some r0) :
  Calls Tryz.prog 46 #[(.agg (Flat.cells a0).toArray)] w0 (Ret w0 fun _ v => v = (.bool r0)) := by
 unfold ball_verdict_c1_c1 at hm
 refine calls_of_W Tryz.func46 rfl Tryz.ntmps46 (Nat.le_of_ble_eq_true rfl) ?_
 have H := Inv.start (w := w0)
 refine W.seq ?_
 refine W.region ?_
 refine O.box [(.int .i64 a0.At), (.int .i64 a0.Kind), (.int .i64 a0.N)] H rfl rfl rfl rfl ?_
 intro b1 w1 H hb1
 refine O.assign (v := (.bool false)) rfl rfl rfl ?_
 refine WL.nil ?_
 refine W.seq ?_
 refine W.region ?_
 refine O.fieldAddr fd86_1 rfl rfl rfl ?_
 refine O.load sc3 rfl rfl rfl (H.cell 0 rfl 1 _ rfl) ?_
 refine O.eql rfl rfl rfl rfl ?_
 refine O.assign (v := (.bool (a0.Kind == 6))) rfl rfl rfl ?_
 refine WL.nil ?_
 refine W.ret ?_
 have hq : (a0.Kind == 6) = r0 := Option.some.inj (show some (a0.Kind == 6) = some r0 from hm)
 subst hq
 exact ends1 Tryz.results46 rfl ⟨_, rfl, H.base, rfl⟩

theorem c_ball_verdict_c1 {w0 : World} (va0 : Value) (a0 : (List GEvent)) (ha0 : SliceR w0 va0 a0) {r0 : Bool} (hm : ball_verdict_c1 a0 = some r0) :
  Calls Tryz.prog 44 #[va0] w0 (Ret w0 fun _ v => v = (.bool r0)) := by
 unfold ball_verdict_c1 at hm
 refine calls_of_W Tryz.func44 rfl Tryz.ntmps44 (Nat.le_of_ble_eq_true rfl) ?_
 have H := Inv.start (w := w0)
 refine W.seq ?_
 refine W.region ?_
 refine O.assign (v := (.bool false)) rfl rfl rfl ?_
 refine WL.nil ?_
 refine W.seq ?_
 refine W.region ?_
 refine O.move (v := va0) rfl rfl rfl ?_
 obtain ⟨t1, hy1, hm⟩ := bind_some hm
 refine O.call Tryz.call45 rfl rfl rfl (c_slices_ContainsFunc_Event _ _ (H.arg ha0) _ (fun x0 => ball_verdict_c1_c1 x0) (fun w hw x0 _ hy => callsV_mk Tryz.call46 (c_ball_verdict_c1_c1 x0 hy)) hy1) ?_
 rintro _ w1 hb1 rfl
 have H := H.ext hb1
 refine O.assign (v := (.bool t1)) rfl rfl rfl ?_
 refine WL.nil ?_
 refine W.ret ?_
 have hq : t1 = r0 := Option.some.inj (show some t1 = some r0 from hm)
 subst hq
 exact ends1 Tryz.results44 rfl ⟨_, rfl, H.base, rfl⟩

theorem c_ball_verdict_c2 {w0 : World} (a0 : Int) (a1 : Int) (pc0 : Addr) (c0 : GMast) (hc0 : ∀ j c, (Flat.cells c0)[j]? = some c → w0.cell? (pc0.add j) = some c) {r0 : Bool} (hm : ball_verdict_c2 a0 a1 c0 = some r0) :
  Calls Tryz.prog 47 #[(.int .i64 a0), (.int .i64 a1), (.pointer (some pc0))] w0 (Ret w0 fun _ v => v = (.bool r0)) := by
 unfold ball_verdict_c2 at hm
 refine calls_of_W Tryz.func47 rfl Tryz.ntmps47 (Nat.le_of_ble_eq_true rfl) ?_
 have H := Inv.start (w := w0)
 refine W.seq ?_
 refine W.region ?_
 refine O.assign (v := (.bool false)) rfl rfl rfl ?_
 refine WL.nil ?_
 refine W.seq ?_
 refine W.region ?_
 refine O.move (v := (.int .i64 a0)) rfl rfl rfl ?_
 refine O.move (v := (.int .i64 a1)) rfl rfl rfl ?_
 refine O.fieldAddr fd23_3 rfl rfl rfl ?_
 refine O.load sc3 rfl rfl rfl (cells_mono hc0 H.base 3 _ rfl) ?_
 obtain ⟨t1, ht1, hm⟩ := bind_some hm
 refine O.sub rfl rfl rfl rfl ht1 ?_
 refine O.move (v := (.int .i64 a1)) rfl rfl rfl ?_
 refine O.fieldAddr fd23_3 rfl rfl rfl ?_
 refine O.load sc3 rfl rfl rfl (cells_mono hc0 H.base 3 _ rfl) ?_
 obtain ⟨t2, ht2, hm⟩ := bind_some hm
 refine O.add rfl rfl rfl rfl ht2 ?_
 obtain ⟨t3, hy1, hm⟩ := bind_some hm
 refine O.call Tryz.call17 rfl rfl rfl (c_ball_within _ _ _ hy1) ?_
 rintro _ w1 hb1 rfl
 have H := H.ext hb1
 refine O.assign (v := (.bool t3)) rfl rfl rfl ?_
 refine WL.nil ?_
 refine W.ret ?_
 have hq : t3 = r0 := Option.some.inj (show some t3 = some r0 from hm)
 subst hq
 exact ends1 Tryz.results47 rfl ⟨_, rfl, H.base, rfl⟩

theorem c_ball_verdict_c3 {w0 : World} (a0 : GEvent) {r0 : Bool} (hm : ball_verdict_c3 a0 = some r0) :
  Calls Tryz.prog 49 #[(.agg (Flat.cells a0).toArray)] w0 (Ret w0 fun _ v => v = (.bool r0)) := by
 unfold ball_verdict_c3 at hm
 refine calls_of_W Tryz.func49 rfl Tryz.ntmps49 (Nat.le_of_ble_eq_true rfl) ?_
 have H := Inv.start (w := w0)
 refine W.seq ?_
 refine W.region ?_
 refine O.box [(.int .i64 a0.At), (.int .i64 a0.Kind), (.int .i64 a0.N)] H rfl rfl rfl rfl ?_
 intro b1 w1 H hb1
 refine O.assign (v := (.bool false)) rfl rfl rfl ?_
 refine WL.nil ?_
 refine W.seq ?_
 refine W.region ?_
 refine O.fieldAddr fd86_1 rfl rfl rfl ?_
 refine O.load sc3 rfl rfl rfl (H.cell 0 rfl 1 _ rfl) ?_
 refine O.eql rfl rfl rfl rfl ?_
 refine O.assign (v := (.bool (a0.Kind == 4))) rfl rfl rfl ?_
 refine WL.nil ?_
 refine W.ret ?_
 have hq : (a0.Kind == 4) = r0 := Option.some.inj (show some (a0.Kind == 4) = some r0 from hm)
 subst hq
 exact ends1 Tryz.results49 rfl ⟨_, rfl, H.base, rfl⟩

set_option maxRecDepth 20000 in
theorem c_ball_verdict {w0 : World} (a0 : GMast) (va1 : Value) (a1 : (List GEvent)) (ha1 : SliceR w0 va1 a1) {r0 : Int} {r1 : Int} (hm : ball_verdict a0 a1 = some (r0, r1)) :
  Calls Tryz.prog 16 #[(.agg (Flat.cells a0).toArray), va1] w0 (Ret w0 fun _ v => v = .tuple #[(.int .i64 r0), (.int .i64 r1)]) := by
 unfold ball_verdict at hm
 refine calls_of_W Tryz.func16 rfl Tryz.ntmps16 (Nat.le_of_ble_eq_true rfl) ?_
 have H := Inv.start (w := w0)
 refine W.seq ?_
 refine W.region ?_
 refine O.box [(.int .i64 a0.Noon), (.int .i64 a0.Half), (.int .i64 a0.Full), (.int .i64 a0.Late), (.int .i64 a0.Again), (.int .i64 a0.Wind)] H rfl rfl rfl rfl ?_
 intro b1 w1 H hb1
 refine O.assign (v := (.int .i64 0)) rfl rfl rfl ?_
 refine O.assign (v := (.int .i64 0)) rfl rfl rfl ?_
 refine WL.nil ?_
 refine W.seq ?_
 refine W.region ?_
 refine O.assign (v := (.func (.func 44) #[] #[])) rfl rfl rfl ?_
 refine WL.nil ?_
 refine W.seq ?_
 refine W.region ?_
 refine O.makeFunc rfl rfl rfl rfl ?_
 refine O.assign (v := (.func (.func 47) #[] #[(.pointer (some ⟨b1, 0, none⟩))])) rfl rfl rfl ?_
 refine WL.nil ?_
 refine W.seq ?_
 refine W.region ?_
 refine O.move (v := va1) rfl rfl rfl ?_
 obtain ⟨t1, hy1, hm⟩ := bind_some hm
 refine O.call Tryz.call48 rfl rfl rfl (c_slices_IndexFunc_Event _ _ (H.arg ha1) _ (fun x0 => ball_verdict_c3 x0) (fun w hw x0 _ hy => callsV_mk Tryz.call49 (c_ball_verdict_c3 x0 hy)) hy1) ?_
 rintro _ w2 hb2 rfl
 have H := H.ext hb2
 refine O.assign (v := (.int .i64 t1)) rfl rfl rfl ?_
 refine WL.nil ?_
 refine W.seq ?_
 refine W.block ?_
 refine W.seq ?_
 refine W.region ?_
 refine O.move (v := (.int .i64 t1)) rfl rfl rfl ?_
 refine O.lss rfl rfl rfl rfl ?_
 refine O.move (v := (.bool (decide (t1 < 0)))) rfl rfl rfl ?_
 obtain ⟨b2, hm1, hm⟩ := bind_some hm
 refine WL.cut 4 (fun f w => f 1 = va1 ∧ f 2 = (.pointer (some ⟨b1, 0, none⟩)) ∧ f 6 = (.func (.func 44) #[] #[]) ∧ f 7 = (.func (.func 47) #[] #[(.pointer (some ⟨b1, 0, none⟩))]) ∧ f 8 = (.int .i64 t1) ∧ f 19 = .bool b2 ∧ Inv w0 w [boxI b1 23 [(.int .i64 a0.Noon), (.int .i64 a0.Half), (.int .i64 a0.Full), (.int .i64 a0.Late), (.int .i64 a0.Again), (.int .i64 a0.Wind)]]) ?_ ?_
 ·
  rcases ite_some hm1 with ⟨hc1, hm1⟩ | ⟨hc1, hm1⟩
  ·
   refine WL.reset (i := 15) (v := .bool true) (congrArg Value.bool hc1) ?_
   refine O.move (v := (.func (.func 44) #[] #[])) rfl rfl rfl ?_
   refine O.move (v := va1) rfl rfl rfl ?_
   obtain ⟨t2, hy2, hm1⟩ := bind_some hm1
   refine O.callV rfl rfl rfl rfl (callsV_mk Tryz.call44 (c_ball_verdict_c1 _ _ (H.arg ha1) hy2)) ?_
   rintro _ w3 hb3 rfl
   have H := H.ext hb3
   refine O.pick_true (v := (.bool t2)) rfl rfl rfl rfl ?_
   refine WL.nil ?_
   have hq : t2 = b2 := Option.some.inj (show some t2 = some b2 from hm1)
   subst hq
   exact ⟨rfl, rfl, rfl, rfl, rfl, rfl, H⟩
  ·
   refine WL.reset (i := 15) (v := .bool false) (congrArg Value.bool hc1) ?_
   refine O.skip rfl rfl ?_
   refine O.skip rfl rfl ?_
   refine O.skip rfl rfl ?_
   refine O.pick_false (v := (.bool false)) rfl rfl rfl rfl ?_
   refine WL.nil ?_
   have hq : false = b2 := Option.some.inj (show some false = some b2 from hm1)
   subst hq
   exact ⟨rfl, rfl, rfl, rfl, rfl, rfl, H⟩
 ·
  rintro f w ⟨hf1, hf2, hf6, hf7, hf8, hf19, H⟩
  obtain ⟨u1, rfl⟩ := up6 hf1 hf2 hf6 hf7 hf8 hf19
  refine O.assign (v := (.bool b2)) rfl rfl rfl ?_
  refine WL.nil ?_
  rcases ite_some hm with ⟨hc2, hm⟩ | ⟨hc2, hm⟩
  ·
   refine W.cond_true (congrArg Value.bool hc2) ?_
   refine W.seq ?_
   refine W.region ?_
   refine O.move (v := (.int .i64 t1)) rfl rfl rfl ?_
   refine O.assign (v := (.int .i64 4)) rfl rfl rfl ?_
   refine O.assign (v := (.int .i64 t1)) rfl rfl rfl ?_
   refine WL.nil ?_
   refine W.ret ?_
   have hq : (4, t1) = (r0, r1) := Option.some.inj (show some (4, t1) = some (r0, r1) from hm)
   obtain ⟨he0, hq0⟩ := Prod.mk.inj hq; clear hq; subst he0
   subst hq0
   exact ends2 Tryz.results16 rfl rfl ⟨_, rfl, H.base, rfl⟩
  ·
   refine W.cond_false (congrArg Value.bool hc2) ?_
   refine W.seq ?_
   refine W.region ?_
   refine O.move (v := (.int .i64 t1)) rfl rfl rfl ?_
   refine O.lss rfl rfl rfl rfl ?_
   refine O.assign (v := (.bool (decide (t1 < 0)))) rfl rfl rfl ?_
   refine WL.nil ?_
   rcases ite_some hm with ⟨hc3, hm⟩ | ⟨hc3, hm⟩
   ·
    refine W.cond_true (congrArg Value.bool hc3) ?_
    refine W.seq ?_
    refine W.region ?_
    refine O.move (v := (.int .i64 t1)) rfl rfl rfl ?_
    refine O.assign (v := (.int .i64 5)) rfl rfl rfl ?_
    refine O.assign (v := (.int .i64 t1)) rfl rfl rfl ?_
    refine WL.nil ?_
    refine W.ret ?_
    have hq : (5, t1) = (r0, r1) := Option.some.inj (show some (5, t1) = some (r0, r1) from hm)
    obtain ⟨he0, hq0⟩ := Prod.mk.inj hq; clear hq; subst he0
    subst hq0
    exact ends2 Tryz.results16 rfl rfl ⟨_, rfl, H.base, rfl⟩
   ·
    refine W.cond_false (congrArg Value.bool hc3) ?_
    refine W.seq ?_
    obtain ⟨x1, hx1, hm⟩ := bind_some hm
    obtain ⟨p1, hp1, hrp1⟩ := fix_indexAddr Tryz.underlying24 sz86 (H.arg ha1) hx1
    refine W.drawN 8 (fun f => f 1 = va1 ∧ f 2 = (.pointer (some ⟨b1, 0, none⟩)) ∧ f 6 = (.func (.func 44) #[] #[]) ∧ f 7 = (.func (.func 47) #[] #[(.pointer (some ⟨b1, 0, none⟩))]) ∧ f 8 = (.int .i64 t1) ∧ f 26 = (.func (.func 47) #[] #[(.pointer (some ⟨b1, 0, none⟩))]) ∧ f 31 = (.int .i64 x1.At) ∧ f 33 = (.int .i64 a0.Noon)) fol (by kernel_rfl) ?_ ?_
    ·
     refine PL.of (fun _ w8 _ hx => O.move (v := (.func (.func 47) #[] #[(.pointer (some ⟨b1, 0, none⟩))])) rfl rfl rfl (WL.nil ⟨rfl, hx⟩)) ?_
     refine PL.of (fun _ w8 _ hx => O.move (v := va1) rfl rfl rfl (WL.nil ⟨rfl, hx⟩)) ?_
     refine PL.of (fun _ w8 _ hx => O.move (v := (.int .i64 t1)) rfl rfl rfl (WL.nil ⟨rfl, hx⟩)) ?_
     refine PL.of (fun _ w8 _ hx => hrp1 rfl rfl rfl rfl (WL.nil ⟨rfl, hx⟩)) ?_
     refine PL.of (fun _ w8 _ hx => O.fieldAddr fd86_0 rfl rfl rfl (WL.nil ⟨rfl, hx⟩)) ?_
     refine PL.of (fun _ w8 _ hx => by have hp1 := hp1.mono hx; exact O.load sc3 rfl rfl rfl (hp1.flat 0 _ rfl) (WL.nil ⟨rfl, hx⟩)) ?_
     refine PL.of (fun _ w8 _ hx => O.fieldAddr fd23_0 rfl rfl rfl (WL.nil ⟨rfl, hx⟩)) ?_
     refine PL.of (fun _ w8 _ hx => by have H := H.ext hx; exact O.load sc3 rfl rfl rfl (H.cell 0 rfl 0 _ rfl) (WL.nil ⟨rfl, hx⟩)) ?_
     refine PL.nil ?_
     exact ⟨rfl, rfl, rfl, rfl, rfl, rfl, rfl, rfl⟩
    ·
     rintro f w ⟨hf1, hf2, hf6, hf7, hf8, hf26, hf31, hf33⟩ hmd hx
     have H := H.ext hx
     have hp1 := hp1.mono hx
     obtain ⟨u2, rfl⟩ := up8 hf1 hf2 hf6 hf7 hf8 hf26 hf31 hf33
     obtain ⟨t3, hy3, hm⟩ := bind_some hm
     refine O.callV rfl rfl rfl rfl (callsV_mk Tryz.call47 (c_ball_verdict_c2 _ _ _ a0 (H.cell 0 rfl) hy3)) ?_
     rintro _ w4 hb4 rfl
     have hp1 := hp1.mono hb4
     have H := H.ext hb4
     refine O.assign (v := (.bool t3)) rfl rfl rfl ?_
     refine WL.nil ?_
     rcases ite_some hm with ⟨hc4, hm⟩ | ⟨hc4, hm⟩
     ·
      refine W.cond_true (congrArg Value.bool hc4) ?_
      refine W.seq ?_
      refine W.region ?_
      refine O.move (v := (.int .i64 t1)) rfl rfl rfl ?_
      refine O.assign (v := (.int .i64 0)) rfl rfl rfl ?_
      refine O.assign (v := (.int .i64 t1)) rfl rfl rfl ?_
      refine WL.nil ?_
      refine W.ret ?_
      have hq : (0, t1) = (r0, r1) := Option.some.inj (show some (0, t1) = some (r0, r1) from hm)
      obtain ⟨he0, hq0⟩ := Prod.mk.inj hq; clear hq; subst he0
      subst hq0
      exact ends2 Tryz.results16 rfl rfl ⟨_, rfl, H.base, rfl⟩
     ·
      refine W.cond_false (congrArg Value.bool hc4) ?_
      refine W.seq ?_
      obtain ⟨s1, hm2, hm⟩ := bind_some hm
      refine W.via (fun f w => f 1 = va1 ∧ f 6 = (.func (.func 44) #[] #[]) ∧ f 8 = (.int .i64 t1) ∧ f 36 = (.bool s1) ∧ Inv w0 w []) ?_ ?_
      ·
       obtain ⟨x2, hx2, hm2⟩ := bind_some hm2
       obtain ⟨t4, ht4, hm2⟩ := bind_some hm2
       obtain ⟨t5, ht5, hm2⟩ := bind_some hm2
       rcases ite_some hm2 with ⟨hc5, hm2⟩ | ⟨hc5, hm2⟩
       ·
        obtain ⟨t6, ht6, hm2⟩ := bind_some hm2
        obtain ⟨v1, hs1, hrv1⟩ := fix_sliceH Tryz.underlying24 sz86 ha1 ht6
        obtain ⟨t7, hy4, hm2⟩ := bind_some hm2
        rcases ite_some hm2 with ⟨hc6, hm2⟩ | ⟨hc6, hm2⟩
        ·
         obtain ⟨x3, hx3, hm2⟩ := bind_some hm2
         obtain ⟨t8, ht8, hm2⟩ := bind_some hm2
         obtain ⟨t9, hy5, hm2⟩ := bind_some hm2
         refine W.draw 35 (fun k v wk => match k with | 0 => v = va1 | 1 => v = (.int .i64 t1) | 2 => ∃ p2 : Addr, v = (.pointer (some p2)) ∧ ElemAt wk p2 x2 | 3 => ∃ p2 : Addr, v = (.pointer (some (Addr.add p2 0))) ∧ ElemAt wk p2 x2 | 4 => v = (.int .i64 x2.At) | 5 => v = (.pointer (some (Addr.add (Addr.mk b1 0 none) 0))) | 6 => v = (.int .i64 a0.Noon) | 7 => v = (.pointer (some (Addr.add (Addr.mk b1 0 none) 4))) | 8 => v = (.int .i64 a0.Again) | 9 => v = (.int .i64 t4) | 10 => v = (.pointer (some (Addr.add (Addr.mk b1 0 none) 1))) | 11 => v = (.int .i64 a0.Half) | 12 => v = (.int .i64 t5) | 13 => v = (.bool (decide (t5 ≤ x2.At))) | 14 => v = (.bool true) | 15 => v = (.func (.func 44) #[] #[]) | 16 => v = va1 | 17 => v = (.int .i64 t1) | 18 => v = v1 | 19 => v = (.bool t7) | 20 => v = (.bool t7) | 21 => v = (.bool true) | 22 => v = (.func (.func 47) #[] #[(.pointer (some ⟨b1, 0, none⟩))]) | 23 => v = va1 | 24 => v = (.int .i64 t1) | 25 => ∃ p3 : Addr, v = (.pointer (some p3)) ∧ ElemAt wk p3 x3 | 26 => ∃ p3 : Addr, v = (.pointer (some (Addr.add p3 0))) ∧ ElemAt wk p3 x3 | 27 => v = (.int .i64 x3.At) | 28 => v = (.pointer (some (Addr.add (Addr.mk b1 0 none) 0))) | 29 => v = (.int .i64 a0.Noon) | 30 => v = (.pointer (some (Addr.add (Addr.mk b1 0 none) 4))) | 31 => v = (.int .i64 a0.Again) | 32 => v = (.int .i64 t8) | 33 => v = (.bool t9) | 34 => v = (.bool t9) | _ => True) (by intro k v w w' h hb; match k, h with | 0, h => exact h | 1, h => exact h | 2, ⟨p, e, hp⟩ => exact ⟨p, e, hp.mono hb⟩ | 3, ⟨p, e, hp⟩ => exact ⟨p, e, hp.mono hb⟩ | 4, h => exact h | 5, h => exact h | 6, h => exact h | 7, h => exact h | 8, h => exact h | 9, h => exact h | 10, h => exact h | 11, h => exact h | 12, h => exact h | 13, h => exact h | 14, h => exact h | 15, h => exact h | 16, h => exact h | 17, h => exact h | 18, h => exact h | 19, h => exact h | 20, h => exact h | 21, h => exact h | 22, h => exact h | 23, h => exact h | 24, h => exact h | 25, ⟨p, e, hp⟩ => exact ⟨p, e, hp.mono hb⟩ | 26, ⟨p, e, hp⟩ => exact ⟨p, e, hp.mono hb⟩ | 27, h => exact h | 28, h => exact h | 29, h => exact h | 30, h => exact h | 31, h => exact h | 32, h => exact h | 33, h => exact h | 34, h => exact h | _ + 35, h => exact h) fol (by kernel_rfl) ?_ ?_
         ·
          refine ⟨⟨⟨⟨⟨⟨⟨⟨⟨⟨⟨⟨⟨⟨⟨⟨⟨⟨⟨⟨⟨⟨⟨⟨⟨⟨⟨⟨⟨⟨⟨⟨⟨⟨⟨trivial, ?_⟩, ?_⟩, ?_⟩, ?_⟩, ?_⟩, ?_⟩, ?_⟩, ?_⟩, ?_⟩, ?_⟩, ?_⟩, ?_⟩, ?_⟩, ?_⟩, ?_⟩, ?_⟩, ?_⟩, ?_⟩, ?_⟩, ?_⟩, ?_⟩, ?_⟩, ?_⟩, ?_⟩, ?_⟩, ?_⟩, ?_⟩, ?_⟩, ?_⟩, ?_⟩, ?_⟩, ?_⟩, ?_⟩, ?_⟩, ?_⟩
          ·
           intro f wk hx hf hd
           have H := H.ext hx
           have hf1 : f 1 = va1 := hf 1 rfl
           obtain ⟨u3, rfl⟩ := up1 hf1
           refine O.move (v := va1) rfl rfl rfl ?_
           exact WL.nil ⟨Below.refl _ _, _, rfl, rfl⟩
          ·
           intro f wk hx hf hd
           have H := H.ext hx
           have hf8 : f 8 = (.int .i64 t1) := hf 8 rfl
           obtain ⟨u4, rfl⟩ := up1 hf8
           refine O.move (v := (.int .i64 t1)) rfl rfl rfl ?_
           exact WL.nil ⟨Below.refl _ _, _, rfl, rfl⟩
          ·
           intro f wk hx hf hd
           have H := H.ext hx
           have hf37 : f 37 = va1 := hd 0 rfl
           have hf38 : f 38 = (.int .i64 t1) := hd 1 rfl
           obtain ⟨u5, rfl⟩ := up2 hf37 hf38
           refine O.indexAddr Tryz.underlying24 sz86 (H.arg ha1) hx2 rfl rfl rfl rfl ?_
           intro p2 hp2
           exact WL.nil ⟨Below.refl _ _, _, rfl, ⟨_, rfl, hp2⟩⟩
          ·
           intro f wk hx hf hd
           have H := H.ext hx
           obtain ⟨p2, hf39, hp2⟩ : ∃ p2 : Addr, f 39 = (.pointer (some p2)) ∧ ElemAt wk p2 x2 := hd 2 rfl
           obtain ⟨u6, rfl⟩ := up1 hf39
           refine O.fieldAddr fd86_0 rfl rfl rfl ?_
           exact WL.nil ⟨Below.refl _ _, _, rfl, ⟨_, rfl, hp2⟩⟩
          ·
           intro f wk hx hf hd
           have H := H.ext hx
           obtain ⟨p2, hf40, hp2⟩ : ∃ p2 : Addr, f 40 = (.pointer (some (Addr.add p2 0))) ∧ ElemAt wk p2 x2 := hd 3 rfl
           obtain ⟨u7, rfl⟩ := up1 hf40
           refine O.load sc3 rfl rfl rfl (hp2.flat 0 _ rfl) ?_
           exact WL.nil ⟨Below.refl _ _, _, rfl, rfl⟩
          ·
           intro f wk hx hf hd
           have H := H.ext hx
           have hf2 : f 2 = (.pointer (some ⟨b1, 0, none⟩)) := hf 2 rfl
           obtain ⟨u8, rfl⟩ := up1 hf2
           refine O.fieldAddr fd23_0 rfl rfl rfl ?_
           exact WL.nil ⟨Below.refl _ _, _, rfl, rfl⟩
          ·
           intro f wk hx hf hd
           have H := H.ext hx
           have hf42 : f 42 = (.pointer (some (Addr.add (Addr.mk b1 0 none) 0))) := hd 5 rfl
           obtain ⟨u9, rfl⟩ := up1 hf42
           refine O.load sc3 rfl rfl rfl (H.cell 0 rfl 0 _ rfl) ?_
           exact WL.nil ⟨Below.refl _ _, _, rfl, rfl⟩
          ·
           intro f wk hx hf hd
           have H := H.ext hx
           have hf2 : f 2 = (.pointer (some ⟨b1, 0, none⟩)) := hf 2 rfl
           obtain ⟨u10, rfl⟩ := up1 hf2
           refine O.fieldAddr fd23_4 rfl rfl rfl ?_
           exact WL.nil ⟨Below.refl _ _, _, rfl, rfl⟩
          ·
           intro f wk hx hf hd
           have H := H.ext hx
           have hf44 : f 44 = (.pointer (some (Addr.add (Addr.mk b1 0 none) 4))) := hd 7 rfl
           obtain ⟨u11, rfl⟩ := up1 hf44
           refine O.load sc3 rfl rfl rfl (H.cell 0 rfl 4 _ rfl) ?_
           exact WL.nil ⟨Below.refl _ _, _, rfl, rfl⟩
          ·
           intro f wk hx hf hd
           have H := H.ext hx
           have hf43 : f 43 = (.int .i64 a0.Noon) := hd 6 rfl
           have hf45 : f 45 = (.int .i64 a0.Again) := hd 8 rfl
           obtain ⟨u12, rfl⟩ := up2 hf43 hf45
           refine O.add rfl rfl rfl rfl ht4 ?_
           exact WL.nil ⟨Below.refl _ _, _, rfl, rfl⟩
          ·
           intro f wk hx hf hd
           have H := H.ext hx
           have hf2 : f 2 = (.pointer (some ⟨b1, 0, none⟩)) := hf 2 rfl
           obtain ⟨u13, rfl⟩ := up1 hf2
           refine O.fieldAddr fd23_1 rfl rfl rfl ?_
           exact WL.nil ⟨Below.refl _ _, _, rfl, rfl⟩
          ·
           intro f wk hx hf hd
           have H := H.ext hx
           have hf47 : f 47 = (.pointer (some (Addr.add (Addr.mk b1 0 none) 1))) := hd 10 rfl
           obtain ⟨u14, rfl⟩ := up1 hf47
           refine O.load sc3 rfl rfl rfl (H.cell 0 rfl 1 _ rfl) ?_
           exact WL.nil ⟨Below.refl _ _, _, rfl, rfl⟩
          ·
           intro f wk hx hf hd
           have H := H.ext hx
           have hf46 : f 46 = (.int .i64 t4) := hd 9 rfl
           have hf48 : f 48 = (.int .i64 a0.Half) := hd 11 rfl
           obtain ⟨u15, rfl⟩ := up2 hf46 hf48
           refine O.sub rfl rfl rfl rfl ht5 ?_
           exact WL.nil ⟨Below.refl _ _, _, rfl, rfl⟩
          ·
           intro f wk hx hf hd
           have H := H.ext hx
           have hf41 : f 41 = (.int .i64 x2.At) := hd 4 rfl
           have hf49 : f 49 = (.int .i64 t5) := hd 12 rfl
           obtain ⟨u16, rfl⟩ := up2 hf41 hf49
           refine O.geq rfl rfl rfl rfl ?_
           exact WL.nil ⟨Below.refl _ _, _, rfl, rfl⟩
          ·
           intro f wk hx hf hd
           have H := H.ext hx
           have hf50 : f 50 = (.bool (decide (t5 ≤ x2.At))) := hd 13 rfl
           obtain ⟨u17, rfl⟩ := up1 hf50
           refine O.move (v := (.bool (decide (t5 ≤ x2.At)))) rfl rfl rfl ?_
           exact WL.nil ⟨Below.refl _ _, _, rfl, congrArg Value.bool hc5⟩
          ·
           intro f wk hx hf hd
           have H := H.ext hx
           have hf6 : f 6 = (.func (.func 44) #[] #[]) := hf 6 rfl
           have hf51 : f 51 = (.bool true) := hd 14 rfl
           obtain ⟨u18, rfl⟩ := up2 hf6 hf51
           refine O.move (v := (.func (.func 44) #[] #[])) rfl rfl rfl ?_
           exact WL.nil ⟨Below.refl _ _, _, rfl, rfl⟩
          ·
           intro f wk hx hf hd
           have H := H.ext hx
           have hf1 : f 1 = va1 := hf 1 rfl
           have hf51 : f 51 = (.bool true) := hd 14 rfl
           obtain ⟨u19, rfl⟩ := up2 hf1 hf51
           refine O.move (v := va1) rfl rfl rfl ?_
           exact WL.nil ⟨Below.refl _ _, _, rfl, rfl⟩
          ·
           intro f wk hx hf hd
           have H := H.ext hx
           have hf8 : f 8 = (.int .i64 t1) := hf 8 rfl
           have hf51 : f 51 = (.bool true) := hd 14 rfl
           obtain ⟨u20, rfl⟩ := up2 hf8 hf51
           refine O.move (v := (.int .i64 t1)) rfl rfl rfl ?_
           exact WL.nil ⟨Below.refl _ _, _, rfl, rfl⟩
          ·
           intro f wk hx hf hd
           have H := H.ext hx
           have hf51 : f 51 = (.bool true) := hd 14 rfl
           have hf53 : f 53 = va1 := hd 16 rfl
           have hf54 : f 54 = (.int .i64 t1) := hd 17 rfl
           obtain ⟨u21, rfl⟩ := up3 hf51 hf53 hf54
           refine hrv1 rfl rfl rfl rfl ?_
           exact WL.nil ⟨Below.refl _ _, _, rfl, rfl⟩
          ·
           intro f wk hx hf hd
           have H := H.ext hx
           have hf51 : f 51 = (.bool true) := hd 14 rfl
           have hf52 : f 52 = (.func (.func 44) #[] #[]) := hd 15 rfl
           have hf55 : f 55 = v1 := hd 18 rfl
           obtain ⟨u22, rfl⟩ := up3 hf51 hf52 hf55
           refine O.callV rfl rfl rfl rfl (callsV_mk Tryz.call44 (c_ball_verdict_c1 _ _ (H.arg hs1) hy4)) ?_
           rintro _ w5 hb5 rfl
           have H := H.ext hb5
           exact WL.nil ⟨hb5, _, rfl, rfl⟩
          ·
           intro f wk hx hf hd
           have H := H.ext hx
           have hf51 : f 51 = (.bool true) := hd 14 rfl
           have hf56 : f 56 = (.bool t7) := hd 19 rfl
           obtain ⟨u23, rfl⟩ := up2 hf51 hf56
           refine O.pick_true (v := (.bool t7)) rfl rfl rfl rfl ?_
           exact WL.nil ⟨Below.refl _ _, _, rfl, rfl⟩
          ·
           intro f wk hx hf hd
           have H := H.ext hx
           have hf57 : f 57 = (.bool t7) := hd 20 rfl
           obtain ⟨u24, rfl⟩ := up1 hf57
           refine O.move (v := (.bool t7)) rfl rfl rfl ?_
           exact WL.nil ⟨Below.refl _ _, _, rfl, congrArg Value.bool hc6⟩
          ·
           intro f wk hx hf hd
           have H := H.ext hx
           have hf7 : f 7 = (.func (.func 47) #[] #[(.pointer (some ⟨b1, 0, none⟩))]) := hf 7 rfl
           have hf58 : f 58 = (.bool true) := hd 21 rfl
           obtain ⟨u25, rfl⟩ := up2 hf7 hf58
           refine O.move (v := (.func (.func 47) #[] #[(.pointer (some ⟨b1, 0, none⟩))])) rfl rfl rfl ?_
           exact WL.nil ⟨Below.refl _ _, _, rfl, rfl⟩
          ·
           intro f wk hx hf hd
           have H := H.ext hx
           have hf1 : f 1 = va1 := hf 1 rfl
           have hf58 : f 58 = (.bool true) := hd 21 rfl
           obtain ⟨u26, rfl⟩ := up2 hf1 hf58
           refine O.move (v := va1) rfl rfl rfl ?_
           exact WL.nil ⟨Below.refl _ _, _, rfl, rfl⟩
          ·
           intro f wk hx hf hd
           have H := H.ext hx
           have hf8 : f 8 = (.int .i64 t1) := hf 8 rfl
           have hf58 : f 58 = (.bool true) := hd 21 rfl
           obtain ⟨u27, rfl⟩ := up2 hf8 hf58
           refine O.move (v := (.int .i64 t1)) rfl rfl rfl ?_
           exact WL.nil ⟨Below.refl _ _, _, rfl, rfl⟩
          ·
           intro f wk hx hf hd
           have H := H.ext hx
           have hf58 : f 58 = (.bool true) := hd 21 rfl
           have hf60 : f 60 = va1 := hd 23 rfl
           have hf61 : f 61 = (.int .i64 t1) := hd 24 rfl
           obtain ⟨u28, rfl⟩ := up3 hf58 hf60 hf61
           refine O.indexAddr Tryz.underlying24 sz86 (H.arg ha1) hx3 rfl rfl rfl rfl ?_
           intro p3 hp3
           exact WL.nil ⟨Below.refl _ _, _, rfl, ⟨_, rfl, hp3⟩⟩
          ·
           intro f wk hx hf hd
           have H := H.ext hx
           have hf58 : f 58 = (.bool true) := hd 21 rfl
           obtain ⟨p3, hf62, hp3⟩ : ∃ p3 : Addr, f 62 = (.pointer (some p3)) ∧ ElemAt wk p3 x3 := hd 25 rfl
           obtain ⟨u29, rfl⟩ := up2 hf58 hf62
           refine O.fieldAddr fd86_0 rfl rfl rfl ?_
           exact WL.nil ⟨Below.refl _ _, _, rfl, ⟨_, rfl, hp3⟩⟩
          ·
           intro f wk hx hf hd
           have H := H.ext hx
           have hf58 : f 58 = (.bool true) := hd 21 rfl
           obtain ⟨p3, hf63, hp3⟩ : ∃ p3 : Addr, f 63 = (.pointer (some (Addr.add p3 0))) ∧ ElemAt wk p3 x3 := hd 26 rfl
           obtain ⟨u30, rfl⟩ := up2 hf58 hf63
           refine O.load sc3 rfl rfl rfl (hp3.flat 0 _ rfl) ?_
           exact WL.nil ⟨Below.refl _ _, _, rfl, rfl⟩
          ·
           intro f wk hx hf hd
           have H := H.ext hx
           have hf2 : f 2 = (.pointer (some ⟨b1, 0, none⟩)) := hf 2 rfl
           have hf58 : f 58 = (.bool true) := hd 21 rfl
           obtain ⟨u31, rfl⟩ := up2 hf2 hf58
           refine O.fieldAddr fd23_0 rfl rfl rfl ?_
           exact WL.nil ⟨Below.refl _ _, _, rfl, rfl⟩
          ·
           intro f wk hx hf hd
           have H := H.ext hx
           have hf58 : f 58 = (.bool true) := hd 21 rfl
           have hf65 : f 65 = (.pointer (some (Addr.add (Addr.mk b1 0 none) 0))) := hd 28 rfl
           obtain ⟨u32, rfl⟩ := up2 hf58 hf65
           refine O.load sc3 rfl rfl rfl (H.cell 0 rfl 0 _ rfl) ?_
           exact WL.nil ⟨Below.refl _ _, _, rfl, rfl⟩
          ·
           intro f wk hx hf hd
           have H := H.ext hx
           have hf2 : f 2 = (.pointer (some ⟨b1, 0, none⟩)) := hf 2 rfl
           have hf58 : f 58 = (.bool true) := hd 21 rfl
           obtain ⟨u33, rfl⟩ := up2 hf2 hf58
           refine O.fieldAddr fd23_4 rfl rfl rfl ?_
           exact WL.nil ⟨Below.refl _ _, _, rfl, rfl⟩
          ·
           intro f wk hx hf hd
           have H := H.ext hx
           have hf58 : f 58 = (.bool true) := hd 21 rfl
           have hf67 : f 67 = (.pointer (some (Addr.add (Addr.mk b1 0 none) 4))) := hd 30 rfl
           obtain ⟨u34, rfl⟩ := up2 hf58 hf67
           refine O.load sc3 rfl rfl rfl (H.cell 0 rfl 4 _ rfl) ?_
           exact WL.nil ⟨Below.refl _ _, _, rfl, rfl⟩
          ·
           intro f wk hx hf hd
           have H := H.ext hx
           have hf58 : f 58 = (.bool true) := hd 21 rfl
           have hf66 : f 66 = (.int .i64 a0.Noon) := hd 29 rfl
           have hf68 : f 68 = (.int .i64 a0.Again) := hd 31 rfl
           obtain ⟨u35, rfl⟩ := up3 hf58 hf66 hf68
           refine O.add rfl rfl rfl rfl ht8 ?_
           exact WL.nil ⟨Below.refl _ _, _, rfl, rfl⟩
          ·
           intro f wk hx hf hd
           have H := H.ext hx
           have hf58 : f 58 = (.bool true) := hd 21 rfl
           have hf59 : f 59 = (.func (.func 47) #[] #[(.pointer (some ⟨b1, 0, none⟩))]) := hd 22 rfl
           have hf64 : f 64 = (.int .i64 x3.At) := hd 27 rfl
           have hf69 : f 69 = (.int .i64 t8) := hd 32 rfl
           obtain ⟨u36, rfl⟩ := up4 hf58 hf59 hf64 hf69
           refine O.callV rfl rfl rfl rfl (callsV_mk Tryz.call47 (c_ball_verdict_c2 _ _ _ a0 (H.cell 0 rfl) hy5)) ?_
           rintro _ w6 hb6 rfl
           have H := H.ext hb6
           exact WL.nil ⟨hb6, _, rfl, rfl⟩
          ·
           intro f wk hx hf hd
           have H := H.ext hx
           have hf58 : f 58 = (.bool true) := hd 21 rfl
           have hf70 : f 70 = (.bool t9) := hd 33 rfl
           obtain ⟨u37, rfl⟩ := up2 hf58 hf70
           refine O.pick_true (v := (.bool t9)) rfl rfl rfl rfl ?_
           exact WL.nil ⟨Below.refl _ _, _, rfl, rfl⟩
         ·
          intro f wk hx hf hmd hd
          have hf1 : f 1 = va1 := hf 1 rfl
          have hf6 : f 6 = (.func (.func 44) #[] #[]) := hf 6 rfl
          have hf8 : f 8 = (.int .i64 t1) := hf 8 rfl
          have hf71 : f 71 = (.bool t9) := hd 34 rfl
          have H := H.ext hx
          have hp1 := hp1.mono hx
          obtain ⟨u38, rfl⟩ := up4 hf1 hf6 hf8 hf71
          refine O.assign (v := (.bool t9)) rfl rfl rfl ?_
          refine WL.nil ?_
          have H := H.keep [] [] rfl (by decide)
          have hq : t9 = s1 := Option.some.inj (show some t9 = some s1 from hm2)
          subst hq
          exact ⟨rfl, rfl, rfl, rfl, H⟩
        ·
         refine W.draw 35 (fun k v wk => match k with | 0 => v = va1 | 1 => v = (.int .i64 t1) | 2 => ∃ p2 : Addr, v = (.pointer (some p2)) ∧ ElemAt wk p2 x2 | 3 => ∃ p2 : Addr, v = (.pointer (some (Addr.add p2 0))) ∧ ElemAt wk p2 x2 | 4 => v = (.int .i64 x2.At) | 5 => v = (.pointer (some (Addr.add (Addr.mk b1 0 none) 0))) | 6 => v = (.int .i64 a0.Noon) | 7 => v = (.pointer (some (Addr.add (Addr.mk b1 0 none) 4))) | 8 => v = (.int .i64 a0.Again) | 9 => v = (.int .i64 t4) | 10 => v = (.pointer (some (Addr.add (Addr.mk b1 0 none) 1))) | 11 => v = (.int .i64 a0.Half) | 12 => v = (.int .i64 t5) | 13 => v = (.bool (decide (t5 ≤ x2.At))) | 14 => v = (.bool true) | 15 => v = (.func (.func 44) #[] #[]) | 16 => v = va1 | 17 => v = (.int .i64 t1) | 18 => v = v1 | 19 => v = (.bool t7) | 20 => v = (.bool t7) | 21 => v = (.bool false) | 22 => v = undef | 23 => v = undef | 24 => v = undef | 25 => v = undef | 26 => v = undef | 27 => v = undef | 28 => v = undef | 29 => v = undef | 30 => v = undef | 31 => v = undef | 32 => v = undef | 33 => v = undef | 34 => v = (.bool false) | _ => True) (by intro k v w w' h hb; match k, h with | 0, h => exact h | 1, h => exact h | 2, ⟨p, e, hp⟩ => exact ⟨p, e, hp.mono hb⟩ | 3, ⟨p, e, hp⟩ => exact ⟨p, e, hp.mono hb⟩ | 4, h => exact h | 5, h => exact h | 6, h => exact h | 7, h => exact h | 8, h => exact h | 9, h => exact h | 10, h => exact h | 11, h => exact h | 12, h => exact h | 13, h => exact h | 14, h => exact h | 15, h => exact h | 16, h => exact h | 17, h => exact h | 18, h => exact h | 19, h => exact h | 20, h => exact h | 21, h => exact h | 22, h => exact h | 23, h => exact h | 24, h => exact h | 25, h => exact h | 26, h => exact h | 27, h => exact h | 28, h => exact h | 29, h => exact h | 30, h => exact h | 31, h => exact h | 32, h => exact h | 33, h => exact h | 34, h => exact h | _ + 35, h => exact h) fol (by kernel_rfl) ?_ ?_
         ·
          refine ⟨⟨⟨⟨⟨⟨⟨⟨⟨⟨⟨⟨⟨⟨⟨⟨⟨⟨⟨⟨⟨⟨⟨⟨⟨⟨⟨⟨⟨⟨⟨⟨⟨⟨⟨trivial, ?_⟩, ?_⟩, ?_⟩, ?_⟩, ?_⟩, ?_⟩, ?_⟩, ?_⟩, ?_⟩, ?_⟩, ?_⟩, ?_⟩, ?_⟩, ?_⟩, ?_⟩, ?_⟩, ?_⟩, ?_⟩, ?_⟩, ?_⟩, ?_⟩, ?_⟩, ?_⟩, ?_⟩, ?_⟩, ?_⟩, ?_⟩, ?_⟩, ?_⟩, ?_⟩, ?_⟩, ?_⟩, ?_⟩, ?_⟩, ?_⟩
          ·
           intro f wk hx hf hd
           have H := H.ext hx
           have hf1 : f 1 = va1 := hf 1 rfl
           obtain ⟨u39, rfl⟩ := up1 hf1
           refine O.move (v := va1) rfl rfl rfl ?_
           exact WL.nil ⟨Below.refl _ _, _, rfl, rfl⟩
          ·
           intro f wk hx hf hd
           have H := H.ext hx
           have hf8 : f 8 = (.int .i64 t1) := hf 8 rfl
           obtain ⟨u40, rfl⟩ := up1 hf8
           refine O.move (v := (.int .i64 t1)) rfl rfl rfl ?_
           exact WL.nil ⟨Below.refl _ _, _, rfl, rfl⟩
          ·
           intro f wk hx hf hd
           have H := H.ext hx
           have hf37 : f 37 = va1 := hd 0 rfl
           have hf38 : f 38 = (.int .i64 t1) := hd 1 rfl
           obtain ⟨u41, rfl⟩ := up2 hf37 hf38
           refine O.indexAddr Tryz.underlying24 sz86 (H.arg ha1) hx2 rfl rfl rfl rfl ?_
           intro p2 hp2
           exact WL.nil ⟨Below.refl _ _, _, rfl, ⟨_, rfl, hp2⟩⟩
          ·
           intro f wk hx hf hd
           have H := H.ext hx
           obtain ⟨p2, hf39, hp2⟩ : ∃ p2 : Addr, f 39 = (.pointer (some p2)) ∧ ElemAt wk p2 x2 := hd 2 rfl
           obtain ⟨u42, rfl⟩ := up1 hf39
           refine O.fieldAddr fd86_0 rfl rfl rfl ?_
           exact WL.nil ⟨Below.refl _ _, _, rfl, ⟨_, rfl, hp2⟩⟩
          ·
           intro f wk hx hf hd
           have H := H.ext hx
           obtain ⟨p2, hf40, hp2⟩ : ∃ p2 : Addr, f 40 = (.pointer (some (Addr.add p2 0))) ∧ ElemAt wk p2 x2 := hd 3 rfl
           obtain ⟨u43, rfl⟩ := up1 hf40
           refine O.load sc3 rfl rfl rfl (hp2.flat 0 _ rfl) ?_
           exact WL.nil ⟨Below.refl _ _, _, rfl, rfl⟩
          ·
           intro f wk hx hf hd
           have H := H.ext hx
           have hf2 : f 2 = (.pointer (some ⟨b1, 0, none⟩)) := hf 2 rfl
           obtain ⟨u44, rfl⟩ := up1 hf2
           refine O.fieldAddr fd23_0 rfl rfl rfl ?_
           exact WL.nil ⟨Below.refl _ _, _, rfl, rfl⟩
          ·
           intro f wk hx hf hd
           have H := H.ext hx
           have hf42 : f 42 = (.pointer (some (Addr.add (Addr.mk b1 0 none) 0))) := hd 5 rfl
           obtain ⟨u45, rfl⟩ := up1 hf42
           refine O.load sc3 rfl rfl rfl (H.cell 0 rfl 0 _ rfl) ?_
           exact WL.nil ⟨Below.refl _ _, _, rfl, rfl⟩
          ·
           intro f wk hx hf hd
           have H := H.ext hx
           have hf2 : f 2 = (.pointer (some ⟨b1, 0, none⟩)) := hf 2 rfl
           obtain ⟨u46, rfl⟩ := up1 hf2
           refine O.fieldAddr fd23_4 rfl rfl rfl ?_
           exact WL.nil ⟨Below.refl _ _, _, rfl, rfl⟩
          ·
           intro f wk hx hf hd
           have H := H.ext hx
           have hf44 : f 44 = (.pointer (some (Addr.add (Addr.mk b1 0 none) 4))) := hd 7 rfl
           obtain ⟨u47, rfl⟩ := up1 hf44
           refine O.load sc3 rfl rfl rfl (H.cell 0 rfl 4 _ rfl) ?_
           exact WL.nil ⟨Below.refl _ _, _, rfl, rfl⟩
          ·
           intro f wk hx hf hd
           have H := H.ext hx
           have hf43 : f 43 = (.int .i64 a0.Noon) := hd 6 rfl
           have hf45 : f 45 = (.int .i64 a0.Again) := hd 8 rfl
           obtain ⟨u48, rfl⟩ := up2 hf43 hf45
           refine O.add rfl rfl rfl rfl ht4 ?_
           exact WL.nil ⟨Below.refl _ _, _, rfl, rfl⟩
          ·
           intro f wk hx hf hd
           have H := H.ext hx
           have hf2 : f 2 = (.pointer (some ⟨b1, 0, none⟩)) := hf 2 rfl
           obtain ⟨u49, rfl⟩ := up1 hf2
           refine O.fieldAddr fd23_1 rfl rfl rfl ?_
           exact WL.nil ⟨Below.refl _ _, _, rfl, rfl⟩
          ·
           intro f wk hx hf hd
           have H := H.ext hx
           have hf47 : f 47 = (.pointer (some (Addr.add (Addr.mk b1 0 none) 1))) := hd 10 rfl
           obtain ⟨u50, rfl⟩ := up1 hf47
           refine O.load sc3 rfl rfl rfl (H.cell 0 rfl 1 _ rfl) ?_
           exact WL.nil ⟨Below.refl _ _, _, rfl, rfl⟩
          ·
           intro f wk hx hf hd
           have H := H.ext hx
           have hf46 : f 46 = (.int .i64 t4) := hd 9 rfl
           have hf48 : f 48 = (.int .i64 a0.Half) := hd 11 rfl
           obtain ⟨u51, rfl⟩ := up2 hf46 hf48
           refine O.sub rfl rfl rfl rfl ht5 ?_
           exact WL.nil ⟨Below.refl _ _, _, rfl, rfl⟩
          ·
           intro f wk hx hf hd
           have H := H.ext hx
           have hf41 : f 41 = (.int .i64 x2.At) := hd 4 rfl
           have hf49 : f 49 = (.int .i64 t5) := hd 12 rfl
           obtain ⟨u52, rfl⟩ := up2 hf41 hf49
           refine O.geq rfl rfl rfl rfl ?_
           exact WL.nil ⟨Below.refl _ _, _, rfl, rfl⟩
          ·
           intro f wk hx hf hd
           have H := H.ext hx
           have hf50 : f 50 = (.bool (decide (t5 ≤ x2.At))) := hd 13 rfl
           obtain ⟨u53, rfl⟩ := up1 hf50
           refine O.move (v := (.bool (decide (t5 ≤ x2.At)))) rfl rfl rfl ?_
           exact WL.nil ⟨Below.refl _ _, _, rfl, congrArg Value.bool hc5⟩
          ·
           intro f wk hx hf hd
           have H := H.ext hx
           have hf6 : f 6 = (.func (.func 44) #[] #[]) := hf 6 rfl
           have hf51 : f 51 = (.bool true) := hd 14 rfl
           obtain ⟨u54, rfl⟩ := up2 hf6 hf51
           refine O.move (v := (.func (.func 44) #[] #[])) rfl rfl rfl ?_
           exact WL.nil ⟨Below.refl _ _, _, rfl, rfl⟩
          ·
           intro f wk hx hf hd
           have H := H.ext hx
           have hf1 : f 1 = va1 := hf 1 rfl
           have hf51 : f 51 = (.bool true) := hd 14 rfl
           obtain ⟨u55, rfl⟩ := up2 hf1 hf51
           refine O.move (v := va1) rfl rfl rfl ?_
           exact WL.nil ⟨Below.refl _ _, _, rfl, rfl⟩
          ·
           intro f wk hx hf hd
           have H := H.ext hx
           have hf8 : f 8 = (.int .i64 t1) := hf 8 rfl
           have hf51 : f 51 = (.bool true) := hd 14 rfl
           obtain ⟨u56, rfl⟩ := up2 hf8 hf51
           refine O.move (v := (.int .i64 t1)) rfl rfl rfl ?_
           exact WL.nil ⟨Below.refl _ _, _, rfl, rfl⟩
          ·
           intro f wk hx hf hd
           have H := H.ext hx
           have hf51 : f 51 = (.bool true) := hd 14 rfl
           have hf53 : f 53 = va1 := hd 16 rfl
           have hf54 : f 54 = (.int .i64 t1) := hd 17 rfl
           obtain ⟨u57, rfl⟩ := up3 hf51 hf53 hf54
           refine hrv1 rfl rfl rfl rfl ?_
           exact WL.nil ⟨Below.refl _ _, _, rfl, rfl⟩
          ·
           intro f wk hx hf hd
           have H := H.ext hx
           have hf51 : f 51 = (.bool true) := hd 14 rfl
           have hf52 : f 52 = (.func (.func 44) #[] #[]) := hd 15 rfl
           have hf55 : f 55 = v1 := hd 18 rfl
           obtain ⟨u58, rfl⟩ := up3 hf51 hf52 hf55
           refine O.callV rfl rfl rfl rfl (callsV_mk Tryz.call44 (c_ball_verdict_c1 _ _ (H.arg hs1) hy4)) ?_
           rintro _ w5 hb5 rfl
           have H := H.ext hb5
           exact WL.nil ⟨hb5, _, rfl, rfl⟩
          ·
           intro f wk hx hf hd
           have H := H.ext hx
           have hf51 : f 51 = (.bool true) := hd 14 rfl
           have hf56 : f 56 = (.bool t7) := hd 19 rfl
           obtain ⟨u59, rfl⟩ := up2 hf51 hf56
           refine O.pick_true (v := (.bool t7)) rfl rfl rfl rfl ?_
           exact WL.nil ⟨Below.refl _ _, _, rfl, rfl⟩
          ·
           intro f wk hx hf hd
           have H := H.ext hx
           have hf57 : f 57 = (.bool t7) := hd 20 rfl
           obtain ⟨u60, rfl⟩ := up1 hf57
           refine O.move (v := (.bool t7)) rfl rfl rfl ?_
           exact WL.nil ⟨Below.refl _ _, _, rfl, congrArg Value.bool hc6⟩
          ·
           intro f wk hx hf hd
           have H := H.ext hx
           have hf58 : f 58 = (.bool false) := hd 21 rfl
           obtain ⟨u61, rfl⟩ := up1 hf58
           refine O.skip rfl rfl ?_
           exact WL.nil ⟨Below.refl _ _, _, rfl, rfl⟩
          ·
           intro f wk hx hf hd
           have H := H.ext hx
           have hf58 : f 58 = (.bool false) := hd 21 rfl
           obtain ⟨u62, rfl⟩ := up1 hf58
           refine O.skip rfl rfl ?_
           exact WL.nil ⟨Below.refl _ _, _, rfl, rfl⟩
          ·
           intro f wk hx hf hd
           have H := H.ext hx
           have hf58 : f 58 = (.bool false) := hd 21 rfl
           obtain ⟨u63, rfl⟩ := up1 hf58
           refine O.skip rfl rfl ?_
           exact WL.nil ⟨Below.refl _ _, _, rfl, rfl⟩
          ·
           intro f wk hx hf hd
           have H := H.ext hx
           have hf58 : f 58 = (.bool false) := hd 21 rfl
           obtain ⟨u64, rfl⟩ := up1 hf58
           refine O.skip rfl rfl ?_
           exact WL.nil ⟨Below.refl _ _, _, rfl, rfl⟩
          ·
           intro f wk hx hf hd
           have H := H.ext hx
           have hf58 : f 58 = (.bool false) := hd 21 rfl
           obtain ⟨u65, rfl⟩ := up1 hf58
           refine O.skip rfl rfl ?_
           exact WL.nil ⟨Below.refl _ _, _, rfl, rfl⟩
          ·
           intro f wk hx hf hd
           have H := H.ext hx
           have hf58 : f 58 = (.bool false) := hd 21 rfl
           obtain ⟨u66, rfl⟩ := up1 hf58
           refine O.skip rfl rfl ?_
           exact WL.nil ⟨Below.refl _ _, _, rfl, rfl⟩
          ·
           intro f wk hx hf hd
           have H := H.ext hx
           have hf58 : f 58 = (.bool false) := hd 21 rfl
           obtain ⟨u67, rfl⟩ := up1 hf58
           refine O.skip rfl rfl ?_
           exact WL.nil ⟨Below.refl _ _, _, rfl, rfl⟩
          ·
           intro f wk hx hf hd
           have H := H.ext hx
           have hf58 : f 58 = (.bool false) := hd 21 rfl
           obtain ⟨u68, rfl⟩ := up1 hf58
           refine O.skip rfl rfl ?_
           exact WL.nil ⟨Below.refl _ _, _, rfl, rfl⟩
          ·
           intro f wk hx hf hd
           have H := H.ext hx
           have hf58 : f 58 = (.bool false) := hd 21 rfl
           obtain ⟨u69, rfl⟩ := up1 hf58
           refine O.skip rfl rfl ?_
           exact WL.nil ⟨Below.refl _ _, _, rfl, rfl⟩
          ·
           intro f wk hx hf hd
           have H := H.ext hx
           have hf58 : f 58 = (.bool false) := hd 21 rfl
           obtain ⟨u70, rfl⟩ := up1 hf58
           refine O.skip rfl rfl ?_
           exact WL.nil ⟨Below.refl _ _, _, rfl, rfl⟩
          ·
           intro f wk hx hf hd
           have H := H.ext hx
           have hf58 : f 58 = (.bool false) := hd 21 rfl
           obtain ⟨u71, rfl⟩ := up1 hf58
           refine O.skip rfl rfl ?_
           exact WL.nil ⟨Below.refl _ _, _, rfl, rfl⟩
          ·
           intro f wk hx hf hd
           have H := H.ext hx
           have hf58 : f 58 = (.bool false) := hd 21 rfl
           obtain ⟨u72, rfl⟩ := up1 hf58
           refine O.skip rfl rfl ?_
           exact WL.nil ⟨Below.refl _ _, _, rfl, rfl⟩
          ·
           intro f wk hx hf hd
           have H := H.ext hx
           have hf58 : f 58 = (.bool false) := hd 21 rfl
           have hf70 : f 70 = undef := hd 33 rfl
           obtain ⟨u73, rfl⟩ := up2 hf58 hf70
           refine O.pick_false (v := (.bool false)) rfl rfl rfl rfl ?_
           exact WL.nil ⟨Below.refl _ _, _, rfl, rfl⟩
         ·
          intro f wk hx hf hmd hd
          have hf1 : f 1 = va1 := hf 1 rfl
          have hf6 : f 6 = (.func (.func 44) #[] #[]) := hf 6 rfl
          have hf8 : f 8 = (.int .i64 t1) := hf 8 rfl
          have hf71 : f 71 = (.bool false) := hd 34 rfl
          have H := H.ext hx
          have hp1 := hp1.mono hx
          obtain ⟨u74, rfl⟩ := up4 hf1 hf6 hf8 hf71
          refine O.assign (v := (.bool false)) rfl rfl rfl ?_
          refine WL.nil ?_
          have H := H.keep [] [] rfl (by decide)
          have hq : false = s1 := Option.some.inj (show some false = some s1 from hm2)
          subst hq
          exact ⟨rfl, rfl, rfl, rfl, H⟩
       ·
        refine W.draw 35 (fun k v wk => match k with | 0 => v = va1 | 1 => v = (.int .i64 t1) | 2 => ∃ p2 : Addr, v = (.pointer (some p2)) ∧ ElemAt wk p2 x2 | 3 => ∃ p2 : Addr, v = (.pointer (some (Addr.add p2 0))) ∧ ElemAt wk p2 x2 | 4 => v = (.int .i64 x2.At) | 5 => v = (.pointer (some (Addr.add (Addr.mk b1 0 none) 0))) | 6 => v = (.int .i64 a0.Noon) | 7 => v = (.pointer (some (Addr.add (Addr.mk b1 0 none) 4))) | 8 => v = (.int .i64 a0.Again) | 9 => v = (.int .i64 t4) | 10 => v = (.pointer (some (Addr.add (Addr.mk b1 0 none) 1))) | 11 => v = (.int .i64 a0.Half) | 12 => v = (.int .i64 t5) | 13 => v = (.bool (decide (t5 ≤ x2.At))) | 14 => v = (.bool false) | 15 => v = undef | 16 => v = undef | 17 => v = undef | 18 => v = undef | 19 => v = undef | 20 => v = (.bool false) | 21 => v = (.bool false) | 22 => v = undef | 23 => v = undef | 24 => v = undef | 25 => v = undef | 26 => v = undef | 27 => v = undef | 28 => v = undef | 29 => v = undef | 30 => v = undef | 31 => v = undef | 32 => v = undef | 33 => v = undef | 34 => v = (.bool false) | _ => True) (by intro k v w w' h hb; match k, h with | 0, h => exact h | 1, h => exact h | 2, ⟨p, e, hp⟩ => exact ⟨p, e, hp.mono hb⟩ | 3, ⟨p, e, hp⟩ => exact ⟨p, e, hp.mono hb⟩ | 4, h => exact h | 5, h => exact h | 6, h => exact h | 7, h => exact h | 8, h => exact h | 9, h => exact h | 10, h => exact h | 11, h => exact h | 12, h => exact h | 13, h => exact h | 14, h => exact h | 15, h => exact h | 16, h => exact h | 17, h => exact h | 18, h => exact h | 19, h => exact h | 20, h => exact h | 21, h => exact h | 22, h => exact h | 23, h => exact h | 24, h => exact h | 25, h => exact h | 26, h => exact h | 27, h => exact h | 28, h => exact h | 29, h => exact h | 30, h => exact h | 31, h => exact h | 32, h => exact h | 33, h => exact h | 34, h => exact h | _ + 35, h => exact h) fol (by kernel_rfl) ?_ ?_
        ·
         refine ⟨⟨⟨⟨⟨⟨⟨⟨⟨⟨⟨⟨⟨⟨⟨⟨⟨⟨⟨⟨⟨⟨⟨⟨⟨⟨⟨⟨⟨⟨⟨⟨⟨⟨⟨trivial, ?_⟩, ?_⟩, ?_⟩, ?_⟩, ?_⟩, ?_⟩, ?_⟩, ?_⟩, ?_⟩, ?_⟩, ?_⟩, ?_⟩, ?_⟩, ?_⟩, ?_⟩, ?_⟩, ?_⟩, ?_⟩, ?_⟩, ?_⟩, ?_⟩, ?_⟩, ?_⟩, ?_⟩, ?_⟩, ?_⟩, ?_⟩, ?_⟩, ?_⟩, ?_⟩, ?_⟩, ?_⟩, ?_⟩, ?_⟩, ?_⟩
         ·
          intro f wk hx hf hd
          have H := H.ext hx
          have hf1 : f 1 = va1 := hf 1 rfl
          obtain ⟨u75, rfl⟩ := up1 hf1
          refine O.move (v := va1) rfl rfl rfl ?_
          exact WL.nil ⟨Below.refl _ _, _, rfl, rfl⟩
         ·
          intro f wk hx hf hd
          have H := H.ext hx
          have hf8 : f 8 = (.int .i64 t1) := hf 8 rfl
          obtain ⟨u76, rfl⟩ := up1 hf8
          refine O.move (v := (.int .i64 t1)) rfl rfl rfl ?_
          exact WL.nil ⟨Below.refl _ _, _, rfl, rfl⟩
         ·
          intro f wk hx hf hd
          have H := H.ext hx
          have hf37 : f 37 = va1 := hd 0 rfl
          have hf38 : f 38 = (.int .i64 t1) := hd 1 rfl
          obtain ⟨u77, rfl⟩ := up2 hf37 hf38
          refine O.indexAddr Tryz.underlying24 sz86 (H.arg ha1) hx2 rfl rfl rfl rfl ?_
          intro p2 hp2
          exact WL.nil ⟨Below.refl _ _, _, rfl, ⟨_, rfl, hp2⟩⟩
         ·
          intro f wk hx hf hd
          have H := H.ext hx
          obtain ⟨p2, hf39, hp2⟩ : ∃ p2 : Addr, f 39 = (.pointer (some p2)) ∧ ElemAt wk p2 x2 := hd 2 rfl
          obtain ⟨u78, rfl⟩ := up1 hf39
          refine O.fieldAddr fd86_0 rfl rfl rfl ?_
          exact WL.nil ⟨Below.refl _ _, _, rfl, ⟨_, rfl, hp2⟩⟩
         ·
          intro f wk hx hf hd
          have H := H.ext hx
          obtain ⟨p2, hf40, hp2⟩ : ∃ p2 : Addr, f 40 = (.pointer (some (Addr.add p2 0))) ∧ ElemAt wk p2 x2 := hd 3 rfl
          obtain ⟨u79, rfl⟩ := up1 hf40
          refine O.load sc3 rfl rfl rfl (hp2.flat 0 _ rfl) ?_
          exact WL.nil ⟨Below.refl _ _, _, rfl, rfl⟩
         ·
          intro f wk hx hf hd
          have H := H.ext hx
          have hf2 : f 2 = (.pointer (some ⟨b1, 0, none⟩)) := hf 2 rfl
          obtain ⟨u80, rfl⟩ := up1 hf2
          refine O.fieldAddr fd23_0 rfl rfl rfl ?_
          exact WL.nil ⟨Below.refl _ _, _, rfl, rfl⟩
         ·
          intro f wk hx hf hd
          have H := H.ext hx
          have hf42 : f 42 = (.pointer (some (Addr.add (Addr.mk b1 0 none) 0))) := hd 5 rfl
          obtain ⟨u81, rfl⟩ := up1 hf42
          refine O.load sc3 rfl rfl rfl (H.cell 0 rfl 0 _ rfl) ?_
          exact WL.nil ⟨Below.refl _ _, _, rfl, rfl⟩
         ·
          intro f wk hx hf hd
          have H := H.ext hx
          have hf2 : f 2 = (.pointer (some ⟨b1, 0, none⟩)) := hf 2 rfl
          obtain ⟨u82, rfl⟩ := up1 hf2
          refine O.fieldAddr fd23_4 rfl rfl rfl ?_
          exact WL.nil ⟨Below.refl _ _, _, rfl, rfl⟩
         ·
          intro f wk hx hf hd
          have H := H.ext hx
          have hf44 : f 44 = (.pointer (some (Addr.add (Addr.mk b1 0 none) 4))) := hd 7 rfl
          obtain ⟨u83, rfl⟩ := up1 hf44
          refine O.load sc3 rfl rfl rfl (H.cell 0 rfl 4 _ rfl) ?_
          exact WL.nil ⟨Below.refl _ _, _, rfl, rfl⟩
         ·
          intro f wk hx hf hd
          have H := H.ext hx
          have hf43 : f 43 = (.int .i64 a0.Noon) := hd 6 rfl
          have hf45 : f 45 = (.int .i64 a0.Again) := hd 8 rfl
          obtain ⟨u84, rfl⟩ := up2 hf43 hf45
          refine O.add rfl rfl rfl rfl ht4 ?_
          exact WL.nil ⟨Below.refl _ _, _, rfl, rfl⟩
         ·
          intro f wk hx hf hd
          have H := H.ext hx
          have hf2 : f 2 = (.pointer (some ⟨b1, 0, none⟩)) := hf 2 rfl
          obtain ⟨u85, rfl⟩ := up1 hf2
          refine O.fieldAddr fd23_1 rfl rfl rfl ?_
          exact WL.nil ⟨Below.refl _ _, _, rfl, rfl⟩
         ·
          intro f wk hx hf hd
          have H := H.ext hx
          have hf47 : f 47 = (.pointer (some (Addr.add (Addr.mk b1 0 none) 1))) := hd 10 rfl
          obtain ⟨u86, rfl⟩ := up1 hf47
          refine O.load sc3 rfl rfl rfl (H.cell 0 rfl 1 _ rfl) ?_
          exact WL.nil ⟨Below.refl _ _, _, rfl, rfl⟩
         ·
          intro f wk hx hf hd
          have H := H.ext hx
          have hf46 : f 46 = (.int .i64 t4) := hd 9 rfl
          have hf48 : f 48 = (.int .i64 a0.Half) := hd 11 rfl
          obtain ⟨u87, rfl⟩ := up2 hf46 hf48
          refine O.sub rfl rfl rfl rfl ht5 ?_
          exact WL.nil ⟨Below.refl _ _, _, rfl, rfl⟩
         ·
          intro f wk hx hf hd
          have H := H.ext hx
          have hf41 : f 41 = (.int .i64 x2.At) := hd 4 rfl
          have hf49 : f 49 = (.int .i64 t5) := hd 12 rfl
          obtain ⟨u88, rfl⟩ := up2 hf41 hf49
          refine O.geq rfl rfl rfl rfl ?_
          exact WL.nil ⟨Below.refl _ _, _, rfl, rfl⟩
         ·
          intro f wk hx hf hd
          have H := H.ext hx
          have hf50 : f 50 = (.bool (decide (t5 ≤ x2.At))) := hd 13 rfl
          obtain ⟨u89, rfl⟩ := up1 hf50
          refine O.move (v := (.bool (decide (t5 ≤ x2.At)))) rfl rfl rfl ?_
          exact WL.nil ⟨Below.refl _ _, _, rfl, congrArg Value.bool hc5⟩
         ·
          intro f wk hx hf hd
          have H := H.ext hx
          have hf51 : f 51 = (.bool false) := hd 14 rfl
          obtain ⟨u90, rfl⟩ := up1 hf51
          refine O.skip rfl rfl ?_
          exact WL.nil ⟨Below.refl _ _, _, rfl, rfl⟩
         ·
          intro f wk hx hf hd
          have H := H.ext hx
          have hf51 : f 51 = (.bool false) := hd 14 rfl
          obtain ⟨u91, rfl⟩ := up1 hf51
          refine O.skip rfl rfl ?_
          exact WL.nil ⟨Below.refl _ _, _, rfl, rfl⟩
         ·
          intro f wk hx hf hd
          have H := H.ext hx
          have hf51 : f 51 = (.bool false) := hd 14 rfl
          obtain ⟨u92, rfl⟩ := up1 hf51
          refine O.skip rfl rfl ?_
          exact WL.nil ⟨Below.refl _ _, _, rfl, rfl⟩
         ·
          intro f wk hx hf hd
          have H := H.ext hx
          have hf51 : f 51 = (.bool false) := hd 14 rfl
          obtain ⟨u93, rfl⟩ := up1 hf51
          refine O.skip rfl rfl ?_
          exact WL.nil ⟨Below.refl _ _, _, rfl, rfl⟩
         ·
          intro f wk hx hf hd
          have H := H.ext hx
          have hf51 : f 51 = (.bool false) := hd 14 rfl
          obtain ⟨u94, rfl⟩ := up1 hf51
          refine O.skip rfl rfl ?_
          exact WL.nil ⟨Below.refl _ _, _, rfl, rfl⟩
         ·
          intro f wk hx hf hd
          have H := H.ext hx
          have hf51 : f 51 = (.bool false) := hd 14 rfl
          have hf56 : f 56 = undef := hd 19 rfl
          obtain ⟨u95, rfl⟩ := up2 hf51 hf56
          refine O.pick_false (v := (.bool false)) rfl rfl rfl rfl ?_
          exact WL.nil ⟨Below.refl _ _, _, rfl, rfl⟩
         ·
          intro f wk hx hf hd
          have H := H.ext hx
          have hf57 : f 57 = (.bool false) := hd 20 rfl
          obtain ⟨u96, rfl⟩ := up1 hf57
          refine O.move (v := (.bool false)) rfl rfl rfl ?_
          exact WL.nil ⟨Below.refl _ _, _, rfl, rfl⟩
         ·
          intro f wk hx hf hd
          have H := H.ext hx
          have hf58 : f 58 = (.bool false) := hd 21 rfl
          obtain ⟨u97, rfl⟩ := up1 hf58
          refine O.skip rfl rfl ?_
          exact WL.nil ⟨Below.refl _ _, _, rfl, rfl⟩
         ·
          intro f wk hx hf hd
          have H := H.ext hx
          have hf58 : f 58 = (.bool false) := hd 21 rfl
          obtain ⟨u98, rfl⟩ := up1 hf58
          refine O.skip rfl rfl ?_
          exact WL.nil ⟨Below.refl _ _, _, rfl, rfl⟩
         ·
          intro f wk hx hf hd
          have H := H.ext hx
          have hf58 : f 58 = (.bool false) := hd 21 rfl
          obtain ⟨u99, rfl⟩ := up1 hf58
          refine O.skip rfl rfl ?_
          exact WL.nil ⟨Below.refl _ _, _, rfl, rfl⟩
         ·
          intro f wk hx hf hd
          have H := H.ext hx
          have hf58 : f 58 = (.bool false) := hd 21 rfl
          obtain ⟨u100, rfl⟩ := up1 hf58
          refine O.skip rfl rfl ?_
          exact WL.nil ⟨Below.refl _ _, _, rfl, rfl⟩
         ·
          intro f wk hx hf hd
          have H := H.ext hx
          have hf58 : f 58 = (.bool false) := hd 21 rfl
          obtain ⟨u101, rfl⟩ := up1 hf58
          refine O.skip rfl rfl ?_
          exact WL.nil ⟨Below.refl _ _, _, rfl, rfl⟩
         ·
          intro f wk hx hf hd
          have H := H.ext hx
          have hf58 : f 58 = (.bool false) := hd 21 rfl
          obtain ⟨u102, rfl⟩ := up1 hf58
          refine O.skip rfl rfl ?_
          exact WL.nil ⟨Below.refl _ _, _, rfl, rfl⟩
         ·
          intro f wk hx hf hd
          have H := H.ext hx
          have hf58 : f 58 = (.bool false) := hd 21 rfl
          obtain ⟨u103, rfl⟩ := up1 hf58
          refine O.skip rfl rfl ?_
          exact WL.nil ⟨Below.refl _ _, _, rfl, rfl⟩
         ·
          intro f wk hx hf hd
          have H := H.ext hx
          have hf58 : f 58 = (.bool false) := hd 21 rfl
          obtain ⟨u104, rfl⟩ := up1 hf58
          refine O.skip rfl rfl ?_
          exact WL.nil ⟨Below.refl _ _, _, rfl, rfl⟩
         ·
          intro f wk hx hf hd
          have H := H.ext hx
          have hf58 : f 58 = (.bool false) := hd 21 rfl
          obtain ⟨u105, rfl⟩ := up1 hf58
          refine O.skip rfl rfl ?_
          exact WL.nil ⟨Below.refl _ _, _, rfl, rfl⟩
         ·
          intro f wk hx hf hd
          have H := H.ext hx
          have hf58 : f 58 = (.bool false) := hd 21 rfl
          obtain ⟨u106, rfl⟩ := up1 hf58
          refine O.skip rfl rfl ?_
          exact WL.nil ⟨Below.refl _ _, _, rfl, rfl⟩
         ·
          intro f wk hx hf hd
          have H := H.ext hx
          have hf58 : f 58 = (.bool false) := hd 21 rfl
          obtain ⟨u107, rfl⟩ := up1 hf58
          refine O.skip rfl rfl ?_
          exact WL.nil ⟨Below.refl _ _, _, rfl, rfl⟩
         ·
          intro f wk hx hf hd
          have H := H.ext hx
          have hf58 : f 58 = (.bool false) := hd 21 rfl
          obtain ⟨u108, rfl⟩ := up1 hf58
          refine O.skip rfl rfl ?_
          exact WL.nil ⟨Below.refl _ _, _, rfl, rfl⟩
         ·
          intro f wk hx hf hd
          have H := H.ext hx
          have hf58 : f 58 = (.bool false) := hd 21 rfl
          have hf70 : f 70 = undef := hd 33 rfl
          obtain ⟨u109, rfl⟩ := up2 hf58 hf70
          refine O.pick_false (v := (.bool false)) rfl rfl rfl rfl ?_
          exact WL.nil ⟨Below.refl _ _, _, rfl, rfl⟩
        ·
         intro f wk hx hf hmd hd
         have hf1 : f 1 = va1 := hf 1 rfl
         have hf6 : f 6 = (.func (.func 44) #[] #[]) := hf 6 rfl
         have hf8 : f 8 = (.int .i64 t1) := hf 8 rfl
         have hf71 : f 71 = (.bool false) := hd 34 rfl
         have H := H.ext hx
         have hp1 := hp1.mono hx
         obtain ⟨u110, rfl⟩ := up4 hf1 hf6 hf8 hf71
         refine O.assign (v := (.bool false)) rfl rfl rfl ?_
         refine WL.nil ?_
         have H := H.keep [] [] rfl (by decide)
         have hq : false = s1 := Option.some.inj (show some false = some s1 from hm2)
         subst hq
         exact ⟨rfl, rfl, rfl, rfl, H⟩
      ·
       rintro f w ⟨hf1, hf6, hf8, hf36, H⟩
       obtain ⟨u111, rfl⟩ := up4 hf1 hf6 hf8 hf36
       rcases ite_some hm with ⟨hc7, hm⟩ | ⟨hc7, hm⟩
       ·
        refine W.cond_true (congrArg Value.bool hc7) ?_
        refine W.seq ?_
        refine W.region ?_
        refine O.move (v := (.int .i64 t1)) rfl rfl rfl ?_
        refine O.assign (v := (.int .i64 3)) rfl rfl rfl ?_
        refine O.assign (v := (.int .i64 t1)) rfl rfl rfl ?_
        refine WL.nil ?_
        refine W.ret ?_
        have hq : (3, t1) = (r0, r1) := Option.some.inj (show some (3, t1) = some (r0, r1) from hm)
        obtain ⟨he0, hq0⟩ := Prod.mk.inj hq; clear hq; subst he0
        subst hq0
        exact ends2 Tryz.results16 rfl rfl ⟨_, rfl, H.base, rfl⟩
       ·
        refine W.cond_false (congrArg Value.bool hc7) ?_
        refine W.seq ?_
        refine W.region ?_
        refine O.move (v := (.func (.func 44) #[] #[])) rfl rfl rfl ?_
        refine O.move (v := va1) rfl rfl rfl ?_
        refine O.move (v := (.int .i64 t1)) rfl rfl rfl ?_
        obtain ⟨t10, ht10, hm⟩ := bind_some hm
        obtain ⟨v2, hs2, hrv2⟩ := fix_sliceL Tryz.underlying24 sz86 ha1 ht10
        refine hrv2 rfl rfl rfl rfl ?_
        obtain ⟨t11, hy6, hm⟩ := bind_some hm
        refine O.callV rfl rfl rfl rfl (callsV_mk Tryz.call44 (c_ball_verdict_c1 _ _ (H.arg hs2) hy6)) ?_
        rintro _ w7 hb7 rfl
        have H := H.ext hb7
        refine O.assign (v := (.bool t11)) rfl rfl rfl ?_
        refine WL.nil ?_
        rcases ite_some hm with ⟨hc8, hm⟩ | ⟨hc8, hm⟩
        ·
         refine W.cond_true (congrArg Value.bool hc8) ?_
         refine W.seq ?_
         refine W.region ?_
         refine O.move (v := (.int .i64 t1)) rfl rfl rfl ?_
         refine O.assign (v := (.int .i64 1)) rfl rfl rfl ?_
         refine O.assign (v := (.int .i64 t1)) rfl rfl rfl ?_
         refine WL.nil ?_
         refine W.ret ?_
         have hq : (1, t1) = (r0, r1) := Option.some.inj (show some (1, t1) = some (r0, r1) from hm)
         obtain ⟨he0, hq0⟩ := Prod.mk.inj hq; clear hq; subst he0
         subst hq0
         exact ends2 Tryz.results16 rfl rfl ⟨_, rfl, H.base, rfl⟩
        ·
         refine W.cond_false (congrArg Value.bool hc8) ?_
         refine W.skip ?_
         refine W.seq ?_
         refine W.region ?_
         refine O.move (v := (.int .i64 t1)) rfl rfl rfl ?_
         refine O.assign (v := (.int .i64 2)) rfl rfl rfl ?_
         refine O.assign (v := (.int .i64 t1)) rfl rfl rfl ?_
         refine WL.nil ?_
         refine W.ret ?_
         have hq : (2, t1) = (r0, r1) := Option.some.inj (show some (2, t1) = some (r0, r1) from hm)
         obtain ⟨he0, hq0⟩ := Prod.mk.inj hq; clear hq; subst he0
         subst hq0
         exact ends2 Tryz.results16 rfl rfl ⟨_, rfl, H.base, rfl⟩

theorem c_ball_Verdict {w0 : World} (a0 : GMast) (va1 : Value) (a1 : (List GEvent)) (ha1 : SliceR w0 va1 a1) {r0 : Int} {r1 : Int} (hm : ball_Verdict a0 a1 = some (r0, r1)) :
  Calls Tryz.prog 5 #[(.agg (Flat.cells a0).toArray), va1] w0 (Ret w0 fun _ v => v = .tuple #[(.int .i64 r0), (.int .i64 r1)]) := by
 unfold ball_Verdict at hm
 refine calls_of_W Tryz.func5 rfl Tryz.ntmps5 (Nat.le_of_ble_eq_true rfl) ?_
 have H := Inv.start (w := w0)
 refine W.seq ?_
 refine W.region ?_
 refine O.box [(.int .i64 a0.Noon), (.int .i64 a0.Half), (.int .i64 a0.Full), (.int .i64 a0.Late), (.int .i64 a0.Again), (.int .i64 a0.Wind)] H rfl rfl rfl rfl ?_
 intro b1 w1 H hb1
 refine O.assign (v := (.int .i64 0)) rfl rfl rfl ?_
 refine O.assign (v := (.int .i64 0)) rfl rfl rfl ?_
 refine WL.nil ?_
 refine W.seq ?_
 refine W.seq ?_
 refine W.region ?_
 refine O.loadA [(.int .i64 a0.Noon), (.int .i64 a0.Half), (.int .i64 a0.Full), (.int .i64 a0.Late), (.int .i64 a0.Again), (.int .i64 a0.Wind)] ag23 rfl rfl rfl rfl (H.cell 0 rfl) ?_
 refine O.move (v := va1) rfl rfl rfl ?_
 obtain ⟨⟨t1, t2, t3⟩, hy1, hm⟩ := bind_some hm
 refine O.call Tryz.call15 rfl rfl rfl (c_ball_Run a0 _ _ (H.arg ha1) hy1) ?_
 rintro _ w2 hb2 rfl
 have H := H.ext hb2
 refine O.move (v := (.tuple #[(.agg (Flat.cells t1).toArray), (.int .i64 t2), (.int .i64 t3)])) rfl rfl rfl ?_
 refine O.extract (v := (.agg (Flat.cells t1).toArray)) rfl rfl rfl rfl ?_
 refine O.extract (v := (.int .i64 t2)) rfl rfl rfl rfl ?_
 refine O.extract (v := (.int .i64 t3)) rfl rfl rfl rfl ?_
 refine O.alloc [(.int .i64 0), (.int .i64 0), (.bool false), (.int .i64 0)] ze51 H rfl rfl rfl ?_
 intro b2 w3 H hb3
 refine O.store 1 0 [(.int .i64 t1.Place), (.int .i64 t1.Wind), (.bool t1.Flag), (.int .i64 t1.At)] [(.int .i64 t1.Place), (.int .i64 t1.Wind), (.bool t1.Flag), (.int .i64 t1.At)] sz51 H rfl rfl rfl rfl rfl rfl ⟨⟨rfl, rfl⟩, rfl⟩ (one_cons rfl (one_cons rfl (one_cons rfl (one_cons rfl one_nil)))) ?_
 intro w4 H
 refine O.assign (v := (.int .i64 t2)) rfl rfl rfl ?_
 refine O.assign (v := (.int .i64 t3)) rfl rfl rfl ?_
 refine WL.nil ?_
 refine W.seq ?_
 refine W.region ?_
 refine O.move (v := (.int .i64 t3)) rfl rfl rfl ?_
 refine O.neq rfl rfl rfl rfl ?_
 refine WL.nil ?_
 rcases ite_some hm with ⟨hc1, hm⟩ | ⟨hc1, hm⟩
 ·
  refine W.cond_true (congrArg Value.bool hc1) ?_
  refine W.seq ?_
  refine W.region ?_
  refine O.move (v := (.int .i64 t3)) rfl rfl rfl ?_
  refine O.assign (v := (.int .i64 0)) rfl rfl rfl ?_
  refine O.assign (v := (.int .i64 t3)) rfl rfl rfl ?_
  refine WL.nil ?_
  refine W.ret ?_
  have hq : (0, t3) = (r0, r1) := Option.some.inj (show some (0, t3) = some (r0, r1) from hm)
  obtain ⟨he0, hq0⟩ := Prod.mk.inj hq; clear hq; subst he0
  subst hq0
  exact ends2 Tryz.results5 rfl rfl ⟨_, rfl, H.base, rfl⟩
 ·
  refine W.cond_false (congrArg Value.bool hc1) ?_
  refine W.skip ?_
  refine W.seq ?_
  refine W.region ?_
  refine O.loadA [(.int .i64 a0.Noon), (.int .i64 a0.Half), (.int .i64 a0.Full), (.int .i64 a0.Late), (.int .i64 a0.Again), (.int .i64 a0.Wind)] ag23 rfl rfl rfl rfl (H.cell 0 rfl) ?_
  refine O.move (v := va1) rfl rfl rfl ?_
  obtain ⟨⟨t4, t5⟩, hy2, hm⟩ := bind_some hm
  refine O.call Tryz.call16 rfl rfl rfl (c_ball_verdict a0 _ _ (H.arg ha1) hy2) ?_
  rintro _ w5 hb4 rfl
  have H := H.ext hb4
  refine O.move (v := (.tuple #[(.int .i64 t4), (.int .i64 t5)])) rfl rfl rfl ?_
  refine O.extract (v := (.int .i64 t4)) rfl rfl rfl rfl ?_
  refine O.extract (v := (.int .i64 t5)) rfl rfl rfl rfl ?_
  refine O.assign (v := (.int .i64 t4)) rfl rfl rfl ?_
  refine O.assign (v := (.int .i64 t5)) rfl rfl rfl ?_
  refine WL.nil ?_
  refine W.seq ?_
  refine W.region ?_
  refine O.move (v := (.int .i64 t4)) rfl rfl rfl ?_
  refine O.assign (v := (.int .i64 t4)) rfl rfl rfl ?_
  refine O.assign (v := (.int .i64 0)) rfl rfl rfl ?_
  refine WL.nil ?_
  refine W.ret ?_
  have hq : (t4, 0) = (r0, r1) := Option.some.inj (show some (t4, 0) = some (r0, r1) from hm)
  obtain ⟨he0, hq0⟩ := Prod.mk.inj hq; clear hq; subst he0
  subst hq0
  exact ends2 Tryz.results5 rfl rfl ⟨_, rfl, H.base, rfl⟩

theorem c_flag_isNumber {w0 : World} (a0 : Int) {r0 : Bool} (hm : flag_isNumber a0 = some r0) :
  Calls Tryz.prog 18 #[(.int .i64 a0)] w0 (Ret w0 fun _ v => v = (.bool r0)) := by
 unfold flag_isNumber at hm
 refine calls_of_W Tryz.func18 rfl Tryz.ntmps18 (Nat.le_of_ble_eq_true rfl) ?_
 have H := Inv.start (w := w0)
 refine W.seq ?_
 refine W.region ?_
 refine O.assign (v := (.bool false)) rfl rfl rfl ?_
 refine WL.nil ?_
 refine W.seq ?_
 refine W.region ?_
 refine O.move (v := (.int .i64 a0)) rfl rfl rfl ?_
 obtain ⟨t1, hy1, hm⟩ := bind_some hm
 refine O.call Tryz.call21 rfl rfl rfl (c_flag_within _ _ _ hy1) ?_
 rintro _ w1 hb1 rfl
 have H := H.ext hb1
 refine O.assign (v := (.bool t1)) rfl rfl rfl ?_
 refine WL.nil ?_
 refine W.ret ?_
 have hq : t1 = r0 := Option.some.inj (show some t1 = some r0 from hm)
 subst hq
 exact ends1 Tryz.results18 rfl ⟨_, rfl, H.base, rfl⟩

theorem c_strconv_Itoa {w0 : World} (hT : TabH Tryz.prog w0) (a0 : Int) {r0 : ByteArray} (hm : strconv_Itoa a0 = some r0) :
  Calls Tryz.prog 50 #[(.int .i64 a0)] w0 (Ret w0 fun _ v => v = (.string r0)) := by
 unfold strconv_Itoa at hm
 split at hm
 case isFalse => cases hm
 rename_i hn
 obtain ⟨m, rfl⟩ : ∃ m : Nat, a0 = (m : Int) := ⟨a0.toNat, by omega⟩
 obtain rfl := Option.some.inj hm
 exact c_Itoa Tryz.itoaT hT m hn.2
theorem sub48 : ∀ b : Nat, 48 ≤ b → b ≤ 57 → IntKind.i32.wrap ((b : Int) - 48) = (b : Int) - 48 ∧ cvI .i64 ((b : Int) - 48) = some ((b : Int) - 48) := by
  intro b h1 h2
  have : ∀ c : Nat, c < 10 → IntKind.i32.wrap (c : Int) = c ∧ cvI .i64 (c : Int) = some (c : Int) := by decide
  have h := this (b - 48) (by omega)
  rw [show ((b - 48 : Nat) : Int) = (b : Int) - 48 by omega] at h
  exact h
theorem c_flag_digitsOf {w0 : World} (hT : TabH Tryz.prog w0) (a0 : Int) {r0 : (List Int)} (hm : flag_digitsOf a0 = some r0) :
  Calls Tryz.prog 19 #[(.int .i64 a0)] w0 (Ret w0 fun w v => OwnR w0 w v 3 r0) := by
 unfold flag_digitsOf at hm
 split at hm
 case isFalse => cases hm
 rename_i hn
 obtain ⟨m, rfl⟩ : ∃ m : Nat, a0 = (m : Int) := ⟨a0.toNat, by omega⟩
 have hm' : digsOf m = r0 := Option.some.inj hm
 obtain ⟨s, hs⟩ : ∃ s : ByteArray, s = ⟨(Lib.decDigits m).toArray⟩ := ⟨_, rfl⟩
 have hsz : s.size = (Lib.decDigits m).length := by rw [hs]; rfl
 have hlen : (Lib.decDigits m).length ≤ 21 := by
  have := Lib.itoa_length_le (m : Int) (by omega) hn.2
  rw [Lib.itoa_nonneg] at this
  exact this
 refine calls_of_W Tryz.func19 rfl Tryz.ntmps19 (Nat.le_of_ble_eq_true rfl) ?_
 have H := Inv.start (w := w0)
 refine W.seq ?_
 refine W.region ?_
 have H := H.addNil (α := Int) (E := 3)
 refine O.assign (v := (.slice none 0 0)) rfl rfl rfl ?_
 refine WL.nil ?_
 refine W.seq ?_
 refine W.region ?_
 have H := H.addNil (α := Int) (E := 3)
 refine O.assign (v := (.slice none 0 0)) rfl rfl rfl ?_
 refine WL.nil ?_
 refine W.seq ?_
 refine W.via (fun f w => ∃ vz : Value, f 3 = vz ∧ Inv w0 w [ownI vz 3 (digsOf m)]) ?_ ?_
 ·
  refine W.seq ?_
  refine W.region ?_
  refine O.move (v := (.int .i64 (m : Int))) rfl rfl rfl ?_
  refine O.call (φ := fun _ v => v = .string s) Tryz.call50 rfl rfl rfl (by rw [hs]; exact c_Itoa Tryz.itoaT hT m hn.2) ?_
  rintro _ w1 hb1 rfl
  have H := H.ext hb1
  refine O.rangeS Tryz.underlying9 H rfl rfl rfl ?_
  intro bi w2 H hb2
  refine WL.nil ?_
  have H := H.keep [1, 2] [ownI (α := Int) (.slice none 0 0) 3 ([] : List Int), strI bi s 0] rfl (by decide)
  refine W.block ?_
  refine W.loopL (l := Lib.decDigits m) (fun rem f w => ∃ (at_ : Nat) (vz : Value), (Lib.decDigits m).drop at_ = rem ∧ f 8 = .pointer (some ⟨bi, 0, none⟩) ∧ f 3 = vz ∧ Inv w0 w [ownI vz 3 ((digsOf m).take at_), strI bi s at_]) ?_ ?_ ?_
  · exact ⟨0, _, List.drop_zero, rfl, rfl, H⟩
  ·
   rintro y ys f w ⟨at_, vz, hd, hf8, hf3, H⟩
   obtain ⟨u1, rfl⟩ := up2 hf8 hf3
   have hlt : at_ < (Lib.decDigits m).length := (by have h9 := congrArg List.length hd; rw [List.length_drop, List.length_cons] at h9; omega)
   have hy : (Lib.decDigits m)[at_] = y := by
    have := List.drop_eq_getElem_cons hlt
    rw [hd] at this
    exact (List.cons.inj this).1.symm
   have hyb := dec_bytes m y (by rw [← hy]; exact List.getElem_mem hlt)
   have hlt2 : at_ < s.size := by rw [hsz]; exact hlt
   have hsy : s[at_]'hlt2 = y := by subst hs; exact hy
   obtain ⟨k1, k2⟩ := sub48 y.toNat hyb.1 hyb.2
   refine W.seq ?_
   refine W.region ?_
   refine O.nextS 1 H rfl hlt2 (by rw [hsy]; omega) rfl rfl rfl ?_
   intro w1 H
   rw [hsy]
   refine O.extract (v := .bool true) rfl rfl rfl rfl ?_
   refine WL.nil ?_
   refine W.seq ?_
   refine W.cond_true rfl ?_
   refine W.skip ?_
   refine W.block ?_
   refine W.seq ?_
   refine W.region ?_
   refine O.extract (v := (.int .i32 (y.toNat : Int))) rfl rfl rfl rfl ?_
   refine O.assign (v := (.int .i32 (y.toNat : Int))) rfl rfl rfl ?_
   refine WL.nil ?_
   refine W.region ?_
   refine O.move (v := vz) rfl rfl rfl ?_
   refine O.move (v := (.int .i32 (y.toNat : Int))) rfl rfl rfl ?_
   refine O.sub32 rfl rfl rfl rfl k1 ?_
   refine O.convI (by rw [Tryz.underlying21]; rfl) Tryz.underlying3 k2 rfl rfl rfl ?_
   refine O.buildSlice (α := Int) [(.int .i64 ((y.toNat : Int) - 48))] [(y.toNat : Int) - 48] Tryz.underlying33 el3 H rfl rfl rfl rfl rfl rfl rfl ?_
   intro v7 w6 H hb6
   have ht3 : appI ((digsOf m).take at_) [(y.toNat : Int) - 48] = some ((digsOf m).take (at_ + 1)) := by
    rw [appI_ok (by rw [List.length_take]; simp; omega), List.take_add_one]
    have : (digsOf m)[at_]? = some ((y.toNat : Int) - 48) := by
     unfold digsOf
     rw [List.getElem?_map, List.getElem?_eq_getElem hlt, hy]
     rfl
    rw [this]
    rfl
   refine O.append 0 Tryz.underlying33 el3 rfl H rfl (H.own 2 rfl) ht3 rfl rfl rfl rfl ?_
   intro v8 w7 H
   refine O.assign (v := v8) rfl rfl rfl ?_
   refine WL.nil ?_
   have H := H.keep [0, 1] [ownI v8 3 ((digsOf m).take (at_ + 1)), strI bi s (at_ + 1)] rfl (by decide)
   refine ⟨at_ + 1, _, ?_, rfl, rfl, H⟩
   have := List.drop_eq_getElem_cons hlt
   rw [hd] at this
   exact (List.cons.inj this).2.symm
  ·
   rintro f w ⟨at_, vz, hd, hf8, hf3, H⟩
   obtain ⟨u1, rfl⟩ := up2 hf8 hf3
   have hge : (Lib.decDigits m).length ≤ at_ := List.drop_eq_nil_iff.1 hd
   refine W.seq ?_
   refine W.region ?_
   refine O.endS 1 H rfl (by rw [hsz]; omega) rfl rfl rfl ?_
   refine O.extract (v := .bool false) rfl rfl rfl rfl ?_
   refine WL.nil ?_
   refine W.seq ?_
   refine W.cond_false rfl ?_
   refine W.exit ?_
   refine xT rfl ?_
   have ht : (digsOf m).take at_ = digsOf m := List.take_of_length_le (by unfold digsOf; rw [List.length_map]; exact hge)
   rw [ht] at H
   exact ⟨_, rfl, H.keep [0] _ rfl (by decide)⟩
 ·
  rintro f w ⟨vz, hf3, H⟩
  obtain ⟨u1, rfl⟩ := up1 hf3
  refine W.seq ?_
  refine W.region ?_
  refine O.move (v := vz) rfl rfl rfl ?_
  refine O.assign (v := vz) rfl rfl rfl ?_
  refine WL.nil ?_
  refine W.ret ?_
  subst hm'
  exact ends1 Tryz.results19 rfl ⟨_, rfl, H.base, H.ownR 0 rfl⟩

theorem c_flag_Digits {w0 : World} (hT : TabH Tryz.prog w0) (a0 : Int) {r0 : (List Int)} {r1 : Int} (hm : flag_Digits a0 = some (r0, r1)) :
  Calls Tryz.prog 7 #[(.int .i64 a0)] w0 (Ret w0 fun w v => ∃ vr0 : Value, v = .tuple #[vr0, (.int .i64 r1)] ∧ OwnR w0 w vr0 3 r0) := by
 unfold flag_Digits at hm
 refine calls_of_W Tryz.func7 rfl Tryz.ntmps7 (Nat.le_of_ble_eq_true rfl) ?_
 have H := Inv.start (w := w0)
 refine W.seq ?_
 refine W.region ?_
 have H := H.addNil (α := Int) (E := 3)
 refine O.assign (v := (.slice none 0 0)) rfl rfl rfl ?_
 refine O.assign (v := (.int .i64 0)) rfl rfl rfl ?_
 refine WL.nil ?_
 refine W.seq ?_
 refine W.seq ?_
 refine W.region ?_
 refine O.move (v := (.int .i64 a0)) rfl rfl rfl ?_
 obtain ⟨t1, hy1, hm⟩ := bind_some hm
 refine O.call Tryz.call18 rfl rfl rfl (c_flag_isNumber _ hy1) ?_
 rintro _ w1 hb1 rfl
 have H := H.ext hb1
 refine O.not rfl rfl rfl ?_
 refine WL.nil ?_
 rcases ite_some hm with ⟨hc1, hm⟩ | ⟨hc1, hm⟩
 ·
  refine W.cond_true (congrArg Value.bool hc1) ?_
  refine W.seq ?_
  refine W.region ?_
  have H := H.addNil (α := Int) (E := 3)
  refine O.assign (v := (.slice none 0 0)) rfl rfl rfl ?_
  refine O.assign (v := (.int .i64 7)) rfl rfl rfl ?_
  refine WL.nil ?_
  refine W.ret ?_
  have hq : (([] : List Int), 7) = (r0, r1) := Option.some.inj (show some (([] : List Int), 7) = some (r0, r1) from hm)
  obtain ⟨he0, hq0⟩ := Prod.mk.inj hq; clear hq; subst he0
  subst hq0
  exact ends2 Tryz.results7 rfl rfl ⟨_, rfl, H.base, ⟨_, rfl, H.ownR 1 rfl⟩⟩
 ·
  refine W.cond_false (congrArg Value.bool hc1) ?_
  refine W.skip ?_
  refine W.seq ?_
  refine W.region ?_
  refine O.move (v := (.int .i64 a0)) rfl rfl rfl ?_
  obtain ⟨t2, hy2, hm⟩ := bind_some hm
  refine O.call Tryz.call19 rfl rfl rfl (c_flag_digitsOf (hT.mono H.base) _ hy2) ?_
  rintro v1 w2 hb2 ho1
  have H := H.addOwn hb2 ho1
  refine O.assign (v := v1) rfl rfl rfl ?_
  refine O.assign (v := (.int .i64 0)) rfl rfl rfl ?_
  refine WL.nil ?_
  refine W.ret ?_
  have hq : (t2, 0) = (r0, r1) := Option.some.inj (show some (t2, 0) = some (r0, r1) from hm)
  obtain ⟨he0, hq0⟩ := Prod.mk.inj hq; clear hq; subst he0
  subst hq0
  exact ends2 Tryz.results7 rfl rfl ⟨_, rfl, H.base, ⟨_, rfl, H.ownR 1 rfl⟩⟩

theorem c_flag_ValidBook_c1 {w0 : World} (a0 : Int) {r0 : Bool} (hm : flag_ValidBook_c1 a0 = some r0) :
  Calls Tryz.prog 20 #[(.int .i32 a0)] w0 (Ret w0 fun _ v => v = (.bool r0)) := by
 unfold flag_ValidBook_c1 at hm
 refine calls_of_W Tryz.func20 rfl Tryz.ntmps20 (Nat.le_of_ble_eq_true rfl) ?_
 have H := Inv.start (w := w0)
 refine W.seq ?_
 refine W.region ?_
 refine O.assign (v := (.bool false)) rfl rfl rfl ?_
 refine WL.nil ?_
 refine W.seq ?_
 refine W.region ?_
 refine O.move (v := (.int .i32 a0)) rfl rfl rfl ?_
 refine O.lss rfl rfl rfl rfl ?_
 refine O.move (v := (.bool (decide (a0 < 32)))) rfl rfl rfl ?_
 refine WL.cut 3 (fun f w => f 8 = .bool ((decide (a0 < 32)) || (decide (126 < a0))) ∧ Inv w0 w []) ?_ ?_
 ·
  rcases bool_ft (decide (a0 < 32)) with hc1 | hc1
  ·
   refine WL.reset (i := 5) (v := .bool false) (congrArg Value.bool hc1) ?_
   refine O.move (v := (.int .i32 a0)) rfl rfl rfl ?_
   refine O.gtr rfl rfl rfl rfl ?_
   refine O.pick_false (v := (.bool (decide (126 < a0)))) rfl rfl rfl rfl ?_
   exact WL.nil ⟨congrArg Value.bool (or_f hc1), H⟩
  ·
   refine WL.reset (i := 5) (v := .bool true) (congrArg Value.bool hc1) ?_
   refine O.skip rfl rfl ?_
   refine O.skip rfl rfl ?_
   refine O.pick_true (v := (.bool true)) rfl rfl rfl rfl ?_
   exact WL.nil ⟨congrArg Value.bool (or_t hc1), H⟩
 ·
  rintro f w ⟨hf8, H⟩
  obtain ⟨u1, rfl⟩ := up1 hf8
  refine O.assign (v := (.bool ((decide (a0 < 32)) || (decide (126 < a0))))) rfl rfl rfl ?_
  refine WL.nil ?_
  refine W.ret ?_
  have hq : ((decide (a0 < 32)) || (decide (126 < a0))) = r0 := Option.some.inj (show some ((decide (a0 < 32)) || (decide (126 < a0))) = some r0 from hm)
  subst hq
  exact ends1 Tryz.results20 rfl ⟨_, rfl, H.base, rfl⟩

theorem c_strings_indexFunc {w0 : World} (a0 : ByteArray) (va1 : Value) (a1 : Int → Option (Bool)) (ha1 : ∀ (w : World), Below w0.heap.size w0 w → ∀ (x0 : Int) (y0 : Bool), a1 x0 = some y0 → CallsV Tryz.prog va1 #[(.int .i32 x0)] w (Ret w fun _ v => v = (.bool y0))) (a2 : Bool) {r0 : Int} (hm : strings_indexFunc a0 a1 a2 = some r0) :
  Calls Tryz.prog 66 #[(.string a0), va1, (.bool a2)] w0 (Ret w0 fun _ v => v = (.int .i64 r0)) := by
 unfold strings_indexFunc at hm
 split at hm
 case isFalse => cases hm
 rename_i hsz
 refine calls_of_W Tryz.func66 rfl Tryz.ntmps66 (Nat.le_of_ble_eq_true rfl) ?_
 have H := Inv.start (w := w0)
 refine W.seq ?_
 refine W.region ?_
 refine O.assign (v := (.int .i64 0)) rfl rfl rfl ?_
 refine WL.nil ?_
 refine W.seq ?_
 refine W.via (fun f w => r0 = -1 ∧ Inv w0 w []) ?_ ?_
 ·
  refine W.seq ?_
  refine W.region ?_
  refine O.move (v := (.string a0)) rfl rfl rfl ?_
  refine O.rangeS Tryz.underlying9 H rfl rfl rfl ?_
  intro bi w2 H hb2
  refine WL.nil ?_
  refine W.block ?_
  refine W.loopL (l := runesL a0 (a0.size + 1) 0) (fun rem f w => ∃ (n at_ : Nat), runesL a0 n at_ = rem ∧ a0.size + 1 ≤ n + at_ ∧ idxR a1 a2 rem = some r0 ∧ f 10 = .pointer (some ⟨bi, 0, none⟩) ∧ f 1 = va1 ∧ f 2 = (.bool a2) ∧ Inv w0 w [strI bi a0 at_]) ?_ ?_ ?_
  · exact ⟨_, 0, rfl, Nat.le_refl _, hm, rfl, rfl, rfl, H⟩
  ·
   rintro ⟨y, r⟩ ys f w ⟨n, at_, hd, hn, hi, hf10, hf1, hf2, H⟩
   obtain ⟨u1, rfl⟩ := up3 hf10 hf1 hf2
   cases n with
   | zero => simp [runesL] at hd
   | succ n =>
    rw [runesL] at hd
    split at hd
    case isFalse => cases hd
    rename_i hlt
    have hw := dec_w a0 at_
    obtain ⟨hd1, hd2⟩ := List.cons.inj hd
    obtain ⟨rfl, rfl⟩ := Prod.mk.inj hd1
    rw [idxR] at hi
    obtain ⟨t, ht, hi⟩ := bind_some hi
    refine W.seq ?_
    refine W.region ?_
    refine O.nextR 0 H rfl hlt rfl rfl rfl ?_
    intro w1 H
    refine O.extract (v := .bool true) rfl rfl rfl rfl ?_
    refine WL.nil ?_
    refine W.seq ?_
    refine W.cond_true rfl ?_
    refine W.skip ?_
    refine W.block ?_
    refine W.seq ?_
    refine W.region ?_
    refine O.extract (v := (.int .i64 (at_ : Int))) rfl rfl rfl rfl ?_
    refine O.extract (v := (.int .i32 ((Utf8.decode a0 at_).1 : Int))) rfl rfl rfl rfl ?_
    refine O.assign (v := (.int .i64 (at_ : Int))) rfl rfl rfl ?_
    refine O.assign (v := (.int .i32 ((Utf8.decode a0 at_).1 : Int))) rfl rfl rfl ?_
    refine WL.nil ?_
    refine W.seq ?_
    refine W.region ?_
    refine O.move (v := va1) rfl rfl rfl ?_
    refine O.move (v := (.int .i32 ((Utf8.decode a0 at_).1 : Int))) rfl rfl rfl ?_
    refine O.callV rfl rfl rfl rfl (ha1 _ H.base _ _ ht) ?_
    rintro _ w3 hb3 rfl
    have H := H.ext hb3
    refine O.move (v := (.bool a2)) rfl rfl rfl ?_
    refine O.eqlB Tryz.underlying4 rfl rfl rfl rfl ?_
    refine WL.nil ?_
    rcases ite_some hi with ⟨hc, hi⟩ | ⟨hc, hi⟩
    ·
     refine W.cond_true (congrArg Value.bool hc) ?_
     refine W.seq ?_
     refine W.region ?_
     refine O.move (v := (.int .i64 (at_ : Int))) rfl rfl rfl ?_
     refine O.assign (v := (.int .i64 (at_ : Int))) rfl rfl rfl ?_
     refine WL.nil ?_
     refine W.ret ?_
     obtain rfl := Option.some.inj hi
     exact ends1 Tryz.results66 rfl ⟨_, rfl, H.base, rfl⟩
    ·
     refine W.cond_false (congrArg Value.bool hc) ?_
     refine W.skip ?_
     exact ⟨n, at_ + (Utf8.decode a0 at_).2, hd2, by omega, hi, rfl, rfl, rfl, H⟩
  ·
   rintro f w ⟨n, at_, hd, hn, hi, hf10, hf1, hf2, H⟩
   obtain ⟨u1, rfl⟩ := up1 hf10
   have hge : ¬ at_ < a0.size := by
    intro h
    cases n with
    | zero => omega
    | succ n => rw [runesL, if_pos h] at hd; cases hd
   refine W.seq ?_
   refine W.region ?_
   refine O.endS 0 H rfl hge rfl rfl rfl ?_
   refine O.extract (v := .bool false) rfl rfl rfl rfl ?_
   refine WL.nil ?_
   refine W.seq ?_
   refine W.cond_false rfl ?_
   refine W.exit ?_
   refine xT rfl ?_
   exact ⟨(Option.some.inj hi).symm, H.keep [] [] rfl (by decide)⟩
 ·
  rintro f w ⟨rfl, H⟩
  refine W.seq ?_
  refine W.region ?_
  refine O.assign (v := (.int .i64 (-1))) rfl rfl rfl ?_
  refine WL.nil ?_
  refine W.ret ?_
  exact ends1 Tryz.results66 rfl ⟨_, rfl, H.base, rfl⟩

theorem c_strings_IndexFunc {w0 : World} (a0 : ByteArray) (va1 : Value) (a1 : Int → Option (Bool)) (ha1 : ∀ (w : World), Below w0.heap.size w0 w → ∀ (x0 : Int) (y0 : Bool), a1 x0 = some y0 → CallsV Tryz.prog va1 #[(.int .i32 x0)] w (Ret w fun _ v => v = (.bool y0))) {r0 : Int} (hm : strings_IndexFunc a0 a1 = some r0) :
  Calls Tryz.prog 51 #[(.string a0), va1] w0 (Ret w0 fun _ v => v = (.int .i64 r0)) := by
 unfold strings_IndexFunc at hm
 refine calls_of_W Tryz.func51 rfl Tryz.ntmps51 (Nat.le_of_ble_eq_true rfl) ?_
 have H := Inv.start (w := w0)
 refine W.seq ?_
 refine W.region ?_
 refine O.assign (v := (.int .i64 0)) rfl rfl rfl ?_
 refine WL.nil ?_
 refine W.seq ?_
 refine W.region ?_
 refine O.move (v := (.string a0)) rfl rfl rfl ?_
 refine O.move (v := va1) rfl rfl rfl ?_
 obtain ⟨t1, hy1, hm⟩ := bind_some hm
 refine O.call Tryz.call66 rfl rfl rfl (c_strings_indexFunc _ va1 a1 (fun w hw => ha1 w (H.base.trans (hw.mono H.base.size))) _ hy1) ?_
 rintro _ w1 hb1 rfl
 have H := H.ext hb1
 refine O.assign (v := (.int .i64 t1)) rfl rfl rfl ?_
 refine WL.nil ?_
 refine W.ret ?_
 have hq : t1 = r0 := Option.some.inj (show some t1 = some r0 from hm)
 subst hq
 exact ends1 Tryz.results51 rfl ⟨_, rfl, H.base, rfl⟩

theorem c_strings_ContainsFunc {w0 : World} (a0 : ByteArray) (va1 : Value) (a1 : Int → Option (Bool)) (ha1 : ∀ (w : World), Below w0.heap.size w0 w → ∀ (x0 : Int) (y0 : Bool), a1 x0 = some y0 → CallsV Tryz.prog va1 #[(.int .i32 x0)] w (Ret w fun _ v => v = (.bool y0))) {r0 : Bool} (hm : strings_ContainsFunc a0 a1 = some r0) :
  Calls Tryz.prog 22 #[(.string a0), va1] w0 (Ret w0 fun _ v => v = (.bool r0)) := by
 unfold strings_ContainsFunc at hm
 refine calls_of_W Tryz.func22 rfl Tryz.ntmps22 (Nat.le_of_ble_eq_true rfl) ?_
 have H := Inv.start (w := w0)
 refine W.seq ?_
 refine W.region ?_
 refine O.assign (v := (.bool false)) rfl rfl rfl ?_
 refine WL.nil ?_
 refine W.seq ?_
 refine W.region ?_
 refine O.move (v := (.string a0)) rfl rfl rfl ?_
 refine O.move (v := va1) rfl rfl rfl ?_
 obtain ⟨t1, hy1, hm⟩ := bind_some hm
 refine O.call Tryz.call51 rfl rfl rfl (c_strings_IndexFunc _ va1 a1 (fun w hw => ha1 w (H.base.trans (hw.mono H.base.size))) hy1) ?_
 rintro _ w1 hb1 rfl
 have H := H.ext hb1
 refine O.geq rfl rfl rfl rfl ?_
 refine O.assign (v := (.bool (decide (0 ≤ t1)))) rfl rfl rfl ?_
 refine WL.nil ?_
 refine W.ret ?_
 have hq : (decide (0 ≤ t1)) = r0 := Option.some.inj (show some (decide (0 ≤ t1)) = some r0 from hm)
 subst hq
 exact ends1 Tryz.results22 rfl ⟨_, rfl, H.base, rfl⟩

set_option maxRecDepth 20000 in
theorem c_flag_ValidBook {w0 : World} (va0 : Value) (a0 : (List GMeaning)) (ha0 : SliceR w0 va0 a0) {r0 : Bool} (hm : flag_ValidBook a0 = some r0) :
  Calls Tryz.prog 8 #[va0] w0 (Ret w0 fun _ v => v = (.bool r0)) := by
 unfold flag_ValidBook at hm
 refine calls_of_W Tryz.func8 rfl Tryz.ntmps8 (Nat.le_of_ble_eq_true rfl) ?_
 have H := Inv.start (w := w0)
 refine W.seq ?_
 refine W.region ?_
 refine O.assign (v := (.bool false)) rfl rfl rfl ?_
 refine WL.nil ?_
 refine W.seq ?_
 refine W.region ?_
 refine O.assign (v := (.func (.func 20) #[] #[])) rfl rfl rfl ?_
 refine WL.nil ?_
 refine W.seq ?_
 refine W.seq ?_
 refine W.region ?_
 refine O.move (v := va0) rfl rfl rfl ?_
 refine O.lenS Tryz.underlying29 (H.arg ha0) rfl rfl rfl ?_
 refine O.move (v := (.int .i64 0)) rfl rfl rfl ?_
 refine WL.nil ?_
 obtain ⟨o1, hm1, hm⟩ := bind_some hm
 refine W.via (fun f w => o1 = .next () ∧ f 0 = va0 ∧ Inv w0 w []) ?_ ?_
 ·
  refine W.block ?_
  have hbdik1 := (H.arg ha0).len_le
  refine W.rangeN (i := 0) hm1 (fun rem ik1 s f w => () = s ∧ (ik1 : Int) + rem = max 0 ((a0.length : Nat) : Int) ∧ f 8 = .int .i64 (ik1 : Int) ∧ f 7 = (.int .i64 ((a0.length : Nat) : Int)) ∧ f 0 = va0 ∧ f 3 = (.func (.func 20) #[] #[]) ∧ f 6 = va0 ∧ Inv w0 w []) ?_ ?_ ?_
  ·
   exact ⟨rfl, rangeN_start, rfl, rfl, rfl, rfl, rfl, H⟩
  ·
   rintro k ik1 _ st f w ⟨rfl, hdropk1, hf8, hf7, hf0, hf3, hf6, H⟩ hm2
   have hltk1 := rangeN_lt hdropk1
   obtain ⟨u1, rfl⟩ := up5 hf8 hf7 hf0 hf3 hf6
   have hinck1 := addI_lt hltk1 hbdik1
   refine W.seq ?_
   refine W.region ?_
   refine O.lss rfl rfl rfl rfl ?_
   refine WL.nil ?_
   refine W.seq ?_
   refine W.cond_true (congrArg Value.bool (decide_eq_true hltk1)) ?_
   refine W.skip ?_
   refine W.seq ?_
   refine W.block ?_
   refine W.seq ?_
   refine W.region ?_
   refine O.move (v := (.int .i64 (ik1 : Int))) rfl rfl rfl ?_
   obtain ⟨x1, hx1, hm2⟩ := bind_some hm2
   obtain ⟨p1, hp1, hrp1⟩ := fix_indexAddr Tryz.underlying29 sz32 ha0 hx1
   refine hrp1 rfl rfl rfl rfl ?_
   refine O.loadA [(.int .i64 x1.Number), (.string x1.Text)] ag32 rfl rfl rfl rfl ((hp1.mono H.base).flat) ?_
   refine O.alloc [(.int .i64 0), (.string ByteArray.empty)] ze32 H rfl rfl rfl ?_
   intro b1 w1 H hb1
   refine O.assign (v := (.int .i64 (ik1 : Int))) rfl rfl rfl ?_
   refine O.store 0 0 [(.int .i64 x1.Number), (.string x1.Text)] [(.int .i64 x1.Number), (.string x1.Text)] sz32 H rfl rfl rfl rfl rfl rfl ⟨⟨rfl, rfl⟩, rfl⟩ (one_cons rfl (one_cons rfl one_nil)) ?_
   intro w2 H
   refine WL.nil ?_
   refine W.seq ?_
   obtain ⟨t1, hy1, hm2⟩ := bind_some hm2
   obtain ⟨b2, hm3, hm2⟩ := bind_some hm2
   obtain ⟨b4, hm5, hm2⟩ := bind_some hm2
   obtain ⟨b5, hm6, hm2⟩ := bind_some hm2
   refine W.drawN 32 (fun f => f 0 = va0 ∧ f 3 = (.func (.func 20) #[] #[]) ∧ f 6 = va0 ∧ f 7 = (.int .i64 ((a0.length : Nat) : Int)) ∧ f 8 = (.int .i64 (ik1 : Int)) ∧ f 44 = (.bool b5)) fol (by kernel_rfl) ?_ ?_
   ·
    refine PL.of (fun _ w8 _ hx => O.fieldAddr fd32_0 rfl rfl rfl (WL.nil ⟨rfl, hx⟩)) ?_
    refine PL.of (fun _ w8 _ hx => by have H := H.ext hx; exact O.load sc3 rfl rfl rfl (H.cell 0 rfl 0 _ rfl) (WL.nil ⟨rfl, hx⟩)) ?_
    refine PL.of (fun _ w8 _ hx => O.call Tryz.call18 rfl rfl rfl (c_flag_isNumber _ hy1) (by rintro _ _ hb rfl; exact WL.nil ⟨rfl, hx.trans (hb.mono hx.size)⟩)) ?_
    refine PL.of (fun _ w8 _ hx => O.not rfl rfl rfl (WL.nil ⟨rfl, hx⟩)) ?_
    refine PL.of (fun _ w8 _ hx => O.move (v := (.bool (!t1))) rfl rfl rfl (WL.nil ⟨rfl, hx⟩)) ?_
    refine PL.cut 14 (fun f => f 0 = va0 ∧ f 3 = (.func (.func 20) #[] #[]) ∧ f 5 = (.pointer (some ⟨b1, 0, none⟩)) ∧ f 6 = va0 ∧ f 7 = (.int .i64 ((a0.length : Nat) : Int)) ∧ f 8 = (.int .i64 (ik1 : Int)) ∧ f 31 = .bool b2) ?_ ?_
    ·
     rcases ite_some hm3 with ⟨hc1, hm3⟩ | ⟨hc1, hm3⟩
     ·
      refine PL.reset (i := 17) (v := .bool true) (congrArg Value.bool hc1) ?_
      refine PL.of (fun _ w8 _ hx => O.skip rfl rfl (WL.nil ⟨rfl, hx⟩)) ?_
      refine PL.of (fun _ w8 _ hx => O.skip rfl rfl (WL.nil ⟨rfl, hx⟩)) ?_
      refine PL.of (fun _ w8 _ hx => O.skip rfl rfl (WL.nil ⟨rfl, hx⟩)) ?_
      refine PL.of (fun _ w8 _ hx => O.skip rfl rfl (WL.nil ⟨rfl, hx⟩)) ?_
      refine PL.of (fun _ w8 _ hx => O.skip rfl rfl (WL.nil ⟨rfl, hx⟩)) ?_
      refine PL.of (fun _ w8 _ hx => O.skip rfl rfl (WL.nil ⟨rfl, hx⟩)) ?_
      refine PL.of (fun _ w8 _ hx => O.skip rfl rfl (WL.nil ⟨rfl, hx⟩)) ?_
      refine PL.of (fun _ w8 _ hx => O.skip rfl rfl (WL.nil ⟨rfl, hx⟩)) ?_
      refine PL.of (fun _ w8 _ hx => O.skip rfl rfl (WL.nil ⟨rfl, hx⟩)) ?_
      refine PL.of (fun _ w8 _ hx => O.skip rfl rfl (WL.nil ⟨rfl, hx⟩)) ?_
      refine PL.of (fun _ w8 _ hx => O.skip rfl rfl (WL.nil ⟨rfl, hx⟩)) ?_
      refine PL.of (fun _ w8 _ hx => O.skip rfl rfl (WL.nil ⟨rfl, hx⟩)) ?_
      refine PL.of (fun _ w8 _ hx => O.skip rfl rfl (WL.nil ⟨rfl, hx⟩)) ?_
      refine PL.of (fun _ w8 _ hx => O.pick_true (v := (.bool true)) rfl rfl rfl rfl (WL.nil ⟨rfl, hx⟩)) ?_
      refine PL.nil ?_
      have hq : true = b2 := Option.some.inj (show some true = some b2 from hm3)
      subst hq
      exact ⟨rfl, rfl, rfl, rfl, rfl, rfl, rfl⟩
     ·
      refine PL.reset (i := 17) (v := .bool false) (congrArg Value.bool hc1) ?_
      refine PL.of (fun _ w8 _ hx => O.move (v := (.int .i64 (ik1 : Int))) rfl rfl rfl (WL.nil ⟨rfl, hx⟩)) ?_
      refine PL.of (fun _ w8 _ hx => O.gtr rfl rfl rfl rfl (WL.nil ⟨rfl, hx⟩)) ?_
      refine PL.of (fun _ w8 _ hx => O.move (v := (.bool (decide (0 < (ik1 : Int))))) rfl rfl rfl (WL.nil ⟨rfl, hx⟩)) ?_
      obtain ⟨b3, hm4, hm3⟩ := bind_some hm3
      refine PL.cut 10 (fun f => f 0 = va0 ∧ f 3 = (.func (.func 20) #[] #[]) ∧ f 5 = (.pointer (some ⟨b1, 0, none⟩)) ∧ f 6 = va0 ∧ f 7 = (.int .i64 ((a0.length : Nat) : Int)) ∧ f 8 = (.int .i64 (ik1 : Int)) ∧ f 17 = (.bool false) ∧ f 18 = (.int .i64 (ik1 : Int)) ∧ f 19 = (.bool (decide (0 < (ik1 : Int)))) ∧ f 20 = (.bool (decide (0 < (ik1 : Int)))) ∧ f 30 = .bool b3) ?_ ?_
      ·
       rcases ite_some hm4 with ⟨hc2, hm4⟩ | ⟨hc2, hm4⟩
       ·
        refine PL.reset (i := 20) (v := .bool true) (congrArg Value.bool hc2) ?_
        refine PL.of (fun _ w8 _ hx => O.fieldAddr fd32_0 rfl rfl rfl (WL.nil ⟨rfl, hx⟩)) ?_
        refine PL.of (fun _ w8 _ hx => by have H := H.ext hx; exact O.load sc3 rfl rfl rfl (H.cell 0 rfl 0 _ rfl) (WL.nil ⟨rfl, hx⟩)) ?_
        refine PL.of (fun _ w8 _ hx => O.move (v := va0) rfl rfl rfl (WL.nil ⟨rfl, hx⟩)) ?_
        refine PL.of (fun _ w8 _ hx => O.move (v := (.int .i64 (ik1 : Int))) rfl rfl rfl (WL.nil ⟨rfl, hx⟩)) ?_
        obtain ⟨t2, ht2, hm4⟩ := bind_some hm4
        refine PL.of (fun _ w8 _ hx => O.sub rfl rfl rfl rfl ht2 (WL.nil ⟨rfl, hx⟩)) ?_
        obtain ⟨x2, hx2, hm4⟩ := bind_some hm4
        obtain ⟨p2, hp2, hrp2⟩ := fix_indexAddr Tryz.underlying29 sz32 (H.arg ha0) hx2
        refine PL.of (fun _ w8 _ hx => hrp2 rfl rfl rfl rfl (WL.nil ⟨rfl, hx⟩)) ?_
        refine PL.of (fun _ w8 _ hx => O.fieldAddr fd32_0 rfl rfl rfl (WL.nil ⟨rfl, hx⟩)) ?_
        refine PL.of (fun _ w8 _ hx => by have hp2 := hp2.mono hx; exact O.load sc3 rfl rfl rfl (hp2.flat 0 _ rfl) (WL.nil ⟨rfl, hx⟩)) ?_
        refine PL.of (fun _ w8 _ hx => O.leq rfl rfl rfl rfl (WL.nil ⟨rfl, hx⟩)) ?_
        refine PL.of (fun _ w8 _ hx => O.pick_true (v := (.bool (decide (x1.Number ≤ x2.Number)))) rfl rfl rfl rfl (WL.nil ⟨rfl, hx⟩)) ?_
        refine PL.nil ?_
        have hq : (decide (x1.Number ≤ x2.Number)) = b3 := Option.some.inj (show some (decide (x1.Number ≤ x2.Number)) = some b3 from hm4)
        subst hq
        exact ⟨rfl, rfl, rfl, rfl, rfl, rfl, rfl, rfl, rfl, (congrArg Value.bool hc2).symm, rfl⟩
       ·
        refine PL.reset (i := 20) (v := .bool false) (congrArg Value.bool hc2) ?_
        refine PL.of (fun _ w8 _ hx => O.skip rfl rfl (WL.nil ⟨rfl, hx⟩)) ?_
        refine PL.of (fun _ w8 _ hx => O.skip rfl rfl (WL.nil ⟨rfl, hx⟩)) ?_
        refine PL.of (fun _ w8 _ hx => O.skip rfl rfl (WL.nil ⟨rfl, hx⟩)) ?_
        refine PL.of (fun _ w8 _ hx => O.skip rfl rfl (WL.nil ⟨rfl, hx⟩)) ?_
        refine PL.of (fun _ w8 _ hx => O.skip rfl rfl (WL.nil ⟨rfl, hx⟩)) ?_
        refine PL.of (fun _ w8 _ hx => O.skip rfl rfl (WL.nil ⟨rfl, hx⟩)) ?_
        refine PL.of (fun _ w8 _ hx => O.skip rfl rfl (WL.nil ⟨rfl, hx⟩)) ?_
        refine PL.of (fun _ w8 _ hx => O.skip rfl rfl (WL.nil ⟨rfl, hx⟩)) ?_
        refine PL.of (fun _ w8 _ hx => O.skip rfl rfl (WL.nil ⟨rfl, hx⟩)) ?_
        refine PL.of (fun _ w8 _ hx => O.pick_false (v := (.bool false)) rfl rfl rfl rfl (WL.nil ⟨rfl, hx⟩)) ?_
        refine PL.nil ?_
        have hq : false = b3 := Option.some.inj (show some false = some b3 from hm4)
        subst hq
        exact ⟨rfl, rfl, rfl, rfl, rfl, rfl, rfl, rfl, rfl, (congrArg Value.bool hc2).symm, rfl⟩
      ·
       rintro f ⟨hf0, hf3, hf5, hf6, hf7, hf8, hf17, hf18, hf19, hf20, hf30⟩
       obtain ⟨u2, rfl⟩ : ∃ u2, f = (upd (upd (upd (upd (upd (upd (upd (upd (upd (upd (upd u2 0 va0) 3 (.func (.func 20) #[] #[])) 5 (.pointer (some ⟨b1, 0, none⟩))) 6 va0) 7 (.int .i64 ((a0.length : Nat) : Int))) 8 (.int .i64 (ik1 : Int))) 17 (.bool false)) 18 (.int .i64 (ik1 : Int))) 19 (.bool (decide (0 < (ik1 : Int))))) 20 (.bool (decide (0 < (ik1 : Int))))) 30 (.bool b3)) := ⟨f, by rw [upd_self hf0, upd_self hf3, upd_self hf5, upd_self hf6, upd_self hf7, upd_self hf8, upd_self hf17, upd_self hf18, upd_self hf19, upd_self hf20, upd_self hf30]⟩
       refine PL.of (fun _ w8 _ hx => O.pick_false (v := (.bool b3)) rfl rfl rfl rfl (WL.nil ⟨rfl, hx⟩)) ?_
       refine PL.nil ?_
       have hq : b3 = b2 := Option.some.inj (show some b3 = some b2 from hm3)
       subst hq
       exact ⟨rfl, rfl, rfl, rfl, rfl, rfl, rfl⟩
    ·
     rintro f ⟨hf0, hf3, hf5, hf6, hf7, hf8, hf31⟩
     obtain ⟨u3, rfl⟩ := up7 hf0 hf3 hf5 hf6 hf7 hf8 hf31
     refine PL.of (fun _ w8 _ hx => O.move (v := (.bool b2)) rfl rfl rfl (WL.nil ⟨rfl, hx⟩)) ?_
     refine PL.cut 6 (fun f => f 0 = va0 ∧ f 3 = (.func (.func 20) #[] #[]) ∧ f 5 = (.pointer (some ⟨b1, 0, none⟩)) ∧ f 6 = va0 ∧ f 7 = (.int .i64 ((a0.length : Nat) : Int)) ∧ f 8 = (.int .i64 (ik1 : Int)) ∧ f 38 = .bool b4) ?_ ?_
     ·
      rcases ite_some hm5 with ⟨hc3, hm5⟩ | ⟨hc3, hm5⟩
      ·
       refine PL.reset (i := 32) (v := .bool true) (congrArg Value.bool hc3) ?_
       refine PL.of (fun _ w8 _ hx => O.skip rfl rfl (WL.nil ⟨rfl, hx⟩)) ?_
       refine PL.of (fun _ w8 _ hx => O.skip rfl rfl (WL.nil ⟨rfl, hx⟩)) ?_
       refine PL.of (fun _ w8 _ hx => O.skip rfl rfl (WL.nil ⟨rfl, hx⟩)) ?_
       refine PL.of (fun _ w8 _ hx => O.skip rfl rfl (WL.nil ⟨rfl, hx⟩)) ?_
       refine PL.of (fun _ w8 _ hx => O.skip rfl rfl (WL.nil ⟨rfl, hx⟩)) ?_
       refine PL.of (fun _ w8 _ hx => O.pick_true (v := (.bool true)) rfl rfl rfl rfl (WL.nil ⟨rfl, hx⟩)) ?_
       refine PL.nil ?_
       have hq : true = b4 := Option.some.inj (show some true = some b4 from hm5)
       subst hq
       exact ⟨rfl, rfl, rfl, rfl, rfl, rfl, rfl⟩
      ·
       refine PL.reset (i := 32) (v := .bool false) (congrArg Value.bool hc3) ?_
       refine PL.of (fun _ w8 _ hx => O.fieldAddr fd32_1 rfl rfl rfl (WL.nil ⟨rfl, hx⟩)) ?_
       refine PL.of (fun _ w8 _ hx => by have H := H.ext hx; exact O.load sc9 rfl rfl rfl (H.cell 0 rfl 1 _ rfl) (WL.nil ⟨rfl, hx⟩)) ?_
       refine PL.of (fun _ w8 _ hx => O.lenStr Tryz.underlying9 rfl rfl rfl (WL.nil ⟨rfl, hx⟩)) ?_
       obtain ⟨t3, hy2, hm5⟩ := bind_some hm5
       refine PL.of (fun _ w8 _ hx => O.call Tryz.call21 rfl rfl rfl (c_flag_within _ _ _ hy2) (by rintro _ _ hb rfl; exact WL.nil ⟨rfl, hx.trans (hb.mono hx.size)⟩)) ?_
       refine PL.of (fun _ w8 _ hx => O.not rfl rfl rfl (WL.nil ⟨rfl, hx⟩)) ?_
       refine PL.of (fun _ w8 _ hx => O.pick_false (v := (.bool (!t3))) rfl rfl rfl rfl (WL.nil ⟨rfl, hx⟩)) ?_
       refine PL.nil ?_
       have hq : (!t3) = b4 := Option.some.inj (show some (!t3) = some b4 from hm5)
       subst hq
       exact ⟨rfl, rfl, rfl, rfl, rfl, rfl, rfl⟩
     ·
      rintro f ⟨hf0, hf3, hf5, hf6, hf7, hf8, hf38⟩
      obtain ⟨u4, rfl⟩ := up7 hf0 hf3 hf5 hf6 hf7 hf8 hf38
      refine PL.of (fun _ w8 _ hx => O.move (v := (.bool b4)) rfl rfl rfl (WL.nil ⟨rfl, hx⟩)) ?_
      refine PL.cut 5 (fun f => f 0 = va0 ∧ f 3 = (.func (.func 20) #[] #[]) ∧ f 6 = va0 ∧ f 7 = (.int .i64 ((a0.length : Nat) : Int)) ∧ f 8 = (.int .i64 (ik1 : Int)) ∧ f 44 = .bool b5) ?_ ?_
      ·
       rcases ite_some hm6 with ⟨hc4, hm6⟩ | ⟨hc4, hm6⟩
       ·
        refine PL.reset (i := 39) (v := .bool true) (congrArg Value.bool hc4) ?_
        refine PL.of (fun _ w8 _ hx => O.skip rfl rfl (WL.nil ⟨rfl, hx⟩)) ?_
        refine PL.of (fun _ w8 _ hx => O.skip rfl rfl (WL.nil ⟨rfl, hx⟩)) ?_
        refine PL.of (fun _ w8 _ hx => O.skip rfl rfl (WL.nil ⟨rfl, hx⟩)) ?_
        refine PL.of (fun _ w8 _ hx => O.skip rfl rfl (WL.nil ⟨rfl, hx⟩)) ?_
        refine PL.of (fun _ w8 _ hx => O.pick_true (v := (.bool true)) rfl rfl rfl rfl (WL.nil ⟨rfl, hx⟩)) ?_
        refine PL.nil ?_
        have hq : true = b5 := Option.some.inj (show some true = some b5 from hm6)
        subst hq
        exact ⟨rfl, rfl, rfl, rfl, rfl, rfl⟩
       ·
        refine PL.reset (i := 39) (v := .bool false) (congrArg Value.bool hc4) ?_
        refine PL.of (fun _ w8 _ hx => O.fieldAddr fd32_1 rfl rfl rfl (WL.nil ⟨rfl, hx⟩)) ?_
        refine PL.of (fun _ w8 _ hx => by have H := H.ext hx; exact O.load sc9 rfl rfl rfl (H.cell 0 rfl 1 _ rfl) (WL.nil ⟨rfl, hx⟩)) ?_
        refine PL.of (fun _ w8 _ hx => O.move (v := (.func (.func 20) #[] #[])) rfl rfl rfl (WL.nil ⟨rfl, hx⟩)) ?_
        obtain ⟨t4, hy3, hm6⟩ := bind_some hm6
        refine PL.of (fun _ w8 _ hx => O.call Tryz.call22 rfl rfl rfl (c_strings_ContainsFunc _ _ (fun x0 => flag_ValidBook_c1 x0) (fun w hw x0 _ hy => callsV_mk Tryz.call20 (c_flag_ValidBook_c1 x0 hy)) hy3) (by rintro _ _ hb rfl; exact WL.nil ⟨rfl, hx.trans (hb.mono hx.size)⟩)) ?_
        refine PL.of (fun _ w8 _ hx => O.pick_false (v := (.bool t4)) rfl rfl rfl rfl (WL.nil ⟨rfl, hx⟩)) ?_
        refine PL.nil ?_
        have hq : t4 = b5 := Option.some.inj (show some t4 = some b5 from hm6)
        subst hq
        exact ⟨rfl, rfl, rfl, rfl, rfl, rfl⟩
      ·
       rintro f ⟨hf0, hf3, hf6, hf7, hf8, hf44⟩
       obtain ⟨u5, rfl⟩ := up6 hf0 hf3 hf6 hf7 hf8 hf44
       refine PL.nil ?_
       exact ⟨rfl, rfl, rfl, rfl, rfl, rfl⟩
   ·
    rintro f w ⟨hf0, hf3, hf6, hf7, hf8, hf44⟩ hmd hx
    have H := H.ext hx
    obtain ⟨u6, rfl⟩ := up6 hf0 hf3 hf6 hf7 hf8 hf44
    refine WL.nil ?_
    rcases ite_some hm2 with ⟨hc5, hm2⟩ | ⟨hc5, hm2⟩
    ·
     refine W.cond_true (congrArg Value.bool hc5) ?_
     refine W.seq ?_
     refine W.region ?_
     refine O.assign (v := (.bool false)) rfl rfl rfl ?_
     refine WL.nil ?_
     refine W.ret ?_
     obtain rfl := Option.some.inj hm2
     refine ⟨_, rfl, ?_⟩
     rintro rfl
     have hq : false = r0 := Option.some.inj (show some false = some r0 from hm)
     subst hq
     exact ends1 Tryz.results8 rfl ⟨_, rfl, H.base, rfl⟩
    ·
     refine W.cond_false (congrArg Value.bool hc5) ?_
     refine W.skip ?_
     refine W.region ?_
     refine O.add rfl rfl rfl rfl hinck1 ?_
     refine O.move (v := .int .i64 ((ik1 : Int) + 1)) rfl rfl rfl ?_
     refine WL.nil ?_
     have H := H.keep [] [] rfl (by decide)
     obtain rfl := Option.some.inj hm2
     exact ⟨_, rfl, rfl, rangeN_next hdropk1, rfl, rfl, rfl, rfl, rfl, H⟩
  ·
   rintro ik1 _ f w ⟨rfl, hdropk1, hf8, hf7, hf0, hf3, hf6, H⟩ hfin
   have hltk1 := rangeN_end hdropk1
   obtain ⟨u7, rfl⟩ := up5 hf8 hf7 hf0 hf3 hf6
   refine W.seq ?_
   refine W.region ?_
   refine O.lss rfl rfl rfl rfl ?_
   refine WL.nil ?_
   refine W.seq ?_
   refine W.cond_false (congrArg Value.bool (decide_eq_false hltk1)) ?_
   refine W.exit ?_
   obtain rfl : Ctl.next () = o1 := hfin
   refine xT rfl ?_
   exact ⟨rfl, rfl, H⟩
 ·
  rintro f w ⟨rfl, hf0, H⟩
  obtain ⟨u8, rfl⟩ := up1 hf0
  refine W.seq ?_
  refine W.region ?_
  refine O.move (v := va0) rfl rfl rfl ?_
  refine O.lenS Tryz.underlying29 (H.arg ha0) rfl rfl rfl ?_
  refine O.leq rfl rfl rfl rfl ?_
  refine O.assign (v := (.bool (decide (((a0.length : Nat) : Int) ≤ 200)))) rfl rfl rfl ?_
  refine WL.nil ?_
  refine W.ret ?_
  have hq : (decide (((a0.length : Nat) : Int) ≤ 200)) = r0 := Option.some.inj (show some (decide (((a0.length : Nat) : Int) ≤ 200)) = some r0 from hm)
  subst hq
  exact ends1 Tryz.results8 rfl ⟨_, rfl, H.base, rfl⟩

theorem c_flag_isSet {w0 : World} (a0 : Int) {r0 : Bool} (hm : flag_isSet a0 = some r0) :
  Calls Tryz.prog 23 #[(.int .i64 a0)] w0 (Ret w0 fun _ v => v = (.bool r0)) := by
 unfold flag_isSet at hm
 refine calls_of_W Tryz.func23 rfl Tryz.ntmps23 (Nat.le_of_ble_eq_true rfl) ?_
 have H := Inv.start (w := w0)
 refine W.seq ?_
 refine W.region ?_
 refine O.assign (v := (.bool false)) rfl rfl rfl ?_
 refine WL.nil ?_
 refine W.seq ?_
 refine W.region ?_
 refine O.move (v := (.int .i64 a0)) rfl rfl rfl ?_
 obtain ⟨t1, hy1, hm⟩ := bind_some hm
 refine O.call Tryz.call21 rfl rfl rfl (c_flag_within _ _ _ hy1) ?_
 rintro _ w1 hb1 rfl
 have H := H.ext hb1
 refine O.assign (v := (.bool t1)) rfl rfl rfl ?_
 refine WL.nil ?_
 refine W.ret ?_
 have hq : t1 = r0 := Option.some.inj (show some t1 = some r0 from hm)
 subst hq
 exact ends1 Tryz.results23 rfl ⟨_, rfl, H.base, rfl⟩

theorem c_flag_build {wi : World} {Kp : World → Prop} {pc0 : Addr} {vc0 : Value} {c0 : List Int} {l : Nat} {J : List (List Int) → (Nat → Prop) → World → Prop} {Jx : (Nat → Prop) → World → Prop} {r : List (List Int)}
    (hc : Client Tryz.prog wi.heap.size l repS (fun ys => ys = r) Kp J Jx)
    (hk : ∀ w, Kp w → (∀ j c, [vc0][j]? = some c → w.cell? (pc0.add j) = some c) ∧ SliceR w vc0 c0) (hlen : c0.length ≤ 1000) {bh bY bb : Nat} :
    ∀ (n : Nat) (pre : List (List Int)) (C : Nat → Prop) (w : World) (vh : Value) (hs : List Int) (left : Int),
      InvI wi w [consI hc pre C, boxI bY 69 [Value.func (.yield l) #[] #[]], boxI bh 33 [vh], boxI bb 58 [Value.func (.func 56) #[] #[.pointer (some ⟨bh, 0, none⟩), .pointer (some pc0), .pointer (some ⟨bY, 0, none⟩), .pointer (some ⟨bb, 0, none⟩)]], ownI vh 3 hs] →
      hs.length + n = c0.length → (∃ rest, pre ++ hoistsG c0 n hs left ++ rest = r) →
      Calls Tryz.prog 56 #[.int .i64 left, .pointer (some ⟨bh, 0, none⟩), .pointer (some pc0), .pointer (some ⟨bY, 0, none⟩), .pointer (some ⟨bb, 0, none⟩)] w fun e w' => ∃ u, e = .returned u ∧
        ((u = .bool true ∧ ∃ C' vh', InvI wi w' [consI hc (pre ++ hoistsG c0 n hs left) C', boxI bY 69 [Value.func (.yield l) #[] #[]], boxI bh 33 [vh'], boxI bb 58 [Value.func (.func 56) #[] #[.pointer (some ⟨bh, 0, none⟩), .pointer (some pc0), .pointer (some ⟨bY, 0, none⟩), .pointer (some ⟨bb, 0, none⟩)]], ownI vh' 3 hs]) ∨
         (u = .bool false ∧ ∃ C', InvI wi w' [consX hc C'])) := by
  intro n
  induction n with
  | zero =>
    intro pre C w vh hs left H hn hr
    refine calls_of_W Tryz.func56 rfl Tryz.ntmps56 (Nat.le_of_ble_eq_true rfl) ?_
    have hK := hk _ (InvI.kp H)
    have hlenH := (H.own 4 rfl).len_le
    refine W.seq ?_
    refine W.region ?_
    refine O.assign (v := .bool false) rfl rfl rfl ?_
    refine WL.nil ?_
    refine W.seq ?_
    refine W.region ?_
    refine O.load (q := ⟨bh, 0, none⟩) (v := vh) sc33 rfl rfl rfl (H.cell 2 rfl 0 _ rfl) ?_
    refine O.lenS Tryz.underlying33 (H.own 4 rfl) rfl rfl rfl ?_
    refine O.assign (v := .int .i64 (hs.length : Int)) rfl rfl rfl ?_
    refine WL.nil ?_
    refine W.seq ?_
    refine W.seq ?_
    refine W.region ?_
    refine O.move (v := .int .i64 (hs.length : Int)) rfl rfl rfl ?_
    refine O.load (q := pc0) (v := vc0) sc33 rfl rfl rfl (hK.1 0 _ rfl) ?_
    refine O.lenS Tryz.underlying33 hK.2 rfl rfl rfl ?_
    refine O.eql rfl rfl rfl rfl ?_
    refine WL.nil ?_
    refine W.cond_true (congrArg Value.bool (by rw [beq_iff_eq]; omega)) ?_
    refine W.seq ?_
    refine W.region ?_
    refine O.load (q := ⟨bY, 0, none⟩) (v := .func (.yield l) #[] #[]) sc69 rfl rfl rfl (H.cell 1 rfl 0 _ rfl) ?_
    refine O.load (q := ⟨bh, 0, none⟩) (v := vh) sc33 rfl rfl rfl (H.cell 2 rfl 0 _ rfl) ?_
    refine O.yield hs [vh] H (by obtain ⟨rest, hr⟩ := hr; exact ⟨rest, by rw [hoistsG, List.append_assoc] at hr; exact hr⟩) ⟨vh, rfl, H.own 4 rfl⟩ rfl rfl rfl rfl ?_ ?_
    · intro w' C' H
      refine O.assign (v := .bool true) rfl rfl rfl ?_
      refine WL.nil ?_
      refine W.ret ?_
      exact ends1 Tryz.results56 rfl ⟨_, rfl, .inl ⟨rfl, C', vh, H⟩⟩
    · intro w' C' H
      refine O.assign (v := .bool false) rfl rfl rfl ?_
      refine WL.nil ?_
      refine W.ret ?_
      exact ends1 Tryz.results56 rfl ⟨_, rfl, .inr ⟨rfl, C', H.pick [0] [consX hc C'] rfl (by decide)⟩⟩
  | succ n ih =>
    intro pre C w vh hs left H hn hr
    refine calls_of_W Tryz.func56 rfl Tryz.ntmps56 (Nat.le_of_ble_eq_true rfl) ?_
    have hK := hk _ (InvI.kp H)
    have hlt0 : hs.length < c0.length := by omega
    obtain ⟨dg, hdg⟩ : ∃ dg, idx c0 (hs.length : Int) = some dg := ⟨_, idx_at (List.getElem?_eq_getElem hlt0)⟩
    refine W.seq ?_
    refine W.region ?_
    refine O.assign (v := .bool false) rfl rfl rfl ?_
    refine WL.nil ?_
    refine W.seq ?_
    refine W.region ?_
    refine O.load (q := ⟨bh, 0, none⟩) (v := vh) sc33 rfl rfl rfl (H.cell 2 rfl 0 _ rfl) ?_
    refine O.lenS Tryz.underlying33 (H.own 4 rfl) rfl rfl rfl ?_
    refine O.assign (v := .int .i64 (hs.length : Int)) rfl rfl rfl ?_
    refine WL.nil ?_
    refine W.seq ?_
    refine W.seq ?_
    refine W.region ?_
    refine O.move (v := .int .i64 (hs.length : Int)) rfl rfl rfl ?_
    refine O.load (q := pc0) (v := vc0) sc33 rfl rfl rfl (hK.1 0 _ rfl) ?_
    refine O.lenS Tryz.underlying33 hK.2 rfl rfl rfl ?_
    refine O.eql rfl rfl rfl rfl ?_
    refine WL.nil ?_
    refine W.cond_false (congrArg Value.bool (by rw [beq_eq_false_iff_ne]; omega)) ?_
    refine W.skip ?_
    refine W.seq ?_
    refine W.seq ?_
    refine W.region ?_
    refine O.move (v := .int .i64 0) rfl rfl rfl ?_
    refine WL.nil ?_
    refine W.via (fun f w => f 7 = .int .i64 (hs.length : Int) ∧ ∃ C' vh', InvI wi w [consI hc (pre ++ hoistsG c0 (n + 1) hs left) C', boxI bY 69 [Value.func (.yield l) #[] #[]], boxI bh 33 [vh'], boxI bb 58 [Value.func (.func 56) #[] #[.pointer (some ⟨bh, 0, none⟩), .pointer (some pc0), .pointer (some ⟨bY, 0, none⟩), .pointer (some ⟨bb, 0, none⟩)]], ownI vh' 3 hs]) ?_ ?_
    · refine W.block ?_
      refine W.loopL (l := List.range 13) (fun rem f w => ∃ ik : Nat, (List.range 13).drop ik = rem ∧ f 19 = .int .i64 (ik : Int) ∧ f 0 = .int .i64 left ∧ f 1 = .pointer (some ⟨bh, 0, none⟩) ∧ f 2 = .pointer (some pc0) ∧ f 3 = .pointer (some ⟨bY, 0, none⟩) ∧ f 4 = .pointer (some ⟨bb, 0, none⟩) ∧ f 7 = .int .i64 (hs.length : Int) ∧
        ∃ C' vh', InvI wi w [consI hc (pre ++ ((List.range 13).take ik).flatMap fun f => if hoistsOk c0 hs left f then hoistsG c0 n (hs ++ [(f : Int)]) (bits .andNot .i64 left (2 ^ f)) else []) C', boxI bY 69 [Value.func (.yield l) #[] #[]], boxI bh 33 [vh'], boxI bb 58 [Value.func (.func 56) #[] #[.pointer (some ⟨bh, 0, none⟩), .pointer (some pc0), .pointer (some ⟨bY, 0, none⟩), .pointer (some ⟨bb, 0, none⟩)]], ownI vh' 3 hs]) ?_ ?_ ?_
      · exact ⟨0, rfl, rfl, rfl, rfl, rfl, rfl, rfl, rfl, C, vh, by simpa using H⟩
      · rintro y xs f w ⟨ik, hd, hf19, hf0, hf1, hf2, hf3, hf4, hf7, C, vh, H⟩
        have hy : y = ik ∧ ik < 13 := by
          have h := congrArg (fun m => m[0]?) hd
          simp only [List.getElem?_drop, Nat.add_zero, List.getElem?_cons_zero] at h
          have h13 := (List.getElem?_eq_some_iff.1 h).1
          rw [List.length_range] at h13
          rw [List.getElem?_range h13] at h
          exact ⟨(Option.some.inj h).symm, h13⟩
        obtain ⟨rfl, h13⟩ := hy
        obtain ⟨u1, rfl⟩ : ∃ u1, f = (upd (upd (upd (upd (upd (upd (upd u1 19 (.int .i64 (y : Int))) 0 (.int .i64 left)) 1 (.pointer (some ⟨bh, 0, none⟩))) 2 (.pointer (some pc0))) 3 (.pointer (some ⟨bY, 0, none⟩))) 4 (.pointer (some ⟨bb, 0, none⟩))) 7 (.int .i64 (hs.length : Int))) :=
          ⟨f, by rw [upd_self hf19, upd_self hf0, upd_self hf1, upd_self hf2, upd_self hf3, upd_self hf4, upd_self hf7]⟩
        have hK := hk _ (InvI.kp H)
        have hinc : addI (y : Int) 1 = some ((y : Int) + 1) := addI_ok (by omega)
        have htake : (List.range 13).take (y + 1) = (List.range 13).take y ++ [y] := by
          rw [List.take_add_one, List.getElem?_range h13]; rfl
        obtain ⟨p1, hp1, hr1⟩ := fix_indexAddr Tryz.underlying33 sz3 hK.2 hdg
        refine W.seq ?_
        refine W.region ?_
        refine O.lss rfl rfl rfl rfl ?_
        refine WL.nil ?_
        refine W.seq ?_
        refine W.cond_true (congrArg Value.bool (decide_eq_true (by omega))) ?_
        refine W.skip ?_
        refine W.seq ?_
        -- the round
        refine W.via (fun f w => f 19 = .int .i64 (y : Int) ∧ f 0 = .int .i64 left ∧ f 1 = .pointer (some ⟨bh, 0, none⟩) ∧ f 2 = .pointer (some pc0) ∧ f 3 = .pointer (some ⟨bY, 0, none⟩) ∧ f 4 = .pointer (some ⟨bb, 0, none⟩) ∧ f 7 = .int .i64 (hs.length : Int) ∧
          ∃ C' vh', InvI wi w [consI hc (pre ++ ((List.range 13).take (y + 1)).flatMap fun f => if hoistsOk c0 hs left f then hoistsG c0 n (hs ++ [(f : Int)]) (bits .andNot .i64 left (2 ^ f)) else []) C', boxI bY 69 [Value.func (.yield l) #[] #[]], boxI bh 33 [vh'], boxI bb 58 [Value.func (.func 56) #[] #[.pointer (some ⟨bh, 0, none⟩), .pointer (some pc0), .pointer (some ⟨bY, 0, none⟩), .pointer (some ⟨bb, 0, none⟩)]], ownI vh' 3 hs]) ?_ ?_
        · refine W.block ?_
          refine W.seq ?_
          refine W.region ?_
          refine O.move (v := .int .i64 (y : Int)) rfl rfl rfl ?_
          refine O.assign (v := .int .i64 (y : Int)) rfl rfl rfl ?_
          refine WL.nil ?_
          refine W.seq ?_
          refine W.region ?_
          refine O.move (v := .int .i64 (y : Int)) rfl rfl rfl ?_
          refine O.load (q := pc0) (v := vc0) sc33 rfl rfl rfl (hK.1 0 _ rfl) ?_
          refine O.move (v := .int .i64 (hs.length : Int)) rfl rfl rfl ?_
          refine hr1 rfl rfl rfl rfl ?_
          refine O.load sc3 rfl rfl rfl (hp1.flat 0 _ rfl) ?_
          refine O.eql rfl rfl rfl rfl ?_
          refine O.assign (v := .bool ((y : Int) == dg)) rfl rfl rfl ?_
          refine WL.nil ?_
          refine W.seq ?_
          -- does the flag fit?
          refine W.via (fun f w' => w'.heap.size = w'.heap.size ∧ f 9 = .bool (hoistsFit c0 hs (y : Int)) ∧ f 8 = .int .i64 (y : Int) ∧ f 19 = .int .i64 (y : Int) ∧ f 0 = .int .i64 left ∧ f 1 = .pointer (some ⟨bh, 0, none⟩) ∧ f 2 = .pointer (some pc0) ∧ f 3 = .pointer (some ⟨bY, 0, none⟩) ∧ f 4 = .pointer (some ⟨bb, 0, none⟩) ∧ f 7 = .int .i64 (hs.length : Int) ∧
            InvI wi w' [consI hc (pre ++ ((List.range 13).take y).flatMap fun f => if hoistsOk c0 hs left f then hoistsG c0 n (hs ++ [(f : Int)]) (bits .andNot .i64 left (2 ^ f)) else []) C, boxI bY 69 [Value.func (.yield l) #[] #[]], boxI bh 33 [vh], boxI bb 58 [Value.func (.func 56) #[] #[.pointer (some ⟨bh, 0, none⟩), .pointer (some pc0), .pointer (some ⟨bY, 0, none⟩), .pointer (some ⟨bb, 0, none⟩)]], ownI vh 3 hs]) ?_ ?_
          · refine W.seq ?_
            refine W.region ?_
            refine O.move (v := .int .i64 (y : Int)) rfl rfl rfl ?_
            refine O.geq rfl rfl rfl rfl ?_
            refine WL.nil ?_
            by_cases h10 : (10 : Int) ≤ (y : Int)
            · refine W.cond_true (congrArg Value.bool (decide_eq_true h10)) ?_
              have hpl : flag_place (y : Int) = some ((y : Int) - 10) := by unfold flag_place; rw [subI_ok (by omega)]; rfl
              by_cases hb : (y : Int) - 10 < (hs.length : Int)
              · obtain ⟨e1, he1⟩ : ∃ e1, idx c0 ((y : Int) - 10) = some e1 := ⟨_, idx_int (by omega) (by omega)⟩
                obtain ⟨p2, hp2, hr2⟩ := fix_indexAddr Tryz.underlying33 sz3 hK.2 he1
                have hfit : (e1 == dg) = hoistsFit c0 hs (y : Int) := by
                  unfold hoistsFit
                  rw [if_pos h10, decide_eq_true hb, he1, hdg, Bool.true_and]; rfl
                refine W.drawN 16 (fun f => f 45 = .bool (e1 == dg) ∧ f 8 = .int .i64 (y : Int) ∧ f 19 = .int .i64 (y : Int) ∧ f 0 = .int .i64 left ∧ f 1 = .pointer (some ⟨bh, 0, none⟩) ∧ f 2 = .pointer (some pc0) ∧ f 3 = .pointer (some ⟨bY, 0, none⟩) ∧ f 4 = .pointer (some ⟨bb, 0, none⟩) ∧ f 7 = .int .i64 (hs.length : Int)) fol (by kernel_rfl) ?_ ?_
                · refine PL.of (fun _ wk _ hx => O.move (v := .int .i64 (y : Int)) rfl rfl rfl (WL.nil ⟨rfl, hx⟩)) ?_
                  refine PL.of (fun _ wk _ hx => O.call Tryz.call41 rfl rfl rfl (c_flag_place _ hpl) (by rintro _ _ hb rfl; exact WL.nil ⟨rfl, hx.trans (hb.mono hx.size)⟩)) ?_
                  refine PL.of (fun _ wk _ hx => O.move (v := .int .i64 (hs.length : Int)) rfl rfl rfl (WL.nil ⟨rfl, hx⟩)) ?_
                  refine PL.of (fun _ wk _ hx => O.lss rfl rfl rfl rfl (WL.nil ⟨rfl, hx⟩)) ?_
                  refine PL.of (fun _ wk _ hx => O.move (v := .bool (decide ((y : Int) - 10 < (hs.length : Int)))) rfl rfl rfl (WL.nil ⟨rfl, hx⟩)) ?_
                  refine PL.reset (i := 34) (v := .bool true) (congrArg Value.bool (decide_eq_true hb)) ?_
                  refine PL.of (fun _ wk _ hx => O.load (q := pc0) (v := vc0) sc33 rfl rfl rfl ((hk _ (InvI.kp (H.ext hx))).1 0 _ rfl) (WL.nil ⟨rfl, hx⟩)) ?_
                  refine PL.of (fun _ wk _ hx => O.move (v := .int .i64 (y : Int)) rfl rfl rfl (WL.nil ⟨rfl, hx⟩)) ?_
                  refine PL.of (fun _ wk _ hx => O.call Tryz.call41 rfl rfl rfl (c_flag_place _ hpl) (by rintro _ _ hb rfl; exact WL.nil ⟨rfl, hx.trans (hb.mono hx.size)⟩)) ?_
                  refine PL.of (fun _ wk _ hx => hr2 rfl rfl rfl rfl (WL.nil ⟨rfl, hx⟩)) ?_
                  refine PL.of (fun _ wk _ hx => O.load sc3 rfl rfl rfl ((hp2.mono hx).flat 0 _ rfl) (WL.nil ⟨rfl, hx⟩)) ?_
                  refine PL.of (fun _ wk _ hx => O.load (q := pc0) (v := vc0) sc33 rfl rfl rfl ((hk _ (InvI.kp (H.ext hx))).1 0 _ rfl) (WL.nil ⟨rfl, hx⟩)) ?_
                  refine PL.of (fun _ wk _ hx => O.move (v := .int .i64 (hs.length : Int)) rfl rfl rfl (WL.nil ⟨rfl, hx⟩)) ?_
                  refine PL.of (fun _ wk _ hx => hr1 rfl rfl rfl rfl (WL.nil ⟨rfl, hx⟩)) ?_
                  refine PL.of (fun _ wk _ hx => O.load sc3 rfl rfl rfl ((hp1.mono hx).flat 0 _ rfl) (WL.nil ⟨rfl, hx⟩)) ?_
                  refine PL.of (fun _ wk _ hx => O.eql rfl rfl rfl rfl (WL.nil ⟨rfl, hx⟩)) ?_
                  refine PL.of (fun _ wk _ hx => O.pick_true (v := .bool (e1 == dg)) rfl rfl rfl rfl (WL.nil ⟨rfl, hx⟩)) ?_
                  exact ⟨rfl, rfl, rfl, rfl, rfl, rfl, rfl, rfl, rfl⟩
                · rintro f wk ⟨hf45, hf8, hf19, hf0, hf1, hf2, hf3, hf4, hf7⟩ _ hx
                  refine O.assign (v := .bool (e1 == dg)) rfl rfl hf45 ?_
                  exact WL.nil ⟨rfl, congrArg Value.bool hfit, hf8, hf19, hf0, hf1, hf2, hf3, hf4, hf7, H.ext hx⟩
              · have hfit : false = hoistsFit c0 hs (y : Int) := by
                  unfold hoistsFit
                  rw [if_pos h10, decide_eq_false hb, Bool.false_and]
                refine W.drawN 16 (fun f => f 45 = .bool false ∧ f 8 = .int .i64 (y : Int) ∧ f 19 = .int .i64 (y : Int) ∧ f 0 = .int .i64 left ∧ f 1 = .pointer (some ⟨bh, 0, none⟩) ∧ f 2 = .pointer (some pc0) ∧ f 3 = .pointer (some ⟨bY, 0, none⟩) ∧ f 4 = .pointer (some ⟨bb, 0, none⟩) ∧ f 7 = .int .i64 (hs.length : Int)) fol (by kernel_rfl) ?_ ?_
                · refine PL.of (fun _ wk _ hx => O.move (v := .int .i64 (y : Int)) rfl rfl rfl (WL.nil ⟨rfl, hx⟩)) ?_
                  refine PL.of (fun _ wk _ hx => O.call Tryz.call41 rfl rfl rfl (c_flag_place _ hpl) (by rintro _ _ hb rfl; exact WL.nil ⟨rfl, hx.trans (hb.mono hx.size)⟩)) ?_
                  refine PL.of (fun _ wk _ hx => O.move (v := .int .i64 (hs.length : Int)) rfl rfl rfl (WL.nil ⟨rfl, hx⟩)) ?_
                  refine PL.of (fun _ wk _ hx => O.lss rfl rfl rfl rfl (WL.nil ⟨rfl, hx⟩)) ?_
                  refine PL.of (fun _ wk _ hx => O.move (v := .bool (decide ((y : Int) - 10 < (hs.length : Int)))) rfl rfl rfl (WL.nil ⟨rfl, hx⟩)) ?_
                  refine PL.reset (i := 34) (v := .bool false) (congrArg Value.bool (decide_eq_false hb)) ?_
                  refine PL.of (fun _ wk _ hx => O.skip rfl rfl (WL.nil ⟨rfl, hx⟩)) ?_
                  refine PL.of (fun _ wk _ hx => O.skip rfl rfl (WL.nil ⟨rfl, hx⟩)) ?_
                  refine PL.of (fun _ wk _ hx => O.skip rfl rfl (WL.nil ⟨rfl, hx⟩)) ?_
                  refine PL.of (fun _ wk _ hx => O.skip rfl rfl (WL.nil ⟨rfl, hx⟩)) ?_
                  refine PL.of (fun _ wk _ hx => O.skip rfl rfl (WL.nil ⟨rfl, hx⟩)) ?_
                  refine PL.of (fun _ wk _ hx => O.skip rfl rfl (WL.nil ⟨rfl, hx⟩)) ?_
                  refine PL.of (fun _ wk _ hx => O.skip rfl rfl (WL.nil ⟨rfl, hx⟩)) ?_
                  refine PL.of (fun _ wk _ hx => O.skip rfl rfl (WL.nil ⟨rfl, hx⟩)) ?_
                  refine PL.of (fun _ wk _ hx => O.skip rfl rfl (WL.nil ⟨rfl, hx⟩)) ?_
                  refine PL.of (fun _ wk _ hx => O.skip rfl rfl (WL.nil ⟨rfl, hx⟩)) ?_
                  refine PL.of (fun _ wk _ hx => O.pick_false (v := .bool false) rfl rfl rfl rfl (WL.nil ⟨rfl, hx⟩)) ?_
                  exact ⟨rfl, rfl, rfl, rfl, rfl, rfl, rfl, rfl, rfl⟩
                · rintro f wk ⟨hf45, hf8, hf19, hf0, hf1, hf2, hf3, hf4, hf7⟩ _ hx
                  refine O.assign (v := .bool false) rfl rfl hf45 ?_
                  exact WL.nil ⟨rfl, congrArg Value.bool hfit, hf8, hf19, hf0, hf1, hf2, hf3, hf4, hf7, H.ext hx⟩
            · refine W.cond_false (congrArg Value.bool (decide_eq_false h10)) ?_
              refine W.skip ?_
              have hfit : ((y : Int) == dg) = hoistsFit c0 hs (y : Int) := by
                unfold hoistsFit
                rw [if_neg h10, hdg, Bool.eq_iff_iff, beq_iff_eq, beq_iff_eq, Option.some.injEq]
                exact ⟨Eq.symm, Eq.symm⟩
              exact ⟨rfl, congrArg Value.bool hfit, rfl, rfl, rfl, rfl, rfl, rfl, rfl, rfl, H⟩
          · rintro f w ⟨_, hf9, hf8, hf19, hf0, hf1, hf2, hf3, hf4, hf7, H⟩
            obtain ⟨u1, rfl⟩ : ∃ u1, f = (upd (upd (upd (upd (upd (upd (upd (upd (upd u1 9 (.bool (hoistsFit c0 hs (y : Int)))) 8 (.int .i64 (y : Int))) 19 (.int .i64 (y : Int))) 0 (.int .i64 left)) 1 (.pointer (some ⟨bh, 0, none⟩))) 2 (.pointer (some pc0))) 3 (.pointer (some ⟨bY, 0, none⟩))) 4 (.pointer (some ⟨bb, 0, none⟩))) 7 (.int .i64 (hs.length : Int))) :=
              ⟨f, by rw [upd_self hf9, upd_self hf8, upd_self hf19, upd_self hf0, upd_self hf1, upd_self hf2, upd_self hf3, upd_self hf4, upd_self hf7]⟩
            refine W.seq ?_
            refine W.via (fun f w' => f 8 = .int .i64 (y : Int) ∧ hoistsOk c0 hs left y = true ∧ f 19 = .int .i64 (y : Int) ∧ f 0 = .int .i64 left ∧ f 1 = .pointer (some ⟨bh, 0, none⟩) ∧ f 2 = .pointer (some pc0) ∧ f 3 = .pointer (some ⟨bY, 0, none⟩) ∧ f 4 = .pointer (some ⟨bb, 0, none⟩) ∧ f 7 = .int .i64 (hs.length : Int) ∧ w' = w) ?_ ?_
            · have hno : hoistsOk c0 hs left y = false → (pre ++ ((List.range 13).take (y + 1)).flatMap fun f => if hoistsOk c0 hs left f then hoistsG c0 n (hs ++ [(f : Int)]) (bits .andNot .i64 left (2 ^ f)) else []) = (pre ++ ((List.range 13).take y).flatMap fun f => if hoistsOk c0 hs left f then hoistsG c0 n (hs ++ [(f : Int)]) (bits .andNot .i64 left (2 ^ f)) else []) := by
                intro h
                rw [htake, List.flatMap_append]
                simp [h]
              refine W.seq ?_
              refine W.region ?_
              refine O.move (v := .bool (hoistsFit c0 hs (y : Int))) rfl rfl rfl ?_
              refine O.not rfl rfl rfl ?_
              refine O.move (v := .bool (!hoistsFit c0 hs (y : Int))) rfl rfl rfl ?_
              cases hfit : hoistsFit c0 hs (y : Int) with
              | false =>
                refine WL.reset (i := 48) (v := .bool true) rfl ?_
                refine O.skip rfl rfl ?_
                refine O.skip rfl rfl ?_
                refine O.skip rfl rfl ?_
                refine O.skip rfl rfl ?_
                refine O.skip rfl rfl ?_
                refine O.pick_true (v := .bool true) rfl rfl rfl rfl ?_
                refine WL.nil ?_
                refine W.cond_true rfl ?_
                refine W.exit ?_
                refine xT rfl ?_
                have hn : hoistsOk c0 hs left y = false := by unfold hoistsOk; rw [hfit]; rfl
                exact ⟨rfl, rfl, rfl, rfl, rfl, rfl, rfl, C, vh, by rw [hno hn]; exact H⟩
              | true =>
                refine WL.reset (i := 48) (v := .bool false) rfl ?_
                refine O.move (v := .int .i64 left) rfl rfl rfl ?_
                refine O.move (v := .int .i64 (y : Int)) rfl rfl rfl ?_
                refine O.shr (c := left / 2 ^ y) rfl rfl rfl rfl (by unfold shrI; rw [if_pos (by omega), Int.toNat_natCast]) ?_
                refine O.and rfl rfl rfl rfl ?_
                refine O.eql rfl rfl rfl rfl ?_
                refine O.pick_false (v := .bool (bits .and .i64 (left / 2 ^ y) 1 == 0)) rfl rfl rfl rfl ?_
                refine WL.nil ?_
                cases hbit : bits .and .i64 (left / 2 ^ y) 1 == 0 with
                | true =>
                  refine W.cond_true rfl ?_
                  refine W.exit ?_
                  refine xT rfl ?_
                  have hn : hoistsOk c0 hs left y = false := by unfold hoistsOk; rw [hbit]; simp
                  exact ⟨rfl, rfl, rfl, rfl, rfl, rfl, rfl, C, vh, by rw [hno hn]; exact H⟩
                | false =>
                  refine W.cond_false rfl ?_
                  refine W.skip ?_
                  have hn : hoistsOk c0 hs left y = true := by unfold hoistsOk; rw [hbit, hfit]; rfl
                  exact ⟨rfl, hn, rfl, rfl, rfl, rfl, rfl, rfl, rfl, rfl⟩
            · rintro f w' ⟨hf8, hok, hf19, hf0, hf1, hf2, hf3, hf4, hf7, rfl⟩
              obtain ⟨u1, rfl⟩ : ∃ u1, f = (upd (upd (upd (upd (upd (upd (upd (upd u1 8 (.int .i64 (y : Int))) 19 (.int .i64 (y : Int))) 0 (.int .i64 left)) 1 (.pointer (some ⟨bh, 0, none⟩))) 2 (.pointer (some pc0))) 3 (.pointer (some ⟨bY, 0, none⟩))) 4 (.pointer (some ⟨bb, 0, none⟩))) 7 (.int .i64 (hs.length : Int))) :=
                ⟨f, by rw [upd_self hf8, upd_self hf19, upd_self hf0, upd_self hf1, upd_self hf2, upd_self hf3, upd_self hf4, upd_self hf7]⟩
              have hyes : (pre ++ ((List.range 13).take (y + 1)).flatMap fun f => if hoistsOk c0 hs left f then hoistsG c0 n (hs ++ [(f : Int)]) (bits .andNot .i64 left (2 ^ f)) else []) = (pre ++ ((List.range 13).take y).flatMap fun f => if hoistsOk c0 hs left f then hoistsG c0 n (hs ++ [(f : Int)]) (bits .andNot .i64 left (2 ^ f)) else []) ++ hoistsG c0 n (hs ++ [(y : Int)]) (bits .andNot .i64 left (2 ^ y)) := by
                rw [htake, List.flatMap_append, List.append_assoc]
                simp [hok]
              refine W.seq ?_
              refine W.region ?_
              refine O.load (q := ⟨bh, 0, none⟩) (v := vh) sc33 rfl rfl rfl (H.cell 2 rfl 0 _ rfl) ?_
              refine O.move (v := .int .i64 (y : Int)) rfl rfl rfl ?_
              refine O.buildSlice (α := Int) [.int .i64 (y : Int)] [(y : Int)] Tryz.underlying33 el3 H rfl rfl rfl rfl rfl rfl rfl ?_
              intro v1 w1 H hb1
              refine O.append 4 (zs := hs ++ [(y : Int)]) Tryz.underlying33 el3 rfl H rfl (H.own 5 rfl) (appI_ok (by simp; omega)) rfl rfl rfl rfl ?_
              intro v2 w2 H
              refine O.store 2 0 [v2] [v2] sz33 H rfl rfl rfl rfl rfl (SliceR.cells1 (H.own 4 rfl)) ⟨⟨rfl, rfl⟩, rfl⟩ (one_cons (SliceR.one (H.own 4 rfl)) one_nil) ?_
              intro w3 H
              refine WL.nil ?_
              have H := H.pick [0, 1, 2, 3, 4] [consI hc (pre ++ ((List.range 13).take y).flatMap fun f => if hoistsOk c0 hs left f then hoistsG c0 n (hs ++ [(f : Int)]) (bits .andNot .i64 left (2 ^ f)) else []) C, boxI bY 69 [Value.func (.yield l) #[] #[]], boxI bh 33 [v2], boxI bb 58 [Value.func (.func 56) #[] #[.pointer (some ⟨bh, 0, none⟩), .pointer (some pc0), .pointer (some ⟨bY, 0, none⟩), .pointer (some ⟨bb, 0, none⟩)]], ownI v2 3 (hs ++ [(y : Int)])] rfl (by decide)
              refine W.seq ?_
              refine W.seq ?_
              refine W.drawN 5 (fun f => f 59 = Value.func (.func 56) #[] #[.pointer (some ⟨bh, 0, none⟩), .pointer (some pc0), .pointer (some ⟨bY, 0, none⟩), .pointer (some ⟨bb, 0, none⟩)] ∧ f 63 = .int .i64 (bits .andNot .i64 left (2 ^ y)) ∧ f 19 = .int .i64 (y : Int) ∧ f 0 = .int .i64 left ∧ f 1 = .pointer (some ⟨bh, 0, none⟩) ∧ f 2 = .pointer (some pc0) ∧ f 3 = .pointer (some ⟨bY, 0, none⟩) ∧ f 4 = .pointer (some ⟨bb, 0, none⟩) ∧ f 7 = .int .i64 (hs.length : Int)) fol (by kernel_rfl) ?_ ?_
              · refine PL.of (fun _ wk _ hx => O.load (q := ⟨bb, 0, none⟩) (v := Value.func (.func 56) #[] #[.pointer (some ⟨bh, 0, none⟩), .pointer (some pc0), .pointer (some ⟨bY, 0, none⟩), .pointer (some ⟨bb, 0, none⟩)]) sc58 rfl rfl rfl ((H.ext hx).cell 3 rfl 0 _ rfl) (WL.nil ⟨rfl, hx⟩)) ?_
                refine PL.of (fun _ wk _ hx => O.move (v := .int .i64 left) rfl rfl rfl (WL.nil ⟨rfl, hx⟩)) ?_
                refine PL.of (fun _ wk _ hx => O.move (v := .int .i64 (y : Int)) rfl rfl rfl (WL.nil ⟨rfl, hx⟩)) ?_
                refine PL.of (fun _ wk _ hx => O.shl (c := 2 ^ y) rfl rfl rfl rfl (shl1_flag h13) (WL.nil ⟨rfl, hx⟩)) ?_
                refine PL.of (fun _ wk _ hx => O.andNot rfl rfl rfl rfl (WL.nil ⟨rfl, hx⟩)) ?_
                exact ⟨rfl, rfl, rfl, rfl, rfl, rfl, rfl, rfl, rfl⟩
              · rintro f w4 ⟨hf59, hf63, hf19, hf0, hf1, hf2, hf3, hf4, hf7⟩ _ hx
                obtain ⟨u1, rfl⟩ : ∃ u1, f = (upd (upd (upd (upd (upd (upd (upd (upd (upd u1 59 (Value.func (.func 56) #[] #[.pointer (some ⟨bh, 0, none⟩), .pointer (some pc0), .pointer (some ⟨bY, 0, none⟩), .pointer (some ⟨bb, 0, none⟩)])) 63 (.int .i64 (bits .andNot .i64 left (2 ^ y)))) 19 (.int .i64 (y : Int))) 0 (.int .i64 left)) 1 (.pointer (some ⟨bh, 0, none⟩))) 2 (.pointer (some pc0))) 3 (.pointer (some ⟨bY, 0, none⟩))) 4 (.pointer (some ⟨bb, 0, none⟩))) 7 (.int .i64 (hs.length : Int))) :=
                  ⟨f, by rw [upd_self hf59, upd_self hf63, upd_self hf19, upd_self hf0, upd_self hf1, upd_self hf2, upd_self hf3, upd_self hf4, upd_self hf7]⟩
                have H := H.ext hx
                have hrest : ∃ rest, (pre ++ ((List.range 13).take y).flatMap fun f => if hoistsOk c0 hs left f then hoistsG c0 n (hs ++ [(f : Int)]) (bits .andNot .i64 left (2 ^ f)) else []) ++ hoistsG c0 n (hs ++ [(y : Int)]) (bits .andNot .i64 left (2 ^ y)) ++ rest = r := by
                  obtain ⟨rest, hr⟩ := hr
                  refine ⟨((List.range 13).drop (y + 1)).flatMap (fun f => if hoistsOk c0 hs left f then hoistsG c0 n (hs ++ [(f : Int)]) (bits .andNot .i64 left (2 ^ f)) else []) ++ rest, ?_⟩
                  rw [← hyes, ← hr, hoistsG, List.append_assoc, ← List.append_assoc (List.flatMap _ _), ← List.flatMap_append, List.take_append_drop, List.append_assoc]
                refine O.callG rfl rfl rfl rfl (callsV_mk (args := [.int .i64 (bits .andNot .i64 left (2 ^ y))]) Tryz.call56 (ih _ C w4 v2 (hs ++ [(y : Int)]) _ H (by simp; omega) hrest)) ?_
                rintro u w5 (⟨rfl, C', vh', H⟩ | ⟨rfl, C', H⟩)
                · refine O.not rfl rfl rfl ?_
                  refine WL.nil ?_
                  refine W.cond_false rfl ?_
                  refine W.skip ?_
                  refine W.region ?_
                  refine O.load (q := ⟨bh, 0, none⟩) (v := vh') sc33 rfl rfl rfl (H.cell 2 rfl 0 _ rfl) ?_
                  refine O.move (v := .int .i64 (hs.length : Int)) rfl rfl rfl ?_
                  refine O.sliceOwn 4 (ys := hs) Tryz.underlying33 sz3 H rfl (by unfold preI; rw [if_pos (by simp; omega)]; simp) rfl rfl rfl rfl ?_
                  intro v3 H
                  refine O.store 2 0 [v3] [v3] sz33 H rfl rfl rfl rfl rfl (SliceR.cells1 (H.own 4 rfl)) ⟨⟨rfl, rfl⟩, rfl⟩ (one_cons (SliceR.one (H.own 4 rfl)) one_nil) ?_
                  intro w6 H
                  exact WL.nil ⟨rfl, rfl, rfl, rfl, rfl, rfl, rfl, C', v3, by rw [hyes]; exact H⟩
                · refine O.not rfl rfl rfl ?_
                  refine WL.nil ?_
                  refine W.cond_true rfl ?_
                  refine W.seq ?_
                  refine W.region ?_
                  refine O.assign (v := .bool false) rfl rfl rfl ?_
                  refine WL.nil ?_
                  refine W.ret ?_
                  exact ends1 Tryz.results56 rfl ⟨_, rfl, .inr ⟨rfl, C', H⟩⟩
        · rintro f w ⟨hf19, hf0, hf1, hf2, hf3, hf4, hf7, C', vh', H⟩
          obtain ⟨u1, rfl⟩ : ∃ u1, f = (upd (upd (upd (upd (upd (upd (upd u1 19 (.int .i64 (y : Int))) 0 (.int .i64 left)) 1 (.pointer (some ⟨bh, 0, none⟩))) 2 (.pointer (some pc0))) 3 (.pointer (some ⟨bY, 0, none⟩))) 4 (.pointer (some ⟨bb, 0, none⟩))) 7 (.int .i64 (hs.length : Int))) :=
            ⟨f, by rw [upd_self hf19, upd_self hf0, upd_self hf1, upd_self hf2, upd_self hf3, upd_self hf4, upd_self hf7]⟩
          refine W.region ?_
          refine O.add rfl rfl rfl rfl hinc ?_
          refine O.move (v := .int .i64 ((y : Int) + 1)) rfl rfl rfl ?_
          exact WL.nil ⟨y + 1, drop_next hd, rfl, rfl, rfl, rfl, rfl, rfl, rfl, C', vh', H⟩
      · rintro f w ⟨ik, hd, hf19, hf0, hf1, hf2, hf3, hf4, hf7, C, vh, H⟩
        have h13 : 13 ≤ ik := by have := List.drop_eq_nil_iff.1 hd; simpa using this
        obtain ⟨u1, rfl⟩ := up2 hf19 hf7
        refine W.seq ?_
        refine W.region ?_
        refine O.lss rfl rfl rfl rfl ?_
        refine WL.nil ?_
        refine W.seq ?_
        refine W.cond_false (congrArg Value.bool (decide_eq_false (by omega))) ?_
        refine W.exit ?_
        refine xT rfl ?_
        refine ⟨rfl, C, vh, ?_⟩
        rw [List.take_of_length_le (by simpa using h13)] at H
        rw [hoistsG]
        exact H
    · rintro f w ⟨hf7, C', vh', H⟩
      refine W.seq ?_
      refine W.region ?_
      refine O.assign (v := .bool true) rfl rfl rfl ?_
      refine WL.nil ?_
      refine W.ret ?_
      exact ends1 Tryz.results56 rfl ⟨_, rfl, .inl ⟨rfl, C', vh', H⟩⟩
theorem it_flag_hoists_c1 {wi : World} {Kp : World → Prop} (pc0 : Addr) (vc0 : Value) (c0 : List Int) (pc1 : Addr) (c1 : Int) {r : List (List Int)} (hm : flag_hoists_c1 c0 c1 = some r)
    (hk : ∀ w, Kp w → (∀ j c, [vc0][j]? = some c → w.cell? (pc0.add j) = some c) ∧ SliceR w vc0 c0 ∧ (∀ j c, (Flat.cells c1)[j]? = some c → w.cell? (pc1.add j) = some c)) :
    IterAt Tryz.prog 55 #[.pointer (some pc0), .pointer (some pc1)] repS (fun ys => ys = r) Kp wi := by
  unfold flag_hoists_c1 at hm
  split at hm
  case isFalse => cases hm
  rename_i hlen
  obtain rfl := Option.some.inj hm
  intro l J Jx hc h0
  refine calls_of_W Tryz.func55 rfl Tryz.ntmps55 (Nat.le_of_ble_eq_true rfl) ?_
  have H := InvI.start hc h0
  refine W.seq ?_
  refine W.region ?_
  refine O.box [Value.func (.yield l) #[] #[]] H rfl rfl rfl rfl ?_
  intro bY w1 H hb1
  refine WL.nil ?_
  refine W.seq ?_
  refine W.region ?_
  refine O.alloc [Value.slice none 0 0] ze33 H rfl rfl rfl ?_
  intro bh w2 H hb2
  refine WL.nil ?_
  refine W.seq ?_
  refine W.region ?_
  refine O.alloc [Value.nilFunc] ze58 H rfl rfl rfl ?_
  intro bb w3 H hb3
  refine WL.nil ?_
  have H := H.addNil (α := Int) (E := 3)
  refine W.seq ?_
  refine W.region ?_
  refine O.makeFunc rfl rfl rfl rfl ?_
  refine O.store 3 0 [Value.func (.func 56) #[] #[.pointer (some ⟨bh, 0, none⟩), .pointer (some pc0), .pointer (some ⟨bY, 0, none⟩), .pointer (some ⟨bb, 0, none⟩)]] [Value.func (.func 56) #[] #[.pointer (some ⟨bh, 0, none⟩), .pointer (some pc0), .pointer (some ⟨bY, 0, none⟩), .pointer (some ⟨bb, 0, none⟩)]] sz58 H rfl rfl rfl rfl rfl rfl ⟨⟨rfl, rfl⟩, rfl⟩ (one_cons rfl one_nil) ?_
  intro w4 H
  refine WL.nil ?_
  have hK := hk _ (InvI.kp H)
  refine W.region ?_
  refine O.load (q := ⟨bb, 0, none⟩) (v := Value.func (.func 56) #[] #[.pointer (some ⟨bh, 0, none⟩), .pointer (some pc0), .pointer (some ⟨bY, 0, none⟩), .pointer (some ⟨bb, 0, none⟩)]) sc58 rfl rfl rfl (H.cell 3 rfl 0 _ rfl) ?_
  refine O.load (q := pc1) (v := .int .i64 c1) sc3 rfl rfl rfl (hK.2.2 0 _ rfl) ?_
  refine O.callG rfl rfl rfl rfl (callsV_mk (args := [.int .i64 c1]) Tryz.call56 (c_flag_build hc (fun w h => ⟨(hk w h).1, (hk w h).2.1⟩) hlen c0.length [] _ w4 _ [] c1 H (by simp) ⟨[], by simp⟩)) ?_
  rintro u w5 (⟨rfl, C', vh', H⟩ | ⟨rfl, C', H⟩)
  · refine WL.nil ?_
    refine ends0 Tryz.results55 ⟨_, C', rfl, .inl ⟨_, rfl, ?_⟩⟩
    exact (H.items _ (List.mem_cons_self ..)).1
  · refine WL.nil ?_
    exact ends0 Tryz.results55 ⟨_, C', rfl, .inr (H.items _ (List.mem_cons_self ..)).1⟩

theorem c_flag_hoists {w0 : World} (va0 : Value) (a0 : (List Int)) (ha0 : SliceR w0 va0 a0) (a1 : Int) :
  Calls Tryz.prog 28 #[va0, (.int .i64 a1)] w0 (Ret w0 fun w v => ∃ b1 : Nat, ∃ b2 : Nat, v = (.func (.func 55) #[] #[(.pointer (some ⟨b1, 0, none⟩)), (.pointer (some ⟨b2, 0, none⟩))]) ∧ Inv w0 w [boxI b1 33 [va0], boxI b2 3 [(.int .i64 a1)]]) := by
 refine calls_of_W Tryz.func28 rfl Tryz.ntmps28 (Nat.le_of_ble_eq_true rfl) ?_
 have H := Inv.start (w := w0)
 refine W.seq ?_
 refine W.region ?_
 refine O.box [va0] H rfl rfl rfl (SliceR.cells1 (H.arg ha0)) ?_
 intro b1 w1 H hb1
 refine O.box [(.int .i64 a1)] H rfl rfl rfl rfl ?_
 intro b2 w2 H hb2
 refine O.assign (v := .nilFunc) rfl rfl rfl ?_
 refine WL.nil ?_
 refine W.seq ?_
 refine W.region ?_
 refine O.makeFunc rfl rfl rfl rfl ?_
 refine O.assign (v := (.func (.func 55) #[] #[(.pointer (some ⟨b1, 0, none⟩)), (.pointer (some ⟨b2, 0, none⟩))])) rfl rfl rfl ?_
 refine WL.nil ?_
 refine W.ret ?_
 exact ends1 Tryz.results28 rfl ⟨_, rfl, H.base, ⟨_, _, rfl, H.pick [0, 1] [boxI b1 33 [va0], boxI b2 3 [(.int .i64 a1)]] rfl (by decide)⟩⟩

theorem c_flag_can {w0 : World} (va0 : Value) (a0 : (List Int)) (ha0 : SliceR w0 va0 a0) (a1 : Int) {r0 : Bool} (hm : flag_can a0 a1 = some r0) :
  Calls Tryz.prog 24 #[va0, (.int .i64 a1)] w0 (Ret w0 fun _ v => v = (.bool r0)) := by
 unfold flag_can at hm
 refine calls_of_WM Tryz.func24 rfl Tryz.ntmps24 (Nat.le_of_ble_eq_true rfl) ?_
 have H := Inv.startM (w0 := w0)
 have hmk : (fr0 #[va0, (.int .i64 a1)]).marks = [] := rfl
 refine W.seq ?_
 refine W.region ?_
 refine O.alloc [(.bool false)] ze4 H rfl rfl rfl ?_
 intro b1 w1 H hb1
 refine WL.nil ?_
 refine W.seq ?_
 refine W.seq ?_
 refine W.region ?_
 refine O.move (v := va0) rfl rfl rfl ?_
 refine O.move (v := (.int .i64 a1)) rfl rfl rfl ?_
 refine O.call Tryz.call28 rfl rfl rfl (c_flag_hoists _ _ (H.arg ha0) _) ?_
 rintro _ w2 hb2 ⟨b2, b3, rfl, hM1⟩
 have H := H.addAll hb2 hM1
 refine WL.nil ?_
 obtain ⟨xs1, hxs1, hm⟩ := bind_some hm
 obtain ⟨o1, hm1, hm⟩ := bind_some hm
 refine W.via (fun f w => ∃ ms1 : List Nat, o1 = .next () ∧ f 4 = (.pointer (some ⟨b1, 0, none⟩)) ∧ f.marks = ms1 ∧ Inv w0 w [marksI ms1, boxI b1 4 [(.bool false)]]) ?_ ?_
 ·
  refine W.block ?_
  refine W.rangeFuncL (α := (List Int)) (σ := Unit) (X := Ctl (Unit) (Bool)) (xs := xs1) (rep := repS) hm1 (fun s L => () = s ∧ L = [boxI b1 4 [(.bool false)], boxI b2 33 [va0], boxI b3 3 [(.int .i64 a1)]]) (fun y j L => match j with | some j => j = 0 ∧ (False) | none => ∃ q1 : Bool, y = Ctl.ret q1 ∧ L = [boxI b1 4 [(.bool q1)]]) rfl Tryz.call55 rfl (fun _ _ _ h => by obtain ⟨_, rfl, _⟩ := h; rfl) (fun Kp W hs hk => it_flag_hoists_c1 _ _ a0 _ a1 hxs1 fun w1 hw => by obtain ⟨_, _, _, _, ⟨_, rfl⟩, H⟩ := hk w1 hw; exact ⟨H.cell 4 rfl, (H.arg ha0), H.cell 5 rfl⟩) H ⟨rfl, rfl⟩ ?_ ?_ ?_ ?_
  ·
   rintro _ rs lp lp2 iz x1 _ st _ w _ ⟨rfl, rfl⟩ ⟨vx1, rfl, hsx1⟩ hm2 H
   change W _ _ _ _ _ _ _ (upd _ 8 vx1) w
   refine W.skip ?_
   refine ⟨_, H, fun w hsl H => ?_⟩
   have hsx1 := hsl _ _ hsx1
   refine W.block ?_
   refine W.seq ?_
   refine W.region ?_
   refine O.store 3 0 [(.bool true)] [(.bool true)] sz4 H rfl rfl rfl rfl rfl rfl ⟨⟨rfl, rfl⟩, rfl⟩ (one_cons rfl one_nil) ?_
   intro w3 H
   clear hsx1
   refine WL.nil ?_
   refine W.ret ?_
   have H := H.keep [0, 1, 2, 3] [rs, lp2, marksI [], boxI b1 4 [(.bool true)]] rfl (by decide)
   obtain rfl := Option.some.inj hm2
   refine ⟨_, rfl, fun _ => ⟨_, ⟨_, rfl, rfl⟩, H⟩⟩
  ·
   rintro D1 _ _ w ⟨rfl, rfl⟩ hfin H
   obtain rfl : Ctl.next () = o1 := hfin
   have H := H.keep [0, 1] [marksI (D1 :: []), boxI b1 4 [(.bool false)]] rfl (by decide)
   have hmk := congrArg (D1 :: ·) hmk
   exact ⟨_, rfl, rfl, hmk, H⟩
  ·
   rintro _ _ _ _ ⟨_, h⟩; exact h.elim
  ·
   rintro D1 _ w ⟨q1, hy, rfl⟩ H
   subst hy
   have hmk := congrArg (D1 :: ·) hmk
   refine endsM_mk H hmk ?_
   intro w H _
   have hq : q1 = r0 := Option.some.inj (show some q1 = some r0 from hm)
   subst hq
   exact ends1 Tryz.results24 ⟨_, rfl, run_loadVar_scalar sc4 (H.cell 1 rfl 0 _ rfl)⟩ ⟨_, rfl, H.base, rfl⟩
 ·
  rintro f w ⟨ms1, rfl, hf4, hmk, H⟩
  obtain ⟨u1, rfl⟩ := up1 hf4
  refine W.seq ?_
  refine W.region ?_
  refine O.store 1 0 [(.bool false)] [(.bool false)] sz4 H rfl rfl rfl rfl rfl rfl ⟨⟨rfl, rfl⟩, rfl⟩ (one_cons rfl one_nil) ?_
  intro w4 H
  refine WL.nil ?_
  refine W.ret ?_
  refine endsM_mk H hmk ?_
  intro w H _
  have hq : false = r0 := Option.some.inj (show some false = some r0 from hm)
  subst hq
  exact ends1 Tryz.results24 ⟨_, rfl, run_loadVar_scalar sc4 (H.cell 1 rfl 0 _ rfl)⟩ ⟨_, rfl, H.base, rfl⟩

theorem c_cmp_isNaN_int {w0 : World} (a0 : Int) {r0 : Bool} (hm : cmp_isNaN_int a0 = some r0) :
  Calls Tryz.prog 54 #[(.int .i64 a0)] w0 (Ret w0 fun _ v => v = (.bool r0)) := by
 unfold cmp_isNaN_int at hm
 refine calls_of_W Tryz.func54 rfl Tryz.ntmps54 (Nat.le_of_ble_eq_true rfl) ?_
 have H := Inv.start (w := w0)
 refine W.seq ?_
 refine W.region ?_
 refine O.assign (v := (.bool false)) rfl rfl rfl ?_
 refine WL.nil ?_
 refine W.seq ?_
 refine W.region ?_
 refine O.move (v := (.int .i64 a0)) rfl rfl rfl ?_
 refine O.move (v := (.int .i64 a0)) rfl rfl rfl ?_
 refine O.neq rfl rfl rfl rfl ?_
 refine O.assign (v := (.bool (a0 != a0))) rfl rfl rfl ?_
 refine WL.nil ?_
 refine W.ret ?_
 have hq : (a0 != a0) = r0 := Option.some.inj (show some (a0 != a0) = some r0 from hm)
 subst hq
 exact ends1 Tryz.results54 rfl ⟨_, rfl, H.base, rfl⟩

set_option maxRecDepth 20000 in
theorem c_cmp_Compare_int {w0 : World} (a0 : Int) (a1 : Int) {r0 : Int} (hm : cmp_Compare_int a0 a1 = some r0) :
  Calls Tryz.prog 26 #[(.int .i64 a0), (.int .i64 a1)] w0 (Ret w0 fun _ v => v = (.int .i64 r0)) := by
 unfold cmp_Compare_int at hm
 refine calls_of_W Tryz.func26 rfl Tryz.ntmps26 (Nat.le_of_ble_eq_true rfl) ?_
 have H := Inv.start (w := w0)
 refine W.seq ?_
 refine W.region ?_
 refine O.assign (v := (.int .i64 0)) rfl rfl rfl ?_
 refine WL.nil ?_
 refine W.seq ?_
 refine W.region ?_
 refine O.move (v := (.int .i64 a0)) rfl rfl rfl ?_
 obtain ⟨t1, hy1, hm⟩ := bind_some hm
 refine O.call Tryz.call54 rfl rfl rfl (c_cmp_isNaN_int _ hy1) ?_
 rintro _ w1 hb1 rfl
 have H := H.ext hb1
 refine O.assign (v := (.bool t1)) rfl rfl rfl ?_
 refine WL.nil ?_
 refine W.seq ?_
 refine W.region ?_
 refine O.move (v := (.int .i64 a1)) rfl rfl rfl ?_
 obtain ⟨t2, hy2, hm⟩ := bind_some hm
 refine O.call Tryz.call54 rfl rfl rfl (c_cmp_isNaN_int _ hy2) ?_
 rintro _ w2 hb2 rfl
 have H := H.ext hb2
 refine O.assign (v := (.bool t2)) rfl rfl rfl ?_
 refine WL.nil ?_
 refine W.seq ?_
 refine W.seq ?_
 refine W.region ?_
 refine O.move (v := (.bool t1)) rfl rfl rfl ?_
 refine WL.nil ?_
 rcases ite_some hm with ⟨hc1, hm⟩ | ⟨hc1, hm⟩
 ·
  refine W.cond_true (congrArg Value.bool hc1) ?_
  refine W.seq ?_
  refine W.seq ?_
  refine W.region ?_
  refine O.move (v := (.bool t2)) rfl rfl rfl ?_
  refine WL.nil ?_
  rcases ite_some hm with ⟨hc2, hm⟩ | ⟨hc2, hm⟩
  ·
   refine W.cond_true (congrArg Value.bool hc2) ?_
   refine W.seq ?_
   refine W.region ?_
   refine O.assign (v := (.int .i64 0)) rfl rfl rfl ?_
   refine WL.nil ?_
   refine W.ret ?_
   have hq : 0 = r0 := Option.some.inj (show some 0 = some r0 from hm)
   subst hq
   exact ends1 Tryz.results26 rfl ⟨_, rfl, H.base, rfl⟩
  ·
   refine W.cond_false (congrArg Value.bool hc2) ?_
   refine W.skip ?_
   refine W.seq ?_
   refine W.region ?_
   refine O.assign (v := (.int .i64 (-1))) rfl rfl rfl ?_
   refine WL.nil ?_
   refine W.ret ?_
   have hq : (-1) = r0 := Option.some.inj (show some (-1) = some r0 from hm)
   subst hq
   exact ends1 Tryz.results26 rfl ⟨_, rfl, H.base, rfl⟩
 ·
  refine W.cond_false (congrArg Value.bool hc1) ?_
  refine W.skip ?_
  refine W.seq ?_
  refine W.seq ?_
  refine W.region ?_
  refine O.move (v := (.bool t2)) rfl rfl rfl ?_
  refine WL.nil ?_
  rcases ite_some hm with ⟨hc3, hm⟩ | ⟨hc3, hm⟩
  ·
   refine W.cond_true (congrArg Value.bool hc3) ?_
   refine W.seq ?_
   refine W.region ?_
   refine O.assign (v := (.int .i64 1)) rfl rfl rfl ?_
   refine WL.nil ?_
   refine W.ret ?_
   have hq : 1 = r0 := Option.some.inj (show some 1 = some r0 from hm)
   subst hq
   exact ends1 Tryz.results26 rfl ⟨_, rfl, H.base, rfl⟩
  ·
   refine W.cond_false (congrArg Value.bool hc3) ?_
   refine W.skip ?_
   refine W.seq ?_
   refine W.seq ?_
   refine W.region ?_
   refine O.move (v := (.int .i64 a0)) rfl rfl rfl ?_
   refine O.move (v := (.int .i64 a1)) rfl rfl rfl ?_
   refine O.lss rfl rfl rfl rfl ?_
   refine WL.nil ?_
   rcases ite_some hm with ⟨hc4, hm⟩ | ⟨hc4, hm⟩
   ·
    refine W.cond_true (congrArg Value.bool hc4) ?_
    refine W.seq ?_
    refine W.region ?_
    refine O.assign (v := (.int .i64 (-1))) rfl rfl rfl ?_
    refine WL.nil ?_
    refine W.ret ?_
    have hq : (-1) = r0 := Option.some.inj (show some (-1) = some r0 from hm)
    subst hq
    exact ends1 Tryz.results26 rfl ⟨_, rfl, H.base, rfl⟩
   ·
    refine W.cond_false (congrArg Value.bool hc4) ?_
    refine W.skip ?_
    refine W.seq ?_
    refine W.seq ?_
    refine W.region ?_
    refine O.move (v := (.int .i64 a0)) rfl rfl rfl ?_
    refine O.move (v := (.int .i64 a1)) rfl rfl rfl ?_
    refine O.gtr rfl rfl rfl rfl ?_
    refine WL.nil ?_
    rcases ite_some hm with ⟨hc5, hm⟩ | ⟨hc5, hm⟩
    ·
     refine W.cond_true (congrArg Value.bool hc5) ?_
     refine W.seq ?_
     refine W.region ?_
     refine O.assign (v := (.int .i64 1)) rfl rfl rfl ?_
     refine WL.nil ?_
     refine W.ret ?_
     have hq : 1 = r0 := Option.some.inj (show some 1 = some r0 from hm)
     subst hq
     exact ends1 Tryz.results26 rfl ⟨_, rfl, H.base, rfl⟩
    ·
     refine W.cond_false (congrArg Value.bool hc5) ?_
     refine W.skip ?_
     refine W.seq ?_
     refine W.region ?_
     refine O.assign (v := (.int .i64 0)) rfl rfl rfl ?_
     refine WL.nil ?_
     refine W.ret ?_
     have hq : 0 = r0 := Option.some.inj (show some 0 = some r0 from hm)
     subst hq
     exact ends1 Tryz.results26 rfl ⟨_, rfl, H.base, rfl⟩

theorem g_cmp_isNaN_int {w0 : World} (a0 : Int) {r0 : Bool} (hm : cmp_isNaN_int a0 = some r0) :
  Calls Tryz.prog 54 #[(.int .i64 a0)] w0 (Ret w0 fun w v => v = (.bool r0) ∧ GrewQ w0 w) := by
 unfold cmp_isNaN_int at hm
 refine calls_of_W Tryz.func54 rfl Tryz.ntmps54 (Nat.le_of_ble_eq_true rfl) ?_
 have H := GInv.start (w := w0)
 refine W.seq ?_
 refine W.region ?_
 refine O.assign (v := (.bool false)) rfl rfl rfl ?_
 refine WL.nil ?_
 refine W.seq ?_
 refine W.region ?_
 refine O.move (v := (.int .i64 a0)) rfl rfl rfl ?_
 refine O.move (v := (.int .i64 a0)) rfl rfl rfl ?_
 refine O.neq rfl rfl rfl rfl ?_
 refine O.assign (v := (.bool (a0 != a0))) rfl rfl rfl ?_
 refine WL.nil ?_
 refine W.ret ?_
 have hq : (a0 != a0) = r0 := Option.some.inj (show some (a0 != a0) = some r0 from hm)
 subst hq
 exact ends1 Tryz.results54 rfl ⟨_, rfl, H.base, rfl, H.g⟩

set_option maxRecDepth 20000 in
theorem g_cmp_Compare_int {w0 : World} (a0 : Int) (a1 : Int) {r0 : Int} (hm : cmp_Compare_int a0 a1 = some r0) :
  Calls Tryz.prog 26 #[(.int .i64 a0), (.int .i64 a1)] w0 (Ret w0 fun w v => v = (.int .i64 r0) ∧ GrewQ w0 w) := by
 unfold cmp_Compare_int at hm
 refine calls_of_W Tryz.func26 rfl Tryz.ntmps26 (Nat.le_of_ble_eq_true rfl) ?_
 have H := GInv.start (w := w0)
 refine W.seq ?_
 refine W.region ?_
 refine O.assign (v := (.int .i64 0)) rfl rfl rfl ?_
 refine WL.nil ?_
 refine W.seq ?_
 refine W.region ?_
 refine O.move (v := (.int .i64 a0)) rfl rfl rfl ?_
 obtain ⟨t1, hy1, hm⟩ := bind_some hm
 refine O.call Tryz.call54 rfl rfl rfl (g_cmp_isNaN_int _ hy1) ?_
 rintro _ w1 hb1 ⟨rfl, hghb1⟩
 have H := H.ext hghb1
 refine O.assign (v := (.bool t1)) rfl rfl rfl ?_
 refine WL.nil ?_
 refine W.seq ?_
 refine W.region ?_
 refine O.move (v := (.int .i64 a1)) rfl rfl rfl ?_
 obtain ⟨t2, hy2, hm⟩ := bind_some hm
 refine O.call Tryz.call54 rfl rfl rfl (g_cmp_isNaN_int _ hy2) ?_
 rintro _ w2 hb2 ⟨rfl, hghb2⟩
 have H := H.ext hghb2
 refine O.assign (v := (.bool t2)) rfl rfl rfl ?_
 refine WL.nil ?_
 refine W.seq ?_
 refine W.seq ?_
 refine W.region ?_
 refine O.move (v := (.bool t1)) rfl rfl rfl ?_
 refine WL.nil ?_
 rcases ite_some hm with ⟨hc1, hm⟩ | ⟨hc1, hm⟩
 ·
  refine W.cond_true (congrArg Value.bool hc1) ?_
  refine W.seq ?_
  refine W.seq ?_
  refine W.region ?_
  refine O.move (v := (.bool t2)) rfl rfl rfl ?_
  refine WL.nil ?_
  rcases ite_some hm with ⟨hc2, hm⟩ | ⟨hc2, hm⟩
  ·
   refine W.cond_true (congrArg Value.bool hc2) ?_
   refine W.seq ?_
   refine W.region ?_
   refine O.assign (v := (.int .i64 0)) rfl rfl rfl ?_
   refine WL.nil ?_
   refine W.ret ?_
   have hq : 0 = r0 := Option.some.inj (show some 0 = some r0 from hm)
   subst hq
   exact ends1 Tryz.results26 rfl ⟨_, rfl, H.base, rfl, H.g⟩
  ·
   refine W.cond_false (congrArg Value.bool hc2) ?_
   refine W.skip ?_
   refine W.seq ?_
   refine W.region ?_
   refine O.assign (v := (.int .i64 (-1))) rfl rfl rfl ?_
   refine WL.nil ?_
   refine W.ret ?_
   have hq : (-1) = r0 := Option.some.inj (show some (-1) = some r0 from hm)
   subst hq
   exact ends1 Tryz.results26 rfl ⟨_, rfl, H.base, rfl, H.g⟩
 ·
  refine W.cond_false (congrArg Value.bool hc1) ?_
  refine W.skip ?_
  refine W.seq ?_
  refine W.seq ?_
  refine W.region ?_
  refine O.move (v := (.bool t2)) rfl rfl rfl ?_
  refine WL.nil ?_
  rcases ite_some hm with ⟨hc3, hm⟩ | ⟨hc3, hm⟩
  ·
   refine W.cond_true (congrArg Value.bool hc3) ?_
   refine W.seq ?_
   refine W.region ?_
   refine O.assign (v := (.int .i64 1)) rfl rfl rfl ?_
   refine WL.nil ?_
   refine W.ret ?_
   have hq : 1 = r0 := Option.some.inj (show some 1 = some r0 from hm)
   subst hq
   exact ends1 Tryz.results26 rfl ⟨_, rfl, H.base, rfl, H.g⟩
  ·
   refine W.cond_false (congrArg Value.bool hc3) ?_
   refine W.skip ?_
   refine W.seq ?_
   refine W.seq ?_
   refine W.region ?_
   refine O.move (v := (.int .i64 a0)) rfl rfl rfl ?_
   refine O.move (v := (.int .i64 a1)) rfl rfl rfl ?_
   refine O.lss rfl rfl rfl rfl ?_
   refine WL.nil ?_
   rcases ite_some hm with ⟨hc4, hm⟩ | ⟨hc4, hm⟩
   ·
    refine W.cond_true (congrArg Value.bool hc4) ?_
    refine W.seq ?_
    refine W.region ?_
    refine O.assign (v := (.int .i64 (-1))) rfl rfl rfl ?_
    refine WL.nil ?_
    refine W.ret ?_
    have hq : (-1) = r0 := Option.some.inj (show some (-1) = some r0 from hm)
    subst hq
    exact ends1 Tryz.results26 rfl ⟨_, rfl, H.base, rfl, H.g⟩
   ·
    refine W.cond_false (congrArg Value.bool hc4) ?_
    refine W.skip ?_
    refine W.seq ?_
    refine W.seq ?_
    refine W.region ?_
    refine O.move (v := (.int .i64 a0)) rfl rfl rfl ?_
    refine O.move (v := (.int .i64 a1)) rfl rfl rfl ?_
    refine O.gtr rfl rfl rfl rfl ?_
    refine WL.nil ?_
    rcases ite_some hm with ⟨hc5, hm⟩ | ⟨hc5, hm⟩
    ·
     refine W.cond_true (congrArg Value.bool hc5) ?_
     refine W.seq ?_
     refine W.region ?_
     refine O.assign (v := (.int .i64 1)) rfl rfl rfl ?_
     refine WL.nil ?_
     refine W.ret ?_
     have hq : 1 = r0 := Option.some.inj (show some 1 = some r0 from hm)
     subst hq
     exact ends1 Tryz.results26 rfl ⟨_, rfl, H.base, rfl, H.g⟩
    ·
     refine W.cond_false (congrArg Value.bool hc5) ?_
     refine W.skip ?_
     refine W.seq ?_
     refine W.region ?_
     refine O.assign (v := (.int .i64 0)) rfl rfl rfl ?_
     refine WL.nil ?_
     refine W.ret ?_
     have hq : 0 = r0 := Option.some.inj (show some 0 = some r0 from hm)
     subst hq
     exact ends1 Tryz.results26 rfl ⟨_, rfl, H.base, rfl, H.g⟩

theorem ints_sorts : SortsK Tryz.prog Int 25 (.func (.func 26) #[] #[]) sortInts :=
  sortsI_of { Tryz.sortT with a24 := Tryz.isAgg3, z24 := Tryz.sizeOf3 } Tryz.sortT cmpI int_swo 26 (enters_of Tryz.func26 (by kernel_rfl) rfl) fun x y W => (g_cmp_Compare_int x y (Compare_int_eq x y)).mono (by rintro e w' ⟨v, rfl, _, rfl, hg⟩; exact ⟨rfl, hg⟩)

set_option maxRecDepth 20000 in
theorem c_flag_Lost {w0 : World} (hT : TabH Tryz.prog w0) (va0 : Value) (a0 : (List GMeaning)) (ha0 : SliceR w0 va0 a0) (a1 : Int) {r0 : (List Int)} {r1 : Int} (hm : flag_Lost a0 a1 = some (r0, r1)) :
  Calls Tryz.prog 9 #[va0, (.int .i64 a1)] w0 (Ret w0 fun w v => ∃ vr0 : Value, v = .tuple #[vr0, (.int .i64 r1)] ∧ OwnR w0 w vr0 3 r0) := by
 unfold flag_Lost at hm
 refine calls_of_W Tryz.func9 rfl Tryz.ntmps9 (Nat.le_of_ble_eq_true rfl) ?_
 have H := Inv.start (w := w0)
 refine W.seq ?_
 refine W.region ?_
 have H := H.addNil (α := Int) (E := 3)
 refine O.assign (v := (.slice none 0 0)) rfl rfl rfl ?_
 refine O.assign (v := (.int .i64 0)) rfl rfl rfl ?_
 refine WL.nil ?_
 refine W.seq ?_
 refine W.block ?_
 refine W.seq ?_
 refine W.region ?_
 refine O.move (v := va0) rfl rfl rfl ?_
 obtain ⟨t1, hy1, hm⟩ := bind_some hm
 refine O.call Tryz.call8 rfl rfl rfl (c_flag_ValidBook _ _ (H.arg ha0) hy1) ?_
 rintro _ w1 hb1 rfl
 have H := H.ext hb1
 refine O.not rfl rfl rfl ?_
 refine O.assign (v := (.bool (!t1))) rfl rfl rfl ?_
 refine WL.nil ?_
 rcases ite_some hm with ⟨hc1, hm⟩ | ⟨hc1, hm⟩
 ·
  refine W.cond_true (congrArg Value.bool hc1) ?_
  refine W.seq ?_
  refine W.region ?_
  have H := H.addNil (α := Int) (E := 3)
  refine O.assign (v := (.slice none 0 0)) rfl rfl rfl ?_
  refine O.assign (v := (.int .i64 1)) rfl rfl rfl ?_
  refine WL.nil ?_
  refine W.ret ?_
  have hq : (([] : List Int), 1) = (r0, r1) := Option.some.inj (show some (([] : List Int), 1) = some (r0, r1) from hm)
  obtain ⟨he0, hq0⟩ := Prod.mk.inj hq; clear hq; subst he0
  subst hq0
  exact ends2 Tryz.results9 rfl rfl ⟨_, rfl, H.base, ⟨_, rfl, H.ownR 1 rfl⟩⟩
 ·
  refine W.cond_false (congrArg Value.bool hc1) ?_
  refine W.seq ?_
  refine W.region ?_
  refine O.move (v := (.int .i64 a1)) rfl rfl rfl ?_
  obtain ⟨t2, hy2, hm⟩ := bind_some hm
  refine O.call Tryz.call23 rfl rfl rfl (c_flag_isSet _ hy2) ?_
  rintro _ w2 hb2 rfl
  have H := H.ext hb2
  refine O.not rfl rfl rfl ?_
  refine O.assign (v := (.bool (!t2))) rfl rfl rfl ?_
  refine WL.nil ?_
  rcases ite_some hm with ⟨hc2, hm⟩ | ⟨hc2, hm⟩
  ·
   refine W.cond_true (congrArg Value.bool hc2) ?_
   refine W.seq ?_
   refine W.region ?_
   have H := H.addNil (α := Int) (E := 3)
   refine O.assign (v := (.slice none 0 0)) rfl rfl rfl ?_
   refine O.assign (v := (.int .i64 7)) rfl rfl rfl ?_
   refine WL.nil ?_
   refine W.ret ?_
   have hq : (([] : List Int), 7) = (r0, r1) := Option.some.inj (show some (([] : List Int), 7) = some (r0, r1) from hm)
   obtain ⟨he0, hq0⟩ := Prod.mk.inj hq; clear hq; subst he0
   subst hq0
   exact ends2 Tryz.results9 rfl rfl ⟨_, rfl, H.base, ⟨_, rfl, H.ownR 1 rfl⟩⟩
  ·
   refine W.cond_false (congrArg Value.bool hc2) ?_
   refine W.skip ?_
   refine W.seq ?_
   refine W.region ?_
   have H := H.addNil (α := Int) (E := 3)
   refine O.assign (v := (.slice none 0 0)) rfl rfl rfl ?_
   refine WL.nil ?_
   refine W.seq ?_
   refine W.seq ?_
   refine W.region ?_
   refine O.move (v := va0) rfl rfl rfl ?_
   refine O.lenS Tryz.underlying29 (H.arg ha0) rfl rfl rfl ?_
   refine O.move (v := (.int .i64 0)) rfl rfl rfl ?_
   refine WL.nil ?_
   obtain ⟨s1, hm1, hm⟩ := bind_some hm
   refine W.via (fun f w => ∃ v4 : Value, f 6 = v4 ∧ Inv w0 w [ownI (α := Int) v4 3 s1]) ?_ ?_
   ·
    refine W.block ?_
    have H := H.keep [1] [ownI (α := Int) (.slice none 0 0) 3 ([] : List Int)] rfl (by decide)
    refine W.rangeL (i := 0) hm1 (fun rem ik1 s f w => ∃ z2 : (List Int), ∃ v2 : Value, z2 = s ∧ a0.drop ik1 = rem ∧ f 19 = .int .i64 (ik1 : Int) ∧ f 18 = (.int .i64 ((a0.length : Nat) : Int)) ∧ f 1 = (.int .i64 a1) ∧ f 6 = v2 ∧ f 17 = va0 ∧ Inv w0 w [ownI (α := Int) v2 3 z2]) ?_ ?_ ?_
    ·
     exact ⟨_, (.slice none 0 0), rfl, List.drop_zero, rfl, rfl, rfl, rfl, rfl, H⟩
    ·
     rintro yk1 xs ik1 _ st f w ⟨z2, v2, rfl, hdropk1, hf19, hf18, hf1, hf6, hf17, H⟩ hm2
     have hltk1 := drop_lt hdropk1; have hixk1 := drop_idx hdropk1
     obtain ⟨u1, rfl⟩ := up5 hf19 hf18 hf1 hf6 hf17
     have hinck1 := addI_lt hltk1 (H.arg ha0).len_le
     refine W.seq ?_
     refine W.region ?_
     refine O.lss rfl rfl rfl rfl ?_
     refine WL.nil ?_
     refine W.seq ?_
     refine W.cond_true (congrArg Value.bool (decide_eq_true hltk1)) ?_
     refine W.skip ?_
     refine W.seq ?_
     obtain ⟨s2, hm3, hm2⟩ := bind_some hm2
     refine W.via (fun f w => ∃ v5 : Value, f 1 = (.int .i64 a1) ∧ f 6 = v5 ∧ f 17 = va0 ∧ f 18 = (.int .i64 ((a0.length : Nat) : Int)) ∧ f 19 = (.int .i64 (ik1 : Int)) ∧ Inv w0 w [ownI (α := Int) v5 3 s2]) ?_ ?_
     ·
      refine W.block ?_
      refine W.seq ?_
      refine W.region ?_
      obtain ⟨p1, hp1, hrp1⟩ := fix_indexAddr Tryz.underlying29 sz32 ha0 hixk1
      refine hrp1 rfl rfl rfl rfl ?_
      refine O.loadA [(.int .i64 yk1.Number), (.string yk1.Text)] ag32 rfl rfl rfl rfl ((hp1.mono H.base).flat) ?_
      refine O.alloc [(.int .i64 0), (.string ByteArray.empty)] ze32 H rfl rfl rfl ?_
      intro b1 w3 H hb3
      refine O.store 1 0 [(.int .i64 yk1.Number), (.string yk1.Text)] [(.int .i64 yk1.Number), (.string yk1.Text)] sz32 H rfl rfl rfl rfl rfl rfl ⟨⟨rfl, rfl⟩, rfl⟩ (one_cons rfl (one_cons rfl one_nil)) ?_
      intro w4 H
      refine WL.nil ?_
      refine W.seq ?_
      refine W.region ?_
      refine O.fieldAddr fd32_0 rfl rfl rfl ?_
      refine O.load sc3 rfl rfl rfl (H.cell 1 rfl 0 _ rfl) ?_
      obtain ⟨t3, hy3, hm3⟩ := bind_some hm3
      refine O.call Tryz.call19 rfl rfl rfl (c_flag_digitsOf (hT.mono H.base) _ hy3) ?_
      rintro v6 w5 hb4 ho1
      have H := H.addOwn hb4 ho1
      refine O.move (v := (.int .i64 a1)) rfl rfl rfl ?_
      obtain ⟨t4, hy4, hm3⟩ := bind_some hm3
      refine O.call Tryz.call24 rfl rfl rfl (c_flag_can _ _ (H.own 2 rfl) _ hy4) ?_
      rintro _ w6 hb5 rfl
      have H := H.ext hb5
      refine O.not rfl rfl rfl ?_
      refine WL.nil ?_
      obtain ⟨s3, hm4, hm3⟩ := bind_some hm3
      refine W.via (fun f w => ∃ v7 : Value, f 1 = (.int .i64 a1) ∧ f 6 = v7 ∧ f 17 = va0 ∧ f 18 = (.int .i64 ((a0.length : Nat) : Int)) ∧ f 19 = (.int .i64 (ik1 : Int)) ∧ Inv w0 w [ownI (α := Int) v7 3 s3]) ?_ ?_
      ·
       rcases ite_some hm4 with ⟨hc3, hm4⟩ | ⟨hc3, hm4⟩
       ·
        refine W.cond_true (congrArg Value.bool hc3) ?_
        refine W.region ?_
        refine O.move (v := v2) rfl rfl rfl ?_
        refine O.fieldAddr fd32_0 rfl rfl rfl ?_
        refine O.load sc3 rfl rfl rfl (H.cell 1 rfl 0 _ rfl) ?_
        refine O.buildSlice (α := Int) [(.int .i64 yk1.Number)] [yk1.Number] Tryz.underlying33 el3 H rfl rfl rfl rfl rfl rfl rfl ?_
        intro v8 w7 H hb6
        obtain ⟨t5, ht5, hm4⟩ := bind_some hm4
        refine O.append 0 Tryz.underlying33 el3 rfl H rfl (H.own 3 rfl) ht5 rfl rfl rfl rfl ?_
        intro v9 w8 H
        refine O.assign (v := v9) rfl rfl rfl ?_
        refine WL.nil ?_
        have H := H.keep [0] [ownI (α := Int) v9 3 t5] rfl (by decide)
        have hq : t5 = s3 := Option.some.inj (show some t5 = some s3 from hm4)
        subst hq
        exact ⟨v9, rfl, rfl, rfl, rfl, rfl, H⟩
       ·
        refine W.cond_false (congrArg Value.bool hc3) ?_
        refine W.skip ?_
        have H := H.keep [0] [ownI (α := Int) v2 3 z2] rfl (by decide)
        have hq : z2 = s3 := Option.some.inj (show some z2 = some s3 from hm4)
        subst hq
        exact ⟨v2, rfl, rfl, rfl, rfl, rfl, H⟩
      ·
       rintro f w ⟨v7, hf1, hf6, hf17, hf18, hf19, H⟩
       obtain ⟨u2, rfl⟩ := up5 hf1 hf6 hf17 hf18 hf19
       have hq : s3 = s2 := Option.some.inj (show some s3 = some s2 from hm3)
       subst hq
       exact ⟨v7, rfl, rfl, rfl, rfl, rfl, H⟩
     ·
      rintro f w ⟨v5, hf1, hf6, hf17, hf18, hf19, H⟩
      obtain ⟨u3, rfl⟩ := up5 hf1 hf6 hf17 hf18 hf19
      refine W.region ?_
      refine O.add rfl rfl rfl rfl hinck1 ?_
      refine O.move (v := .int .i64 ((ik1 : Int) + 1)) rfl rfl rfl ?_
      refine WL.nil ?_
      obtain rfl := Option.some.inj hm2
      exact ⟨_, rfl, _, v5, rfl, drop_next hdropk1, rfl, rfl, rfl, rfl, rfl, H⟩
    ·
     rintro ik1 _ f w ⟨z2, v2, rfl, hdropk1, hf19, hf18, hf1, hf6, hf17, H⟩ hfin
     have hltk1 := drop_end hdropk1
     obtain ⟨u4, rfl⟩ := up5 hf19 hf18 hf1 hf6 hf17
     refine W.seq ?_
     refine W.region ?_
     refine O.lss rfl rfl rfl rfl ?_
     refine WL.nil ?_
     refine W.seq ?_
     refine W.cond_false (congrArg Value.bool (decide_eq_false hltk1)) ?_
     refine W.exit ?_
     have hq : z2 = s1 := hfin
     subst hq
     refine xT rfl ?_
     exact ⟨v2, rfl, H⟩
   ·
    rintro f w ⟨v4, hf6, H⟩
    obtain ⟨u5, rfl⟩ := up1 hf6
    refine W.seq ?_
    refine W.region ?_
    refine O.move (v := v4) rfl rfl rfl ?_
    obtain ⟨t6, hy5, hm⟩ := bind_some hm
    refine O.sortK 0 H rfl ints_sorts hy5 Tryz.call25 rfl rfl rfl rfl ?_
    intro w9 H
    refine WL.nil ?_
    refine W.seq ?_
    refine W.region ?_
    refine O.move (v := v4) rfl rfl rfl ?_
    refine O.assign (v := v4) rfl rfl rfl ?_
    refine O.assign (v := (.int .i64 0)) rfl rfl rfl ?_
    refine WL.nil ?_
    refine W.ret ?_
    have hq : (t6, 0) = (r0, r1) := Option.some.inj (show some (t6, 0) = some (r0, r1) from hm)
    obtain ⟨he0, hq0⟩ := Prod.mk.inj hq; clear hq; subst he0
    subst hq0
    exact ends2 Tryz.results9 rfl rfl ⟨_, rfl, H.base, ⟨_, rfl, H.ownR 0 rfl⟩⟩

theorem c_flag_asked {w0 : World} (va0 : Value) (a0 : (List Int)) (ha0 : SliceR w0 va0 a0) (a1 : Int) {r0 : Int} (hm : flag_asked a0 a1 = some r0) :
  Calls Tryz.prog 27 #[va0, (.int .i64 a1)] w0 (Ret w0 fun _ v => v = (.int .i64 r0)) := by
 unfold flag_asked at hm
 refine calls_of_W Tryz.func27 rfl Tryz.ntmps27 (Nat.le_of_ble_eq_true rfl) ?_
 have H := Inv.start (w := w0)
 refine W.seq ?_
 refine W.region ?_
 refine O.assign (v := (.int .i64 0)) rfl rfl rfl ?_
 refine WL.nil ?_
 refine W.seq ?_
 refine W.block ?_
 refine W.seq ?_
 refine W.region ?_
 refine O.move (v := va0) rfl rfl rfl ?_
 obtain ⟨t1, hy1, hm⟩ := bind_some hm
 refine O.call Tryz.call39 rfl rfl rfl (c_flag_ValidDigits _ _ (H.arg ha0) hy1) ?_
 rintro _ w1 hb1 rfl
 have H := H.ext hb1
 refine O.not rfl rfl rfl ?_
 refine O.assign (v := (.bool (!t1))) rfl rfl rfl ?_
 refine WL.nil ?_
 rcases ite_some hm with ⟨hc1, hm⟩ | ⟨hc1, hm⟩
 ·
  refine W.cond_true (congrArg Value.bool hc1) ?_
  refine W.seq ?_
  refine W.region ?_
  refine O.assign (v := (.int .i64 1)) rfl rfl rfl ?_
  refine WL.nil ?_
  refine W.ret ?_
  have hq : 1 = r0 := Option.some.inj (show some 1 = some r0 from hm)
  subst hq
  exact ends1 Tryz.results27 rfl ⟨_, rfl, H.base, rfl⟩
 ·
  refine W.cond_false (congrArg Value.bool hc1) ?_
  refine W.seq ?_
  refine W.region ?_
  refine O.move (v := (.int .i64 a1)) rfl rfl rfl ?_
  obtain ⟨t2, hy2, hm⟩ := bind_some hm
  refine O.call Tryz.call23 rfl rfl rfl (c_flag_isSet _ hy2) ?_
  rintro _ w2 hb2 rfl
  have H := H.ext hb2
  refine O.not rfl rfl rfl ?_
  refine O.assign (v := (.bool (!t2))) rfl rfl rfl ?_
  refine WL.nil ?_
  rcases ite_some hm with ⟨hc2, hm⟩ | ⟨hc2, hm⟩
  ·
   refine W.cond_true (congrArg Value.bool hc2) ?_
   refine W.seq ?_
   refine W.region ?_
   refine O.assign (v := (.int .i64 7)) rfl rfl rfl ?_
   refine WL.nil ?_
   refine W.ret ?_
   have hq : 7 = r0 := Option.some.inj (show some 7 = some r0 from hm)
   subst hq
   exact ends1 Tryz.results27 rfl ⟨_, rfl, H.base, rfl⟩
  ·
   refine W.cond_false (congrArg Value.bool hc2) ?_
   refine W.skip ?_
   refine W.seq ?_
   refine W.region ?_
   refine O.assign (v := (.int .i64 0)) rfl rfl rfl ?_
   refine WL.nil ?_
   refine W.ret ?_
   have hq : 0 = r0 := Option.some.inj (show some 0 = some r0 from hm)
   subst hq
   exact ends1 Tryz.results27 rfl ⟨_, rfl, H.base, rfl⟩

theorem c_slices_Clone_int {w0 : World} (va0 : Value) (a0 : (List Int)) (ha0 : SliceR w0 va0 a0) {r0 : (List Int)} (hm : slices_Clone_int a0 = some r0) :
  Calls Tryz.prog 29 #[va0] w0 (Ret w0 fun w v => OwnR w0 w v 3 r0) := by
 unfold slices_Clone_int at hm
 refine calls_of_W Tryz.func29 rfl Tryz.ntmps29 (Nat.le_of_ble_eq_true rfl) ?_
 have H := Inv.start (w := w0)
 refine W.seq ?_
 refine W.region ?_
 have H := H.addNil (α := Int) (E := 3)
 refine O.assign (v := (.slice none 0 0)) rfl rfl rfl ?_
 refine WL.nil ?_
 refine W.seq ?_
 refine W.seq ?_
 refine W.region ?_
 refine O.move (v := va0) rfl rfl rfl ?_
 rcases ha0.nil_or with ⟨rfl, rfl⟩ | ⟨ad, cap, rfl⟩
 ·
  replace hm : (some ([] : List Int)) = some r0 := by simpa [appI] using hm
  refine O.eqlNil Tryz.underlying33 rfl rfl rfl rfl ?_
  refine WL.reset (i := 4) (v := .bool true) rfl ?_
  refine WL.nil ?_
  refine W.cond_true rfl ?_
  refine W.seq ?_
  refine W.region ?_
  have H := H.addNil (α := Int) (E := 3)
  refine O.assign (v := (.slice none 0 0)) rfl rfl rfl ?_
  refine WL.nil ?_
  refine W.ret ?_
  have hq : ([] : List Int) = r0 := Option.some.inj (show some ([] : List Int) = some r0 from hm)
  subst hq
  exact ends1 Tryz.results29 rfl ⟨_, rfl, H.base, H.ownR 1 rfl⟩
 ·
  refine O.eqlNil Tryz.underlying33 rfl rfl rfl rfl ?_
  refine WL.reset (i := 4) (v := .bool false) rfl ?_
  refine WL.nil ?_
  refine W.cond_false rfl ?_
  refine W.skip ?_
  refine W.seq ?_
  refine W.region ?_
  refine O.buildEmpty (α := Int) Tryz.underlying33 el3 H rfl rfl ?_
  intro b1 w1 H hb1
  refine O.move (v := (.slice (some ad) a0.length cap)) rfl rfl rfl ?_
  obtain ⟨t1, ht1, hm⟩ := bind_some hm
  refine O.append 1 Tryz.underlying33 el3 rfl H rfl (H.arg ha0) ht1 rfl rfl rfl rfl ?_
  intro v1 w2 H
  refine O.assign (v := v1) rfl rfl rfl ?_
  refine WL.nil ?_
  refine W.ret ?_
  have hq : t1 = r0 := Option.some.inj (show some t1 = some r0 from hm)
  subst hq
  exact ends1 Tryz.results29 rfl ⟨_, rfl, H.base, H.ownR 1 rfl⟩

set_option maxRecDepth 20000 in
theorem c_flag_With {w0 : World} (va0 : Value) (a0 : (List Int)) (ha0 : SliceR w0 va0 a0) (a1 : Int) {r0 : (List Int)} {r1 : Int} (hm : flag_With a0 a1 = some (r0, r1)) :
  Calls Tryz.prog 10 #[va0, (.int .i64 a1)] w0 (Ret w0 fun w v => ∃ vr0 : Value, v = .tuple #[vr0, (.int .i64 r1)] ∧ OwnR w0 w vr0 3 r0) := by
 unfold flag_With at hm
 refine calls_of_WM Tryz.func10 rfl Tryz.ntmps10 (Nat.le_of_ble_eq_true rfl) ?_
 have H := Inv.startM (w0 := w0)
 have hmk : (fr0 #[va0, (.int .i64 a1)]).marks = [] := rfl
 refine W.seq ?_
 refine W.region ?_
 refine O.alloc [(.slice none 0 0)] ze33 H rfl rfl rfl ?_
 intro b1 w1 H hb1
 have H := H.addNil (α := Int) (E := 3)
 refine O.alloc [(.int .i64 0)] ze26 H rfl rfl rfl ?_
 intro b2 w2 H hb2
 refine WL.nil ?_
 refine W.seq ?_
 refine W.seq ?_
 refine W.region ?_
 refine O.move (v := va0) rfl rfl rfl ?_
 refine O.move (v := (.int .i64 a1)) rfl rfl rfl ?_
 obtain ⟨t1, hy1, hm⟩ := bind_some hm
 refine O.call Tryz.call27 rfl rfl rfl (c_flag_asked _ _ (H.arg ha0) _ hy1) ?_
 rintro _ w3 hb3 rfl
 have H := H.ext hb3
 refine O.assign (v := (.int .i64 t1)) rfl rfl rfl ?_
 refine WL.nil ?_
 refine W.seq ?_
 refine W.region ?_
 refine O.move (v := (.int .i64 t1)) rfl rfl rfl ?_
 refine O.neq rfl rfl rfl rfl ?_
 refine WL.nil ?_
 rcases ite_some hm with ⟨hc1, hm⟩ | ⟨hc1, hm⟩
 ·
  refine W.cond_true (congrArg Value.bool hc1) ?_
  refine W.seq ?_
  refine W.region ?_
  refine O.move (v := (.int .i64 t1)) rfl rfl rfl ?_
  have H := H.addNil (α := Int) (E := 3)
  refine O.store 1 0 [(.slice none 0 0)] [(.slice none 0 0)] sz33 H rfl rfl rfl rfl rfl rfl ⟨⟨rfl, rfl⟩, rfl⟩ (one_cons rfl one_nil) ?_
  intro w4 H
  refine O.store 3 0 [(.int .i64 t1)] [(.int .i64 t1)] sz26 H rfl rfl rfl rfl rfl rfl ⟨⟨rfl, rfl⟩, rfl⟩ (one_cons rfl one_nil) ?_
  intro w5 H
  refine WL.nil ?_
  refine W.ret ?_
  refine endsM_mk H hmk ?_
  intro w H _
  have hq : ([], t1) = (r0, r1) := Option.some.inj (show some ([], t1) = some (r0, r1) from hm)
  obtain ⟨he0, hq0⟩ := Prod.mk.inj hq; clear hq; subst he0
  subst hq0
  exact ends2 Tryz.results10 ⟨_, rfl, run_loadVar_scalar sc33 (H.cell 1 rfl 0 _ rfl)⟩ ⟨_, rfl, run_loadVar_scalar sc26 (H.cell 3 rfl 0 _ rfl)⟩ ⟨_, rfl, H.base, ⟨_, rfl, OwnR.nil⟩⟩
 ·
  refine W.cond_false (congrArg Value.bool hc1) ?_
  refine W.skip ?_
  refine W.seq ?_
  refine W.seq ?_
  refine W.region ?_
  refine O.move (v := va0) rfl rfl rfl ?_
  refine O.move (v := (.int .i64 a1)) rfl rfl rfl ?_
  refine O.call Tryz.call28 rfl rfl rfl (c_flag_hoists _ _ (H.arg ha0) _) ?_
  rintro _ w6 hb4 ⟨b3, b4, rfl, hM1⟩
  have H := H.addAll hb4 hM1
  refine WL.nil ?_
  obtain ⟨xs1, hxs1, hm⟩ := bind_some hm
  obtain ⟨o1, hm1, hm⟩ := bind_some hm
  refine W.via (fun f w => ∃ ms1 : List Nat, o1 = .next () ∧ f 4 = (.pointer (some ⟨b1, 0, none⟩)) ∧ f 5 = (.pointer (some ⟨b2, 0, none⟩)) ∧ f.marks = ms1 ∧ Inv w0 w [marksI ms1, boxI b1 33 [(.slice none 0 0)], ownI (α := Int) (.slice none 0 0) 3 ([] : List Int), boxI b2 26 [(.int .i64 0)]]) ?_ ?_
  ·
   refine W.block ?_
   refine W.rangeFuncL (α := (List Int)) (σ := Unit) (X := Ctl (Unit) ((List Int) × Int)) (xs := xs1) (rep := repS) hm1 (fun s L => () = s ∧ L = [boxI b1 33 [(.slice none 0 0)], ownI (α := Int) (.slice none 0 0) 3 ([] : List Int), boxI b2 26 [(.int .i64 0)], boxI b3 33 [va0], boxI b4 3 [(.int .i64 a1)]]) (fun y j L => match j with | some j => j = 0 ∧ (False) | none => ∃ q1 : (List Int), ∃ v1 : Value, y = Ctl.ret (q1, 0) ∧ L = [boxI b1 33 [v1], boxI b2 26 [(.int .i64 0)], ownI (α := Int) v1 3 q1]) rfl Tryz.call55 rfl (fun _ _ _ h => by obtain ⟨_, rfl, _⟩ := h; rfl) (fun Kp W hs hk => it_flag_hoists_c1 _ _ a0 _ a1 hxs1 fun w1 hw => by obtain ⟨_, _, _, _, ⟨_, rfl⟩, H⟩ := hk w1 hw; exact ⟨H.cell 6 rfl, (H.arg ha0), H.cell 7 rfl⟩) H ⟨rfl, rfl⟩ ?_ ?_ ?_ ?_
   ·
    rintro _ rs lp lp2 iz x1 _ st _ w _ ⟨rfl, rfl⟩ ⟨vx1, rfl, hsx1⟩ hm2 H
    change W _ _ _ _ _ _ _ (upd _ 17 vx1) w
    refine W.region ?_
    refine O.assign (v := vx1) rfl rfl rfl ?_
    refine WL.nil ?_
    refine ⟨_, H, fun w hsl H => ?_⟩
    have hsx1 := hsl _ _ hsx1
    refine W.block ?_
    refine W.seq ?_
    refine W.region ?_
    refine O.move (v := vx1) rfl rfl rfl ?_
    obtain ⟨t2, hy2, hm2⟩ := bind_some hm2
    refine O.call Tryz.call29 rfl rfl rfl (c_slices_Clone_int _ _ hsx1 hy2) ?_
    rintro v2 w7 hb5 ho1
    have hsx1 := hsx1.mono hb5
    have H := H.addOwn hb5 ho1
    refine O.store 3 0 [v2] [v2] sz33 H rfl rfl rfl rfl rfl (SliceR.cells1 (H.own 8 rfl)) ⟨⟨rfl, rfl⟩, rfl⟩ (one_cons (SliceR.one (H.own 8 rfl)) one_nil) ?_
    intro w8 H
    clear hsx1
    refine O.store 5 0 [(.int .i64 0)] [(.int .i64 0)] sz26 H rfl rfl rfl rfl rfl rfl ⟨⟨rfl, rfl⟩, rfl⟩ (one_cons rfl one_nil) ?_
    intro w9 H
    refine WL.nil ?_
    refine W.ret ?_
    have H := H.keep [0, 1, 2, 3, 5, 8] [rs, lp2, marksI [], boxI b1 33 [v2], boxI b2 26 [(.int .i64 0)], ownI (α := Int) v2 3 t2] rfl (by decide)
    obtain rfl := Option.some.inj hm2
    refine ⟨_, rfl, fun _ => ⟨_, ⟨_, v2, rfl, rfl⟩, H⟩⟩
   ·
    rintro D1 _ _ w ⟨rfl, rfl⟩ hfin H
    obtain rfl : Ctl.next () = o1 := hfin
    have H := H.keep [0, 1, 2, 3] [marksI (D1 :: []), boxI b1 33 [(.slice none 0 0)], ownI (α := Int) (.slice none 0 0) 3 ([] : List Int), boxI b2 26 [(.int .i64 0)]] rfl (by decide)
    have hmk := congrArg (D1 :: ·) hmk
    exact ⟨_, rfl, rfl, rfl, hmk, H⟩
   ·
    rintro _ _ _ _ ⟨_, h⟩; exact h.elim
   ·
    rintro D1 _ w ⟨q1, v1, hy, rfl⟩ H
    subst hy
    have hmk := congrArg (D1 :: ·) hmk
    refine endsM_mk H hmk ?_
    intro w H _
    have hq : (q1, 0) = (r0, r1) := Option.some.inj (show some (q1, 0) = some (r0, r1) from hm)
    obtain ⟨he0, hq0⟩ := Prod.mk.inj hq; clear hq; subst he0
    subst hq0
    exact ends2 Tryz.results10 ⟨_, rfl, run_loadVar_scalar sc33 (H.cell 1 rfl 0 _ rfl)⟩ ⟨_, rfl, run_loadVar_scalar sc26 (H.cell 2 rfl 0 _ rfl)⟩ ⟨_, rfl, H.base, ⟨_, rfl, H.ownR 3 rfl⟩⟩
  ·
   rintro f w ⟨ms1, rfl, hf4, hf5, hmk, H⟩
   obtain ⟨u1, rfl⟩ := up2 hf4 hf5
   refine W.seq ?_
   refine W.region ?_
   have H := H.addNil (α := Int) (E := 3)
   refine O.store 1 0 [(.slice none 0 0)] [(.slice none 0 0)] sz33 H rfl rfl rfl rfl rfl rfl ⟨⟨rfl, rfl⟩, rfl⟩ (one_cons rfl one_nil) ?_
   intro w10 H
   refine O.store 3 0 [(.int .i64 10)] [(.int .i64 10)] sz26 H rfl rfl rfl rfl rfl rfl ⟨⟨rfl, rfl⟩, rfl⟩ (one_cons rfl one_nil) ?_
   intro w11 H
   refine WL.nil ?_
   refine W.ret ?_
   refine endsM_mk H hmk ?_
   intro w H _
   have hq : ([], 10) = (r0, r1) := Option.some.inj (show some ([], 10) = some (r0, r1) from hm)
   obtain ⟨he0, hq0⟩ := Prod.mk.inj hq; clear hq; subst he0
   subst hq0
   exact ends2 Tryz.results10 ⟨_, rfl, run_loadVar_scalar sc33 (H.cell 1 rfl 0 _ rfl)⟩ ⟨_, rfl, run_loadVar_scalar sc26 (H.cell 3 rfl 0 _ rfl)⟩ ⟨_, rfl, H.base, ⟨_, rfl, OwnR.nil⟩⟩

set_option maxRecDepth 20000 in
theorem c_flag_ValidHoist {w0 : World} (va0 : Value) (a0 : (List Int)) (ha0 : SliceR w0 va0 a0) {r0 : Bool} (hm : flag_ValidHoist a0 = some r0) :
  Calls Tryz.prog 30 #[va0] w0 (Ret w0 fun _ v => v = (.bool r0)) := by
 unfold flag_ValidHoist at hm
 refine calls_of_W Tryz.func30 rfl Tryz.ntmps30 (Nat.le_of_ble_eq_true rfl) ?_
 have H := Inv.start (w := w0)
 refine W.seq ?_
 refine W.region ?_
 refine O.assign (v := (.bool false)) rfl rfl rfl ?_
 refine WL.nil ?_
 refine W.seq ?_
 refine W.seq ?_
 refine W.region ?_
 refine O.move (v := va0) rfl rfl rfl ?_
 obtain ⟨t1, hy1, hm⟩ := bind_some hm
 refine O.call Tryz.call57 rfl rfl rfl (c_flag_listed _ _ (H.arg ha0) _ hy1) ?_
 rintro _ w1 hb1 rfl
 have H := H.ext hb1
 refine O.not rfl rfl rfl ?_
 refine WL.nil ?_
 rcases ite_some hm with ⟨hc1, hm⟩ | ⟨hc1, hm⟩
 ·
  refine W.cond_true (congrArg Value.bool hc1) ?_
  refine W.seq ?_
  refine W.region ?_
  refine O.assign (v := (.bool false)) rfl rfl rfl ?_
  refine WL.nil ?_
  refine W.ret ?_
  have hq : false = r0 := Option.some.inj (show some false = some r0 from hm)
  subst hq
  exact ends1 Tryz.results30 rfl ⟨_, rfl, H.base, rfl⟩
 ·
  refine W.cond_false (congrArg Value.bool hc1) ?_
  refine W.skip ?_
  refine W.seq ?_
  refine W.seq ?_
  refine W.region ?_
  refine O.move (v := va0) rfl rfl rfl ?_
  refine O.lenS Tryz.underlying33 (H.arg ha0) rfl rfl rfl ?_
  refine O.move (v := (.int .i64 0)) rfl rfl rfl ?_
  refine WL.nil ?_
  obtain ⟨o1, hm1, hm⟩ := bind_some hm
  refine W.via (fun f w => o1 = .next () ∧ Inv w0 w []) ?_ ?_
  ·
   refine W.block ?_
   have hbdik1 := (H.arg ha0).len_le
   refine W.rangeN (i := 0) hm1 (fun rem ik1 s f w => () = s ∧ (ik1 : Int) + rem = max 0 ((a0.length : Nat) : Int) ∧ f 10 = .int .i64 (ik1 : Int) ∧ f 9 = (.int .i64 ((a0.length : Nat) : Int)) ∧ f 0 = va0 ∧ f 8 = va0 ∧ Inv w0 w []) ?_ ?_ ?_
   ·
    exact ⟨rfl, rangeN_start, rfl, rfl, rfl, rfl, H⟩
   ·
    rintro k ik1 _ st f w ⟨rfl, hdropk1, hf10, hf9, hf0, hf8, H⟩ hm2
    have hltk1 := rangeN_lt hdropk1
    obtain ⟨u1, rfl⟩ := up4 hf10 hf9 hf0 hf8
    have hinck1 := addI_lt hltk1 hbdik1
    refine W.seq ?_
    refine W.region ?_
    refine O.lss rfl rfl rfl rfl ?_
    refine WL.nil ?_
    refine W.seq ?_
    refine W.cond_true (congrArg Value.bool (decide_eq_true hltk1)) ?_
    refine W.skip ?_
    refine W.seq ?_
    refine W.block ?_
    refine W.seq ?_
    refine W.region ?_
    refine O.move (v := (.int .i64 (ik1 : Int))) rfl rfl rfl ?_
    obtain ⟨x1, hx1, hm2⟩ := bind_some hm2
    obtain ⟨p1, hp1, hrp1⟩ := fix_indexAddr Tryz.underlying33 sz3 ha0 hx1
    refine hrp1 rfl rfl rfl rfl ?_
    refine O.load sc3 rfl rfl rfl ((hp1.mono H.base).flat 0 _ rfl) ?_
    refine O.assign (v := (.int .i64 (ik1 : Int))) rfl rfl rfl ?_
    refine O.assign (v := (.int .i64 x1)) rfl rfl rfl ?_
    refine WL.nil ?_
    refine W.seq ?_
    refine W.region ?_
    refine O.move (v := va0) rfl rfl rfl ?_
    refine O.move (v := (.int .i64 (ik1 : Int))) rfl rfl rfl ?_
    obtain ⟨t2, ht2, hm2⟩ := bind_some hm2
    obtain ⟨v1, hs1, hrv1⟩ := fix_sliceH Tryz.underlying33 sz3 ha0 ht2
    refine hrv1 rfl rfl rfl rfl ?_
    refine O.move (v := (.int .i64 x1)) rfl rfl rfl ?_
    obtain ⟨t3, hy2, hm2⟩ := bind_some hm2
    refine O.call Tryz.call40 rfl rfl rfl (c_slices_Contains_int _ _ (H.arg hs1) _ hy2) ?_
    rintro _ w2 hb2 rfl
    have H := H.ext hb2
    refine O.move (v := (.bool t3)) rfl rfl rfl ?_
    obtain ⟨b1, hm3, hm2⟩ := bind_some hm2
    refine WL.cut 9 (fun f w => f 0 = va0 ∧ f 8 = va0 ∧ f 9 = (.int .i64 ((a0.length : Nat) : Int)) ∧ f 10 = (.int .i64 (ik1 : Int)) ∧ f 29 = .bool b1 ∧ Inv w0 w []) ?_ ?_
    ·
     rcases ite_some hm3 with ⟨hc2, hm3⟩ | ⟨hc2, hm3⟩
     ·
      refine WL.reset (i := 20) (v := .bool true) (congrArg Value.bool hc2) ?_
      refine O.skip rfl rfl ?_
      refine O.skip rfl rfl ?_
      refine O.skip rfl rfl ?_
      refine O.skip rfl rfl ?_
      refine O.skip rfl rfl ?_
      refine O.skip rfl rfl ?_
      refine O.skip rfl rfl ?_
      refine O.skip rfl rfl ?_
      refine O.pick_true (v := (.bool true)) rfl rfl rfl rfl ?_
      refine WL.nil ?_
      have hq : true = b1 := Option.some.inj (show some true = some b1 from hm3)
      subst hq
      exact ⟨rfl, rfl, rfl, rfl, rfl, H⟩
     ·
      refine WL.reset (i := 20) (v := .bool false) (congrArg Value.bool hc2) ?_
      refine O.move (v := (.int .i64 x1)) rfl rfl rfl ?_
      refine O.geq rfl rfl rfl rfl ?_
      refine O.move (v := (.bool (decide (10 ≤ x1)))) rfl rfl rfl ?_
      obtain ⟨b2, hm4, hm3⟩ := bind_some hm3
      refine WL.cut 5 (fun f w => f 0 = va0 ∧ f 8 = va0 ∧ f 9 = (.int .i64 ((a0.length : Nat) : Int)) ∧ f 10 = (.int .i64 (ik1 : Int)) ∧ f 20 = (.bool false) ∧ f 21 = (.int .i64 x1) ∧ f 22 = (.bool (decide (10 ≤ x1))) ∧ f 23 = (.bool (decide (10 ≤ x1))) ∧ f 28 = .bool b2 ∧ Inv w0 w []) ?_ ?_
      ·
       rcases ite_some hm4 with ⟨hc3, hm4⟩ | ⟨hc3, hm4⟩
       ·
        refine WL.reset (i := 23) (v := .bool true) (congrArg Value.bool hc3) ?_
        refine O.move (v := (.int .i64 x1)) rfl rfl rfl ?_
        obtain ⟨t4, hy3, hm4⟩ := bind_some hm4
        refine O.call Tryz.call41 rfl rfl rfl (c_flag_place _ hy3) ?_
        rintro _ w3 hb3 rfl
        have H := H.ext hb3
        refine O.move (v := (.int .i64 (ik1 : Int))) rfl rfl rfl ?_
        refine O.geq rfl rfl rfl rfl ?_
        refine O.pick_true (v := (.bool (decide ((ik1 : Int) ≤ t4)))) rfl rfl rfl rfl ?_
        refine WL.nil ?_
        have hq : (decide ((ik1 : Int) ≤ t4)) = b2 := Option.some.inj (show some (decide ((ik1 : Int) ≤ t4)) = some b2 from hm4)
        subst hq
        exact ⟨rfl, rfl, rfl, rfl, rfl, rfl, rfl, (congrArg Value.bool hc3).symm, rfl, H⟩
       ·
        refine WL.reset (i := 23) (v := .bool false) (congrArg Value.bool hc3) ?_
        refine O.skip rfl rfl ?_
        refine O.skip rfl rfl ?_
        refine O.skip rfl rfl ?_
        refine O.skip rfl rfl ?_
        refine O.pick_false (v := (.bool false)) rfl rfl rfl rfl ?_
        refine WL.nil ?_
        have hq : false = b2 := Option.some.inj (show some false = some b2 from hm4)
        subst hq
        exact ⟨rfl, rfl, rfl, rfl, rfl, rfl, rfl, (congrArg Value.bool hc3).symm, rfl, H⟩
      ·
       rintro f w ⟨hf0, hf8, hf9, hf10, hf20, hf21, hf22, hf23, hf28, H⟩
       obtain ⟨u2, rfl⟩ := up9 hf0 hf8 hf9 hf10 hf20 hf21 hf22 hf23 hf28
       refine O.pick_false (v := (.bool b2)) rfl rfl rfl rfl ?_
       refine WL.nil ?_
       have hq : b2 = b1 := Option.some.inj (show some b2 = some b1 from hm3)
       subst hq
       exact ⟨rfl, rfl, rfl, rfl, rfl, H⟩
    ·
     rintro f w ⟨hf0, hf8, hf9, hf10, hf29, H⟩
     obtain ⟨u3, rfl⟩ := up5 hf0 hf8 hf9 hf10 hf29
     refine WL.nil ?_
     rcases ite_some hm2 with ⟨hc4, hm2⟩ | ⟨hc4, hm2⟩
     ·
      refine W.cond_true (congrArg Value.bool hc4) ?_
      refine W.seq ?_
      refine W.region ?_
      refine O.assign (v := (.bool false)) rfl rfl rfl ?_
      refine WL.nil ?_
      refine W.ret ?_
      obtain rfl := Option.some.inj hm2
      refine ⟨_, rfl, ?_⟩
      rintro rfl
      have hq : false = r0 := Option.some.inj (show some false = some r0 from hm)
      subst hq
      exact ends1 Tryz.results30 rfl ⟨_, rfl, H.base, rfl⟩
     ·
      refine W.cond_false (congrArg Value.bool hc4) ?_
      refine W.skip ?_
      refine W.region ?_
      refine O.add rfl rfl rfl rfl hinck1 ?_
      refine O.move (v := .int .i64 ((ik1 : Int) + 1)) rfl rfl rfl ?_
      refine WL.nil ?_
      obtain rfl := Option.some.inj hm2
      exact ⟨_, rfl, rfl, rangeN_next hdropk1, rfl, rfl, rfl, rfl, H⟩
   ·
    rintro ik1 _ f w ⟨rfl, hdropk1, hf10, hf9, hf0, hf8, H⟩ hfin
    have hltk1 := rangeN_end hdropk1
    obtain ⟨u4, rfl⟩ := up4 hf10 hf9 hf0 hf8
    refine W.seq ?_
    refine W.region ?_
    refine O.lss rfl rfl rfl rfl ?_
    refine WL.nil ?_
    refine W.seq ?_
    refine W.cond_false (congrArg Value.bool (decide_eq_false hltk1)) ?_
    refine W.exit ?_
    obtain rfl : Ctl.next () = o1 := hfin
    refine xT rfl ?_
    exact ⟨rfl, H⟩
  ·
   rintro f w ⟨rfl, H⟩
   refine W.seq ?_
   refine W.region ?_
   refine O.assign (v := (.bool true)) rfl rfl rfl ?_
   refine WL.nil ?_
   refine W.ret ?_
   have hq : true = r0 := Option.some.inj (show some true = some r0 from hm)
   subst hq
   exact ends1 Tryz.results30 rfl ⟨_, rfl, H.base, rfl⟩

set_option maxRecDepth 20000 in
theorem c_flag_means {w0 : World} (va0 : Value) (a0 : (List Int)) (ha0 : SliceR w0 va0 a0) {r0 : (List Int)} (hm : flag_means a0 = some r0) :
  Calls Tryz.prog 31 #[va0] w0 (Ret w0 fun w v => OwnR w0 w v 3 r0) := by
 unfold flag_means at hm
 refine calls_of_W Tryz.func31 rfl Tryz.ntmps31 (Nat.le_of_ble_eq_true rfl) ?_
 have H := Inv.start (w := w0)
 refine W.seq ?_
 refine W.region ?_
 have H := H.addNil (α := Int) (E := 3)
 refine O.assign (v := (.slice none 0 0)) rfl rfl rfl ?_
 refine WL.nil ?_
 refine W.seq ?_
 refine W.region ?_
 have H := H.addNil (α := Int) (E := 3)
 refine O.assign (v := (.slice none 0 0)) rfl rfl rfl ?_
 refine WL.nil ?_
 refine W.seq ?_
 refine W.seq ?_
 refine W.region ?_
 refine O.move (v := va0) rfl rfl rfl ?_
 refine O.lenS Tryz.underlying33 (H.arg ha0) rfl rfl rfl ?_
 refine O.move (v := (.int .i64 0)) rfl rfl rfl ?_
 refine WL.nil ?_
 obtain ⟨s1, hm1, hm⟩ := bind_some hm
 refine W.via (fun f w => ∃ v4 : Value, f 3 = v4 ∧ Inv w0 w [ownI (α := Int) v4 3 s1]) ?_ ?_
 ·
  refine W.block ?_
  have H := H.keep [1] [ownI (α := Int) (.slice none 0 0) 3 ([] : List Int)] rfl (by decide)
  refine W.rangeL (i := 0) hm1 (fun rem ik1 s f w => ∃ z2 : (List Int), ∃ v2 : Value, z2 = s ∧ a0.drop ik1 = rem ∧ f 8 = .int .i64 (ik1 : Int) ∧ f 7 = (.int .i64 ((a0.length : Nat) : Int)) ∧ f 3 = v2 ∧ f 6 = va0 ∧ Inv w0 w [ownI (α := Int) v2 3 z2]) ?_ ?_ ?_
  ·
   exact ⟨_, (.slice none 0 0), rfl, List.drop_zero, rfl, rfl, rfl, rfl, H⟩
  ·
   rintro yk1 xs ik1 _ st f w ⟨z2, v2, rfl, hdropk1, hf8, hf7, hf3, hf6, H⟩ hm2
   have hltk1 := drop_lt hdropk1; have hixk1 := drop_idx hdropk1
   obtain ⟨u1, rfl⟩ := up4 hf8 hf7 hf3 hf6
   have hinck1 := addI_lt hltk1 (H.arg ha0).len_le
   refine W.seq ?_
   refine W.region ?_
   refine O.lss rfl rfl rfl rfl ?_
   refine WL.nil ?_
   refine W.seq ?_
   refine W.cond_true (congrArg Value.bool (decide_eq_true hltk1)) ?_
   refine W.skip ?_
   refine W.seq ?_
   obtain ⟨s2, hm3, hm2⟩ := bind_some hm2
   refine W.via (fun f w => ∃ v5 : Value, f 3 = v5 ∧ f 6 = va0 ∧ f 7 = (.int .i64 ((a0.length : Nat) : Int)) ∧ f 8 = (.int .i64 (ik1 : Int)) ∧ Inv w0 w [ownI (α := Int) v5 3 s2]) ?_ ?_
   ·
    refine W.block ?_
    refine W.seq ?_
    refine W.region ?_
    obtain ⟨p1, hp1, hrp1⟩ := fix_indexAddr Tryz.underlying33 sz3 ha0 hixk1
    refine hrp1 rfl rfl rfl rfl ?_
    refine O.load sc3 rfl rfl rfl ((hp1.mono H.base).flat 0 _ rfl) ?_
    refine O.assign (v := (.int .i64 yk1)) rfl rfl rfl ?_
    refine WL.nil ?_
    refine W.seq ?_
    refine W.seq ?_
    refine W.region ?_
    refine O.move (v := (.int .i64 yk1)) rfl rfl rfl ?_
    refine O.geq rfl rfl rfl rfl ?_
    refine WL.nil ?_
    obtain ⟨s3, hm4, hm3⟩ := bind_some hm3
    refine W.via (fun f w => f 3 = v2 ∧ f 5 = (.int .i64 s3) ∧ f 6 = va0 ∧ f 7 = (.int .i64 ((a0.length : Nat) : Int)) ∧ f 8 = (.int .i64 (ik1 : Int)) ∧ Inv w0 w [ownI (α := Int) v2 3 z2]) ?_ ?_
    ·
     rcases ite_some hm4 with ⟨hc1, hm4⟩ | ⟨hc1, hm4⟩
     ·
      refine W.cond_true (congrArg Value.bool hc1) ?_
      refine W.region ?_
      refine O.move (v := v2) rfl rfl rfl ?_
      refine O.move (v := (.int .i64 yk1)) rfl rfl rfl ?_
      obtain ⟨t1, hy1, hm4⟩ := bind_some hm4
      refine O.call Tryz.call41 rfl rfl rfl (c_flag_place _ hy1) ?_
      rintro _ w1 hb1 rfl
      have H := H.ext hb1
      obtain ⟨x1, hx1, hm4⟩ := bind_some hm4
      refine O.indexAddr Tryz.underlying33 sz3 (H.own 0 rfl) hx1 rfl rfl rfl rfl ?_
      intro p2 hp2
      refine O.load sc3 rfl rfl rfl (hp2.flat 0 _ rfl) ?_
      refine O.assign (v := (.int .i64 x1)) rfl rfl rfl ?_
      refine WL.nil ?_
      have hq : x1 = s3 := Option.some.inj (show some x1 = some s3 from hm4)
      subst hq
      exact ⟨rfl, rfl, rfl, rfl, rfl, H⟩
     ·
      refine W.cond_false (congrArg Value.bool hc1) ?_
      refine W.skip ?_
      have hq : yk1 = s3 := Option.some.inj (show some yk1 = some s3 from hm4)
      subst hq
      exact ⟨rfl, rfl, rfl, rfl, rfl, H⟩
    ·
     rintro f w ⟨hf3, hf5, hf6, hf7, hf8, H⟩
     obtain ⟨u2, rfl⟩ := up5 hf3 hf5 hf6 hf7 hf8
     refine W.region ?_
     refine O.move (v := v2) rfl rfl rfl ?_
     refine O.move (v := (.int .i64 s3)) rfl rfl rfl ?_
     refine O.buildSlice (α := Int) [(.int .i64 s3)] [s3] Tryz.underlying33 el3 H rfl rfl rfl rfl rfl rfl rfl ?_
     intro v6 w2 H hb2
     obtain ⟨t2, ht2, hm3⟩ := bind_some hm3
     refine O.append 0 Tryz.underlying33 el3 rfl H rfl (H.own 1 rfl) ht2 rfl rfl rfl rfl ?_
     intro v7 w3 H
     refine O.assign (v := v7) rfl rfl rfl ?_
     refine WL.nil ?_
     have H := H.keep [0] [ownI (α := Int) v7 3 t2] rfl (by decide)
     have hq : t2 = s2 := Option.some.inj (show some t2 = some s2 from hm3)
     subst hq
     exact ⟨v7, rfl, rfl, rfl, rfl, H⟩
   ·
    rintro f w ⟨v5, hf3, hf6, hf7, hf8, H⟩
    obtain ⟨u3, rfl⟩ := up4 hf3 hf6 hf7 hf8
    refine W.region ?_
    refine O.add rfl rfl rfl rfl hinck1 ?_
    refine O.move (v := .int .i64 ((ik1 : Int) + 1)) rfl rfl rfl ?_
    refine WL.nil ?_
    obtain rfl := Option.some.inj hm2
    exact ⟨_, rfl, _, v5, rfl, drop_next hdropk1, rfl, rfl, rfl, rfl, H⟩
  ·
   rintro ik1 _ f w ⟨z2, v2, rfl, hdropk1, hf8, hf7, hf3, hf6, H⟩ hfin
   have hltk1 := drop_end hdropk1
   obtain ⟨u4, rfl⟩ := up4 hf8 hf7 hf3 hf6
   refine W.seq ?_
   refine W.region ?_
   refine O.lss rfl rfl rfl rfl ?_
   refine WL.nil ?_
   refine W.seq ?_
   refine W.cond_false (congrArg Value.bool (decide_eq_false hltk1)) ?_
   refine W.exit ?_
   have hq : z2 = s1 := hfin
   subst hq
   refine xT rfl ?_
   exact ⟨v2, rfl, H⟩
 ·
  rintro f w ⟨v4, hf3, H⟩
  obtain ⟨u5, rfl⟩ := up1 hf3
  refine W.seq ?_
  refine W.region ?_
  refine O.move (v := v4) rfl rfl rfl ?_
  refine O.assign (v := v4) rfl rfl rfl ?_
  refine WL.nil ?_
  refine W.ret ?_
  have hq : s1 = r0 := Option.some.inj (show some s1 = some r0 from hm)
  subst hq
  exact ends1 Tryz.results31 rfl ⟨_, rfl, H.base, H.ownR 0 rfl⟩

theorem c_flag_texts {w0 : World} (va0 : Value) (a0 : (List GMeaning)) (ha0 : SliceR w0 va0 a0) {r0 : (List (Int × ByteArray))} (hm : flag_texts a0 = some r0) :
  Calls Tryz.prog 32 #[va0] w0 (Ret w0 fun w v => OwnM w0 w v r0) := by
 unfold flag_texts at hm
 refine calls_of_W Tryz.func32 rfl Tryz.ntmps32 (Nat.le_of_ble_eq_true rfl) ?_
 have H := Inv.start (w := w0)
 refine W.seq ?_
 refine W.region ?_
 refine O.assign (v := (.map none)) rfl rfl rfl ?_
 refine WL.nil ?_
 refine W.seq ?_
 refine W.region ?_
 refine O.makeMap (α := Int) (β := ByteArray) H rfl rfl ?_
 intro m1 w1 H hb1
 refine O.assign (v := (.map (some m1))) rfl rfl rfl ?_
 refine WL.nil ?_
 refine W.seq ?_
 refine W.seq ?_
 refine W.region ?_
 refine O.move (v := va0) rfl rfl rfl ?_
 refine O.lenS Tryz.underlying29 (H.arg ha0) rfl rfl rfl ?_
 refine O.move (v := (.int .i64 0)) rfl rfl rfl ?_
 refine WL.nil ?_
 obtain ⟨s1, hm1, hm⟩ := bind_some hm
 refine W.via (fun f w => f 3 = (.map (some m1)) ∧ Inv w0 w [mapI (K := Int) (V := ByteArray) m1 s1]) ?_ ?_
 ·
  refine W.block ?_
  refine W.rangeL (i := 0) hm1 (fun rem ik1 s f w => ∃ z2 : (List (Int × ByteArray)), z2 = s ∧ a0.drop ik1 = rem ∧ f 9 = .int .i64 (ik1 : Int) ∧ f 8 = (.int .i64 ((a0.length : Nat) : Int)) ∧ f 3 = (.map (some m1)) ∧ f 7 = va0 ∧ Inv w0 w [mapI (K := Int) (V := ByteArray) m1 z2]) ?_ ?_ ?_
  ·
   exact ⟨_, rfl, List.drop_zero, rfl, rfl, rfl, rfl, H⟩
  ·
   rintro yk1 xs ik1 _ st f w ⟨z2, rfl, hdropk1, hf9, hf8, hf3, hf7, H⟩ hm2
   have hltk1 := drop_lt hdropk1; have hixk1 := drop_idx hdropk1
   obtain ⟨u1, rfl⟩ := up4 hf9 hf8 hf3 hf7
   have hinck1 := addI_lt hltk1 (H.arg ha0).len_le
   refine W.seq ?_
   refine W.region ?_
   refine O.lss rfl rfl rfl rfl ?_
   refine WL.nil ?_
   refine W.seq ?_
   refine W.cond_true (congrArg Value.bool (decide_eq_true hltk1)) ?_
   refine W.skip ?_
   refine W.seq ?_
   refine W.block ?_
   refine W.seq ?_
   refine W.region ?_
   obtain ⟨p1, hp1, hrp1⟩ := fix_indexAddr Tryz.underlying29 sz32 ha0 hixk1
   refine hrp1 rfl rfl rfl rfl ?_
   refine O.loadA [(.int .i64 yk1.Number), (.string yk1.Text)] ag32 rfl rfl rfl rfl ((hp1.mono H.base).flat) ?_
   refine O.alloc [(.int .i64 0), (.string ByteArray.empty)] ze32 H rfl rfl rfl ?_
   intro b1 w2 H hb2
   refine O.store 1 0 [(.int .i64 yk1.Number), (.string yk1.Text)] [(.int .i64 yk1.Number), (.string yk1.Text)] sz32 H rfl rfl rfl rfl rfl rfl ⟨⟨rfl, rfl⟩, rfl⟩ (one_cons rfl (one_cons rfl one_nil)) ?_
   intro w3 H
   refine WL.nil ?_
   refine W.region ?_
   refine O.move (v := (.map (some m1))) rfl rfl rfl ?_
   refine O.fieldAddr fd32_0 rfl rfl rfl ?_
   refine O.load sc3 rfl rfl rfl (H.cell 1 rfl 0 _ rfl) ?_
   refine O.fieldAddr fd32_1 rfl rfl rfl ?_
   refine O.load sc9 rfl rfl rfl (H.cell 1 rfl 1 _ rfl) ?_
   refine O.mapUpdate 0 yk1.Number yk1.Text Tryz.underlying71 key3 H rfl rfl rfl rfl rfl ?_
   intro w4 H
   refine WL.nil ?_
   refine W.region ?_
   refine O.add rfl rfl rfl rfl hinck1 ?_
   refine O.move (v := .int .i64 ((ik1 : Int) + 1)) rfl rfl rfl ?_
   refine WL.nil ?_
   have H := H.keep [0] [mapI (K := Int) (V := ByteArray) m1 (mput z2 yk1.Number yk1.Text)] rfl (by decide)
   obtain rfl := Option.some.inj hm2
   exact ⟨_, rfl, _, rfl, drop_next hdropk1, rfl, rfl, rfl, rfl, H⟩
  ·
   rintro ik1 _ f w ⟨z2, rfl, hdropk1, hf9, hf8, hf3, hf7, H⟩ hfin
   have hltk1 := drop_end hdropk1
   obtain ⟨u2, rfl⟩ := up4 hf9 hf8 hf3 hf7
   refine W.seq ?_
   refine W.region ?_
   refine O.lss rfl rfl rfl rfl ?_
   refine WL.nil ?_
   refine W.seq ?_
   refine W.cond_false (congrArg Value.bool (decide_eq_false hltk1)) ?_
   refine W.exit ?_
   have hq : z2 = s1 := hfin
   subst hq
   refine xT rfl ?_
   exact ⟨rfl, H⟩
 ·
  rintro f w ⟨hf3, H⟩
  obtain ⟨u3, rfl⟩ := up1 hf3
  refine W.seq ?_
  refine W.region ?_
  refine O.move (v := (.map (some m1))) rfl rfl rfl ?_
  refine O.assign (v := (.map (some m1))) rfl rfl rfl ?_
  refine WL.nil ?_
  refine W.ret ?_
  have hq : s1 = r0 := Option.some.inj (show some s1 = some r0 from hm)
  subst hq
  exact ends1 Tryz.results32 rfl ⟨_, rfl, H.base, H.ownM 0 rfl⟩

theorem c_flag_number {w0 : World} (va0 : Value) (a0 : (List Int)) (ha0 : SliceR w0 va0 a0) {r0 : Int} (hm : flag_number a0 = some r0) :
  Calls Tryz.prog 33 #[va0] w0 (Ret w0 fun _ v => v = (.int .i64 r0)) := by
 unfold flag_number at hm
 refine calls_of_W Tryz.func33 rfl Tryz.ntmps33 (Nat.le_of_ble_eq_true rfl) ?_
 have H := Inv.start (w := w0)
 refine W.seq ?_
 refine W.region ?_
 refine O.assign (v := (.int .i64 0)) rfl rfl rfl ?_
 refine WL.nil ?_
 refine W.seq ?_
 refine W.region ?_
 refine O.assign (v := (.int .i64 0)) rfl rfl rfl ?_
 refine WL.nil ?_
 refine W.seq ?_
 refine W.seq ?_
 refine W.region ?_
 refine O.move (v := va0) rfl rfl rfl ?_
 refine O.lenS Tryz.underlying33 (H.arg ha0) rfl rfl rfl ?_
 refine O.move (v := (.int .i64 0)) rfl rfl rfl ?_
 refine WL.nil ?_
 obtain ⟨s1, hm1, hm⟩ := bind_some hm
 refine W.via (fun f w => f 3 = (.int .i64 s1) ∧ Inv w0 w []) ?_ ?_
 ·
  refine W.block ?_
  refine W.rangeL (i := 0) hm1 (fun rem ik1 s f w => ∃ z2 : Int, z2 = s ∧ a0.drop ik1 = rem ∧ f 8 = .int .i64 (ik1 : Int) ∧ f 7 = (.int .i64 ((a0.length : Nat) : Int)) ∧ f 3 = (.int .i64 z2) ∧ f 6 = va0 ∧ Inv w0 w []) ?_ ?_ ?_
  ·
   exact ⟨_, rfl, List.drop_zero, rfl, rfl, rfl, rfl, H⟩
  ·
   rintro yk1 xs ik1 _ st f w ⟨z2, rfl, hdropk1, hf8, hf7, hf3, hf6, H⟩ hm2
   have hltk1 := drop_lt hdropk1; have hixk1 := drop_idx hdropk1
   obtain ⟨u1, rfl⟩ := up4 hf8 hf7 hf3 hf6
   have hinck1 := addI_lt hltk1 (H.arg ha0).len_le
   refine W.seq ?_
   refine W.region ?_
   refine O.lss rfl rfl rfl rfl ?_
   refine WL.nil ?_
   refine W.seq ?_
   refine W.cond_true (congrArg Value.bool (decide_eq_true hltk1)) ?_
   refine W.skip ?_
   refine W.seq ?_
   refine W.block ?_
   refine W.seq ?_
   refine W.region ?_
   obtain ⟨p1, hp1, hrp1⟩ := fix_indexAddr Tryz.underlying33 sz3 ha0 hixk1
   refine hrp1 rfl rfl rfl rfl ?_
   refine O.load sc3 rfl rfl rfl ((hp1.mono H.base).flat 0 _ rfl) ?_
   refine O.assign (v := (.int .i64 yk1)) rfl rfl rfl ?_
   refine WL.nil ?_
   refine W.region ?_
   refine O.move (v := (.int .i64 z2)) rfl rfl rfl ?_
   obtain ⟨t1, ht1, hm2⟩ := bind_some hm2
   refine O.mul rfl rfl rfl rfl ht1 ?_
   refine O.move (v := (.int .i64 yk1)) rfl rfl rfl ?_
   obtain ⟨t2, ht2, hm2⟩ := bind_some hm2
   refine O.add rfl rfl rfl rfl ht2 ?_
   refine O.assign (v := (.int .i64 t2)) rfl rfl rfl ?_
   refine WL.nil ?_
   refine W.region ?_
   refine O.add rfl rfl rfl rfl hinck1 ?_
   refine O.move (v := .int .i64 ((ik1 : Int) + 1)) rfl rfl rfl ?_
   refine WL.nil ?_
   obtain rfl := Option.some.inj hm2
   exact ⟨_, rfl, _, rfl, drop_next hdropk1, rfl, rfl, rfl, rfl, H⟩
  ·
   rintro ik1 _ f w ⟨z2, rfl, hdropk1, hf8, hf7, hf3, hf6, H⟩ hfin
   have hltk1 := drop_end hdropk1
   obtain ⟨u2, rfl⟩ := up4 hf8 hf7 hf3 hf6
   refine W.seq ?_
   refine W.region ?_
   refine O.lss rfl rfl rfl rfl ?_
   refine WL.nil ?_
   refine W.seq ?_
   refine W.cond_false (congrArg Value.bool (decide_eq_false hltk1)) ?_
   refine W.exit ?_
   have hq : z2 = s1 := hfin
   subst hq
   refine xT rfl ?_
   exact ⟨rfl, H⟩
 ·
  rintro f w ⟨hf3, H⟩
  obtain ⟨u3, rfl⟩ := up1 hf3
  refine W.seq ?_
  refine W.region ?_
  refine O.move (v := (.int .i64 s1)) rfl rfl rfl ?_
  refine O.assign (v := (.int .i64 s1)) rfl rfl rfl ?_
  refine WL.nil ?_
  refine W.ret ?_
  have hq : s1 = r0 := Option.some.inj (show some s1 = some r0 from hm)
  subst hq
  exact ends1 Tryz.results33 rfl ⟨_, rfl, H.base, rfl⟩

end Go.Proofs
