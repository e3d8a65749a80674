/-
  The walks: each function does what its model says, where the model has a value. No other condition.
-/
import Derived.Test.YtmoofcflfbnceaaGreatDoorW0
namespace Go.Proofs
open Go.Fw Go.RowKit Go.Shelf Go.Maps
open Go.Proofs.Tryz
open Go.Fw.W renaming seq → Sq, region → Rg, skip → Sk, block → Bk, ret → Rt, cond_true → Ct, cond_false → Cf, exit → Ex, via → Va
open Go.Fw.WL renaming nil → Nl, reset → Rs, cut → Cu
open Go.Fw.PL renaming of → Pl
set_option maxRecDepth 20000 in
theorem c_sight_graph_least {w0 : World} (pa0 : Addr) (va0_0 : Value) (va0_1 : Value) (a0_0 : (List (GPoint × Int))) (a0_1 : (List GEdge)) (ha0 : ∀ j c, ([va0_0, va0_1] : List Value)[j]? = some c → w0.cell? (pa0.add j) = some c) (ra0_0 : MapR w0 va0_0 a0_0) (ra0_1 : SliceR w0 va0_1 a0_1) (a1 : GPoint) (a2 : GPoint) {r0 : Int} {r1 : Bool} (hm : sight_graph_least a0_0 a0_1 a1 a2 = some (r0, r1)) :
  Calls prog 156 #[(.pointer (some pa0)), (.agg (Flat.cells a1).toArray), (.agg (Flat.cells a2).toArray)] w0 (Ret w0 fun _ v => v = .tuple #[(vi r0), (.bool r1)]) := by
 unfold sight_graph_least at hm
 refine cW func156 ntmps156 ?_
 have H := Inv.start (w := w0)
 refine Sq (Rg (Bx [(vi a1.clock), (vi a1.at_)] H fun b1 w1 H hb1 => Bx [(vi a2.clock), (vi a2.at_)] H fun b2 w2 H hb2 => As (vi 0) (As (.bool false) (Nl (Sq (Rg (Mv (.pointer (some pa0)) (Nk rfl (Fa fd203_0 rfl ?_)))))))))
 refine Ld _ sc200 (cells_mono ha0 H.base 0 _ rfl) (O.lenM underlying200 (H.argM ra0_0) R R R (As (vi ((a0_0.length : Nat) : Int)) (Nl (Sq ?_))))
 obtain ⟨t1, ht1, hm⟩ := bind_some hm
 obtain ⟨t2, ht2, hm⟩ := bind_some hm
 have H := H.addGone
 have H := H.addGone
 refine W.drawD 5 [[], [0], [], [2], [0, 1]] [[1, 4], [4], [3], [], []] (fun S f w => ∃ v1 : Value, ∃ v2 : Value, (f 0 = (.pointer (some pa0)) ∧ f 4 = (pt b1) ∧ f 5 = (pt b2) ∧ f 8 = (vi ((a0_0.length : Nat) : Int))) ∧ Inv w0 w [boxI b1 205 [(vi a1.clock), (vi a1.at_)], boxI b2 205 [(vi a2.clock), (vi a2.at_)], cond (S 1) (o3 v1 t1) goneI, cond (S 3) (o4 v2 t2) goneI] ∧ (S 0 = true → f 20 = (vi ((a0_0.length : Nat) : Int))) ∧ (S 1 = true → f 21 = v1) ∧ (S 2 = true → f 22 = (vi ((a0_0.length : Nat) : Int))) ∧ (S 3 = true → f 23 = v2) ∧ (S 4 = true → f 9 = v1)) fol (by kernel_rfl) ?_ ?_ ?_
 ·
  exact fun d _ => ⟨.nilFunc, .nilFunc, ⟨rfl, rfl, rfl, rfl⟩, H.ext (below_drawn d), nF, nF, nF, nF, nF⟩
 ·
  refine ⟨?_, ⟨?_, ⟨?_, ⟨?_, ⟨?_, trivial⟩⟩⟩⟩⟩
  ·
   rintro S f w hS - ⟨e1, e4, -⟩ ⟨v1, v2, k, H, q0, t⟩
   obtain ⟨u1, rfl⟩ := up1 k.2.2.2
   exact Mv (vi ((a0_0.length : Nat) : Int)) (Nl ⟨v1, v2, k, H, (fun _ => rfl), t⟩)
  ·
   rintro S f w hS ⟨e0, -⟩ ⟨e4, -⟩ ⟨_, v2, k, H, q0, q1, q2, q3, q4⟩
   obtain ⟨u2, rfl⟩ := up1 (q0 e0)
   have H := H.cF 2 hS rfl
   refine O.makeSlice underlying26 zel3 rfl H ht1 R R R R fun v1 w3 H hb3 => ?_
   have H := H.pick [0, 1, 4, 3] [boxI b1 205 [(vi a1.clock), (vi a1.at_)], boxI b2 205 [(vi a2.clock), (vi a2.at_)], o3 v1 t1, cond (S 3) (o4 v2 t2) goneI] rfl (by decide)
   exact Nl ⟨v1, v2, k, H, q0, (fun _ => rfl), q2, q3, (fun a => nT a e4)⟩
  ·
   rintro S f w hS - ⟨e3, -⟩ ⟨v1, v2, k, H, q0, q1, q2, t⟩
   obtain ⟨u3, rfl⟩ := up1 k.2.2.2
   exact Mv (vi ((a0_0.length : Nat) : Int)) (Nl ⟨v1, v2, k, H, q0, q1, (fun _ => rfl), t⟩)
  ·
   rintro S f w hS ⟨e2, -⟩ - ⟨v1, _, k, H, q0, q1, q2, q3, q4⟩
   obtain ⟨u4, rfl⟩ := up1 (q2 e2)
   have H := H.cF 3 hS rfl
   refine O.makeSlice underlying267 zel4 rfl H ht2 R R R R fun v2 w4 H hb4 => ?_
   have H := H.pick [0, 1, 2, 4] [boxI b1 205 [(vi a1.clock), (vi a1.at_)], boxI b2 205 [(vi a2.clock), (vi a2.at_)], cond (S 1) (o3 v1 t1) goneI, o4 v2 t2] rfl (by decide)
   exact Nl ⟨v1, v2, k, H, q0, q1, q2, (fun _ => rfl), q4⟩
  ·
   rintro S f w hS ⟨e0, e1, -⟩ - ⟨v1, v2, k, H, q0, q1, q2, q3, q4⟩
   obtain ⟨u5, rfl⟩ := up1 (q1 e1)
   exact As v1 (Nl ⟨v1, v2, k, H, q0, q1, q2, q3, (fun _ => rfl)⟩)
 ·
  rintro S f w ⟨e0, e1, e2, e3, e4, -⟩ ⟨v1, v2, k, H, q0, q1, q2, q3, q4⟩
  have H : Inv w0 w [boxI b1 205 [(vi a1.clock), (vi a1.at_)], boxI b2 205 [(vi a2.clock), (vi a2.at_)], o3 v1 t1, o4 v2 t2] := ((H.cT 2 e1 rfl).cT 3 e3 rfl)
  obtain ⟨u6, rfl⟩ := up6 k.1 k.2.1 k.2.2.1 k.2.2.2 (q4 e4) (q3 e3)
  refine As v2 (Nl (Sq ?_))
  refine W.drawN 7 (fun f => f 0 = (.pointer (some pa0)) ∧ f 5 = (pt b2) ∧ f 8 = (vi ((a0_0.length : Nat) : Int)) ∧ f 9 = v1 ∧ f 10 = v2 ∧ f 24 = v2 ∧ f 30 = (vi ((mget a0_0 a1).getD 0))) fol (by kernel_rfl) ?_ ?_
  ·
   exact Pl (fun _ w8 _ hx => Mv v2 (Nl ⟨rfl, hx⟩)) (Pl (fun _ w8 _ hx => Mv (.pointer (some pa0)) (Nl ⟨rfl, hx⟩)) (Pl (fun _ w8 _ hx => Nk rfl (Nl ⟨rfl, hx⟩)) (Pl (fun _ w8 _ hx => Fa fd203_0 rfl (Nl ⟨rfl, hx⟩)) (Pl (fun _ w8 _ hx => by have H := H.ext hx; exact Ld _ sc200 (cells_mono ha0 H.base 0 _ rfl) (Nl ⟨rfl, hx⟩)) (Pl (fun _ w8 _ hx => by have H := H.ext hx; exact La [(vi a1.clock), (vi a1.at_)] ag205 (H.cell 0 rfl) (Nl ⟨rfl, hx⟩)) (Pl (fun _ w8 _ hx => by have H := H.ext hx; exact O.lookup1 (z := 0) a1 underlying200 key205 ze3 (H.argM ra0_0) R R R R (Nl ⟨rfl, hx⟩)) (PL.nil ⟨rfl, rfl, rfl, rfl, rfl, rfl, rfl⟩)))))))
  ·
   rintro f w ⟨hf0, hf5, hf8, hf9, hf10, hf24, hf30⟩ hmd hx
   have H := H.ext hx
   obtain ⟨u7, rfl⟩ := up7 hf0 hf5 hf8 hf9 hf10 hf24 hf30
   obtain ⟨x1, hx1, hm⟩ := bind_some hm
   refine O.indexOwn 3 underlying267 sz4 H rfl hx1 R R R R fun b3 hob1 hp1 => O.storeOwn (α := Bool) (i0 := ((mget a0_0 a1).getD 0)) (x0 := x1) 3 0 true [(.bool true)] sz4 H rfl hob1 hx1 R R R R R R R R (one_cons rfl one_nil) fun w5 H => ?_
   clear hp1
   refine Nl (Sq (Sq (Rg (Mv (vi ((a0_0.length : Nat) : Int)) (Mv (vi 0) (Nl ?_))))))
   obtain ⟨⟨s1, s2⟩, hm1, hm⟩ := bind_some hm
   refine Va (fun f w => ∃ v9 : Value, ∃ v10 : Value, f 0 = (.pointer (some pa0)) ∧ f 5 = (pt b2) ∧ f 9 = v9 ∧ f 10 = v10 ∧ Inv w0 w [boxI b2 205 [(vi a2.clock), (vi a2.at_)], o3 v9 s1, o4 v10 s2]) ?_ ?_
   ·
    refine Bk ?_
    obtain ⟨hbdik1, hm1⟩ := chk_some hm1
    have H := H.keep [1, 2, 3] [boxI b2 205 [(vi a2.clock), (vi a2.at_)], o3 v1 t1, o4 v2 (t2.set (Int.toNat ((mget a0_0 a1).getD 0)) true)] rfl (by decide)
    refine W.rangeN (i := 0) hm1 (fun rem ik1 s f w => ∃ z3 : (List Int), ∃ z4 : (List Bool), ∃ v5 : Value, ∃ v6 : Value, (z3, z4) = s ∧ (ik1 : Int) + rem = max 0 ((a0_0.length : Nat) : Int) ∧ f 33 = .int .i64 (ik1 : Int) ∧ f 32 = (vi ((a0_0.length : Nat) : Int)) ∧ f 0 = (.pointer (some pa0)) ∧ f 5 = (pt b2) ∧ f 9 = v5 ∧ f 10 = v6 ∧ Inv w0 w [boxI b2 205 [(vi a2.clock), (vi a2.at_)], o3 v5 z3, o4 v6 z4]) ?_ ?_ ?_
    ·
     exact ⟨_, _, v1, v2, rfl, rangeN_start, rfl, rfl, rfl, rfl, rfl, rfl, H⟩
    ·
     rintro k ik1 _ st f w ⟨z3, z4, v5, v6, rfl, hdropk1, hf33, hf32, hf0, hf5, hf9, hf10, H⟩ hm2
     have hltk1 := rangeN_lt hdropk1
     obtain ⟨u8, rfl⟩ := up6 hf33 hf32 hf0 hf5 hf9 hf10
     have hinck1 := addI_lt hltk1 (inI_iff.1 hbdik1).2
     refine Sq (Rg (Ls (Nl (Sq (Ct (cb (decide_eq_true hltk1)) (Sk (Sq ?_)))))))
     obtain ⟨⟨s3, s4⟩, hm3, hm2⟩ := bind_some hm2
     refine Va (fun f w => ∃ v11 : Value, ∃ v12 : Value, f 0 = (.pointer (some pa0)) ∧ f 5 = (pt b2) ∧ f 9 = v11 ∧ f 10 = v12 ∧ f 32 = (vi ((a0_0.length : Nat) : Int)) ∧ f 33 = (vi (ik1 : Int)) ∧ Inv w0 w [boxI b2 205 [(vi a2.clock), (vi a2.at_)], o3 v11 s3, o4 v12 s4]) ?_ ?_
     ·
      refine Bk (Sq (Rg (Mv (.pointer (some pa0)) (Nk rfl (Fa fd203_1 rfl (Ld _ sc201 (cells_mono ha0 H.base 1 _ rfl) (Ln underlying201 (H.arg ra0_1) (Mv (vi 0) (Nl ?_)))))))))
      obtain ⟨⟨s5, s6⟩, hm4, hm3⟩ := bind_some hm3
      refine Va (fun f w => ∃ v19 : Value, ∃ v20 : Value, f 0 = (.pointer (some pa0)) ∧ f 5 = (pt b2) ∧ f 9 = v19 ∧ f 10 = v20 ∧ f 32 = (vi ((a0_0.length : Nat) : Int)) ∧ f 33 = (vi (ik1 : Int)) ∧ Inv w0 w [boxI b2 205 [(vi a2.clock), (vi a2.at_)], o3 v19 s5, o4 v20 s6]) ?_ ?_
      ·
       refine Bk ?_
       refine W.rangeL (i := 0) hm4 (fun rem ik2 s f w => ∃ z9 : (List Int), ∃ z10 : (List Bool), ∃ v15 : Value, ∃ v16 : Value, (z9, z10) = s ∧ a0_1.drop ik2 = rem ∧ f 40 = .int .i64 (ik2 : Int) ∧ f 39 = (vi ((a0_1.length : Nat) : Int)) ∧ f 0 = (.pointer (some pa0)) ∧ f 5 = (pt b2) ∧ f 9 = v15 ∧ f 10 = v16 ∧ f 32 = (vi ((a0_0.length : Nat) : Int)) ∧ f 33 = (vi (ik1 : Int)) ∧ f 38 = va0_1 ∧ Inv w0 w [boxI b2 205 [(vi a2.clock), (vi a2.at_)], o3 v15 z9, o4 v16 z10]) ?_ ?_ ?_
       ·
        exact ⟨_, _, v5, v6, rfl, List.drop_zero, rfl, rfl, rfl, rfl, rfl, rfl, rfl, rfl, rfl, H⟩
       ·
        rintro yk2 xs ik2 _ st f w ⟨z9, z10, v15, v16, rfl, hdropk2, hf40, hf39, hf0, hf5, hf9, hf10, hf32, hf33, hf38, H⟩ hm5
        have hltk2 := drop_lt hdropk2; have hixk2 := drop_idx hdropk2
        obtain ⟨u9, rfl⟩ := up9 hf40 hf39 hf0 hf5 hf9 hf10 hf32 hf33 hf38
        have hinck2 := addI_lt hltk2 (H.arg ra0_1).len_le
        refine Sq (Rg (Ls (Nl (Sq (Ct (cb (decide_eq_true hltk2)) (Sk (Sq ?_)))))))
        obtain ⟨⟨s7, s8⟩, hm6, hm5⟩ := bind_some hm5
        refine Va (fun f w => ∃ v21 : Value, ∃ v22 : Value, f 0 = (.pointer (some pa0)) ∧ f 5 = (pt b2) ∧ f 9 = v21 ∧ f 10 = v22 ∧ f 32 = (vi ((a0_0.length : Nat) : Int)) ∧ f 33 = (vi (ik1 : Int)) ∧ f 38 = va0_1 ∧ f 39 = (vi ((a0_1.length : Nat) : Int)) ∧ f 40 = (vi (ik2 : Int)) ∧ Inv w0 w [boxI b2 205 [(vi a2.clock), (vi a2.at_)], o3 v21 s7, o4 v22 s8]) ?_ ?_
        ·
         refine Bk (Sq (Rg ?_))
         obtain ⟨p1, hp2, hrp1⟩ := fix_indexAddr underlying201 sz210 ra0_1 hixk2
         refine hrp1 R R R R (La [(vi yk2.from_), (vi yk2.to), (vi yk2.cost), (vi yk2.number)] ag210 ((hp2.mono H.base).flat) (Al [(vi 0), (vi 0), (vi 0), (vi 0)] ze210 H fun b4 w6 H hb5 => St 3 0 [(vi yk2.from_), (vi yk2.to), (vi yk2.cost), (vi yk2.number)] [(vi yk2.from_), (vi yk2.to), (vi yk2.cost), (vi yk2.number)] sz210 H R R (one_cons rfl (one_cons rfl (one_cons rfl (one_cons rfl one_nil)))) fun w7 H => Nl (Sq ?_)))
         obtain ⟨x2, hx2, hm6⟩ := bind_some hm6
         obtain ⟨p2, hp3, hrp2⟩ := fix_indexAddr underlying26 sz3 (H.own 1 rfl) hx2
         refine W.drawN 7 (fun f => f 0 = (.pointer (some pa0)) ∧ f 5 = (pt b2) ∧ f 9 = v15 ∧ f 10 = v16 ∧ f 12 = (pt b4) ∧ f 32 = (vi ((a0_0.length : Nat) : Int)) ∧ f 33 = (vi (ik1 : Int)) ∧ f 38 = va0_1 ∧ f 39 = (vi ((a0_1.length : Nat) : Int)) ∧ f 40 = (vi (ik2 : Int)) ∧ f 48 = (vi x2) ∧ f 50 = (vi yk2.cost)) fol (by kernel_rfl) ?_ ?_
         ·
          exact Pl (fun _ w8 _ hx => Mv v15 (Nl ⟨rfl, hx⟩)) (Pl (fun _ w8 _ hx => Fa fd210_0 rfl (Nl ⟨rfl, hx⟩)) (Pl (fun _ w8 _ hx => by have H := H.ext hx; exact Ld _ sc3 (H.cell 3 rfl 0 _ rfl) (Nl ⟨rfl, hx⟩)) (Pl (fun _ w8 _ hx => hrp2 R R R R (Nl ⟨rfl, hx⟩)) (Pl (fun _ w8 _ hx => by have hp3 := hp3.mono hx; exact Ld _ sc3 (hp3.flat 0 _ rfl) (Nl ⟨rfl, hx⟩)) (Pl (fun _ w8 _ hx => Fa fd210_2 rfl (Nl ⟨rfl, hx⟩)) (Pl (fun _ w8 _ hx => by have H := H.ext hx; exact Ld _ sc3 (H.cell 3 rfl 2 _ rfl) (Nl ⟨rfl, hx⟩)) (PL.nil ⟨rfl, rfl, rfl, rfl, rfl, rfl, rfl, rfl, rfl, rfl, rfl, rfl⟩)))))))
         ·
          rintro f w ⟨hf0, hf5, hf9, hf10, hf12, hf32, hf33, hf38, hf39, hf40, hf48, hf50⟩ hmd hx
          have H := H.ext hx
          have hp3 := hp3.mono hx
          obtain ⟨u10, rfl⟩ : ∃ u10, f = (upd (upd (upd (upd (upd (upd (upd (upd (upd (upd (upd (upd u10 0 (.pointer (some pa0))) 5 (pt b2)) 9 v15) 10 v16) 12 (pt b4)) 32 (vi ((a0_0.length : Nat) : Int))) 33 (vi (ik1 : Int))) 38 va0_1) 39 (vi ((a0_1.length : Nat) : Int))) 40 (vi (ik2 : Int))) 48 (vi x2)) 50 (vi yk2.cost)) := ⟨f, by rw [upd_self hf0, upd_self hf5, upd_self hf9, upd_self hf10, upd_self hf12, upd_self hf32, upd_self hf33, upd_self hf38, upd_self hf39, upd_self hf40, upd_self hf48, upd_self hf50]⟩
          obtain ⟨t3, ht3, hm6⟩ := bind_some hm6
          refine Ad ht3 (As (vi t3) (Nl (Sq (Rg (Mv v16 (Fa fd210_0 rfl (Ld _ sc3 (H.cell 3 rfl 0 _ rfl) ?_)))))))
          obtain ⟨x3, hx3, hm6⟩ := bind_some hm6
          refine Ia underlying267 sz4 (H.own 2 rfl) hx3 fun p3 hp4 => Ld _ sc4 (hp4.flat 0 _ rfl) (Mv (.bool x3) ?_)
          obtain ⟨b5, hm7, hm6⟩ := bind_some hm6
          refine Cu 16 (fun f w => f 0 = (.pointer (some pa0)) ∧ f 5 = (pt b2) ∧ f 9 = v15 ∧ f 10 = v16 ∧ f 12 = (pt b4) ∧ f 13 = (vi t3) ∧ f 32 = (vi ((a0_0.length : Nat) : Int)) ∧ f 33 = (vi (ik1 : Int)) ∧ f 38 = va0_1 ∧ f 39 = (vi ((a0_1.length : Nat) : Int)) ∧ f 40 = (vi (ik2 : Int)) ∧ f 73 = .bool b5 ∧ Inv w0 w [boxI b2 205 [(vi a2.clock), (vi a2.at_)], o3 v15 z9, o4 v16 z10, boxI b4 210 [(vi yk2.from_), (vi yk2.to), (vi yk2.cost), (vi yk2.number)]]) ?_ ?_
          ·
           rcases ite_some hm7 with ⟨hc1, hm7⟩ | ⟨hc1, hm7⟩
           ·
            refine Rs (i := 57) (v := .bool true) (cb hc1) (Mv v16 (Fa fd210_1 rfl (Ld _ sc3 (H.cell 3 rfl 1 _ rfl) ?_)))
            obtain ⟨x4, hx4, hm7⟩ := bind_some hm7
            refine Ia underlying267 sz4 (H.own 2 rfl) hx4 fun p4 hp5 => Ld _ sc4 (hp5.flat 0 _ rfl) (O.not R R R (Mv (.bool (!x4)) ?_))
            obtain ⟨b6, hm8, hm7⟩ := bind_some hm7
            refine Cu 8 (fun f w => f 0 = (.pointer (some pa0)) ∧ f 5 = (pt b2) ∧ f 9 = v15 ∧ f 10 = v16 ∧ f 12 = (pt b4) ∧ f 13 = (vi t3) ∧ f 32 = (vi ((a0_0.length : Nat) : Int)) ∧ f 33 = (vi (ik1 : Int)) ∧ f 38 = va0_1 ∧ f 39 = (vi ((a0_1.length : Nat) : Int)) ∧ f 40 = (vi (ik2 : Int)) ∧ f 57 = (.bool true) ∧ f 58 = v16 ∧ f 59 = (.pointer (some (Addr.add (Addr.mk b4 0 none) 1))) ∧ f 60 = (vi yk2.to) ∧ f 61 = (.pointer (some p4)) ∧ f 62 = (.bool x4) ∧ f 63 = (.bool (!x4)) ∧ f 64 = (.bool (!x4)) ∧ f 72 = .bool b6 ∧ Inv w0 w [boxI b2 205 [(vi a2.clock), (vi a2.at_)], o3 v15 z9, o4 v16 z10, boxI b4 210 [(vi yk2.from_), (vi yk2.to), (vi yk2.cost), (vi yk2.number)]]) ?_ ?_
            ·
             rcases ite_some hm8 with ⟨hc2, hm8⟩ | ⟨hc2, hm8⟩
             ·
              refine Rs (i := 64) (v := .bool true) (cb hc2) (Sp (Sp (Sp (Sp (Sp (Sp (Sp (Pt (.bool true) (Nl ?_)))))))))
              obtain rfl := sj hm8
              exact ⟨rfl, rfl, rfl, rfl, rfl, rfl, rfl, rfl, rfl, rfl, rfl, rfl, rfl, rfl, rfl, rfl, rfl, rfl, (cb hc2).symm, rfl, H⟩
             ·
              refine Rs (i := 64) (v := .bool false) (cb hc2) (Mv (vi t3) (Mv v15 (Fa fd210_1 rfl (Ld _ sc3 (H.cell 3 rfl 1 _ rfl) ?_))))
              obtain ⟨x5, hx5, hm8⟩ := bind_some hm8
              refine Ia underlying26 sz3 (H.own 1 rfl) hx5 fun p5 hp6 => Ld _ sc3 (hp6.flat 0 _ rfl) (Ls (Pf (.bool (decide (t3 < x5))) (Nl ?_)))
              obtain rfl := sj hm8
              exact ⟨rfl, rfl, rfl, rfl, rfl, rfl, rfl, rfl, rfl, rfl, rfl, rfl, rfl, rfl, rfl, rfl, rfl, rfl, (cb hc2).symm, rfl, H⟩
            ·
             rintro f w ⟨hf0, hf5, hf9, hf10, hf12, hf13, hf32, hf33, hf38, hf39, hf40, hf57, hf58, hf59, hf60, hf61, hf62, hf63, hf64, hf72, H⟩
             obtain ⟨u11, rfl⟩ : ∃ u11, f = (upd (upd (upd (upd (upd (upd (upd (upd (upd (upd (upd (upd (upd (upd (upd (upd (upd (upd (upd (upd u11 0 (.pointer (some pa0))) 5 (pt b2)) 9 v15) 10 v16) 12 (pt b4)) 13 (vi t3)) 32 (vi ((a0_0.length : Nat) : Int))) 33 (vi (ik1 : Int))) 38 va0_1) 39 (vi ((a0_1.length : Nat) : Int))) 40 (vi (ik2 : Int))) 57 (.bool true)) 58 v16) 59 (.pointer (some (Addr.add (Addr.mk b4 0 none) 1)))) 60 (vi yk2.to)) 61 (.pointer (some p4))) 62 (.bool x4)) 63 (.bool (!x4))) 64 (.bool (!x4))) 72 (.bool b6)) := ⟨f, by rw [upd_self hf0, upd_self hf5, upd_self hf9, upd_self hf10, upd_self hf12, upd_self hf13, upd_self hf32, upd_self hf33, upd_self hf38, upd_self hf39, upd_self hf40, upd_self hf57, upd_self hf58, upd_self hf59, upd_self hf60, upd_self hf61, upd_self hf62, upd_self hf63, upd_self hf64, upd_self hf72]⟩
             refine Pt (.bool b6) (Nl ?_)
             obtain rfl := sj hm7
             exact ⟨rfl, rfl, rfl, rfl, rfl, rfl, rfl, rfl, rfl, rfl, rfl, rfl, H⟩
           ·
            refine Rs (i := 57) (v := .bool false) (cb hc1) (Sp (Sp (Sp (Sp (Sp (Sp (Sp (Sp (Sp (Sp (Sp (Sp (Sp ?_)))))))))))))
            refine Sp (Sp (Pf (.bool false) (Nl ?_)))
            obtain rfl := sj hm7
            exact ⟨rfl, rfl, rfl, rfl, rfl, rfl, rfl, rfl, rfl, rfl, rfl, rfl, H⟩
          ·
           rintro f w ⟨hf0, hf5, hf9, hf10, hf12, hf13, hf32, hf33, hf38, hf39, hf40, hf73, H⟩
           obtain ⟨u12, rfl⟩ : ∃ u12, f = (upd (upd (upd (upd (upd (upd (upd (upd (upd (upd (upd (upd u12 0 (.pointer (some pa0))) 5 (pt b2)) 9 v15) 10 v16) 12 (pt b4)) 13 (vi t3)) 32 (vi ((a0_0.length : Nat) : Int))) 33 (vi (ik1 : Int))) 38 va0_1) 39 (vi ((a0_1.length : Nat) : Int))) 40 (vi (ik2 : Int))) 73 (.bool b5)) := ⟨f, by rw [upd_self hf0, upd_self hf5, upd_self hf9, upd_self hf10, upd_self hf12, upd_self hf13, upd_self hf32, upd_self hf33, upd_self hf38, upd_self hf39, upd_self hf40, upd_self hf73]⟩
           refine Nl ?_
           obtain ⟨⟨s9, s10⟩, hm9, hm6⟩ := bind_some hm6
           refine Va (fun f w => ∃ v23 : Value, ∃ v24 : Value, f 0 = (.pointer (some pa0)) ∧ f 5 = (pt b2) ∧ f 9 = v23 ∧ f 10 = v24 ∧ f 32 = (vi ((a0_0.length : Nat) : Int)) ∧ f 33 = (vi (ik1 : Int)) ∧ f 38 = va0_1 ∧ f 39 = (vi ((a0_1.length : Nat) : Int)) ∧ f 40 = (vi (ik2 : Int)) ∧ Inv w0 w [boxI b2 205 [(vi a2.clock), (vi a2.at_)], o3 v23 s9, o4 v24 s10]) ?_ ?_
           ·
            rcases ite_some hm9 with ⟨hc3, hm9⟩ | ⟨hc3, hm9⟩
            ·
             refine Ct (cb hc3) ?_
             obtain ⟨x6, hx6, hm9⟩ := bind_some hm9
             refine W.drawD 9 [[], [], [1], [], [], [4], [], [0, 1, 2, 6], [0, 1, 2, 6, 7]] [[7, 8], [2, 7, 8], [7, 8], [], [5], [], [7, 8], [8], []] (fun S f w => ∃ b7 : Nat, (f 0 = (.pointer (some pa0)) ∧ f 5 = (pt b2) ∧ f 9 = v15 ∧ f 10 = v16 ∧ f 12 = (pt b4) ∧ f 13 = (vi t3) ∧ f 32 = (vi ((a0_0.length : Nat) : Int)) ∧ f 33 = (vi (ik1 : Int)) ∧ f 38 = va0_1 ∧ f 39 = (vi ((a0_1.length : Nat) : Int)) ∧ f 40 = (vi (ik2 : Int))) ∧ Inv w0 w [boxI b2 205 [(vi a2.clock), (vi a2.at_)], cond (S 8) (o3 v15 (z9.set (Int.toNat yk2.to) t3)) (o3 v15 z9), o4 v16 z10, boxI b4 210 [(vi yk2.from_), (vi yk2.to), (vi yk2.cost), (vi yk2.number)]] ∧ (S 0 = true → f 74 = v15) ∧ (S 1 = true → f 75 = (.pointer (some (Addr.add (Addr.mk b4 0 none) 1)))) ∧ (S 2 = true → f 76 = (vi yk2.to)) ∧ (S 3 = true → f 77 = v16) ∧ (S 4 = true → f 78 = (.pointer (some (Addr.add (Addr.mk b4 0 none) 1)))) ∧ (S 5 = true → f 79 = (vi yk2.to)) ∧ (S 6 = true → f 80 = (vi t3)) ∧ (S 7 = true → f 81 = (.pointer (some ⟨b7, Int.toNat yk2.to * Flat.size Int, none⟩))) ∧ (S 7 = true → Value.ownBlock v15 = some b7) ∧ (S 7 = true → S 8 = false → (ElemAt w (⟨b7, Int.toNat yk2.to * Flat.size Int, none⟩ : Addr) x6))) fol (by kernel_rfl) ?_ ?_ ?_
             ·
              exact fun d _ => ⟨0, ⟨rfl, rfl, rfl, rfl, rfl, rfl, rfl, rfl, rfl, rfl, rfl⟩, H.ext (below_drawn d), nF, nF, nF, nF, nF, nF, nF, nF, nF, nF⟩
             ·
              refine ⟨?_, ⟨?_, ⟨?_, ⟨?_, ⟨?_, ⟨?_, ⟨?_, ⟨?_, ⟨?_, trivial⟩⟩⟩⟩⟩⟩⟩⟩⟩
              ·
               rintro S f w hS - ⟨e7, e8, -⟩ ⟨b7, k, H, q0, t⟩
               obtain ⟨u13, rfl⟩ := up1 k.2.2.1
               exact Mv v15 (Nl ⟨b7, k, H, (fun _ => rfl), t⟩)
              ·
               rintro S f w hS - ⟨e2, e7, e8, -⟩ ⟨b7, k, H, q0, q1, t⟩
               obtain ⟨u14, rfl⟩ := up1 k.2.2.2.2.1
               exact Fa fd210_1 rfl (Nl ⟨b7, k, H, q0, (fun _ => rfl), t⟩)
              ·
               rintro S f w hS ⟨e1, -⟩ ⟨e7, e8, -⟩ ⟨b7, k, H, q0, q1, q2, t⟩
               obtain ⟨u15, rfl⟩ := up1 (q1 e1)
               exact Ld _ sc3 (H.cell 3 rfl 1 _ rfl) (Nl ⟨b7, k, H, q0, q1, (fun _ => rfl), t⟩)
              ·
               rintro S f w hS - - ⟨b7, k, H, q0, q1, q2, q3, t⟩
               obtain ⟨u16, rfl⟩ := up1 k.2.2.2.1
               exact Mv v16 (Nl ⟨b7, k, H, q0, q1, q2, (fun _ => rfl), t⟩)
              ·
               rintro S f w hS - ⟨e5, -⟩ ⟨b7, k, H, q0, q1, q2, q3, q4, t⟩
               obtain ⟨u17, rfl⟩ := up1 k.2.2.2.2.1
               exact Fa fd210_1 rfl (Nl ⟨b7, k, H, q0, q1, q2, q3, (fun _ => rfl), t⟩)
              ·
               rintro S f w hS ⟨e4, -⟩ - ⟨b7, k, H, q0, q1, q2, q3, q4, q5, t⟩
               obtain ⟨u18, rfl⟩ := up1 (q4 e4)
               exact Ld _ sc3 (H.cell 3 rfl 1 _ rfl) (Nl ⟨b7, k, H, q0, q1, q2, q3, q4, (fun _ => rfl), t⟩)
              ·
               rintro S f w hS - ⟨e7, e8, -⟩ ⟨b7, k, H, q0, q1, q2, q3, q4, q5, q6, t⟩
               obtain ⟨u19, rfl⟩ := up1 k.2.2.2.2.2.1
               exact Mv (vi t3) (Nl ⟨b7, k, H, q0, q1, q2, q3, q4, q5, (fun _ => rfl), t⟩)
              ·
               rintro S f w hS ⟨e0, e1, e2, e6, -⟩ ⟨e8, -⟩ ⟨_, k, H, q0, q1, q2, q3, q4, q5, q6, q7, Fhob2, Fhp7⟩
               obtain ⟨u20, rfl⟩ := up2 (q0 e0) (q2 e2)
               have G := H
               have H := H.cF 1 e8 rfl
               exact O.indexOwn 1 underlying26 sz3 H rfl hx6 R R R R fun b7 hob2 hp7 => Nl ⟨b7, k, G, q0, q1, q2, q3, q4, q5, q6, (fun _ => rfl), (fun _ => hob2), (fun _ _ => hp7)⟩
              ·
               rintro S f w hS ⟨e0, e1, e2, e6, e7, -⟩ - ⟨b7, k, H, q0, q1, q2, q3, q4, q5, q6, q7, Fhob2, Fhp7⟩
               obtain ⟨u21, rfl⟩ := up2 (q6 e6) (q7 e7)
               have H := H.cF 1 hS rfl
               have hob2 := Fhob2 e7
               exact O.storeOwn (α := Int) (i0 := yk2.to) (x0 := x6) 1 0 t3 [(vi t3)] sz3 H rfl hob2 hx6 R R R R R R R R (one_cons rfl one_nil) fun w8 H => Nl ⟨b7, k, H, q0, q1, q2, q3, q4, q5, q6, q7, Fhob2, (fun g0 g1 => nG g1)⟩
             ·
              rintro S f w ⟨e0, e1, e2, e3, e4, e5, e6, e7, e8, -⟩ ⟨b7, k, H, q0, q1, q2, q3, q4, q5, q6, q7, Fhob2, Fhp7⟩
              have H : Inv w0 w [boxI b2 205 [(vi a2.clock), (vi a2.at_)], o3 v15 (z9.set (Int.toNat yk2.to) t3), o4 v16 z10, boxI b4 210 [(vi yk2.from_), (vi yk2.to), (vi yk2.cost), (vi yk2.number)]] := (H.cT 1 e8 rfl)
              obtain ⟨u22, rfl⟩ : ∃ u22, f = (upd (upd (upd (upd (upd (upd (upd (upd (upd (upd (upd u22 0 (.pointer (some pa0))) 5 (pt b2)) 9 v15) 10 v16) 32 (vi ((a0_0.length : Nat) : Int))) 33 (vi (ik1 : Int))) 38 va0_1) 39 (vi ((a0_1.length : Nat) : Int))) 40 (vi (ik2 : Int))) 77 v16) 79 (vi yk2.to)) := ⟨f, by rw [upd_self k.1, upd_self k.2.1, upd_self k.2.2.1, upd_self k.2.2.2.1, upd_self k.2.2.2.2.2.2.1, upd_self k.2.2.2.2.2.2.2.1, upd_self k.2.2.2.2.2.2.2.2.1, upd_self k.2.2.2.2.2.2.2.2.2.1, upd_self k.2.2.2.2.2.2.2.2.2.2, upd_self (q3 e3), upd_self (q5 e5)]⟩
              obtain ⟨x7, hx7, hm9⟩ := bind_some hm9
              refine O.indexOwn 2 underlying267 sz4 H rfl hx7 R R R R fun b8 hob3 hp8 => O.storeOwn (α := Bool) (i0 := yk2.to) (x0 := x7) 2 0 true [(.bool true)] sz4 H rfl hob3 hx7 R R R R R R R R (one_cons rfl one_nil) fun w9 H => ?_
              clear hp8
              refine Nl ?_
              have H := H.keep [0, 1, 2] [boxI b2 205 [(vi a2.clock), (vi a2.at_)], o3 v15 (z9.set (Int.toNat yk2.to) t3), o4 v16 (z10.set (Int.toNat yk2.to) true)] rfl (by decide)
              obtain ⟨rfl, rfl⟩ := j2 hm9
              exact ⟨v15, v16, rfl, rfl, rfl, rfl, rfl, rfl, rfl, rfl, rfl, H⟩
            ·
             refine Cf (cb hc3) (Sk ?_)
             have H := H.keep [0, 1, 2] [boxI b2 205 [(vi a2.clock), (vi a2.at_)], o3 v15 z9, o4 v16 z10] rfl (by decide)
             obtain ⟨rfl, rfl⟩ := j2 hm9
             exact ⟨v15, v16, rfl, rfl, rfl, rfl, rfl, rfl, rfl, rfl, rfl, H⟩
           ·
            rintro f w ⟨v23, v24, hf0, hf5, hf9, hf10, hf32, hf33, hf38, hf39, hf40, H⟩
            obtain ⟨u23, rfl⟩ := up9 hf0 hf5 hf9 hf10 hf32 hf33 hf38 hf39 hf40
            obtain ⟨rfl, rfl⟩ := j2 hm6
            exact ⟨v23, v24, rfl, rfl, rfl, rfl, rfl, rfl, rfl, rfl, rfl, H⟩
        ·
         rintro f w ⟨v21, v22, hf0, hf5, hf9, hf10, hf32, hf33, hf38, hf39, hf40, H⟩
         obtain ⟨u24, rfl⟩ := up9 hf0 hf5 hf9 hf10 hf32 hf33 hf38 hf39 hf40
         refine Rg (Ad hinck2 (Mv (vi ((ik2 : Int) + 1)) (Nl ?_)))
         obtain rfl := sj hm5
         exact ⟨_, rfl, _, _, v21, v22, rfl, drop_next hdropk2, rfl, rfl, rfl, rfl, rfl, rfl, rfl, rfl, rfl, H⟩
       ·
        rintro ik2 _ f w ⟨z9, z10, v15, v16, rfl, hdropk2, hf40, hf39, hf0, hf5, hf9, hf10, hf32, hf33, hf38, H⟩ hfin
        have hltk2 := drop_end hdropk2
        obtain ⟨u25, rfl⟩ := up9 hf40 hf39 hf0 hf5 hf9 hf10 hf32 hf33 hf38
        refine Sq (Rg (Ls (Nl (Sq (Cf (cb (decide_eq_false hltk2)) (Ex ?_))))))
        have hq : (z9, z10) = (s5, s6) := hfin
        obtain ⟨he0, hq0⟩ := Prod.mk.inj hq; clear hq; subst he0
        subst hq0
        exact xT rfl ⟨v15, v16, rfl, rfl, rfl, rfl, rfl, rfl, H⟩
      ·
       rintro f w ⟨v19, v20, hf0, hf5, hf9, hf10, hf32, hf33, H⟩
       obtain ⟨u26, rfl⟩ := up6 hf0 hf5 hf9 hf10 hf32 hf33
       obtain ⟨rfl, rfl⟩ := j2 hm3
       exact ⟨v19, v20, rfl, rfl, rfl, rfl, rfl, rfl, H⟩
     ·
      rintro f w ⟨v11, v12, hf0, hf5, hf9, hf10, hf32, hf33, H⟩
      obtain ⟨u27, rfl⟩ := up6 hf0 hf5 hf9 hf10 hf32 hf33
      refine Rg (Ad hinck1 (Mv (vi ((ik1 : Int) + 1)) (Nl ?_)))
      obtain rfl := sj hm2
      exact ⟨_, rfl, _, _, v11, v12, rfl, rangeN_next hdropk1, rfl, rfl, rfl, rfl, rfl, rfl, H⟩
    ·
     rintro ik1 _ f w ⟨z3, z4, v5, v6, rfl, hdropk1, hf33, hf32, hf0, hf5, hf9, hf10, H⟩ hfin
     have hltk1 := rangeN_end hdropk1
     obtain ⟨u28, rfl⟩ := up6 hf33 hf32 hf0 hf5 hf9 hf10
     refine Sq (Rg (Ls (Nl (Sq (Cf (cb (decide_eq_false hltk1)) (Ex ?_))))))
     have hq : (z3, z4) = (s1, s2) := hfin
     obtain ⟨he0, hq0⟩ := Prod.mk.inj hq; clear hq; subst he0
     subst hq0
     exact xT rfl ⟨v5, v6, rfl, rfl, rfl, rfl, H⟩
   ·
    rintro f w ⟨v9, v10, hf0, hf5, hf9, hf10, H⟩
    obtain ⟨u29, rfl⟩ := up4 hf0 hf5 hf9 hf10
    refine Sq ?_
    refine W.drawN 5 (fun f => f 9 = v9 ∧ f 10 = v10 ∧ f 88 = va0_0 ∧ f 89 = (.agg (Flat.cells a2).toArray)) fol (by kernel_rfl) ?_ ?_
    ·
     exact Pl (fun _ w8 _ hx => Mv (.pointer (some pa0)) (Nl ⟨rfl, hx⟩)) (Pl (fun _ w8 _ hx => Nk rfl (Nl ⟨rfl, hx⟩)) (Pl (fun _ w8 _ hx => Fa fd203_0 rfl (Nl ⟨rfl, hx⟩)) (Pl (fun _ w8 _ hx => by have H := H.ext hx; exact Ld _ sc200 (cells_mono ha0 H.base 0 _ rfl) (Nl ⟨rfl, hx⟩)) (Pl (fun _ w8 _ hx => by have H := H.ext hx; exact La [(vi a2.clock), (vi a2.at_)] ag205 (H.cell 0 rfl) (Nl ⟨rfl, hx⟩)) (PL.nil ⟨rfl, rfl, rfl, rfl⟩)))))
    ·
     rintro f w ⟨hf9, hf10, hf88, hf89⟩ hmd hx
     have H := H.ext hx
     obtain ⟨u30, rfl⟩ := up4 hf9 hf10 hf88 hf89
     refine O.lookup1 (z := 0) a2 underlying200 key205 ze3 (H.argM ra0_0) R R R R (As (vi ((mget a0_0 a2).getD 0)) (Nl (Sq ?_)))
     obtain ⟨x8, hx8, hm⟩ := bind_some hm
     obtain ⟨p6, hp9, hrp6⟩ := fix_indexAddr underlying26 sz3 (H.own 1 rfl) hx8
     obtain ⟨x9, hx9, hm⟩ := bind_some hm
     obtain ⟨p7, hp10, hrp7⟩ := fix_indexAddr underlying267 sz4 (H.own 2 rfl) hx9
     refine W.drawN 9 (fun f => f 6 = (vi x8) ∧ f 98 = (.bool x9)) fol (by kernel_rfl) ?_ ?_
     ·
      exact Pl (fun _ w8 _ hx => Mv v9 (Nl ⟨rfl, hx⟩)) (Pl (fun _ w8 _ hx => Mv (vi ((mget a0_0 a2).getD 0)) (Nl ⟨rfl, hx⟩)) (Pl (fun _ w8 _ hx => hrp6 R R R R (Nl ⟨rfl, hx⟩)) (Pl (fun _ w8 _ hx => by have hp9 := hp9.mono hx; exact Ld _ sc3 (hp9.flat 0 _ rfl) (Nl ⟨rfl, hx⟩)) (Pl (fun _ w8 _ hx => Mv v10 (Nl ⟨rfl, hx⟩)) (Pl (fun _ w8 _ hx => Mv (vi ((mget a0_0 a2).getD 0)) (Nl ⟨rfl, hx⟩)) (Pl (fun _ w8 _ hx => hrp7 R R R R (Nl ⟨rfl, hx⟩)) (Pl (fun _ w8 _ hx => by have hp10 := hp10.mono hx; exact Ld _ sc4 (hp10.flat 0 _ rfl) (Nl ⟨rfl, hx⟩)) (Pl (fun _ w8 _ hx => As (vi x8) (Nl ⟨rfl, hx⟩)) (PL.nil ⟨rfl, rfl⟩)))))))))
     ·
      rintro f w ⟨hf6, hf98⟩ hmd hx
      have H := H.ext hx
      have hp9 := hp9.mono hx
      have hp10 := hp10.mono hx
      obtain ⟨u31, rfl⟩ := up2 hf6 hf98
      refine As (.bool x9) (Nl (Rt ?_))
      obtain ⟨rfl, rfl⟩ := j2 hm
      exact ends2 results156 R R ⟨_, rfl, H.base, rfl⟩

theorem c_strings_Trim {w0 : World} (a0 a1 : ByteArray) {r0 : ByteArray} (hm : strings_Trim a0 a1 = some r0) : Calls prog 39 #[(.string a0), (.string a1)] w0 (Ret w0 fun _ v => v = (.string r0)) := by
 unfold strings_Trim at hm
 split at hm
 case isFalse => cases hm
 rename_i hc
 obtain rfl := sj hm
 refine (Any.strings_Trim_laid Tryz.trimT (by kernel_rfl) a0 a1 w0 hc.1 hc.2.1 fun j b hj => ?_).mono ?_
 ·
  have := List.all_eq_true.1 hc.2.2 b (List.mem_of_getElem? hj)
  simpa using this
 ·
  rintro e w' ⟨rfl, hb⟩
  exact ⟨_, rfl, hb, rfl⟩

set_option maxRecDepth 20000 in
theorem c_station_proper {w0 : World} (a0 : ByteArray) {r0 : Bool} (hm : station_proper a0 = some r0) :
  Calls prog 27 #[(.string a0)] w0 (Ret w0 fun _ v => v = (.bool r0)) := by
 unfold station_proper at hm
 refine cW func27 ntmps27 ?_
 have H := Inv.start (w := w0)
 refine Sq (Rg (As (.bool false) (Nl (Sq (Sq (Rg (Mv (.string a0) (Es (Mv (.bool (decide (a0 = (bs [])))) ?_)))))))))
 refine Cu 4 (fun f w => f 0 = (.string a0) ∧ f 11 = .bool ((decide (a0 = (bs []))) || (decide (200 < ((a0.size : Nat) : Int)))) ∧ Inv w0 w []) ?_ ?_
 ·
  rcases bool_ft (decide (a0 = (bs []))) with hc1 | hc1
  ·
   exact Rs (i := 7) (v := .bool false) (cb hc1) (Mv (.string a0) (Lt_ underlying9 (Gt_ (Pf (.bool (decide (200 < ((a0.size : Nat) : Int)))) (Nl ⟨rfl, cb (or_f hc1), H⟩)))))
  ·
   exact Rs (i := 7) (v := .bool true) (cb hc1) (Sp (Sp (Sp (Pt (.bool true) (Nl ⟨rfl, cb (or_t hc1), H⟩)))))
 ·
  rintro f w ⟨hf0, hf11, H⟩
  obtain ⟨u1, rfl⟩ := up2 hf0 hf11
  refine Mv (.bool ((decide (a0 = (bs []))) || (decide (200 < ((a0.size : Nat) : Int))))) ?_
  obtain ⟨b1, hm1, hm⟩ := bind_some hm
  refine Cu 5 (fun f w => f 0 = (.string a0) ∧ f 17 = .bool b1 ∧ Inv w0 w []) ?_ ?_
  ·
   rcases ite_some hm1 with ⟨hc2, hm1⟩ | ⟨hc2, hm1⟩
   ·
    refine Rs (i := 12) (v := .bool true) (cb hc2) (Sp (Sp (Sp (Sp (Pt (.bool true) (Nl ?_))))))
    obtain rfl := sj hm1
    exact ⟨rfl, rfl, H⟩
   ·
    refine Rs (i := 12) (v := .bool false) (cb hc2) (Mv (.string a0) ?_)
    obtain ⟨t1, hy1, hm1⟩ := bind_some hm1
    refine Ca call39 (c_strings_Trim _ _ hy1) ?_
    rintro _ w1 hb1 rfl
    have H := H.ext hb1
    refine Mv (.string a0) (O.neqS R R R R (Pf (.bool (!(decide (t1 = a0)))) (Nl ?_)))
    obtain rfl := sj hm1
    exact ⟨rfl, rfl, H⟩
  ·
   rintro f w ⟨hf0, hf17, H⟩
   obtain ⟨u2, rfl⟩ := up2 hf0 hf17
   refine Nl ?_
   rcases ite_some hm with ⟨hc3, hm⟩ | ⟨hc3, hm⟩
   ·
    refine Ct (cb hc3) (Sq (Rg (As (.bool false) (Nl (Rt ?_)))))
    obtain rfl := sj hm
    exact ends1 results27 rfl ⟨_, rfl, H.base, rfl⟩
   ·
    refine Cf (cb hc3) (Sk (Sq (Sq (Rg (Mv (.string a0) ?_)))))
    obtain ⟨t2, ht2, hm⟩ := bind_some hm
    refine O.bytesHeld underlying9 underlying94 underlying5 ht2 H R R R fun v1 w2 b2 ob1 H hb2 hsl1 => Ln underlying94 (hsl1 _ (H.items _ (List.mem_of_getElem? (i := 0) rfl)).1) (Mv (vi 0) (Nl ?_))
    obtain ⟨o1, hm2, hm⟩ := bind_some hm
    refine Va (fun f w => o1 = .next () ∧ Inv w0 w []) ?_ ?_
    ·
     refine Bk ?_
     refine W.rangeL (i := 0) hm2 (fun rem ik1 s f w => () = s ∧ t2.drop ik1 = rem ∧ f 21 = .int .i64 (ik1 : Int) ∧ f 20 = (vi ((t2.length : Nat) : Int)) ∧ f 19 = v1 ∧ Inv w0 w [heldI b2 ob1]) ?_ ?_ ?_
     ·
      exact ⟨rfl, List.drop_zero, rfl, rfl, rfl, H⟩
     ·
      rintro yk1 xs ik1 _ st f w ⟨rfl, hdropk1, hf21, hf20, hf19, H⟩ hm3
      have hltk1 := drop_lt hdropk1; have hixk1 := drop_idx hdropk1
      obtain ⟨u3, rfl⟩ := up3 hf21 hf20 hf19
      have hinck1 := addI_lt hltk1 (hsl1 _ (H.items _ (List.mem_of_getElem? (i := 0) rfl)).1).len_le
      refine Sq (Rg (Ls (Nl (Sq (Ct (cb (decide_eq_true hltk1)) (Sk (Sq (Bk (Sq (Rg (Ia underlying94 sz5 (hsl1 _ (H.items _ (List.mem_of_getElem? (i := 0) rfl)).1) hixk1 fun p1 hp1 => Ld _ sc5 (hp1.flat 0 _ rfl) ?_)))))))))))
      refine As (.int .u8 (yk1.toNat : Int)) (Nl (Sq (Rg (Mv (.int .u8 (yk1.toNat : Int)) (Ls (Mv (.bool (decide ((yk1.toNat : Int) < 32))) ?_))))))
      refine Cu 3 (fun f w => f 19 = v1 ∧ f 20 = (vi ((t2.length : Nat) : Int)) ∧ f 21 = (vi (ik1 : Int)) ∧ f 30 = .bool ((decide ((yk1.toNat : Int) < 32)) || (decide (126 < (yk1.toNat : Int)))) ∧ Inv w0 w [heldI b2 ob1]) ?_ ?_
      ·
       rcases bool_ft (decide ((yk1.toNat : Int) < 32)) with hc4 | hc4
       ·
        exact Rs (i := 27) (v := .bool false) (cb hc4) (Mv (.int .u8 (yk1.toNat : Int)) (Gt_ (Pf (.bool (decide (126 < (yk1.toNat : Int)))) (Nl ⟨rfl, rfl, rfl, cb (or_f hc4), H⟩))))
       ·
        exact Rs (i := 27) (v := .bool true) (cb hc4) (Sp (Sp (Pt (.bool true) (Nl ⟨rfl, rfl, rfl, cb (or_t hc4), H⟩))))
      ·
       rintro f w ⟨hf19, hf20, hf21, hf30, H⟩
       obtain ⟨u4, rfl⟩ := up4 hf19 hf20 hf21 hf30
       refine Nl ?_
       rcases ite_some hm3 with ⟨hc5, hm3⟩ | ⟨hc5, hm3⟩
       ·
        refine Ct (cb hc5) (Sq (Rg (As (.bool false) (Nl (Rt ?_)))))
        obtain rfl := sj hm3
        refine ⟨_, rfl, ?_⟩
        rintro rfl
        obtain rfl := sj hm
        exact ends1 results27 rfl ⟨_, rfl, H.base, rfl⟩
       ·
        refine Cf (cb hc5) (Sk (Rg (Ad hinck1 (Mv (vi ((ik1 : Int) + 1)) (Nl ?_)))))
        obtain rfl := sj hm3
        exact ⟨_, rfl, rfl, drop_next hdropk1, rfl, rfl, rfl, H⟩
     ·
      rintro ik1 _ f w ⟨rfl, hdropk1, hf21, hf20, hf19, H⟩ hfin
      have hltk1 := drop_end hdropk1
      obtain ⟨u5, rfl⟩ := up3 hf21 hf20 hf19
      refine Sq (Rg (Ls (Nl (Sq (Cf (cb (decide_eq_false hltk1)) (Ex ?_))))))
      obtain rfl : Ctl.next () = o1 := hfin
      have H := H.keep [] [] rfl (by decide)
      exact xT rfl ⟨rfl, H⟩
    ·
     rintro f w ⟨rfl, H⟩
     refine Sq (Rg (As (.bool true) (Nl (Rt ?_))))
     obtain rfl := sj hm
     exact ends1 results27 rfl ⟨_, rfl, H.base, rfl⟩

theorem c_strings_Split {w0 : World} (hT : EnvS prog 0 4 5 7 w0) (a0 a1 : ByteArray) {r0 : List ByteArray} (hm : strings_Split a0 a1 = some r0) :
  Calls prog 28 #[(.string a0), (.string a1)] w0 (Ret w0 fun w v => OwnR w0 w v 9 r0) := by
 unfold strings_Split splitI at hm
 split at hm
 case isFalse => cases hm
 rename_i hn
 cases hm
 exact c_SplitO Tryz.splitT hT.toEnvH a0 a1 hn.1 hn.2

theorem c_strconv_Itoa {w0 : World} (hT : EnvS prog 0 4 5 7 w0) (a0 : Int) {r0 : ByteArray} (hm : strconv_Itoa a0 = some r0) :
  Calls prog 55 #[(vi a0)] w0 (Ret w0 fun _ v => v = (.string r0)) := by
 unfold strconv_Itoa at hm
 split at hm
 case isFalse => cases hm
 rename_i hn
 obtain rfl := sj hm
 exact c_ItoaZ Tryz.itoaT hT.tab a0 hn.1 hn.2

theorem c_strconv_Atoi {w0 : World} (hT : EnvS prog 0 4 5 7 w0) (a0 : ByteArray) {r0 : Int} (hm : atoiI a0 = some r0) :
  Calls prog 104 #[(.string a0)] w0 (Ret w0 fun _ v => ∃ e, v = (.tuple #[(vi r0), e]) ∧ ErrB e (atoiB a0)) := by
 unfold atoiI at hm
 split at hm
 case isFalse => cases hm
 rename_i hn
 cases hm
 exact c_AtoiE Tryz.atoiT hT.toEnvH a0 hn

theorem c_station_values {w0 : World} (hT : EnvS prog 0 4 5 7 w0) (va0 : Value) (a0 : (List ByteArray)) (ha0 : SliceR w0 va0 a0) {r0 : (List Int)} (hm : station_values a0 = some r0) :
  Calls prog 73 #[va0] w0 (Ret w0 fun w v => OwnR w0 w v 3 r0) := by
 unfold station_values at hm
 refine cW func73 ntmps73 ?_
 have H := Inv.start (w := w0)
 refine Sq (Rg ?_)
 have H := H.addNil (α := Int) (E := 3)
 refine As (.slice none 0 0) (Nl (Sq (Rg ?_)))
 have H := H.addNil (α := Int) (E := 3)
 refine As (.slice none 0 0) (Nl (Sq (Sq (Rg (Mv va0 (Ln underlying48 (H.arg ha0) (Mv (vi 0) (Nl ?_))))))))
 obtain ⟨s1, hm1, hm⟩ := bind_some hm
 refine Va (fun f w => ∃ v4 : Value, f 3 = v4 ∧ Inv w0 w [o3 v4 s1]) ?_ ?_
 ·
  refine Bk ?_
  have H := H.keep [1] [o3 (.slice none 0 0) ([] : List Int)] rfl (by decide)
  refine W.rangeL (i := 0) hm1 (fun rem ik1 s f w => ∃ z2 : (List Int), ∃ v2 : Value, z2 = s ∧ a0.drop ik1 = rem ∧ f 10 = .int .i64 (ik1 : Int) ∧ f 9 = (vi ((a0.length : Nat) : Int)) ∧ f 3 = v2 ∧ f 8 = va0 ∧ Inv w0 w [o3 v2 z2]) ?_ ?_ ?_
  ·
   exact ⟨_, (.slice none 0 0), rfl, List.drop_zero, rfl, rfl, rfl, rfl, H⟩
  ·
   rintro yk1 xs ik1 _ st f w ⟨z2, v2, rfl, hdropk1, hf10, hf9, hf3, hf8, H⟩ hm2
   have hltk1 := drop_lt hdropk1; have hixk1 := drop_idx hdropk1
   obtain ⟨u1, rfl⟩ := up4 hf10 hf9 hf3 hf8
   have hinck1 := addI_lt hltk1 (H.arg ha0).len_le
   refine Sq (Rg (Ls (Nl (Sq (Ct (cb (decide_eq_true hltk1)) (Sk (Sq (Bk (Sq (Rg ?_))))))))))
   obtain ⟨p1, hp1, hrp1⟩ := fix_indexAddr underlying48 sz9 ha0 hixk1
   refine hrp1 R R R R (Ld _ sc9 ((hp1.mono H.base).flat 0 _ rfl) (As (.string yk1) (Nl (Sq (Rg (Mv (.string yk1) ?_))))))
   obtain ⟨t1, hy1, hm2⟩ := bind_some hm2
   refine Ca call104 (c_strconv_Atoi (hT.mono H.base) _ hy1) ?_
   rintro _ w1 hb1 ⟨v5, rfl, he1⟩
   have H := H.ext hb1
   refine Mv (.tuple #[(vi t1), v5]) (Xt (vi t1) (Xt v5 (As (vi t1) (As v5 (Nl (Rg (Mv v2 (Mv (vi t1) (Bs (α := Int) [(vi t1)] [t1] underlying26 el3 H fun v6 w2 H hb2 => ?_)))))))))
   obtain ⟨t2, ht2, hm2⟩ := bind_some hm2
   refine Ap 0 underlying26 el3 H rfl (H.own 1 rfl) ht2 fun v7 w3 H => As v7 (Nl (Rg (Ad hinck1 (Mv (vi ((ik1 : Int) + 1)) (Nl ?_)))))
   have H := H.keep [0] [o3 v7 t2] rfl (by decide)
   obtain rfl := sj hm2
   exact ⟨_, rfl, _, v7, rfl, drop_next hdropk1, rfl, rfl, rfl, rfl, H⟩
  ·
   rintro ik1 _ f w ⟨z2, v2, rfl, hdropk1, hf10, hf9, hf3, hf8, H⟩ hfin
   have hltk1 := drop_end hdropk1
   obtain ⟨u2, rfl⟩ := up4 hf10 hf9 hf3 hf8
   refine Sq (Rg (Ls (Nl (Sq (Cf (cb (decide_eq_false hltk1)) (Ex ?_))))))
   have hq : z2 = s1 := hfin
   subst hq
   exact xT rfl ⟨v2, rfl, H⟩
 ·
  rintro f w ⟨v4, hf3, H⟩
  obtain ⟨u3, rfl⟩ := up1 hf3
  refine Sq (Rg (Mv v4 (As v4 (Nl (Rt ?_)))))
  obtain rfl := sj hm
  exact ends1 results73 rfl ⟨_, rfl, H.base, H.ownR 0 rfl⟩

theorem c_station_must_ok {w0 : World} {b : Bool} (e : Int) (hb : b = true) : Calls prog 78 #[.bool b, .int .i64 e] w0 (Ret w0 fun _ v => v = .tuple #[]) := by
 subst hb
 refine cW func78 ntmps78 ?_
 have H := Inv.start (w := w0)
 exact Sq (Rg (Mv (.bool true) (O.not R R R (Nl (Cf rfl (Sk (ends0 results78 ⟨_, rfl, H.base, rfl⟩)))))))
theorem c_station_must_no {w0 : World} {b : Bool} (e : Int) (hb : b = false) : Calls prog 78 #[.bool b, .int .i64 e] w0 fun en w' => en = .panicked (refuse 87 e) ∧ Below w0.heap.size w0 w' := by
 subst hb
 refine calls_of_WP func78 rfl ntmps78 (Nat.le_of_ble_eq_true rfl) ?_
 have H := Inv.start (w := w0)
 exact Sq (Rg (Mv (.bool false) (O.not R R R (Nl (Ct rfl (Rg (Mv (vi e) (Bd (v := .agg #[.int .i64 e]) (fun w => by kernel_rfl) rfl (O.makeIface (u := .agg #[.int .i64 e]) (v := .iface 87 (.agg #[.int .i64 e])) (fun w => by kernel_rfl) R R R (O.panicI R R ⟨rfl, H.base⟩))))))))))
theorem c_station_needs_ok {w0 : World} {e : Int} (he : (e == 0) = true) : Calls prog 76 #[.int .i64 e] w0 (Ret w0 fun _ v => v = .tuple #[]) := by
 refine cW func76 ntmps76 ?_
 have H := Inv.start (w := w0)
 refine Rg (Mv (vi e) (Eq_ (Mv (vi e) (Ca call78 (c_station_must_ok e he) ?_))))
 rintro _ w1 hb rfl
 have H := H.ext hb
 exact Nl (ends0 results76 ⟨_, rfl, H.base, rfl⟩)
theorem c_station_needs_no {w0 : World} {e : Int} (he : (e == 0) = false) : Calls prog 76 #[.int .i64 e] w0 fun en w' => en = .panicked (refuse 87 e) ∧ Below w0.heap.size w0 w' := by
 refine calls_of_WP func76 rfl ntmps76 (Nat.le_of_ble_eq_true rfl) ?_
 have H := Inv.start (w := w0)
 exact Rg (Mv (vi e) (Eq_ (Mv (vi e) (Cn call78 (c_station_must_no e he) (fun w' hb => ⟨rfl, (H.ext hb).base⟩)))))

theorem c_station_session_time {w0 : World} (pa0 : Addr) (va0_2 : Value) (va0_3 : Value) (va0_4 : Value) (va0_6 : Value) (va0_7 : Value) (a0 : GSession) (ha0 : ∀ j c, ((cI a0.inside va0_2 va0_3 va0_4 va0_6 va0_7) : List Value)[j]? = some c → w0.cell? (pa0.add j) = some c) (ra0_2 : SliceR w0 va0_2 a0.inside.net.Rates) (ra0_3 : SliceR w0 va0_3 a0.inside.net.Sights) (ra0_4 : SliceR w0 va0_4 a0.inside.log) (ra0_6 : SliceR w0 va0_6 a0.inside.verdicts) (ra0_7 : SliceR w0 va0_7 a0.inside.ledger) (a1 : Int) {r0 : Ref (Int)} (hm : station_session_time a0 a1 = some r0) :
  Calls prog 74 #[(.pointer (some pa0)), (vi a1)] w0 (PRet 87 w0 r0 fun r _ v => v = (vi r)) := by
 unfold station_session_time at hm
 refine calls_of_WP func74 rfl ntmps74 (Nat.le_of_ble_eq_true rfl) ?_
 have H := Inv.start (w := w0)
 refine Sq (Rg (As (vi 0) (Nl (Sq (Rg (Mv (vi a1) (Ls ?_)))))))
 rcases mustB_some hm with ⟨hc1, rfl⟩ | ⟨hc1, hm⟩
 · exact Cn call78 (c_station_must_no _ hc1) (fun w' hb => ⟨rfl, (H.ext hb).base⟩)
 refine Ca call78 (c_station_must_ok _ hc1) ?_
 rintro _ w1 hb1 rfl
 have H := H.ext hb1
 refine Nl (Sq (Rg (Mv (.pointer (some pa0)) (Nk rfl (Fa fd61_0 rfl (Fa fd54_1 rfl (Ld _ sc3 (cells_mono ha0 H.base 6 _ rfl) ?_)))))))
 obtain ⟨t1, ht1, hm⟩ := bind_some hm
 refine O.mul R R R R ht1 (Mv (vi a1) ?_)
 obtain ⟨t2, ht2, hm⟩ := bind_some hm
 refine Ad ht2 (As (vi t2) (Nl (Rt ?_)))
 obtain rfl : Ref.ok t2 = r0 := sj (show some (Ref.ok t2) = some r0 from hm)
 exact ends1 results74 rfl ⟨_, rfl, H.base, rfl⟩

theorem c_sight_within {w0 : World} (a0 : Int) (a1 : Int) (a2 : Int) {r0 : Bool} (hm : sight_within a0 a1 a2 = some r0) :
  Calls prog 58 #[(vi a0), (vi a1), (vi a2)] w0 (Ret w0 fun _ v => v = (.bool r0)) := by
 unfold sight_within at hm
 refine cW func58 ntmps58 ?_
 have H := Inv.start (w := w0)
 refine Sq (Rg (As (.bool false) (Nl (Sq (Rg (Mv (vi a0) (Mv (vi a1) (Ge_ (Mv (.bool (decide (a1 ≤ a0))) ?_)))))))))
 refine Cu 4 (fun f w => f 14 = .bool ((decide (a1 ≤ a0)) && (decide (a0 ≤ a2))) ∧ Inv w0 w []) ?_ ?_
 ·
  rcases bool_ft (decide (a1 ≤ a0)) with hc1 | hc1
  ·
   exact Rs (i := 10) (v := .bool false) (cb hc1) (Sp (Sp (Sp (Pf (.bool false) (Nl ⟨cb (and_f hc1), H⟩)))))
  ·
   exact Rs (i := 10) (v := .bool true) (cb hc1) (Mv (vi a0) (Mv (vi a2) (Le_ (Pt (.bool (decide (a0 ≤ a2))) (Nl ⟨cb (and_t hc1), H⟩)))))
 ·
  rintro f w ⟨hf14, H⟩
  obtain ⟨u1, rfl⟩ := up1 hf14
  refine As (.bool ((decide (a1 ≤ a0)) && (decide (a0 ≤ a2)))) (Nl (Rt ?_))
  obtain rfl := sj hm
  exact ends1 results58 rfl ⟨_, rfl, H.base, rfl⟩

theorem c_sight_Valid_c1 {w0 : World} (a0 : Int) {r0 : Bool} (hm : sight_Valid_c1 a0 = some r0) :
  Calls prog 57 #[(vi a0)] w0 (Ret w0 fun _ v => v = (.bool r0)) := by
 unfold sight_Valid_c1 at hm
 refine cW func57 ntmps57 ?_
 have H := Inv.start (w := w0)
 refine Sq (Rg (As (.bool false) (Nl (Sq (Rg (Mv (vi a0) ?_))))))
 obtain ⟨t1, hy1, hm⟩ := bind_some hm
 refine Ca call58 (c_sight_within _ _ _ hy1) ?_
 rintro _ w1 hb1 rfl
 have H := H.ext hb1
 refine O.not R R R (As (.bool (!t1)) (Nl (Rt ?_)))
 obtain rfl := sj hm
 exact ends1 results57 rfl ⟨_, rfl, H.base, rfl⟩

theorem c_slices_IndexFunc_int {w0 : World} (va0 : Value) (a0 : (List Int)) (ha0 : SliceR w0 va0 a0) (va1 : Value) (a1 : Int → Option (Bool)) (ha1 : ∀ (w : World), Below w0.heap.size w0 w → ∀ (x0 : Int) (y0 : Bool), a1 x0 = some y0 → CallsV prog va1 #[(vi x0)] w (Ret w fun _ v => v = (.bool y0))) {r0 : Int} (hm : slices_IndexFunc_int a0 a1 = some r0) :
  Calls prog 95 #[va0, va1] w0 (Ret w0 fun _ v => v = (vi r0)) := by
 unfold slices_IndexFunc_int at hm
 refine cW func95 ntmps95 ?_
 have H := Inv.start (w := w0)
 refine Sq (Rg (As (vi 0) (Nl (Sq (Sq (Rg (Mv va0 (Ln underlying26 (H.arg ha0) (Mv (vi 0) (Nl ?_))))))))))
 obtain ⟨o1, hm1, hm⟩ := bind_some hm
 refine Va (fun f w => o1 = .next () ∧ Inv w0 w []) ?_ ?_
 ·
  refine Bk ?_
  have hbdik1 := (H.arg ha0).len_le
  refine W.rangeN (i := 0) hm1 (fun rem ik1 s f w => () = s ∧ (ik1 : Int) + rem = max 0 ((a0.length : Nat) : Int) ∧ f 8 = .int .i64 (ik1 : Int) ∧ f 7 = (vi ((a0.length : Nat) : Int)) ∧ f 0 = va0 ∧ f 1 = va1 ∧ Inv w0 w []) ?_ ?_ ?_
  ·
   exact ⟨rfl, rangeN_start, rfl, rfl, rfl, rfl, H⟩
  ·
   rintro k ik1 _ st f w ⟨rfl, hdropk1, hf8, hf7, hf0, hf1, H⟩ hm2
   have hltk1 := rangeN_lt hdropk1
   obtain ⟨u1, rfl⟩ := up4 hf8 hf7 hf0 hf1
   have hinck1 := addI_lt hltk1 hbdik1
   refine Sq (Rg (Ls (Nl (Sq (Ct (cb (decide_eq_true hltk1)) (Sk (Sq (Bk (Sq (Rg (Mv (vi (ik1 : Int)) (As (vi (ik1 : Int)) (Nl ?_)))))))))))))
   refine Sq (Rg (Mv va1 (Mv va0 (Mv (vi (ik1 : Int)) ?_))))
   obtain ⟨x1, hx1, hm2⟩ := bind_some hm2
   obtain ⟨p1, hp1, hrp1⟩ := fix_indexAddr underlying26 sz3 ha0 hx1
   refine hrp1 R R R R (Ld _ sc3 ((hp1.mono H.base).flat 0 _ rfl) ?_)
   obtain ⟨t1, hy1, hm2⟩ := bind_some hm2
   refine O.callV R R R R (ha1 _ H.base _ _ hy1) ?_
   rintro _ w1 hb1 rfl
   have H := H.ext hb1
   refine Nl ?_
   rcases ite_some hm2 with ⟨hc1, hm2⟩ | ⟨hc1, hm2⟩
   ·
    refine Ct (cb hc1) (Sq (Rg (Mv (vi (ik1 : Int)) (As (vi (ik1 : Int)) (Nl (Rt ?_))))))
    obtain rfl := sj hm2
    refine ⟨_, rfl, ?_⟩
    rintro rfl
    obtain rfl := sj hm
    exact ends1 results95 rfl ⟨_, rfl, H.base, rfl⟩
   ·
    refine Cf (cb hc1) (Sk (Rg (Ad hinck1 (Mv (vi ((ik1 : Int) + 1)) (Nl ?_)))))
    obtain rfl := sj hm2
    exact ⟨_, rfl, rfl, rangeN_next hdropk1, rfl, rfl, rfl, rfl, H⟩
  ·
   rintro ik1 _ f w ⟨rfl, hdropk1, hf8, hf7, hf0, hf1, H⟩ hfin
   have hltk1 := rangeN_end hdropk1
   obtain ⟨u2, rfl⟩ := up4 hf8 hf7 hf0 hf1
   refine Sq (Rg (Ls (Nl (Sq (Cf (cb (decide_eq_false hltk1)) (Ex ?_))))))
   obtain rfl : Ctl.next () = o1 := hfin
   exact xT rfl ⟨rfl, H⟩
 ·
  rintro f w ⟨rfl, H⟩
  refine Sq (Rg (As (vi (-1)) (Nl (Rt ?_))))
  obtain rfl := sj hm
  exact ends1 results95 rfl ⟨_, rfl, H.base, rfl⟩

theorem c_slices_ContainsFunc_int {w0 : World} (va0 : Value) (a0 : (List Int)) (ha0 : SliceR w0 va0 a0) (va1 : Value) (a1 : Int → Option (Bool)) (ha1 : ∀ (w : World), Below w0.heap.size w0 w → ∀ (x0 : Int) (y0 : Bool), a1 x0 = some y0 → CallsV prog va1 #[(vi x0)] w (Ret w fun _ v => v = (.bool y0))) {r0 : Bool} (hm : slices_ContainsFunc_int a0 a1 = some r0) :
  Calls prog 59 #[va0, va1] w0 (Ret w0 fun _ v => v = (.bool r0)) := by
 unfold slices_ContainsFunc_int at hm
 refine cW func59 ntmps59 ?_
 have H := Inv.start (w := w0)
 refine Sq (Rg (As (.bool false) (Nl (Sq (Rg (Mv va0 (Mv va1 ?_)))))))
 obtain ⟨t1, hy1, hm⟩ := bind_some hm
 refine Ca call95 (c_slices_IndexFunc_int _ _ (H.arg ha0) va1 a1 (fun w hw => ha1 w (H.base.trans (hw.mono H.base.size))) hy1) ?_
 rintro _ w1 hb1 rfl
 have H := H.ext hb1
 refine Ge_ (As (.bool (decide (0 ≤ t1))) (Nl (Rt ?_)))
 obtain rfl := sj hm
 exact ends1 results59 rfl ⟨_, rfl, H.base, rfl⟩

set_option maxRecDepth 20000 in
theorem c_sight_validSight {w0 : World} (a0 : GSight) (a1 : Int) {r0 : Bool} (hm : sight_validSight a0 a1 = some r0) :
  Calls prog 62 #[(.agg (Flat.cells a0).toArray), (vi a1)] w0 (Ret w0 fun _ v => v = (.bool r0)) := by
 unfold sight_validSight at hm
 refine cW func62 ntmps62 ?_
 have H := Inv.start (w := w0)
 refine Sq (Rg (Bx [(vi a0.At), (vi a0.A), (vi a0.B), (vi a0.Lo), (vi a0.Hi)] H fun b1 w1 H hb1 => As (.bool false) (Nl (Sq (Rg (Fa fd92_0 rfl (Ld _ sc3 (H.cell 0 rfl 0 _ rfl) ?_)))))))
 obtain ⟨t1, hy1, hm⟩ := bind_some hm
 refine Ca call58 (c_sight_within _ _ _ hy1) ?_
 rintro _ w2 hb2 rfl
 have H := H.ext hb2
 refine Mv (.bool t1) ?_
 obtain ⟨b2, hm1, hm⟩ := bind_some hm
 refine Cu 6 (fun f w => f 1 = (vi a1) ∧ f 2 = (pt b1) ∧ f 14 = .bool b2 ∧ Inv w0 w [boxI b1 92 [(vi a0.At), (vi a0.A), (vi a0.B), (vi a0.Lo), (vi a0.Hi)]]) ?_ ?_
 ·
  rcases ite_some hm1 with ⟨hc1, hm1⟩ | ⟨hc1, hm1⟩
  ·
   refine Rs (i := 8) (v := .bool true) (cb hc1) (Fa fd92_1 rfl (Ld _ sc3 (H.cell 0 rfl 1 _ rfl) (Mv (vi a1) ?_)))
   obtain ⟨t2, ht2, hm1⟩ := bind_some hm1
   refine Su ht2 ?_
   obtain ⟨t3, hy2, hm1⟩ := bind_some hm1
   refine Ca call58 (c_sight_within _ _ _ hy2) ?_
   rintro _ w3 hb3 rfl
   have H := H.ext hb3
   refine Pt (.bool t3) (Nl ?_)
   obtain rfl := sj hm1
   exact ⟨rfl, rfl, rfl, H⟩
  ·
   refine Rs (i := 8) (v := .bool false) (cb hc1) (Sp (Sp (Sp (Sp (Sp (Pf (.bool false) (Nl ?_)))))))
   obtain rfl := sj hm1
   exact ⟨rfl, rfl, rfl, H⟩
 ·
  rintro f w ⟨hf1, hf2, hf14, H⟩
  obtain ⟨u1, rfl⟩ := up3 hf1 hf2 hf14
  refine Mv (.bool b2) ?_
  obtain ⟨b3, hm2, hm⟩ := bind_some hm
  refine Cu 6 (fun f w => f 2 = (pt b1) ∧ f 21 = .bool b3 ∧ Inv w0 w [boxI b1 92 [(vi a0.At), (vi a0.A), (vi a0.B), (vi a0.Lo), (vi a0.Hi)]]) ?_ ?_
  ·
   rcases ite_some hm2 with ⟨hc2, hm2⟩ | ⟨hc2, hm2⟩
   ·
    refine Rs (i := 15) (v := .bool true) (cb hc2) (Fa fd92_2 rfl (Ld _ sc3 (H.cell 0 rfl 2 _ rfl) (Mv (vi a1) ?_)))
    obtain ⟨t4, ht4, hm2⟩ := bind_some hm2
    refine Su ht4 ?_
    obtain ⟨t5, hy3, hm2⟩ := bind_some hm2
    refine Ca call58 (c_sight_within _ _ _ hy3) ?_
    rintro _ w4 hb4 rfl
    have H := H.ext hb4
    refine Pt (.bool t5) (Nl ?_)
    obtain rfl := sj hm2
    exact ⟨rfl, rfl, H⟩
   ·
    refine Rs (i := 15) (v := .bool false) (cb hc2) (Sp (Sp (Sp (Sp (Sp (Pf (.bool false) (Nl ?_)))))))
    obtain rfl := sj hm2
    exact ⟨rfl, rfl, H⟩
  ·
   rintro f w ⟨hf2, hf21, H⟩
   obtain ⟨u2, rfl⟩ := up2 hf2 hf21
   refine Mv (.bool b3) ?_
   refine Cu 6 (fun f w => f 2 = (pt b1) ∧ f 28 = .bool (b3 && (a0.A != a0.B)) ∧ Inv w0 w [boxI b1 92 [(vi a0.At), (vi a0.A), (vi a0.B), (vi a0.Lo), (vi a0.Hi)]]) ?_ ?_
   ·
    rcases bool_ft b3 with hc3 | hc3
    ·
     exact Rs (i := 22) (v := .bool false) (cb hc3) (Sp (Sp (Sp (Sp (Sp (Pf (.bool false) (Nl ⟨rfl, cb (and_f hc3), H⟩)))))))
    ·
     exact Rs (i := 22) (v := .bool true) (cb hc3) (Fa fd92_1 rfl (Ld _ sc3 (H.cell 0 rfl 1 _ rfl) (Fa fd92_2 rfl (Ld _ sc3 (H.cell 0 rfl 2 _ rfl) (Ne_ (Pt (.bool (a0.A != a0.B)) (Nl ⟨rfl, cb (and_t hc3), H⟩)))))))
   ·
    rintro f w ⟨hf2, hf28, H⟩
    obtain ⟨u3, rfl⟩ := up2 hf2 hf28
    refine Mv (.bool (b3 && (a0.A != a0.B))) ?_
    obtain ⟨b4, hm3, hm⟩ := bind_some hm
    refine Cu 6 (fun f w => f 2 = (pt b1) ∧ f 35 = .bool b4 ∧ Inv w0 w [boxI b1 92 [(vi a0.At), (vi a0.A), (vi a0.B), (vi a0.Lo), (vi a0.Hi)]]) ?_ ?_
    ·
     rcases ite_some hm3 with ⟨hc4, hm3⟩ | ⟨hc4, hm3⟩
     ·
      refine Rs (i := 29) (v := .bool true) (cb hc4) (Fa fd92_3 rfl (Ld _ sc3 (H.cell 0 rfl 3 _ rfl) (Fa fd92_4 rfl (Ld _ sc3 (H.cell 0 rfl 4 _ rfl) ?_))))
      obtain ⟨t6, hy4, hm3⟩ := bind_some hm3
      refine Ca call58 (c_sight_within _ _ _ hy4) ?_
      rintro _ w5 hb5 rfl
      have H := H.ext hb5
      refine Pt (.bool t6) (Nl ?_)
      obtain rfl := sj hm3
      exact ⟨rfl, rfl, H⟩
     ·
      refine Rs (i := 29) (v := .bool false) (cb hc4) (Sp (Sp (Sp (Sp (Sp (Pf (.bool false) (Nl ?_)))))))
      obtain rfl := sj hm3
      exact ⟨rfl, rfl, H⟩
    ·
     rintro f w ⟨hf2, hf35, H⟩
     obtain ⟨u4, rfl⟩ := up2 hf2 hf35
     refine Mv (.bool b4) ?_
     refine Cu 4 (fun f w => f 40 = .bool (b4 && (decide (a0.Hi ≤ 86400000))) ∧ Inv w0 w [boxI b1 92 [(vi a0.At), (vi a0.A), (vi a0.B), (vi a0.Lo), (vi a0.Hi)]]) ?_ ?_
     ·
      rcases bool_ft b4 with hc5 | hc5
      ·
       exact Rs (i := 36) (v := .bool false) (cb hc5) (Sp (Sp (Sp (Pf (.bool false) (Nl ⟨cb (and_f hc5), H⟩)))))
      ·
       exact Rs (i := 36) (v := .bool true) (cb hc5) (Fa fd92_4 rfl (Ld _ sc3 (H.cell 0 rfl 4 _ rfl) (Le_ (Pt (.bool (decide (a0.Hi ≤ 86400000))) (Nl ⟨cb (and_t hc5), H⟩)))))
     ·
      rintro f w ⟨hf40, H⟩
      obtain ⟨u5, rfl⟩ := up1 hf40
      refine As (.bool (b4 && (decide (a0.Hi ≤ 86400000)))) (Nl (Rt ?_))
      obtain rfl := sj hm
      exact ends1 results62 rfl ⟨_, rfl, H.base, rfl⟩

theorem c_sight_Valid_c2 {w0 : World} (a0 : GSight) (pc0 : Addr) (c0 : Int) (hc0 : ∀ j c, (Flat.cells c0)[j]? = some c → w0.cell? (pc0.add j) = some c) {r0 : Bool} (hm : sight_Valid_c2 a0 c0 = some r0) :
  Calls prog 61 #[(.agg (Flat.cells a0).toArray), (.pointer (some pc0))] w0 (Ret w0 fun _ v => v = (.bool r0)) := by
 unfold sight_Valid_c2 at hm
 refine cW func61 ntmps61 ?_
 have H := Inv.start (w := w0)
 refine Sq (Rg (Bx [(vi a0.At), (vi a0.A), (vi a0.B), (vi a0.Lo), (vi a0.Hi)] H fun b1 w1 H hb1 => As (.bool false) (Nl (Sq (Rg (La [(vi a0.At), (vi a0.A), (vi a0.B), (vi a0.Lo), (vi a0.Hi)] ag92 (H.cell 0 rfl) (Ld _ sc3 (cells_mono hc0 H.base 0 _ rfl) ?_)))))))
 obtain ⟨t1, hy1, hm⟩ := bind_some hm
 refine Ca call62 (c_sight_validSight a0 _ hy1) ?_
 rintro _ w2 hb2 rfl
 have H := H.ext hb2
 refine O.not R R R (As (.bool (!t1)) (Nl (Rt ?_)))
 obtain rfl := sj hm
 exact ends1 results61 rfl ⟨_, rfl, H.base, rfl⟩

theorem c_slices_IndexFunc_Sight {w0 : World} (va0 : Value) (a0 : (List GSight)) (ha0 : SliceR w0 va0 a0) (va1 : Value) (a1 : GSight → Option (Bool)) (ha1 : ∀ (w : World), Below w0.heap.size w0 w → ∀ (x0 : GSight) (y0 : Bool), a1 x0 = some y0 → CallsV prog va1 #[(.agg (Flat.cells x0).toArray)] w (Ret w fun _ v => v = (.bool y0))) {r0 : Int} (hm : slices_IndexFunc_Sight a0 a1 = some r0) :
  Calls prog 96 #[va0, va1] w0 (Ret w0 fun _ v => v = (vi r0)) := by
 unfold slices_IndexFunc_Sight at hm
 refine cW func96 ntmps96 ?_
 have H := Inv.start (w := w0)
 refine Sq (Rg (As (vi 0) (Nl (Sq (Sq (Rg (Mv va0 (Ln underlying27 (H.arg ha0) (Mv (vi 0) (Nl ?_))))))))))
 obtain ⟨o1, hm1, hm⟩ := bind_some hm
 refine Va (fun f w => o1 = .next () ∧ Inv w0 w []) ?_ ?_
 ·
  refine Bk ?_
  have hbdik1 := (H.arg ha0).len_le
  refine W.rangeN (i := 0) hm1 (fun rem ik1 s f w => () = s ∧ (ik1 : Int) + rem = max 0 ((a0.length : Nat) : Int) ∧ f 8 = .int .i64 (ik1 : Int) ∧ f 7 = (vi ((a0.length : Nat) : Int)) ∧ f 0 = va0 ∧ f 1 = va1 ∧ Inv w0 w []) ?_ ?_ ?_
  ·
   exact ⟨rfl, rangeN_start, rfl, rfl, rfl, rfl, H⟩
  ·
   rintro k ik1 _ st f w ⟨rfl, hdropk1, hf8, hf7, hf0, hf1, H⟩ hm2
   have hltk1 := rangeN_lt hdropk1
   obtain ⟨u1, rfl⟩ := up4 hf8 hf7 hf0 hf1
   have hinck1 := addI_lt hltk1 hbdik1
   refine Sq (Rg (Ls (Nl (Sq (Ct (cb (decide_eq_true hltk1)) (Sk (Sq (Bk (Sq (Rg (Mv (vi (ik1 : Int)) (As (vi (ik1 : Int)) (Nl ?_)))))))))))))
   refine Sq (Rg (Mv va1 (Mv va0 (Mv (vi (ik1 : Int)) ?_))))
   obtain ⟨x1, hx1, hm2⟩ := bind_some hm2
   obtain ⟨p1, hp1, hrp1⟩ := fix_indexAddr underlying27 sz92 ha0 hx1
   refine hrp1 R R R R (La [(vi x1.At), (vi x1.A), (vi x1.B), (vi x1.Lo), (vi x1.Hi)] ag92 ((hp1.mono H.base).flat) ?_)
   obtain ⟨t1, hy1, hm2⟩ := bind_some hm2
   refine O.callV R R R R (ha1 _ H.base x1 _ hy1) ?_
   rintro _ w1 hb1 rfl
   have H := H.ext hb1
   refine Nl ?_
   rcases ite_some hm2 with ⟨hc1, hm2⟩ | ⟨hc1, hm2⟩
   ·
    refine Ct (cb hc1) (Sq (Rg (Mv (vi (ik1 : Int)) (As (vi (ik1 : Int)) (Nl (Rt ?_))))))
    obtain rfl := sj hm2
    refine ⟨_, rfl, ?_⟩
    rintro rfl
    obtain rfl := sj hm
    exact ends1 results96 rfl ⟨_, rfl, H.base, rfl⟩
   ·
    refine Cf (cb hc1) (Sk (Rg (Ad hinck1 (Mv (vi ((ik1 : Int) + 1)) (Nl ?_)))))
    obtain rfl := sj hm2
    exact ⟨_, rfl, rfl, rangeN_next hdropk1, rfl, rfl, rfl, rfl, H⟩
  ·
   rintro ik1 _ f w ⟨rfl, hdropk1, hf8, hf7, hf0, hf1, H⟩ hfin
   have hltk1 := rangeN_end hdropk1
   obtain ⟨u2, rfl⟩ := up4 hf8 hf7 hf0 hf1
   refine Sq (Rg (Ls (Nl (Sq (Cf (cb (decide_eq_false hltk1)) (Ex ?_))))))
   obtain rfl : Ctl.next () = o1 := hfin
   exact xT rfl ⟨rfl, H⟩
 ·
  rintro f w ⟨rfl, H⟩
  refine Sq (Rg (As (vi (-1)) (Nl (Rt ?_))))
  obtain rfl := sj hm
  exact ends1 results96 rfl ⟨_, rfl, H.base, rfl⟩

theorem c_slices_ContainsFunc_Sight {w0 : World} (va0 : Value) (a0 : (List GSight)) (ha0 : SliceR w0 va0 a0) (va1 : Value) (a1 : GSight → Option (Bool)) (ha1 : ∀ (w : World), Below w0.heap.size w0 w → ∀ (x0 : GSight) (y0 : Bool), a1 x0 = some y0 → CallsV prog va1 #[(.agg (Flat.cells x0).toArray)] w (Ret w fun _ v => v = (.bool y0))) {r0 : Bool} (hm : slices_ContainsFunc_Sight a0 a1 = some r0) :
  Calls prog 60 #[va0, va1] w0 (Ret w0 fun _ v => v = (.bool r0)) := by
 unfold slices_ContainsFunc_Sight at hm
 refine cW func60 ntmps60 ?_
 have H := Inv.start (w := w0)
 refine Sq (Rg (As (.bool false) (Nl (Sq (Rg (Mv va0 (Mv va1 ?_)))))))
 obtain ⟨t1, hy1, hm⟩ := bind_some hm
 refine Ca call96 (c_slices_IndexFunc_Sight _ _ (H.arg ha0) va1 a1 (fun w hw => ha1 w (H.base.trans (hw.mono H.base.size))) hy1) ?_
 rintro _ w1 hb1 rfl
 have H := H.ext hb1
 refine Ge_ (As (.bool (decide (0 ≤ t1))) (Nl (Rt ?_)))
 obtain rfl := sj hm
 exact ends1 results60 rfl ⟨_, rfl, H.base, rfl⟩

set_option maxRecDepth 20000 in
theorem c_sight_Valid {w0 : World} (va0_0 : Value) (va0_1 : Value) (a0 : GNet) (ha0_0 : SliceR w0 va0_0 a0.Rates) (ha0_1 : SliceR w0 va0_1 a0.Sights) {r0 : Bool} (hm : sight_Valid a0 = some r0) :
  Calls prog 38 #[(.agg #[va0_0, va0_1])] w0 (Ret w0 fun _ v => v = (.bool r0)) := by
 unfold sight_Valid at hm
 refine cW func38 ntmps38 ?_
 have H := Inv.start (w := w0)
 refine Sq (Rg (Bx [va0_0, va0_1] H fun b1 w1 H hb1 => As (.bool false) (Nl (Sq (Rg (Fa fd29_0 rfl (Ld _ sc26 (H.cell 0 rfl 0 _ rfl) (Ln underlying26 (H.arg ha0_0) (Al [(vi 0)] ze3 H fun b2 w2 H hb2 => St 1 0 [(vi ((a0.Rates.length : Nat) : Int))] [(vi ((a0.Rates.length : Nat) : Int))] sz3 H R R (one_cons rfl one_nil) ?_)))))))))
 intro w3 H
 refine Nl (Sq (Rg (As (.func (.func 57) #[] #[]) (Nl (Sq (Sq (Rg (Ld _ sc3 (H.cell 1 rfl 0 _ rfl) ?_))))))))
 obtain ⟨t1, hy1, hm⟩ := bind_some hm
 refine Ca call58 (c_sight_within _ _ _ hy1) ?_
 rintro _ w4 hb3 rfl
 have H := H.ext hb3
 refine O.not R R R (Mv (.bool (!t1)) ?_)
 obtain ⟨b3, hm1, hm⟩ := bind_some hm
 refine Cu 6 (fun f w => f 1 = (pt b1) ∧ f 3 = (pt b2) ∧ f 4 = (.func (.func 57) #[] #[]) ∧ f 17 = .bool b3 ∧ Inv w0 w [boxI b1 29 [va0_0, va0_1], boxI b2 3 [(vi ((a0.Rates.length : Nat) : Int))]]) ?_ ?_
 ·
  rcases ite_some hm1 with ⟨hc1, hm1⟩ | ⟨hc1, hm1⟩
  ·
   refine Rs (i := 11) (v := .bool true) (cb hc1) (Sp (Sp (Sp (Sp (Sp (Pt (.bool true) (Nl ?_)))))))
   obtain rfl := sj hm1
   exact ⟨rfl, rfl, rfl, rfl, H⟩
  ·
   refine Rs (i := 11) (v := .bool false) (cb hc1) (Fa fd29_0 rfl (Ld _ sc26 (H.cell 0 rfl 0 _ rfl) ?_))
   obtain ⟨x1, hx1, hm1⟩ := bind_some hm1
   obtain ⟨p1, hp1, hrp1⟩ := fix_indexAddr underlying26 sz3 ha0_0 hx1
   refine hrp1 R R R R (Ld _ sc3 ((hp1.mono H.base).flat 0 _ rfl) (Ne_ (Pf (.bool (x1 != 0)) (Nl ?_))))
   obtain rfl := sj hm1
   exact ⟨rfl, rfl, rfl, rfl, H⟩
 ·
  rintro f w ⟨hf1, hf3, hf4, hf17, H⟩
  obtain ⟨u1, rfl⟩ := up4 hf1 hf3 hf4 hf17
  refine Mv (.bool b3) ?_
  obtain ⟨b4, hm2, hm⟩ := bind_some hm
  refine Cu 5 (fun f w => f 1 = (pt b1) ∧ f 3 = (pt b2) ∧ f 23 = .bool b4 ∧ Inv w0 w [boxI b1 29 [va0_0, va0_1], boxI b2 3 [(vi ((a0.Rates.length : Nat) : Int))]]) ?_ ?_
  ·
   rcases ite_some hm2 with ⟨hc2, hm2⟩ | ⟨hc2, hm2⟩
   ·
    refine Rs (i := 18) (v := .bool true) (cb hc2) (Sp (Sp (Sp (Sp (Pt (.bool true) (Nl ?_))))))
    obtain rfl := sj hm2
    exact ⟨rfl, rfl, rfl, H⟩
   ·
    refine Rs (i := 18) (v := .bool false) (cb hc2) (Fa fd29_0 rfl (Ld _ sc26 (H.cell 0 rfl 0 _ rfl) (Mv (.func (.func 57) #[] #[]) ?_)))
    obtain ⟨t2, hy2, hm2⟩ := bind_some hm2
    refine Ca call59 (c_slices_ContainsFunc_int _ _ (H.arg ha0_0) _ (fun x0 => sight_Valid_c1 x0) (fun w hw x0 _ hy => callsV_mk call57 (c_sight_Valid_c1 x0 hy)) hy2) ?_
    rintro _ w5 hb4 rfl
    have H := H.ext hb4
    refine Pf (.bool t2) (Nl ?_)
    obtain rfl := sj hm2
    exact ⟨rfl, rfl, rfl, H⟩
  ·
   rintro f w ⟨hf1, hf3, hf23, H⟩
   obtain ⟨u2, rfl⟩ := up3 hf1 hf3 hf23
   refine Nl ?_
   rcases ite_some hm with ⟨hc3, hm⟩ | ⟨hc3, hm⟩
   ·
    refine Ct (cb hc3) (Sq (Rg (As (.bool false) (Nl (Rt ?_)))))
    obtain rfl := sj hm
    exact ends1 results38 rfl ⟨_, rfl, H.base, rfl⟩
   ·
    refine Cf (cb hc3) (Sk (Sq (Rg (Fa fd29_1 rfl (Ld _ sc27 (H.cell 0 rfl 1 _ rfl) (Ln underlying27 (H.arg ha0_1) (Le_ (Mv (.bool (decide (((a0.Sights.length : Nat) : Int) ≤ 30))) ?_))))))))
    obtain ⟨b5, hm3, hm⟩ := bind_some hm
    refine Cu 6 (fun f w => f 34 = .bool b5 ∧ Inv w0 w [boxI b1 29 [va0_0, va0_1], boxI b2 3 [(vi ((a0.Rates.length : Nat) : Int))]]) ?_ ?_
    ·
     rcases ite_some hm3 with ⟨hc4, hm3⟩ | ⟨hc4, hm3⟩
     ·
      refine Rs (i := 28) (v := .bool true) (cb hc4) (Fa fd29_1 rfl (Ld _ sc27 (H.cell 0 rfl 1 _ rfl) (Mf ?_)))
      obtain ⟨t3, hy3, hm3⟩ := bind_some hm3
      refine Ca call60 (c_slices_ContainsFunc_Sight _ _ (H.arg ha0_1) _ (fun x0 => sight_Valid_c2 x0 ((a0.Rates.length : Nat) : Int)) (fun w hw x0 _ hy => callsV_mk call61 (c_sight_Valid_c2 x0 _ ((a0.Rates.length : Nat) : Int) (cells_mono (H.cell 1 rfl) hw) hy)) hy3) ?_
      rintro _ w6 hb5 rfl
      have H := H.ext hb5
      refine O.not R R R (Pt (.bool (!t3)) (Nl ?_))
      obtain rfl := sj hm3
      exact ⟨rfl, H⟩
     ·
      refine Rs (i := 28) (v := .bool false) (cb hc4) (Sp (Sp (Sp (Sp (Sp (Pf (.bool false) (Nl ?_)))))))
      obtain rfl := sj hm3
      exact ⟨rfl, H⟩
    ·
     rintro f w ⟨hf34, H⟩
     obtain ⟨u3, rfl⟩ := up1 hf34
     refine As (.bool b5) (Nl (Rt ?_))
     obtain rfl := sj hm
     exact ends1 results38 rfl ⟨_, rfl, H.base, rfl⟩

theorem c_slices_Clone_int {w0 : World} (va0 : Value) (a0 : (List Int)) (ha0 : SliceR w0 va0 a0) {r0 : (List Int)} (hm : slices_Clone_int a0 = some r0) :
  Calls prog 21 #[va0] w0 (Ret w0 fun w v => OwnR w0 w v 3 r0) := by
 unfold slices_Clone_int at hm
 refine cW func21 ntmps21 ?_
 have H := Inv.start (w := w0)
 refine Sq (Rg ?_)
 have H := H.addNil (α := Int) (E := 3)
 refine As (.slice none 0 0) (Nl (Sq (Sq (Rg (Mv va0 ?_)))))
 rcases ha0.nil_or with ⟨rfl, rfl⟩ | ⟨ad, cap, rfl⟩
 ·
  replace hm : (some ([] : List Int)) = some r0 := by simpa [appI] using hm
  refine En underlying26 (Rs (i := 4) (v := .bool true) rfl (Nl (Ct rfl (Sq (Rg ?_)))))
  have H := H.addNil (α := Int) (E := 3)
  refine As (.slice none 0 0) (Nl (Rt ?_))
  obtain rfl := sj hm
  exact ends1 results21 rfl ⟨_, rfl, H.base, H.ownR 1 rfl⟩
 ·
  refine En underlying26 (Rs (i := 4) (v := .bool false) rfl (Nl (Cf rfl (Sk (Sq (Rg (O.buildEmpty (α := Int) underlying26 el3 H R R fun b1 w1 H hb1 => Mv (.slice (some ad) a0.length cap) ?_)))))))
  obtain ⟨t1, ht1, hm⟩ := bind_some hm
  refine Ap 1 underlying26 el3 H rfl (H.arg ha0) ht1 fun v1 w2 H => As v1 (Nl (Rt ?_))
  obtain rfl := sj hm
  exact ends1 results21 rfl ⟨_, rfl, H.base, H.ownR 1 rfl⟩

theorem c_slices_Clone_Sight {w0 : World} (va0 : Value) (a0 : (List GSight)) (ha0 : SliceR w0 va0 a0) {r0 : (List GSight)} (hm : slices_Clone_Sight a0 = some r0) :
  Calls prog 33 #[va0] w0 (Ret w0 fun w v => OwnR w0 w v 92 r0) := by
 unfold slices_Clone_Sight at hm
 refine cW func33 ntmps33 ?_
 have H := Inv.start (w := w0)
 refine Sq (Rg ?_)
 have H := H.addNil (α := GSight) (E := 92)
 refine As (.slice none 0 0) (Nl (Sq (Sq (Rg (Mv va0 ?_)))))
 rcases ha0.nil_or with ⟨rfl, rfl⟩ | ⟨ad, cap, rfl⟩
 ·
  replace hm : (some ([] : List GSight)) = some r0 := by simpa [appI] using hm
  refine En underlying27 (Rs (i := 4) (v := .bool true) rfl (Nl (Ct rfl (Sq (Rg ?_)))))
  have H := H.addNil (α := GSight) (E := 92)
  refine As (.slice none 0 0) (Nl (Rt ?_))
  obtain rfl := sj hm
  exact ends1 results33 rfl ⟨_, rfl, H.base, H.ownR 1 rfl⟩
 ·
  refine En underlying27 (Rs (i := 4) (v := .bool false) rfl (Nl (Cf rfl (Sk (Sq (Rg (O.buildEmpty (α := GSight) underlying27 el92 H R R fun b1 w1 H hb1 => Mv (.slice (some ad) a0.length cap) ?_)))))))
  obtain ⟨t1, ht1, hm⟩ := bind_some hm
  refine Ap 1 underlying27 el92 H rfl (H.arg ha0) ht1 fun v1 w2 H => As v1 (Nl (Rt ?_))
  obtain rfl := sj hm
  exact ends1 results33 rfl ⟨_, rfl, H.base, H.ownR 1 rfl⟩

set_option maxRecDepth 20000 in
theorem c_sight_Added {w0 : World} (va0_0 : Value) (va0_1 : Value) (a0 : GNet) (ha0_0 : SliceR w0 va0_0 a0.Rates) (ha0_1 : SliceR w0 va0_1 a0.Sights) (a1 : GSight) {r0 : GNet} {r1 : Int} (hm : sight_Added a0 a1 = some (r0, r1)) :
  Calls prog 75 #[(.agg #[va0_0, va0_1]), (.agg (Flat.cells a1).toArray)] w0 (Ret w0 fun w v => ∃ vr0_0 : Value, ∃ vr0_1 : Value, v = .tuple #[(.agg #[vr0_0, vr0_1]), (vi r1)] ∧ Inv w0 w [o3 vr0_0 r0.Rates, o92 vr0_1 r0.Sights]) := by
 unfold sight_Added at hm
 refine cW func75 ntmps75 ?_
 have H := Inv.start (w := w0)
 refine Sq (Rg (Bx [va0_0, va0_1] H fun b1 w1 H hb1 => Bx [(vi a1.At), (vi a1.A), (vi a1.B), (vi a1.Lo), (vi a1.Hi)] H fun b2 w2 H hb2 => Al [(.slice none 0 0), (.slice none 0 0)] ze29 H fun b3 w3 H hb3 => ?_))
 have H := H.addNil (α := Int) (E := 3)
 have H := H.addNil (α := GSight) (E := 92)
 refine As (vi 0) (Nl (Sq (Bk (Sq (Rg (La [va0_0, va0_1] ag29 (H.cell 0 rfl) ?_))))))
 obtain ⟨t1, hy1, hm⟩ := bind_some hm
 refine Ca call38 (c_sight_Valid _ _ (GNet.mk a0.Rates a0.Sights) (H.arg ha0_0) (H.arg ha0_1) hy1) ?_
 rintro _ w4 hb4 rfl
 have H := H.ext hb4
 refine O.not R R R (Mv (.bool (!t1)) ?_)
 obtain ⟨b4, hm1, hm⟩ := bind_some hm
 refine Cu 7 (fun f w => f 2 = (pt b1) ∧ f 3 = (pt b2) ∧ f 4 = (pt b3) ∧ f 17 = .bool b4 ∧ Inv w0 w [boxI b1 29 [va0_0, va0_1], boxI b2 92 [(vi a1.At), (vi a1.A), (vi a1.B), (vi a1.Lo), (vi a1.Hi)], boxI b3 29 [(.slice none 0 0), (.slice none 0 0)], o3 (.slice none 0 0) ([] : List Int), o92 (.slice none 0 0) ([] : List GSight)]) ?_ ?_
 ·
  rcases ite_some hm1 with ⟨hc1, hm1⟩ | ⟨hc1, hm1⟩
  ·
   refine Rs (i := 10) (v := .bool true) (cb hc1) (Sp (Sp (Sp (Sp (Sp (Sp (Pt (.bool true) (Nl ?_))))))))
   obtain rfl := sj hm1
   exact ⟨rfl, rfl, rfl, rfl, H⟩
  ·
   refine Rs (i := 10) (v := .bool false) (cb hc1) (La [(vi a1.At), (vi a1.A), (vi a1.B), (vi a1.Lo), (vi a1.Hi)] ag92 (H.cell 1 rfl) (Fa fd29_0 rfl (Ld _ sc26 (H.cell 0 rfl 0 _ rfl) (Ln underlying26 (H.arg ha0_0) ?_))))
   obtain ⟨t2, hy2, hm1⟩ := bind_some hm1
   refine Ca call62 (c_sight_validSight a1 _ hy2) ?_
   rintro _ w5 hb5 rfl
   have H := H.ext hb5
   refine O.not R R R (Pf (.bool (!t2)) (Nl ?_))
   obtain rfl := sj hm1
   exact ⟨rfl, rfl, rfl, rfl, H⟩
 ·
  rintro f w ⟨hf2, hf3, hf4, hf17, H⟩
  obtain ⟨u1, rfl⟩ := up4 hf2 hf3 hf4 hf17
  refine As (.bool b4) (Nl ?_)
  rcases ite_some hm with ⟨hc2, hm⟩ | ⟨hc2, hm⟩
  ·
   refine Ct (cb hc2) (Sq (Rg (Bd (v := (.agg #[(.slice none 0 0), (.slice none 0 0)])) (fun w => bd29_  w) rfl ?_)))
   have H := H.addNil (α := Int) (E := 3)
   have H := H.addNil (α := GSight) (E := 92)
   refine St 2 0 [(.slice none 0 0), (.slice none 0 0)] [(.slice none 0 0), (.slice none 0 0)] sz29 H R R (one_cons rfl (one_cons rfl one_nil)) fun w6 H => As (vi 1) (Nl (Rt ?_))
   obtain ⟨rfl, rfl⟩ := j2 hm
   exact ends2 results75 ⟨_, rfl, run_loadVar_agg ag29 rfl (H.cell 2 rfl)⟩ rfl ⟨_, rfl, H.base, ⟨_, _, rfl, H.pick [5, 6] [o3 (.slice none 0 0) ([] : List Int), o92 (.slice none 0 0) ([] : List GSight)] rfl (by decide)⟩⟩
  ·
   refine Cf (cb hc2) (Sq (Rg (Fa fd29_1 rfl (Ld _ sc27 (H.cell 0 rfl 1 _ rfl) (Ln underlying27 (H.arg ha0_1) (Eq_ (As (.bool (((a0.Sights.length : Nat) : Int) == 30)) (Nl ?_))))))))
   rcases ite_some hm with ⟨hc3, hm⟩ | ⟨hc3, hm⟩
   ·
    refine Ct (cb hc3) (Sq (Rg (Bd (v := (.agg #[(.slice none 0 0), (.slice none 0 0)])) (fun w => bd29_  w) rfl ?_)))
    have H := H.addNil (α := Int) (E := 3)
    have H := H.addNil (α := GSight) (E := 92)
    refine St 2 0 [(.slice none 0 0), (.slice none 0 0)] [(.slice none 0 0), (.slice none 0 0)] sz29 H R R (one_cons rfl (one_cons rfl one_nil)) fun w7 H => As (vi 4) (Nl (Rt ?_))
    obtain ⟨rfl, rfl⟩ := j2 hm
    exact ends2 results75 ⟨_, rfl, run_loadVar_agg ag29 rfl (H.cell 2 rfl)⟩ rfl ⟨_, rfl, H.base, ⟨_, _, rfl, H.pick [5, 6] [o3 (.slice none 0 0) ([] : List Int), o92 (.slice none 0 0) ([] : List GSight)] rfl (by decide)⟩⟩
   ·
    refine Cf (cb hc3) (Sk (Sq ?_))
    obtain ⟨t3, hy3, hm⟩ := bind_some hm
    obtain ⟨t4, hy4, hm⟩ := bind_some hm
    have H := H.addGone
    have H := H.addGone
    have H := H.addGone
    refine W.drawD 8 [[], [0], [0, 1], [], [3], [0, 1, 2, 3, 4], [], [6]] [[1, 2, 5], [2, 5], [5], [4, 5], [5], [], [7], []] (fun S f w => ∃ v1 : Value, ∃ v2 : Value, ∃ v3 : Value, (f 2 = (pt b1) ∧ f 3 = (pt b2) ∧ f 4 = (pt b3)) ∧ Inv w0 w [boxI b1 29 [va0_0, va0_1], boxI b2 92 [(vi a1.At), (vi a1.A), (vi a1.B), (vi a1.Lo), (vi a1.Hi)], boxI b3 29 [(.slice none 0 0), (.slice none 0 0)], o3 (.slice none 0 0) ([] : List Int), o92 (.slice none 0 0) ([] : List GSight), cond (S 2) (o3 v1 t3) goneI, cond (S 5) (o92 v2 t4) goneI, cond (S 7) (o92 v3 ([a1] : List GSight)) goneI] ∧ (S 0 = true → f 25 = (.pointer (some (Addr.add (Addr.mk b1 0 none) 0)))) ∧ (S 1 = true → f 26 = va0_0) ∧ (S 2 = true → f 27 = v1) ∧ (S 3 = true → f 28 = (.pointer (some (Addr.add (Addr.mk b1 0 none) 1)))) ∧ (S 4 = true → f 29 = va0_1) ∧ (S 5 = true → f 30 = v2) ∧ (S 6 = true → f 31 = (.agg (Flat.cells a1).toArray)) ∧ (S 7 = true → f 32 = v3)) fol (by kernel_rfl) ?_ ?_ ?_
    ·
     exact fun d _ => ⟨.nilFunc, .nilFunc, .nilFunc, ⟨rfl, rfl, rfl⟩, H.ext (below_drawn d), nF, nF, nF, nF, nF, nF, nF, nF⟩
    ·
     refine ⟨?_, ⟨?_, ⟨?_, ⟨?_, ⟨?_, ⟨?_, ⟨?_, ⟨?_, trivial⟩⟩⟩⟩⟩⟩⟩⟩
     ·
      rintro S f w hS - ⟨e1, e2, e5, -⟩ ⟨v1, v2, v3, k, H, q0, t⟩
      obtain ⟨u2, rfl⟩ := up1 k.1
      exact Fa fd29_0 rfl (Nl ⟨v1, v2, v3, k, H, (fun _ => rfl), t⟩)
     ·
      rintro S f w hS ⟨e0, -⟩ ⟨e2, e5, -⟩ ⟨v1, v2, v3, k, H, q0, q1, t⟩
      obtain ⟨u3, rfl⟩ := up1 (q0 e0)
      exact Ld _ sc26 (H.cell 0 rfl 0 _ rfl) (Nl ⟨v1, v2, v3, k, H, q0, (fun _ => rfl), t⟩)
     ·
      rintro S f w hS ⟨e0, e1, -⟩ ⟨e5, -⟩ ⟨_, v2, v3, k, H, q0, q1, q2, t⟩
      obtain ⟨u4, rfl⟩ := up1 (q1 e1)
      have H := H.cF 5 hS rfl
      refine Ca call21 (c_slices_Clone_int _ _ (H.arg ha0_0) hy3) ?_
      rintro v1 w8 hb6 ho1
      have H := H.addOwn hb6 ho1
      have H := H.pick [0, 1, 2, 3, 4, 8, 6, 7] [boxI b1 29 [va0_0, va0_1], boxI b2 92 [(vi a1.At), (vi a1.A), (vi a1.B), (vi a1.Lo), (vi a1.Hi)], boxI b3 29 [(.slice none 0 0), (.slice none 0 0)], o3 (.slice none 0 0) ([] : List Int), o92 (.slice none 0 0) ([] : List GSight), o3 v1 t3, cond (S 5) (o92 v2 t4) goneI, cond (S 7) (o92 v3 ([a1] : List GSight)) goneI] rfl (by decide)
      exact Nl ⟨v1, v2, v3, k, H, q0, q1, (fun _ => rfl), t⟩
     ·
      rintro S f w hS - ⟨e4, e5, -⟩ ⟨v1, v2, v3, k, H, q0, q1, q2, q3, t⟩
      obtain ⟨u5, rfl⟩ := up1 k.1
      exact Fa fd29_1 rfl (Nl ⟨v1, v2, v3, k, H, q0, q1, q2, (fun _ => rfl), t⟩)
     ·
      rintro S f w hS ⟨e3, -⟩ ⟨e5, -⟩ ⟨v1, v2, v3, k, H, q0, q1, q2, q3, q4, t⟩
      obtain ⟨u6, rfl⟩ := up1 (q3 e3)
      exact Ld _ sc27 (H.cell 0 rfl 1 _ rfl) (Nl ⟨v1, v2, v3, k, H, q0, q1, q2, q3, (fun _ => rfl), t⟩)
     ·
      rintro S f w hS ⟨e0, e1, e2, e3, e4, -⟩ - ⟨v1, _, v3, k, H, q0, q1, q2, q3, q4, q5, t⟩
      obtain ⟨u7, rfl⟩ := up1 (q4 e4)
      have H := H.cF 6 hS rfl
      refine Ca call33 (c_slices_Clone_Sight _ _ (H.arg ha0_1) hy4) ?_
      rintro v2 w9 hb7 ho2
      have H := H.addOwn hb7 ho2
      have H := H.pick [0, 1, 2, 3, 4, 5, 8, 7] [boxI b1 29 [va0_0, va0_1], boxI b2 92 [(vi a1.At), (vi a1.A), (vi a1.B), (vi a1.Lo), (vi a1.Hi)], boxI b3 29 [(.slice none 0 0), (.slice none 0 0)], o3 (.slice none 0 0) ([] : List Int), o92 (.slice none 0 0) ([] : List GSight), cond (S 2) (o3 v1 t3) goneI, o92 v2 t4, cond (S 7) (o92 v3 ([a1] : List GSight)) goneI] rfl (by decide)
      exact Nl ⟨v1, v2, v3, k, H, q0, q1, q2, q3, q4, (fun _ => rfl), t⟩
     ·
      rintro S f w hS - ⟨e7, -⟩ ⟨v1, v2, v3, k, H, q0, q1, q2, q3, q4, q5, q6, q7⟩
      obtain ⟨u8, rfl⟩ := up1 k.2.1
      exact La [(vi a1.At), (vi a1.A), (vi a1.B), (vi a1.Lo), (vi a1.Hi)] ag92 (H.cell 1 rfl) (Nl ⟨v1, v2, v3, k, H, q0, q1, q2, q3, q4, q5, (fun _ => rfl), q7⟩)
     ·
      rintro S f w hS ⟨e6, -⟩ - ⟨v1, v2, _, k, H, q0, q1, q2, q3, q4, q5, q6, q7⟩
      obtain ⟨u9, rfl⟩ := up1 (q6 e6)
      have H := H.cF 7 hS rfl
      refine Bs (α := GSight) [(.agg (Flat.cells a1).toArray)] [a1] underlying27 el92 H fun v3 w10 H hb8 => ?_
      have H := H.pick [0, 1, 2, 3, 4, 5, 6, 8] [boxI b1 29 [va0_0, va0_1], boxI b2 92 [(vi a1.At), (vi a1.A), (vi a1.B), (vi a1.Lo), (vi a1.Hi)], boxI b3 29 [(.slice none 0 0), (.slice none 0 0)], o3 (.slice none 0 0) ([] : List Int), o92 (.slice none 0 0) ([] : List GSight), cond (S 2) (o3 v1 t3) goneI, cond (S 5) (o92 v2 t4) goneI, o92 v3 ([a1] : List GSight)] rfl (by decide)
      exact Nl ⟨v1, v2, v3, k, H, q0, q1, q2, q3, q4, q5, q6, (fun _ => rfl)⟩
    ·
     rintro S f w ⟨e0, e1, e2, e3, e4, e5, e6, e7, -⟩ ⟨v1, v2, v3, k, H, q0, q1, q2, q3, q4, q5, q6, q7⟩
     have H : Inv w0 w [boxI b1 29 [va0_0, va0_1], boxI b2 92 [(vi a1.At), (vi a1.A), (vi a1.B), (vi a1.Lo), (vi a1.Hi)], boxI b3 29 [(.slice none 0 0), (.slice none 0 0)], o3 (.slice none 0 0) ([] : List Int), o92 (.slice none 0 0) ([] : List GSight), o3 v1 t3, o92 v2 t4, o92 v3 ([a1] : List GSight)] := (((H.cT 5 e2 rfl).cT 6 e5 rfl).cT 7 e7 rfl)
     obtain ⟨u10, rfl⟩ := up4 k.2.2 (q2 e2) (q5 e5) (q7 e7)
     obtain ⟨t5, ht5, hm⟩ := bind_some hm
     refine Ap 6 underlying27 el92 H rfl (H.own 7 rfl) ht5 fun v4 w11 H => ?_
     obtain ⟨ad1, cap1, hvad1, _⟩ := (H.own 5 rfl).shape
     obtain ⟨ad2, cap2, hvad2, _⟩ := (H.own 6 rfl).shape
     refine Bd (v := (.agg #[v1, v4])) (fun w => by rw [hvad1, hvad2]; exact bd29_0_1 _ _ _ _ _ _ w) rfl (St 2 0 [v1, v4] [v1, v4] sz29 H R R (one_cons (SliceR.one (H.own 5 rfl)) (one_cons (SliceR.one (H.own 6 rfl)) one_nil)) fun w12 H => As (vi 0) (Nl (Rt ?_)))
     obtain ⟨rfl, rfl⟩ := j2 hm
     exact ends2 results75 ⟨_, rfl, run_loadVar_agg ag29 rfl (H.cell 2 rfl)⟩ rfl ⟨_, rfl, H.base, ⟨_, _, rfl, H.pick [5, 6] [o3 v1 t3, o92 v4 t5] rfl (by decide)⟩⟩

theorem c_sight_Consistent {w0 : World} (va0_0 : Value) (va0_1 : Value) (a0 : GNet) (ha0_0 : SliceR w0 va0_0 a0.Rates) (ha0_1 : SliceR w0 va0_1 a0.Sights) {r0 : Bool} {r1 : Int} (hm : sight_Consistent a0 = some (r0, r1)) :
  Calls prog 77 #[(.agg #[va0_0, va0_1])] w0 (Ret w0 fun _ v => v = .tuple #[(.bool r0), (vi r1)]) := by
 unfold sight_Consistent at hm
 refine cW func77 ntmps77 ?_
 have H := Inv.start (w := w0)
 refine Sq (Rg (Bx [va0_0, va0_1] H fun b1 w1 H hb1 => As (.bool false) (As (vi 0) (Nl (Sq (Sq (Rg (La [va0_0, va0_1] ag29 (H.cell 0 rfl) ?_))))))))
 obtain ⟨t1, hy1, hm⟩ := bind_some hm
 refine Ca call38 (c_sight_Valid _ _ (GNet.mk a0.Rates a0.Sights) (H.arg ha0_0) (H.arg ha0_1) hy1) ?_
 rintro _ w2 hb2 rfl
 have H := H.ext hb2
 refine O.not R R R (Nl ?_)
 rcases ite_some hm with ⟨hc1, hm⟩ | ⟨hc1, hm⟩
 ·
  refine Ct (cb hc1) (Sq (Rg (As (.bool false) (As (vi 1) (Nl (Rt ?_))))))
  obtain ⟨rfl, rfl⟩ := j2 hm
  exact ends2 results77 R R ⟨_, rfl, H.base, rfl⟩
 ·
  refine Cf (cb hc1) (Sk (Sq (Rg (La [va0_0, va0_1] ag29 (H.cell 0 rfl) ?_))))
  obtain ⟨⟨t2, t3⟩, hy2, hm⟩ := bind_some hm
  refine Ca call105 (c_sight_graphOf _ _ (GNet.mk a0.Rates a0.Sights) (H.arg ha0_0) (H.arg ha0_1) _ _ (SliceR.nil (α := GPoint)) hy2) ?_
  rintro _ w3 hb3 ⟨b2, m1, v1, sg1, rfl, hq1, hM1⟩
  have H := H.addAll hb3 hM1
  obtain ⟨⟨t4, t5⟩, hy3, hm⟩ := bind_some hm
  refine Ca call106 (c_sight_graph_circle _ _ _ t2 sg1 (H.cell 1 rfl) (H.map 2 rfl) (H.own 3 rfl) (circle_perm hq1 hy3)) ?_
  rintro v2 w4 hb4 ⟨ho1, hq2⟩
  have H := H.addOwn hb4 ho1
  refine O.eqlNilB underlying26 hq2 R R R R (As (.bool t4) (As (vi 0) (Nl (Rt ?_))))
  obtain ⟨rfl, rfl⟩ := j2 hm
  exact ends2 results77 R R ⟨_, rfl, H.base, rfl⟩

theorem bldOk : BuilderOk prog 34 36 96 5 := builderOk Tryz.writeT Tryz.writeX Tryz.stringT Tryz.stringX R R

theorem growOk0 : GrowOk prog 120 96 5 := growOk Tryz.growT Tryz.growX

set_option maxRecDepth 20000 in
theorem c_strings_Join {w0 : World} (va0 : Value) (a0 : (List ByteArray)) (ha0 : SliceR w0 va0 a0) (a1 : ByteArray) {r0 : ByteArray} (hm : strings_Join a0 a1 = some r0) :
  Calls prog 90 #[va0, (.string a1)] w0 (Ret w0 fun _ v => v = (.string r0)) := by
 unfold strings_Join at hm
 refine cW func90 ntmps90 ?_
 have H := Inv.start (w := w0)
 refine Sq (Rg (As (.string (bs [])) (Nl (Sq (Sq (Rg (Mv va0 (Ln underlying48 (H.arg ha0) (Nl (Bk (Sq (Rg (Eq_ ?_)))))))))))))
 refine As (.bool (((a0.length : Nat) : Int) == 0)) (Nl ?_)
 rcases ite_some hm with ⟨hc1, hm⟩ | ⟨hc1, hm⟩
 ·
  refine Ct (cb hc1) (Sq (Rg (As (.string (bs [])) (Nl (Rt ?_)))))
  obtain rfl := sj hm
  exact ends1 results90 rfl ⟨_, rfl, H.base, rfl⟩
 ·
  refine Cf (cb hc1) (Sq (Rg (Eq_ (As (.bool (((a0.length : Nat) : Int) == 1)) (Nl ?_)))))
  rcases ite_some hm with ⟨hc2, hm⟩ | ⟨hc2, hm⟩
  ·
   refine Ct (cb hc2) (Sq (Rg (Mv va0 ?_)))
   obtain ⟨x1, hx1, hm⟩ := bind_some hm
   obtain ⟨p1, hp1, hrp1⟩ := fix_indexAddr underlying48 sz9 ha0 hx1
   refine hrp1 R R R R (Ld _ sc9 ((hp1.mono H.base).flat 0 _ rfl) (As (.string x1) (Nl (Rt ?_))))
   obtain rfl := sj hm
   exact ends1 results90 rfl ⟨_, rfl, H.base, rfl⟩
  ·
   refine Cf (cb hc2) (Sk (Sq (Rg (As (vi 0) (Nl (Sq (Sq (Rg (Mv (.string a1) (Lt_ underlying9 (Gt_ (Nl ?_))))))))))))
   obtain ⟨s1, hm1, hm⟩ := bind_some hm
   refine Va (fun f w => f 0 = va0 ∧ f 1 = (.string a1) ∧ f 5 = (vi s1) ∧ Inv w0 w []) ?_ ?_
   ·
    rcases ite_some hm1 with ⟨hc3, hm1⟩ | ⟨hc3, hm1⟩
    ·
     refine Ct (cb hc3) (Sq (Sq (Rg (Mv (.string a1) (Lt_ underlying9 (Mv va0 (Ln underlying48 (H.arg ha0) ?_)))))))
     obtain ⟨t1, ht1, hm1⟩ := bind_some hm1
     refine Su ht1 ?_
     obtain ⟨t2, ht2, hm1⟩ := bind_some hm1
     refine O.quo R R R R ht2 (Ge_ (Nl ?_))
     obtain ⟨_, hm2, hm1⟩ := bind_some hm1
     refine Va (fun f w => f 0 = va0 ∧ f 1 = (.string a1) ∧ f 5 = (vi 0) ∧ Inv w0 w []) ?_ ?_
     ·
      rcases ite_some hm2 with ⟨hc4, hm2⟩ | ⟨hc4, hm2⟩
      ·
       refine Ct (cb hc4) ?_
       cases hm2
      ·
       exact Cf (cb hc4) (Sk ⟨rfl, rfl, rfl, H⟩)
     ·
      rintro f w ⟨hf0, hf1, hf5, H⟩
      obtain ⟨u1, rfl⟩ := up3 hf0 hf1 hf5
      refine Rg (Mv (vi 0) (Mv (.string a1) (Lt_ underlying9 (Mv va0 (Ln underlying48 (H.arg ha0) ?_)))))
      obtain ⟨t3, ht3, hm1⟩ := bind_some hm1
      refine Su ht3 ?_
      obtain ⟨t4, ht4, hm1⟩ := bind_some hm1
      refine O.mul R R R R ht4 ?_
      obtain ⟨t5, ht5, hm1⟩ := bind_some hm1
      refine Ad ht5 (As (vi t5) (Nl ?_))
      obtain rfl := sj hm1
      exact ⟨rfl, rfl, rfl, H⟩
    ·
     refine Cf (cb hc3) (Sk ?_)
     obtain rfl := sj hm1
     exact ⟨rfl, rfl, rfl, H⟩
   ·
    rintro f w ⟨hf0, hf1, hf5, H⟩
    obtain ⟨u2, rfl⟩ := up3 hf0 hf1 hf5
    refine Sq (Sq (Rg (Mv va0 (Ln underlying48 (H.arg ha0) (Mv (vi 0) (Nl ?_))))))
    obtain ⟨s2, hm3, hm⟩ := bind_some hm
    refine Va (fun f w => f 0 = va0 ∧ f 1 = (.string a1) ∧ f 5 = (vi s2) ∧ Inv w0 w []) ?_ ?_
    ·
     refine Bk ?_
     refine W.rangeL (i := 0) hm3 (fun rem ik1 s f w => ∃ z2 : Int, z2 = s ∧ a0.drop ik1 = rem ∧ f 41 = .int .i64 (ik1 : Int) ∧ f 40 = (vi ((a0.length : Nat) : Int)) ∧ f 0 = va0 ∧ f 1 = (.string a1) ∧ f 5 = (vi z2) ∧ f 39 = va0 ∧ Inv w0 w []) ?_ ?_ ?_
     ·
      exact ⟨_, rfl, List.drop_zero, rfl, rfl, rfl, rfl, rfl, rfl, H⟩
     ·
      rintro yk1 xs ik1 _ st f w ⟨z2, rfl, hdropk1, hf41, hf40, hf0, hf1, hf5, hf39, H⟩ hm4
      have hltk1 := drop_lt hdropk1; have hixk1 := drop_idx hdropk1
      obtain ⟨u3, rfl⟩ := up6 hf41 hf40 hf0 hf1 hf5 hf39
      have hinck1 := addI_lt hltk1 (H.arg ha0).len_le
      refine Sq (Rg (Ls (Nl (Sq (Ct (cb (decide_eq_true hltk1)) (Sk (Sq ?_)))))))
      obtain ⟨s3, hm5, hm4⟩ := bind_some hm4
      refine Va (fun f w => f 0 = va0 ∧ f 1 = (.string a1) ∧ f 5 = (vi s3) ∧ f 39 = va0 ∧ f 40 = (vi ((a0.length : Nat) : Int)) ∧ f 41 = (vi (ik1 : Int)) ∧ Inv w0 w []) ?_ ?_
      ·
       refine Bk (Sq (Rg ?_))
       obtain ⟨p2, hp2, hrp2⟩ := fix_indexAddr underlying48 sz9 ha0 hixk1
       refine hrp2 R R R R (Ld _ sc9 ((hp2.mono H.base).flat 0 _ rfl) (As (.string yk1) (Nl (Sq (Sq (Rg (Mv (.string yk1) (Lt_ underlying9 (Mv (vi z2) ?_)))))))))
       obtain ⟨t6, ht6, hm5⟩ := bind_some hm5
       refine Su ht6 (Gt_ (Nl ?_))
       obtain ⟨_, hm6, hm5⟩ := bind_some hm5
       refine Va (fun f w => f 0 = va0 ∧ f 1 = (.string a1) ∧ f 5 = (vi z2) ∧ f 7 = (.string yk1) ∧ f 39 = va0 ∧ f 40 = (vi ((a0.length : Nat) : Int)) ∧ f 41 = (vi (ik1 : Int)) ∧ Inv w0 w []) ?_ ?_
       ·
        rcases ite_some hm6 with ⟨hc5, hm6⟩ | ⟨hc5, hm6⟩
        ·
         refine Ct (cb hc5) ?_
         cases hm6
        ·
         exact Cf (cb hc5) (Sk ⟨rfl, rfl, rfl, rfl, rfl, rfl, rfl, H⟩)
       ·
        rintro f w ⟨hf0, hf1, hf5, hf7, hf39, hf40, hf41, H⟩
        obtain ⟨u4, rfl⟩ := up7 hf0 hf1 hf5 hf7 hf39 hf40 hf41
        refine Rg (Mv (vi z2) (Mv (.string yk1) (Lt_ underlying9 ?_)))
        obtain ⟨t7, ht7, hm5⟩ := bind_some hm5
        refine Ad ht7 (As (vi t7) (Nl ?_))
        obtain rfl := sj hm5
        exact ⟨rfl, rfl, rfl, rfl, rfl, rfl, H⟩
      ·
       rintro f w ⟨hf0, hf1, hf5, hf39, hf40, hf41, H⟩
       obtain ⟨u5, rfl⟩ := up6 hf0 hf1 hf5 hf39 hf40 hf41
       refine Rg (Ad hinck1 (Mv (vi ((ik1 : Int) + 1)) (Nl ?_)))
       obtain rfl := sj hm4
       exact ⟨_, rfl, _, rfl, drop_next hdropk1, rfl, rfl, rfl, rfl, rfl, rfl, H⟩
     ·
      rintro ik1 _ f w ⟨z2, rfl, hdropk1, hf41, hf40, hf0, hf1, hf5, hf39, H⟩ hfin
      have hltk1 := drop_end hdropk1
      obtain ⟨u6, rfl⟩ := up6 hf41 hf40 hf0 hf1 hf5 hf39
      refine Sq (Rg (Ls (Nl (Sq (Cf (cb (decide_eq_false hltk1)) (Ex ?_))))))
      have hq : z2 = s2 := hfin
      subst hq
      exact xT rfl ⟨rfl, rfl, rfl, H⟩
    ·
     rintro f w ⟨hf0, hf1, hf5, H⟩
     obtain ⟨u7, rfl⟩ := up3 hf0 hf1 hf5
     refine Sq (Rg (Al [(.pointer none), (.slice none 0 0)] ze96 H fun b1 w1 H hb1 => Nl (Sq (Rg (Mv (vi s2) ?_)))))
     obtain ⟨t8, ht8, hm⟩ := bind_some hm
     refine O.growB 0 0 growOk0 H rfl ht8 call120 R R R R fun v1 w2 H => ?_
     have H : Inv w0 w2 [bldI b1 96 v1 5 ([] : List UInt8)] := H
     refine Nl (Sq (Rg (Mv va0 ?_)))
     obtain ⟨x2, hx2, hm⟩ := bind_some hm
     obtain ⟨p3, hp3, hrp3⟩ := fix_indexAddr underlying48 sz9 ha0 hx2
     refine hrp3 R R R R (Ld _ sc9 ((hp3.mono H.base).flat 0 _ rfl) ?_)
     obtain ⟨t9, ht9, hm⟩ := bind_some hm
     refine O.writeB 0 0 bldOk H rfl ht9 call34 R R R R fun v2 w3 H => ?_
     have H : Inv w0 w3 [bldI b1 96 v2 5 t9] := H
     refine Nl (Sq (Sq (Rg (Mv va0 ?_))))
     obtain ⟨t10, ht10, hm⟩ := bind_some hm
     obtain ⟨v3, hs1, hrv3⟩ := fix_sliceL underlying48 sz9 ha0 ht10
     refine hrv3 R R R R (Ln underlying48 (H.arg hs1) (Mv (vi 0) (Nl ?_)))
     obtain ⟨s4, hm7, hm⟩ := bind_some hm
     refine Va (fun f w => ∃ v7 : Value, f 8 = (pt b1) ∧ Inv w0 w [bldI b1 96 v7 5 s4]) ?_ ?_
     ·
      refine Bk ?_
      refine W.rangeL (i := 0) hm7 (fun rem ik2 s f w => ∃ z5 : (List UInt8), ∃ v5 : Value, z5 = s ∧ t10.drop ik2 = rem ∧ f 65 = .int .i64 (ik2 : Int) ∧ f 64 = (vi ((t10.length : Nat) : Int)) ∧ f 1 = (.string a1) ∧ f 8 = (pt b1) ∧ f 63 = v3 ∧ Inv w0 w [bldI b1 96 v5 5 z5]) ?_ ?_ ?_
      ·
       exact ⟨_, v2, rfl, List.drop_zero, rfl, rfl, rfl, rfl, rfl, H⟩
      ·
       rintro yk2 xs ik2 _ st f w ⟨z5, v5, rfl, hdropk2, hf65, hf64, hf1, hf8, hf63, H⟩ hm8
       have hltk2 := drop_lt hdropk2; have hixk2 := drop_idx hdropk2
       obtain ⟨u8, rfl⟩ := up5 hf65 hf64 hf1 hf8 hf63
       have hinck2 := addI_lt hltk2 (H.arg hs1).len_le
       refine Sq (Rg (Ls (Nl (Sq (Ct (cb (decide_eq_true hltk2)) (Sk (Sq (Bk (Sq (Rg ?_))))))))))
       obtain ⟨p4, hp4, hrp4⟩ := fix_indexAddr underlying48 sz9 hs1 hixk2
       refine hrp4 R R R R (Ld _ sc9 ((hp4.mono H.base).flat 0 _ rfl) (As (.string yk2) (Nl (Sq (Rg (Mv (.string a1) ?_))))))
       obtain ⟨t11, ht11, hm8⟩ := bind_some hm8
       refine O.writeB 0 0 bldOk H rfl ht11 call34 R R R R fun v8 w4 H => ?_
       have H : Inv w0 w4 [bldI b1 96 v8 5 t11] := H
       refine Nl (Rg (Mv (.string yk2) ?_))
       obtain ⟨t12, ht12, hm8⟩ := bind_some hm8
       refine O.writeB 0 0 bldOk H rfl ht12 call34 R R R R fun v9 w5 H => ?_
       have H : Inv w0 w5 [bldI b1 96 v9 5 t12] := H
       refine Nl (Rg (Ad hinck2 (Mv (vi ((ik2 : Int) + 1)) (Nl ?_))))
       obtain rfl := sj hm8
       exact ⟨_, rfl, _, v9, rfl, drop_next hdropk2, rfl, rfl, rfl, rfl, rfl, H⟩
      ·
       rintro ik2 _ f w ⟨z5, v5, rfl, hdropk2, hf65, hf64, hf1, hf8, hf63, H⟩ hfin
       have hltk2 := drop_end hdropk2
       obtain ⟨u9, rfl⟩ := up5 hf65 hf64 hf1 hf8 hf63
       refine Sq (Rg (Ls (Nl (Sq (Cf (cb (decide_eq_false hltk2)) (Ex ?_))))))
       have hq : z5 = s4 := hfin
       subst hq
       exact xT rfl ⟨v5, rfl, H⟩
     ·
      rintro f w ⟨v7, hf8, H⟩
      obtain ⟨u10, rfl⟩ := up1 hf8
      refine Sq (Rg (O.strB 0 1 bldOk H rfl call36 R R R fun w6 H => ?_))
      have H : Inv w0 w6 [goneI] := H
      refine As (.string (⟨List.toArray s4⟩ : ByteArray)) (Nl (Rt ?_))
      obtain rfl := sj hm
      exact ends1 results90 rfl ⟨_, rfl, H.base, rfl⟩

theorem c_station_said {w0 : World} (hT : EnvS prog 0 4 5 7 w0) (a0 : ByteArray) (va1 : Value) (a1 : (List Int)) (ha1 : SliceR w0 va1 a1) {r0 : ByteArray} (hm : station_said a0 a1 = some r0) :
  Calls prog 79 #[(.string a0), va1] w0 (Ret w0 fun _ v => v = (.string r0)) := by
 unfold station_said at hm
 refine cW func79 ntmps79 ?_
 have H := Inv.start (w := w0)
 refine Sq (Rg (As (.string (bs [])) (Nl (Sq (Rg (Mv (.string a0) (Bs (α := ByteArray) [(.string a0)] [a0] underlying48 el9 H fun v1 w1 H hb1 => As v1 (Nl (Sq (Sq (Rg ?_)))))))))))
 refine Mv va1 (Ln underlying26 (H.arg ha1) (Mv (vi 0) (Nl ?_)))
 obtain ⟨s1, hm1, hm⟩ := bind_some hm
 refine Va (fun f w => ∃ v5 : Value, f 5 = v5 ∧ Inv w0 w [o9 v5 s1]) ?_ ?_
 ·
  refine Bk ?_
  refine W.rangeL (i := 0) hm1 (fun rem ik1 s f w => ∃ z2 : (List ByteArray), ∃ v3 : Value, z2 = s ∧ a1.drop ik1 = rem ∧ f 12 = .int .i64 (ik1 : Int) ∧ f 11 = (vi ((a1.length : Nat) : Int)) ∧ f 5 = v3 ∧ f 10 = va1 ∧ Inv w0 w [o9 v3 z2]) ?_ ?_ ?_
  ·
   exact ⟨_, v1, rfl, List.drop_zero, rfl, rfl, rfl, rfl, H⟩
  ·
   rintro yk1 xs ik1 _ st f w ⟨z2, v3, rfl, hdropk1, hf12, hf11, hf5, hf10, H⟩ hm2
   have hltk1 := drop_lt hdropk1; have hixk1 := drop_idx hdropk1
   obtain ⟨u1, rfl⟩ := up4 hf12 hf11 hf5 hf10
   have hinck1 := addI_lt hltk1 (H.arg ha1).len_le
   refine Sq (Rg (Ls (Nl (Sq (Ct (cb (decide_eq_true hltk1)) (Sk (Sq (Bk (Sq (Rg ?_))))))))))
   obtain ⟨p1, hp1, hrp1⟩ := fix_indexAddr underlying26 sz3 ha1 hixk1
   refine hrp1 R R R R (Ld _ sc3 ((hp1.mono H.base).flat 0 _ rfl) (As (vi yk1) (Nl (Rg (Mv v3 (Mv (vi yk1) ?_))))))
   obtain ⟨t1, hy1, hm2⟩ := bind_some hm2
   refine Ca call55 (c_strconv_Itoa (hT.mono H.base) _ hy1) ?_
   rintro _ w2 hb2 rfl
   have H := H.ext hb2
   refine Bs (α := ByteArray) [(.string t1)] [t1] underlying48 el9 H fun v6 w3 H hb3 => ?_
   obtain ⟨t2, ht2, hm2⟩ := bind_some hm2
   refine Ap 0 underlying48 el9 H rfl (H.own 1 rfl) ht2 fun v7 w4 H => As v7 (Nl (Rg (Ad hinck1 (Mv (vi ((ik1 : Int) + 1)) (Nl ?_)))))
   have H := H.keep [0] [o9 v7 t2] rfl (by decide)
   obtain rfl := sj hm2
   exact ⟨_, rfl, _, v7, rfl, drop_next hdropk1, rfl, rfl, rfl, rfl, H⟩
  ·
   rintro ik1 _ f w ⟨z2, v3, rfl, hdropk1, hf12, hf11, hf5, hf10, H⟩ hfin
   have hltk1 := drop_end hdropk1
   obtain ⟨u2, rfl⟩ := up4 hf12 hf11 hf5 hf10
   refine Sq (Rg (Ls (Nl (Sq (Cf (cb (decide_eq_false hltk1)) (Ex ?_))))))
   have hq : z2 = s1 := hfin
   subst hq
   exact xT rfl ⟨v3, rfl, H⟩
 ·
  rintro f w ⟨v5, hf5, H⟩
  obtain ⟨u3, rfl⟩ := up1 hf5
  refine Sq (Rg (Mv v5 ?_))
  obtain ⟨t3, hy2, hm⟩ := bind_some hm
  refine Ca call90 (c_strings_Join _ _ (H.own 0 rfl) _ hy2) ?_
  rintro _ w5 hb4 rfl
  have H := H.ext hb4
  refine As (.string t3) (Nl (Rt ?_))
  obtain rfl := sj hm
  exact ends1 results79 rfl ⟨_, rfl, H.base, rfl⟩

set_option maxRecDepth 20000 in
theorem c_station_session_sight {w0 : World} (X0 : Nat → Prop) (b0 : Nat) (va0_0 : Value) (va0_1 : Value) (va0_2 : Value) (va0_3 : Value) (va0_4 : Value) (a0 : GSession) (H0 : InvD X0 w0 w0 [boxI b0 61 (cI a0.inside va0_0 va0_1 va0_2 va0_3 va0_4), o3 va0_0 a0.inside.net.Rates, o92 va0_1 a0.inside.net.Sights, o70 va0_2 a0.inside.log, o3 va0_3 a0.inside.verdicts, o74 va0_4 a0.inside.ledger]) (hT : ∀ w', BelowX X0 w0 w' → EnvS prog 0 4 5 7 w') (va1 : Value) (a1 : (List ByteArray)) (ha1 : ∀ w', BelowX X0 w0 w' → SliceR w' va1 a1) {r0 : Ref (GSession × ByteArray)} (hm : station_session_sight a0 a1 = some r0) :
  Calls prog 41 #[(pt b0), va1] w0 (PPost 87 X0 w0 r0 (fun r v L1 => ∃ u0 u1 u2 u3 u4 : Value, L1 = [boxI b0 61 (cI r.1.inside u0 u1 u2 u3 u4), o3 u0 r.1.inside.net.Rates, o92 u1 r.1.inside.net.Sights, o70 u2 r.1.inside.log, o3 u3 r.1.inside.verdicts, o74 u4 r.1.inside.ledger] ∧ v = (.string r.2))) := by
 unfold station_session_sight at hm
 refine calls_of_WP func41 rfl ntmps41 (Nat.le_of_ble_eq_true rfl) ?_
 have H := H0
 refine Sq (Rg (As (.string (bs [])) (Nl (Sq (Rg (Mv va1 ?_))))))
 obtain ⟨t1, hy1, hm⟩ := bind_some hm
 refine Ca call73 (c_station_values (hT _ H.baseX) _ _ (ha1 _ H.baseX) hy1) ?_
 rintro v1 w1 hb1 ho1
 have H := H.addOwn hb1 ho1
 refine As v1 (Nl (Sq (Rg (Mv (pt b0) (Mv v1 ?_)))))
 obtain ⟨x1, hx1, hm⟩ := bind_some hm
 refine Ia underlying26 sz3 (H.own 6 rfl) hx1 fun p1 hp1 => Ld _ sc3 (hp1.flat 0 _ rfl) ?_
 rcases refB_some hm with ⟨e1, hy2, rfl⟩ | ⟨t2, hy2, hm⟩
 · exact Cn call74 (c_station_session_time _ _ _ _ _ _ (GSession.mk (GInside.mk a0.inside.mast a0.inside.day (GNet.mk a0.inside.net.Rates a0.inside.net.Sights) a0.inside.log a0.inside.state a0.inside.verdicts a0.inside.ledger a0.inside.flags)) (H.cell 0 rfl) (H.own 1 rfl) (H.own 2 rfl) (H.own 3 rfl) (H.own 4 rfl) (H.own 5 rfl) _ hy2) (fun w' hb => ⟨rfl, (H.ext hb).baseX⟩)
 refine Ca call74 (c_station_session_time _ _ _ _ _ _ (GSession.mk (GInside.mk a0.inside.mast a0.inside.day (GNet.mk a0.inside.net.Rates a0.inside.net.Sights) a0.inside.log a0.inside.state a0.inside.verdicts a0.inside.ledger a0.inside.flags)) (H.cell 0 rfl) (H.own 1 rfl) (H.own 2 rfl) (H.own 3 rfl) (H.own 4 rfl) (H.own 5 rfl) _ hy2) ?_
 rintro _ w2 hb2 rfl
 have hp1 := hp1.mono hb2
 have H := H.ext hb2
 refine As (vi t2) (Nl (Sq ?_))
 obtain ⟨x2, hx2, hm⟩ := bind_some hm
 obtain ⟨x3, hx3, hm⟩ := bind_some hm
 obtain ⟨x4, hx4, hm⟩ := bind_some hm
 obtain ⟨x5, hx5, hm⟩ := bind_some hm
 obtain ⟨⟨t3, t4⟩, hy3, hm⟩ := bind_some hm
 have H := H.addGone
 have H := H.addGone
 have H := H.addGone
 have H := H.addGone
 have H := H.addGone
 refine W.drawD 25 [[], [0], [0, 1], [0, 1, 2], [0, 1, 2, 3], [], [], [6], [6, 7], [], [9], [9, 10], [], [12], [12, 13], [], [15], [15, 16], [5, 6, 7, 8, 9, 10, 11, 12, 13, 14, 15, 16, 17], [0, 1, 2, 3, 4, 5, 6, 7, 8, 9, 10, 11, 12, 13, 14, 15, 16, 17, 18], [0, 1, 2, 3, 4, 5, 6, 7, 8, 9, 10, 11, 12, 13, 14, 15, 16, 17, 18, 19], [0, 1, 2, 3, 4, 5, 6, 7, 8, 9, 10, 11, 12, 13, 14, 15, 16, 17, 18, 19, 20], [0, 1, 2, 3, 4, 5, 6, 7, 8, 9, 10, 11, 12, 13, 14, 15, 16, 17, 18, 19, 20], [], [0, 1, 2, 3, 4, 5, 6, 7, 8, 9, 10, 11, 12, 13, 14, 15, 16, 17, 18, 19, 20, 21, 23]] [[1, 2, 3, 4, 19, 20, 21, 22, 24], [2, 3, 4, 19, 20, 21, 22, 24], [3, 4, 19, 20, 21, 22, 24], [4, 19, 20, 21, 22, 24], [19, 20, 21, 22, 24], [18, 19, 20, 21, 22, 24], [7, 8, 18, 19, 20, 21, 22, 24], [8, 18, 19, 20, 21, 22, 24], [18, 19, 20, 21, 22, 24], [10, 11, 18, 19, 20, 21, 22, 24], [11, 18, 19, 20, 21, 22, 24], [18, 19, 20, 21, 22, 24], [13, 14, 18, 19, 20, 21, 22, 24], [14, 18, 19, 20, 21, 22, 24], [18, 19, 20, 21, 22, 24], [16, 17, 18, 19, 20, 21, 22, 24], [17, 18, 19, 20, 21, 22, 24], [18, 19, 20, 21, 22, 24], [19, 20, 21, 22, 24], [20, 21, 22, 24], [21, 22, 24], [24], [], [24], []] (fun S f w => ∃ p2 : Addr, ∃ p3 : Addr, ∃ p4 : Addr, ∃ p5 : Addr, ∃ v2 : Value, ∃ v3 : Value, ∃ b1 : Nat, (f 0 = (pt b0) ∧ f 5 = v1 ∧ f 6 = (vi t2)) ∧ InvD X0 w0 w [boxI b0 61 (cI a0.inside va0_0 va0_1 va0_2 va0_3 va0_4), o3 va0_0 a0.inside.net.Rates, o92 va0_1 a0.inside.net.Sights, o70 va0_2 a0.inside.log, o3 va0_3 a0.inside.verdicts, o74 va0_4 a0.inside.ledger, o3 v1 t1, cond (S 19) (o3 v2 t3.Rates) goneI, cond (S 19) (o92 v3 t3.Sights) goneI, cond (S 24) (boxI b1 29 [v2, v3]) (cond (S 23) (boxI b1 29 [(.slice none 0 0), (.slice none 0 0)]) goneI), cond (S 23) (o3 (.slice none 0 0) ([] : List Int)) goneI, cond (S 23) (o92 (.slice none 0 0) ([] : List GSight)) goneI] ∧ (S 0 = true → f 18 = (pt b0)) ∧ (S 1 = true → f 19 = (pt b0)) ∧ (S 2 = true → f 20 = (.pointer (some (Addr.add (Addr.mk b0 0 none) 0)))) ∧ (S 3 = true → f 21 = (.pointer (some (Addr.add (Addr.add (Addr.mk b0 0 none) 0) 7)))) ∧ (S 4 = true → f 22 = (.agg #[va0_0, va0_1])) ∧ (S 5 = true → f 23 = (vi t2)) ∧ (S 6 = true → f 24 = v1) ∧ (S 7 = true → f 25 = (.pointer (some p2))) ∧ (S 8 = true → f 26 = (vi x2)) ∧ (S 9 = true → f 27 = v1) ∧ (S 10 = true → f 28 = (.pointer (some p3))) ∧ (S 11 = true → f 29 = (vi x3)) ∧ (S 12 = true → f 30 = v1) ∧ (S 13 = true → f 31 = (.pointer (some p4))) ∧ (S 14 = true → f 32 = (vi x4)) ∧ (S 15 = true → f 33 = v1) ∧ (S 16 = true → f 34 = (.pointer (some p5))) ∧ (S 17 = true → f 35 = (vi x5)) ∧ (S 18 = true → f 36 = (.agg (Flat.cells (GSight.mk t2 x2 x3 x4 x5)).toArray)) ∧ (S 19 = true → f 37 = (.tuple #[(.agg #[v2, v3]), (vi t4)])) ∧ (S 20 = true → f 17 = (.tuple #[(.agg #[v2, v3]), (vi t4)])) ∧ (S 21 = true → f 38 = (.agg #[v2, v3])) ∧ (S 22 = true → f 39 = (vi t4)) ∧ (S 23 = true → f 7 = (pt b1)) ∧ (S 7 = true → S 24 = false → (ElemAt w p2 x2)) ∧ (S 10 = true → S 24 = false → (ElemAt w p3 x3)) ∧ (S 13 = true → S 24 = false → (ElemAt w p4 x4)) ∧ (S 16 = true → S 24 = false → (ElemAt w p5 x5)) ∧ (S 24 = false → (ElemAt w p1 x1))) fol (by kernel_rfl) ?_ ?_ ?_
 ·
  exact fun d _ => ⟨⟨0, 0, none⟩, ⟨0, 0, none⟩, ⟨0, 0, none⟩, ⟨0, 0, none⟩, .nilFunc, .nilFunc, 0, ⟨rfl, rfl, rfl⟩, H.ext (below_drawn d), nF, nF, nF, nF, nF, nF, nF, nF, nF, nF, nF, nF, nF, nF, nF, nF, nF, nF, nF, nF, nF, nF, nF, nF, nF, nF, nF, nF, (fun _ => hp1.mono (below_drawn d))⟩
 ·
  refine ⟨?_, ⟨?_, ⟨?_, ⟨?_, ⟨?_, ⟨?_, ⟨?_, ⟨?_, ⟨?_, ⟨?_, ⟨?_, ⟨?_, ⟨?_, ⟨?_, ⟨?_, ⟨?_, ⟨?_, ⟨?_, ⟨?_, ⟨?_, ⟨?_, ⟨?_, ⟨?_, ⟨?_, ⟨?_, trivial⟩⟩⟩⟩⟩⟩⟩⟩⟩⟩⟩⟩⟩⟩⟩⟩⟩⟩⟩⟩⟩⟩⟩⟩⟩
  ·
   rintro S f w hS - ⟨e1, e2, e3, e4, e19, e20, e21, e22, e24, -⟩ ⟨p2, p3, p4, p5, v2, v3, b1, k, H, q0, t⟩
   obtain ⟨u1, rfl⟩ := up1 k.1
   exact Mv (pt b0) (Nl ⟨p2, p3, p4, p5, v2, v3, b1, k, H, (fun _ => rfl), t⟩)
  ·
   rintro S f w hS ⟨e0, -⟩ ⟨e2, e3, e4, e19, e20, e21, e22, e24, -⟩ ⟨p2, p3, p4, p5, v2, v3, b1, k, H, q0, q1, t⟩
   obtain ⟨u2, rfl⟩ := up1 (q0 e0)
   exact Nk rfl (Nl ⟨p2, p3, p4, p5, v2, v3, b1, k, H, q0, (fun _ => rfl), t⟩)
  ·
   rintro S f w hS ⟨e0, e1, -⟩ ⟨e3, e4, e19, e20, e21, e22, e24, -⟩ ⟨p2, p3, p4, p5, v2, v3, b1, k, H, q0, q1, q2, t⟩
   obtain ⟨u3, rfl⟩ := up1 (q1 e1)
   exact Fa fd61_0 rfl (Nl ⟨p2, p3, p4, p5, v2, v3, b1, k, H, q0, q1, (fun _ => rfl), t⟩)
  ·
   rintro S f w hS ⟨e0, e1, e2, -⟩ ⟨e4, e19, e20, e21, e22, e24, -⟩ ⟨p2, p3, p4, p5, v2, v3, b1, k, H, q0, q1, q2, q3, t⟩
   obtain ⟨u4, rfl⟩ := up1 (q2 e2)
   exact Fa fd54_2 rfl (Nl ⟨p2, p3, p4, p5, v2, v3, b1, k, H, q0, q1, q2, (fun _ => rfl), t⟩)
  ·
   rintro S f w hS ⟨e0, e1, e2, e3, -⟩ ⟨e19, e20, e21, e22, e24, -⟩ ⟨p2, p3, p4, p5, v2, v3, b1, k, H, q0, q1, q2, q3, q4, t⟩
   obtain ⟨u5, rfl⟩ := up1 (q3 e3)
   exact La (q := ⟨b0, 7, none⟩) [va0_0, va0_1] ag29 (cell_part (o := 7) (k := 2) (H.cell 0 rfl) rfl) (Nl ⟨p2, p3, p4, p5, v2, v3, b1, k, H, q0, q1, q2, q3, (fun _ => rfl), t⟩)
  ·
   rintro S f w hS - ⟨e18, e19, e20, e21, e22, e24, -⟩ ⟨p2, p3, p4, p5, v2, v3, b1, k, H, q0, q1, q2, q3, q4, q5, t⟩
   obtain ⟨u6, rfl⟩ := up1 k.2.2
   exact Mv (vi t2) (Nl ⟨p2, p3, p4, p5, v2, v3, b1, k, H, q0, q1, q2, q3, q4, (fun _ => rfl), t⟩)
  ·
   rintro S f w hS - ⟨e7, e8, e18, e19, e20, e21, e22, e24, -⟩ ⟨p2, p3, p4, p5, v2, v3, b1, k, H, q0, q1, q2, q3, q4, q5, q6, t⟩
   obtain ⟨u7, rfl⟩ := up1 k.2.1
   exact Mv v1 (Nl ⟨p2, p3, p4, p5, v2, v3, b1, k, H, q0, q1, q2, q3, q4, q5, (fun _ => rfl), t⟩)
  ·
   rintro S f w hS ⟨e6, -⟩ ⟨e8, e18, e19, e20, e21, e22, e24, -⟩ ⟨_, p3, p4, p5, v2, v3, b1, k, H, q0, q1, q2, q3, q4, q5, q6, q7, q8, q9, q10, q11, q12, q13, q14, q15, q16, q17, q18, q19, q20, q21, q22, q23, Fhp2, t⟩
   obtain ⟨u8, rfl⟩ := up1 (q6 e6)
   exact Ia underlying26 sz3 (H.own 6 rfl) hx2 fun p2 hp2 => Nl ⟨p2, p3, p4, p5, v2, v3, b1, k, H, q0, q1, q2, q3, q4, q5, q6, (fun _ => rfl), q8, q9, q10, q11, q12, q13, q14, q15, q16, q17, q18, q19, q20, q21, q22, q23, (fun _ _ => hp2), t⟩
  ·
   rintro S f w hS ⟨e6, e7, -⟩ ⟨e18, e19, e20, e21, e22, e24, -⟩ ⟨p2, p3, p4, p5, v2, v3, b1, k, H, q0, q1, q2, q3, q4, q5, q6, q7, q8, q9, q10, q11, q12, q13, q14, q15, q16, q17, q18, q19, q20, q21, q22, q23, Fhp2, t⟩
   obtain ⟨u9, rfl⟩ := up1 (q7 e7)
   have hp2 := Fhp2 e7 e24
   exact Ld _ sc3 (hp2.flat 0 _ rfl) (Nl ⟨p2, p3, p4, p5, v2, v3, b1, k, H, q0, q1, q2, q3, q4, q5, q6, q7, (fun _ => rfl), q9, q10, q11, q12, q13, q14, q15, q16, q17, q18, q19, q20, q21, q22, q23, Fhp2, t⟩)
  ·
   rintro S f w hS - ⟨e10, e11, e18, e19, e20, e21, e22, e24, -⟩ ⟨p2, p3, p4, p5, v2, v3, b1, k, H, q0, q1, q2, q3, q4, q5, q6, q7, q8, q9, t⟩
   obtain ⟨u10, rfl⟩ := up1 k.2.1
   exact Mv v1 (Nl ⟨p2, p3, p4, p5, v2, v3, b1, k, H, q0, q1, q2, q3, q4, q5, q6, q7, q8, (fun _ => rfl), t⟩)
  ·
   rintro S f w hS ⟨e9, -⟩ ⟨e11, e18, e19, e20, e21, e22, e24, -⟩ ⟨p2, _, p4, p5, v2, v3, b1, k, H, q0, q1, q2, q3, q4, q5, q6, q7, q8, q9, q10, q11, q12, q13, q14, q15, q16, q17, q18, q19, q20, q21, q22, q23, Fhp2, Fhp3, t⟩
   obtain ⟨u11, rfl⟩ := up1 (q9 e9)
   exact Ia underlying26 sz3 (H.own 6 rfl) hx3 fun p3 hp3 => Nl ⟨p2, p3, p4, p5, v2, v3, b1, k, H, q0, q1, q2, q3, q4, q5, q6, q7, q8, q9, (fun _ => rfl), q11, q12, q13, q14, q15, q16, q17, q18, q19, q20, q21, q22, q23, Fhp2, (fun _ _ => hp3), t⟩
  ·
   rintro S f w hS ⟨e9, e10, -⟩ ⟨e18, e19, e20, e21, e22, e24, -⟩ ⟨p2, p3, p4, p5, v2, v3, b1, k, H, q0, q1, q2, q3, q4, q5, q6, q7, q8, q9, q10, q11, q12, q13, q14, q15, q16, q17, q18, q19, q20, q21, q22, q23, Fhp2, Fhp3, t⟩
   obtain ⟨u12, rfl⟩ := up1 (q10 e10)
   have hp3 := Fhp3 e10 e24
   exact Ld _ sc3 (hp3.flat 0 _ rfl) (Nl ⟨p2, p3, p4, p5, v2, v3, b1, k, H, q0, q1, q2, q3, q4, q5, q6, q7, q8, q9, q10, (fun _ => rfl), q12, q13, q14, q15, q16, q17, q18, q19, q20, q21, q22, q23, Fhp2, Fhp3, t⟩)
  ·
   rintro S f w hS - ⟨e13, e14, e18, e19, e20, e21, e22, e24, -⟩ ⟨p2, p3, p4, p5, v2, v3, b1, k, H, q0, q1, q2, q3, q4, q5, q6, q7, q8, q9, q10, q11, q12, t⟩
   obtain ⟨u13, rfl⟩ := up1 k.2.1
   exact Mv v1 (Nl ⟨p2, p3, p4, p5, v2, v3, b1, k, H, q0, q1, q2, q3, q4, q5, q6, q7, q8, q9, q10, q11, (fun _ => rfl), t⟩)
  ·
   rintro S f w hS ⟨e12, -⟩ ⟨e14, e18, e19, e20, e21, e22, e24, -⟩ ⟨p2, p3, _, p5, v2, v3, b1, k, H, q0, q1, q2, q3, q4, q5, q6, q7, q8, q9, q10, q11, q12, q13, q14, q15, q16, q17, q18, q19, q20, q21, q22, q23, Fhp2, Fhp3, Fhp4, t⟩
   obtain ⟨u14, rfl⟩ := up1 (q12 e12)
   exact Ia underlying26 sz3 (H.own 6 rfl) hx4 fun p4 hp4 => Nl ⟨p2, p3, p4, p5, v2, v3, b1, k, H, q0, q1, q2, q3, q4, q5, q6, q7, q8, q9, q10, q11, q12, (fun _ => rfl), q14, q15, q16, q17, q18, q19, q20, q21, q22, q23, Fhp2, Fhp3, (fun _ _ => hp4), t⟩
  ·
   rintro S f w hS ⟨e12, e13, -⟩ ⟨e18, e19, e20, e21, e22, e24, -⟩ ⟨p2, p3, p4, p5, v2, v3, b1, k, H, q0, q1, q2, q3, q4, q5, q6, q7, q8, q9, q10, q11, q12, q13, q14, q15, q16, q17, q18, q19, q20, q21, q22, q23, Fhp2, Fhp3, Fhp4, t⟩
   obtain ⟨u15, rfl⟩ := up1 (q13 e13)
   have hp4 := Fhp4 e13 e24
   exact Ld _ sc3 (hp4.flat 0 _ rfl) (Nl ⟨p2, p3, p4, p5, v2, v3, b1, k, H, q0, q1, q2, q3, q4, q5, q6, q7, q8, q9, q10, q11, q12, q13, (fun _ => rfl), q15, q16, q17, q18, q19, q20, q21, q22, q23, Fhp2, Fhp3, Fhp4, t⟩)
  ·
   rintro S f w hS - ⟨e16, e17, e18, e19, e20, e21, e22, e24, -⟩ ⟨p2, p3, p4, p5, v2, v3, b1, k, H, q0, q1, q2, q3, q4, q5, q6, q7, q8, q9, q10, q11, q12, q13, q14, q15, t⟩
   obtain ⟨u16, rfl⟩ := up1 k.2.1
   exact Mv v1 (Nl ⟨p2, p3, p4, p5, v2, v3, b1, k, H, q0, q1, q2, q3, q4, q5, q6, q7, q8, q9, q10, q11, q12, q13, q14, (fun _ => rfl), t⟩)
  ·
   rintro S f w hS ⟨e15, -⟩ ⟨e17, e18, e19, e20, e21, e22, e24, -⟩ ⟨p2, p3, p4, _, v2, v3, b1, k, H, q0, q1, q2, q3, q4, q5, q6, q7, q8, q9, q10, q11, q12, q13, q14, q15, q16, q17, q18, q19, q20, q21, q22, q23, Fhp2, Fhp3, Fhp4, Fhp5, Fhp1⟩
   obtain ⟨u17, rfl⟩ := up1 (q15 e15)
   exact Ia underlying26 sz3 (H.own 6 rfl) hx5 fun p5 hp5 => Nl ⟨p2, p3, p4, p5, v2, v3, b1, k, H, q0, q1, q2, q3, q4, q5, q6, q7, q8, q9, q10, q11, q12, q13, q14, q15, (fun _ => rfl), q17, q18, q19, q20, q21, q22, q23, Fhp2, Fhp3, Fhp4, (fun _ _ => hp5), Fhp1⟩
  ·
   rintro S f w hS ⟨e15, e16, -⟩ ⟨e18, e19, e20, e21, e22, e24, -⟩ ⟨p2, p3, p4, p5, v2, v3, b1, k, H, q0, q1, q2, q3, q4, q5, q6, q7, q8, q9, q10, q11, q12, q13, q14, q15, q16, q17, q18, q19, q20, q21, q22, q23, Fhp2, Fhp3, Fhp4, Fhp5, Fhp1⟩
   obtain ⟨u18, rfl⟩ := up1 (q16 e16)
   have hp5 := Fhp5 e16 e24
   exact Ld _ sc3 (hp5.flat 0 _ rfl) (Nl ⟨p2, p3, p4, p5, v2, v3, b1, k, H, q0, q1, q2, q3, q4, q5, q6, q7, q8, q9, q10, q11, q12, q13, q14, q15, q16, (fun _ => rfl), q18, q19, q20, q21, q22, q23, Fhp2, Fhp3, Fhp4, Fhp5, Fhp1⟩)
  ·
   rintro S f w hS ⟨e5, e6, e7, e8, e9, e10, e11, e12, e13, e14, e15, e16, e17, -⟩ ⟨e19, e20, e21, e22, e24, -⟩ ⟨p2, p3, p4, p5, v2, v3, b1, k, H, q0, q1, q2, q3, q4, q5, q6, q7, q8, q9, q10, q11, q12, q13, q14, q15, q16, q17, q18, t⟩
   obtain ⟨u19, rfl⟩ := up5 (q5 e5) (q8 e8) (q11 e11) (q14 e14) (q17 e17)
   exact Bd (v := (.agg (Flat.cells (GSight.mk t2 x2 x3 x4 x5)).toArray)) (fun w => bd92_0_1_2_3_4 _ _ _ _ _ w) rfl (Nl ⟨p2, p3, p4, p5, v2, v3, b1, k, H, q0, q1, q2, q3, q4, q5, q6, q7, q8, q9, q10, q11, q12, q13, q14, q15, q16, q17, (fun _ => rfl), t⟩)
  ·
   rintro S f w hS ⟨e0, e1, e2, e3, e4, e5, e6, e7, e8, e9, e10, e11, e12, e13, e14, e15, e16, e17, e18, -⟩ ⟨e20, e21, e22, e24, -⟩ ⟨p2, p3, p4, p5, _, _, b1, k, H, q0, q1, q2, q3, q4, q5, q6, q7, q8, q9, q10, q11, q12, q13, q14, q15, q16, q17, q18, q19, q20, q21, q22, q23, Fhp2, Fhp3, Fhp4, Fhp5, Fhp1⟩
   obtain ⟨u20, rfl⟩ := up2 (q4 e4) (q18 e18)
   have H := ((H.cF 7 hS rfl).cF 8 hS rfl).cF 9 e24 rfl
   refine Ca call75 (c_sight_Added _ _ (GNet.mk a0.inside.net.Rates a0.inside.net.Sights) (H.own 1 rfl) (H.own 2 rfl) (GSight.mk t2 x2 x3 x4 x5) hy3) ?_
   rintro _ w3 hb3 ⟨v2, v3, rfl, ho2⟩
   have H := H.addAll hb3 ho2
   have H := H.pick [0, 1, 2, 3, 4, 5, 6, 12, 13, 9, 10, 11] [boxI b0 61 (cI a0.inside va0_0 va0_1 va0_2 va0_3 va0_4), o3 va0_0 a0.inside.net.Rates, o92 va0_1 a0.inside.net.Sights, o70 va0_2 a0.inside.log, o3 va0_3 a0.inside.verdicts, o74 va0_4 a0.inside.ledger, o3 v1 t1, o3 v2 t3.Rates, o92 v3 t3.Sights, cond (S 23) (boxI b1 29 [(.slice none 0 0), (.slice none 0 0)]) goneI, cond (S 23) (o3 (.slice none 0 0) ([] : List Int)) goneI, cond (S 23) (o92 (.slice none 0 0) ([] : List GSight)) goneI] rfl (by decide)
   exact Nl ⟨p2, p3, p4, p5, v2, v3, b1, k, (H.rF 9 e24 rfl), q0, q1, q2, q3, q4, q5, q6, q7, q8, q9, q10, q11, q12, q13, q14, q15, q16, q17, q18, (fun _ => rfl), (fun a => nT a e20), (fun a => nT a e21), q22, q23, (fun g0 g1 => (Fhp2 g0 g1).mono hb3), (fun g0 g1 => (Fhp3 g0 g1).mono hb3), (fun g0 g1 => (Fhp4 g0 g1).mono hb3), (fun g0 g1 => (Fhp5 g0 g1).mono hb3), (fun g0 => (Fhp1 g0).mono hb3)⟩
  ·
   rintro S f w hS ⟨e0, e1, e2, e3, e4, e5, e6, e7, e8, e9, e10, e11, e12, e13, e14, e15, e16, e17, e18, e19, -⟩ ⟨e21, e22, e24, -⟩ ⟨p2, p3, p4, p5, v2, v3, b1, k, H, q0, q1, q2, q3, q4, q5, q6, q7, q8, q9, q10, q11, q12, q13, q14, q15, q16, q17, q18, q19, q20, t⟩
   obtain ⟨u21, rfl⟩ := up1 (q19 e19)
   exact Mv (.tuple #[(.agg #[v2, v3]), (vi t4)]) (Nl ⟨p2, p3, p4, p5, v2, v3, b1, k, H, q0, q1, q2, q3, q4, q5, q6, q7, q8, q9, q10, q11, q12, q13, q14, q15, q16, q17, q18, q19, (fun _ => rfl), t⟩)
  ·
   rintro S f w hS ⟨e0, e1, e2, e3, e4, e5, e6, e7, e8, e9, e10, e11, e12, e13, e14, e15, e16, e17, e18, e19, e20, -⟩ ⟨e24, -⟩ ⟨p2, p3, p4, p5, v2, v3, b1, k, H, q0, q1, q2, q3, q4, q5, q6, q7, q8, q9, q10, q11, q12, q13, q14, q15, q16, q17, q18, q19, q20, q21, t⟩
   obtain ⟨u22, rfl⟩ := up1 (q20 e20)
   exact Xt (.agg #[v2, v3]) (Nl ⟨p2, p3, p4, p5, v2, v3, b1, k, H, q0, q1, q2, q3, q4, q5, q6, q7, q8, q9, q10, q11, q12, q13, q14, q15, q16, q17, q18, q19, q20, (fun _ => rfl), t⟩)
  ·
   rintro S f w hS ⟨e0, e1, e2, e3, e4, e5, e6, e7, e8, e9, e10, e11, e12, e13, e14, e15, e16, e17, e18, e19, e20, -⟩ - ⟨p2, p3, p4, p5, v2, v3, b1, k, H, q0, q1, q2, q3, q4, q5, q6, q7, q8, q9, q10, q11, q12, q13, q14, q15, q16, q17, q18, q19, q20, q21, q22, t⟩
   obtain ⟨u23, rfl⟩ := up1 (q20 e20)
   exact Xt (vi t4) (Nl ⟨p2, p3, p4, p5, v2, v3, b1, k, H, q0, q1, q2, q3, q4, q5, q6, q7, q8, q9, q10, q11, q12, q13, q14, q15, q16, q17, q18, q19, q20, q21, (fun _ => rfl), t⟩)
  ·
   rintro S f w hS - ⟨e24, -⟩ ⟨p2, p3, p4, p5, v2, v3, _, k, H, q0, q1, q2, q3, q4, q5, q6, q7, q8, q9, q10, q11, q12, q13, q14, q15, q16, q17, q18, q19, q20, q21, q22, q23, Fhp2, Fhp3, Fhp4, Fhp5, Fhp1⟩
   have H := (H.cF 9 e24 rfl).cF 9 hS rfl
   refine Al [(.slice none 0 0), (.slice none 0 0)] ze29 H fun b1 w4 H hb4 => ?_
   have H := H.addNil (α := Int) (E := 3)
   have H := H.addNil (α := GSight) (E := 92)
   have H := H.pick [0, 1, 2, 3, 4, 5, 6, 7, 8, 12, 13, 14] [boxI b0 61 (cI a0.inside va0_0 va0_1 va0_2 va0_3 va0_4), o3 va0_0 a0.inside.net.Rates, o92 va0_1 a0.inside.net.Sights, o70 va0_2 a0.inside.log, o3 va0_3 a0.inside.verdicts, o74 va0_4 a0.inside.ledger, o3 v1 t1, cond (S 19) (o3 v2 t3.Rates) goneI, cond (S 19) (o92 v3 t3.Sights) goneI, boxI b1 29 [(.slice none 0 0), (.slice none 0 0)], o3 (.slice none 0 0) ([] : List Int), o92 (.slice none 0 0) ([] : List GSight)] rfl (by decide)
   exact Nl ⟨p2, p3, p4, p5, v2, v3, b1, k, (H.rF 9 e24 rfl), q0, q1, q2, q3, q4, q5, q6, q7, q8, q9, q10, q11, q12, q13, q14, q15, q16, q17, q18, q19, q20, q21, q22, (fun _ => rfl), (fun g0 g1 => (Fhp2 g0 g1).mono hb4), (fun g0 g1 => (Fhp3 g0 g1).mono hb4), (fun g0 g1 => (Fhp4 g0 g1).mono hb4), (fun g0 g1 => (Fhp5 g0 g1).mono hb4), (fun g0 => (Fhp1 g0).mono hb4)⟩
  ·
   rintro S f w hS ⟨e0, e1, e2, e3, e4, e5, e6, e7, e8, e9, e10, e11, e12, e13, e14, e15, e16, e17, e18, e19, e20, e21, e23, -⟩ - ⟨p2, p3, p4, p5, v2, v3, b1, k, H, q0, q1, q2, q3, q4, q5, q6, q7, q8, q9, q10, q11, q12, q13, q14, q15, q16, q17, q18, q19, q20, q21, q22, q23, Fhp2, Fhp3, Fhp4, Fhp5, Fhp1⟩
   obtain ⟨u24, rfl⟩ := up2 (q23 e23) (q21 e21)
   have H := (((H.cT 7 e19 rfl).cT 8 e19 rfl).cF 9 hS rfl).cT 9 e23 rfl
   exact St 9 0 [v2, v3] [v2, v3] sz29 H R R (one_cons (SliceR.one (H.own 7 rfl)) (one_cons (SliceR.one (H.own 8 rfl)) one_nil)) fun w5 H => Nl ⟨p2, p3, p4, p5, v2, v3, b1, k, ((H.rT 7 e19 rfl).rT 8 e19 rfl), q0, q1, q2, q3, q4, q5, q6, q7, q8, q9, q10, q11, q12, q13, q14, q15, q16, q17, q18, q19, q20, q21, q22, q23, (fun g0 g1 => nG g1), (fun g0 g1 => nG g1), (fun g0 g1 => nG g1), (fun g0 g1 => nG g1), (fun g0 => nG g0)⟩
 ·
  rintro S f w ⟨e0, e1, e2, e3, e4, e5, e6, e7, e8, e9, e10, e11, e12, e13, e14, e15, e16, e17, e18, e19, e20, e21, e22, e23, e24, -⟩ ⟨p2, p3, p4, p5, v2, v3, b1, k, H, q0, q1, q2, q3, q4, q5, q6, q7, q8, q9, q10, q11, q12, q13, q14, q15, q16, q17, q18, q19, q20, q21, q22, q23, Fhp2, Fhp3, Fhp4, Fhp5, Fhp1⟩
  have H : InvD X0 w0 w [boxI b0 61 (cI a0.inside va0_0 va0_1 va0_2 va0_3 va0_4), o3 va0_0 a0.inside.net.Rates, o92 va0_1 a0.inside.net.Sights, o70 va0_2 a0.inside.log, o3 va0_3 a0.inside.verdicts, o74 va0_4 a0.inside.ledger, o3 v1 t1, o3 v2 t3.Rates, o92 v3 t3.Sights, boxI b1 29 [v2, v3], o3 (.slice none 0 0) ([] : List Int), o92 (.slice none 0 0) ([] : List GSight)] := (((((H.cT 7 e19 rfl).cT 8 e19 rfl).cT 9 e24 rfl).cT 10 e23 rfl).cT 11 e23 rfl)
  obtain ⟨u25, rfl⟩ := up3 k.1 (q23 e23) (q22 e22)
  refine As (vi t4) (Nl (Sq (Rg (Mv (vi t4) ?_))))
  rcases mustB_some hm with ⟨hc1, rfl⟩ | ⟨hc1, hm⟩
  · exact Cn call76 (c_station_needs_no hc1) (fun w' hb => ⟨rfl, (H.ext hb).baseX⟩)
  refine Ca call76 (c_station_needs_ok hc1) ?_
  rintro _ w6 hb5 rfl
  have H := H.ext hb5
  refine Nl (Sq (Rg (La [v2, v3] ag29 (H.cell 9 rfl) ?_)))
  obtain ⟨⟨t5, t6⟩, hy4, hm⟩ := bind_some hm
  refine Ca call77 (c_sight_Consistent _ _ (GNet.mk t3.Rates t3.Sights) (H.own 7 rfl) (H.own 8 rfl) hy4) ?_
  rintro _ w7 hb6 rfl
  have H := H.ext hb6
  refine Mv (.tuple #[(.bool t5), (vi t6)]) (Xt (.bool t5) (Xt (vi t6) (As (.bool t5) (As (vi t6) (Nl (Sq (Rg (Mv (vi t6) ?_))))))))
  rcases mustB_some hm with ⟨hc2, rfl⟩ | ⟨hc2, hm⟩
  · exact Cn call76 (c_station_needs_no hc2) (fun w' hb => ⟨rfl, (H.ext hb).baseX⟩)
  refine Ca call76 (c_station_needs_ok hc2) ?_
  rintro _ w8 hb7 rfl
  have H := H.ext hb7
  refine Nl (Sq (Rg (Mv (.bool t5) ?_)))
  rcases mustB_some hm with ⟨hc3, rfl⟩ | ⟨hc3, hm⟩
  · exact Cn call78 (c_station_must_no _ hc3) (fun w' hb => ⟨rfl, (H.ext hb).baseX⟩)
  refine Ca call78 (c_station_must_ok _ hc3) ?_
  rintro _ w9 hb8 rfl
  have H := H.ext hb8
  refine Nl (Sq (Rg (Mv (pt b0) (La [v2, v3] ag29 (H.cell 9 rfl) (Nk rfl (Fa fd61_0 rfl (Fa fd54_2 rfl (St 0 7 [v2, v3] (cI a0.inside v2 v3 va0_2 va0_3 va0_4) sz29 H R R (one_cons (SliceR.one (H.own 7 rfl)) (one_cons (SliceR.one (H.own 8 rfl)) one_nil)) fun w10 H => Nl (Sq (Rg (Fa fd29_1 rfl ?_)))))))))))
  refine Ld _ sc27 (H.cell 9 rfl 1 _ rfl) (Ln underlying27 (H.own 8 rfl) (Bs (α := Int) [(vi ((t3.Sights.length : Nat) : Int))] [((t3.Sights.length : Nat) : Int)] underlying26 el3 H fun v4 w11 H hb9 => ?_))
  obtain ⟨t7, hy5, hm⟩ := bind_some hm
  refine Ca call79 (c_station_said (hT _ H.baseX) _ _ _ (H.own 12 rfl) hy5) ?_
  rintro _ w12 hb10 rfl
  have H := H.ext hb10
  refine As (.string t7) (Nl (Rt ?_))
  obtain rfl : Ref.ok ((GSession.mk (GInside.mk a0.inside.mast a0.inside.day t3 a0.inside.log a0.inside.state a0.inside.verdicts a0.inside.ledger a0.inside.flags)), t7) = r0 := sj (show some (Ref.ok ((GSession.mk (GInside.mk a0.inside.mast a0.inside.day t3 a0.inside.log a0.inside.state a0.inside.verdicts a0.inside.ledger a0.inside.flags)), t7)) = some r0 from hm)
  exact ends1 results41 rfl ⟨_, _, rfl, H.pick [0, 7, 8, 3, 4, 5] [boxI b0 61 (cI a0.inside v2 v3 va0_2 va0_3 va0_4), o3 v2 t3.Rates, o92 v3 t3.Sights, o70 va0_2 a0.inside.log, o3 va0_3 a0.inside.verdicts, o74 va0_4 a0.inside.ledger] rfl (by decide), v2, v3, va0_2, va0_3, va0_4, rfl, rfl⟩

theorem c_ball_within {w0 : World} (a0 : Int) (a1 : Int) (a2 : Int) {r0 : Bool} (hm : ball_within a0 a1 a2 = some r0) :
  Calls prog 56 #[(vi a0), (vi a1), (vi a2)] w0 (Ret w0 fun _ v => v = (.bool r0)) := by
 unfold ball_within at hm
 refine cW func56 ntmps56 ?_
 have H := Inv.start (w := w0)
 refine Sq (Rg (As (.bool false) (Nl (Sq (Rg (Mv (vi a0) (Mv (vi a1) (Ge_ (Mv (.bool (decide (a1 ≤ a0))) ?_)))))))))
 refine Cu 4 (fun f w => f 14 = .bool ((decide (a1 ≤ a0)) && (decide (a0 ≤ a2))) ∧ Inv w0 w []) ?_ ?_
 ·
  rcases bool_ft (decide (a1 ≤ a0)) with hc1 | hc1
  ·
   exact Rs (i := 10) (v := .bool false) (cb hc1) (Sp (Sp (Sp (Pf (.bool false) (Nl ⟨cb (and_f hc1), H⟩)))))
  ·
   exact Rs (i := 10) (v := .bool true) (cb hc1) (Mv (vi a0) (Mv (vi a2) (Le_ (Pt (.bool (decide (a0 ≤ a2))) (Nl ⟨cb (and_t hc1), H⟩)))))
 ·
  rintro f w ⟨hf14, H⟩
  obtain ⟨u1, rfl⟩ := up1 hf14
  refine As (.bool ((decide (a1 ≤ a0)) && (decide (a0 ≤ a2)))) (Nl (Rt ?_))
  obtain rfl := sj hm
  exact ends1 results56 rfl ⟨_, rfl, H.base, rfl⟩

set_option maxRecDepth 20000 in
theorem c_ball_ValidMast {w0 : World} (a0 : GMast) {r0 : Bool} (hm : ball_ValidMast a0 = some r0) :
  Calls prog 37 #[(.agg (Flat.cells a0).toArray)] w0 (Ret w0 fun _ v => v = (.bool r0)) := by
 unfold ball_ValidMast at hm
 refine cW func37 ntmps37 ?_
 have H := Inv.start (w := w0)
 refine Sq (Rg (Bx [(vi a0.Noon), (vi a0.Half), (vi a0.Full), (vi a0.Late), (vi a0.Again), (vi a0.Wind)] H fun b1 w1 H hb1 => As (.bool false) (Nl (Sq (Rg (Fa fd52_0 rfl (Ld _ sc3 (H.cell 0 rfl 0 _ rfl) ?_)))))))
 obtain ⟨t1, hy1, hm⟩ := bind_some hm
 refine Ca call56 (c_ball_within _ _ _ hy1) ?_
 rintro _ w2 hb2 rfl
 have H := H.ext hb2
 refine Mv (.bool t1) ?_
 refine Cu 4 (fun f w => f 1 = (pt b1) ∧ f 10 = .bool (t1 && (decide (1000 ≤ a0.Full))) ∧ Inv w0 w [boxI b1 52 [(vi a0.Noon), (vi a0.Half), (vi a0.Full), (vi a0.Late), (vi a0.Again), (vi a0.Wind)]]) ?_ ?_
 ·
  rcases bool_ft t1 with hc1 | hc1
  ·
   exact Rs (i := 6) (v := .bool false) (cb hc1) (Sp (Sp (Sp (Pf (.bool false) (Nl ⟨rfl, cb (and_f hc1), H⟩)))))
  ·
   exact Rs (i := 6) (v := .bool true) (cb hc1) (Fa fd52_2 rfl (Ld _ sc3 (H.cell 0 rfl 2 _ rfl) (Ge_ (Pt (.bool (decide (1000 ≤ a0.Full))) (Nl ⟨rfl, cb (and_t hc1), H⟩)))))
 ·
  rintro f w ⟨hf1, hf10, H⟩
  obtain ⟨u1, rfl⟩ := up2 hf1 hf10
  refine Mv (.bool (t1 && (decide (1000 ≤ a0.Full)))) ?_
  refine Cu 6 (fun f w => f 1 = (pt b1) ∧ f 17 = .bool ((t1 && (decide (1000 ≤ a0.Full))) && (decide (a0.Full < a0.Half))) ∧ Inv w0 w [boxI b1 52 [(vi a0.Noon), (vi a0.Half), (vi a0.Full), (vi a0.Late), (vi a0.Again), (vi a0.Wind)]]) ?_ ?_
  ·
   rcases bool_ft (t1 && (decide (1000 ≤ a0.Full))) with hc2 | hc2
   ·
    exact Rs (i := 11) (v := .bool false) (cb hc2) (Sp (Sp (Sp (Sp (Sp (Pf (.bool false) (Nl ⟨rfl, cb (and_f hc2), H⟩)))))))
   ·
    exact Rs (i := 11) (v := .bool true) (cb hc2) (Fa fd52_2 rfl (Ld _ sc3 (H.cell 0 rfl 2 _ rfl) (Fa fd52_1 rfl (Ld _ sc3 (H.cell 0 rfl 1 _ rfl) (Ls (Pt (.bool (decide (a0.Full < a0.Half))) (Nl ⟨rfl, cb (and_t hc2), H⟩)))))))
  ·
   rintro f w ⟨hf1, hf17, H⟩
   obtain ⟨u2, rfl⟩ := up2 hf1 hf17
   refine Mv (.bool ((t1 && (decide (1000 ≤ a0.Full))) && (decide (a0.Full < a0.Half)))) ?_
   refine Cu 4 (fun f w => f 1 = (pt b1) ∧ f 22 = .bool (((t1 && (decide (1000 ≤ a0.Full))) && (decide (a0.Full < a0.Half))) && (decide (a0.Half ≤ 3600000))) ∧ Inv w0 w [boxI b1 52 [(vi a0.Noon), (vi a0.Half), (vi a0.Full), (vi a0.Late), (vi a0.Again), (vi a0.Wind)]]) ?_ ?_
   ·
    rcases bool_ft ((t1 && (decide (1000 ≤ a0.Full))) && (decide (a0.Full < a0.Half))) with hc3 | hc3
    ·
     exact Rs (i := 18) (v := .bool false) (cb hc3) (Sp (Sp (Sp (Pf (.bool false) (Nl ⟨rfl, cb (and_f hc3), H⟩)))))
    ·
     exact Rs (i := 18) (v := .bool true) (cb hc3) (Fa fd52_1 rfl (Ld _ sc3 (H.cell 0 rfl 1 _ rfl) (Le_ (Pt (.bool (decide (a0.Half ≤ 3600000))) (Nl ⟨rfl, cb (and_t hc3), H⟩)))))
   ·
    rintro f w ⟨hf1, hf22, H⟩
    obtain ⟨u3, rfl⟩ := up2 hf1 hf22
    refine Mv (.bool (((t1 && (decide (1000 ≤ a0.Full))) && (decide (a0.Full < a0.Half))) && (decide (a0.Half ≤ 3600000)))) ?_
    refine Cu 6 (fun f w => f 1 = (pt b1) ∧ f 29 = .bool ((((t1 && (decide (1000 ≤ a0.Full))) && (decide (a0.Full < a0.Half))) && (decide (a0.Half ≤ 3600000))) && (decide (a0.Half ≤ a0.Noon))) ∧ Inv w0 w [boxI b1 52 [(vi a0.Noon), (vi a0.Half), (vi a0.Full), (vi a0.Late), (vi a0.Again), (vi a0.Wind)]]) ?_ ?_
    ·
     rcases bool_ft (((t1 && (decide (1000 ≤ a0.Full))) && (decide (a0.Full < a0.Half))) && (decide (a0.Half ≤ 3600000))) with hc4 | hc4
     ·
      exact Rs (i := 23) (v := .bool false) (cb hc4) (Sp (Sp (Sp (Sp (Sp (Pf (.bool false) (Nl ⟨rfl, cb (and_f hc4), H⟩)))))))
     ·
      exact Rs (i := 23) (v := .bool true) (cb hc4) (Fa fd52_1 rfl (Ld _ sc3 (H.cell 0 rfl 1 _ rfl) (Fa fd52_0 rfl (Ld _ sc3 (H.cell 0 rfl 0 _ rfl) (Le_ (Pt (.bool (decide (a0.Half ≤ a0.Noon))) (Nl ⟨rfl, cb (and_t hc4), H⟩)))))))
    ·
     rintro f w ⟨hf1, hf29, H⟩
     obtain ⟨u4, rfl⟩ := up2 hf1 hf29
     refine Mv (.bool ((((t1 && (decide (1000 ≤ a0.Full))) && (decide (a0.Full < a0.Half))) && (decide (a0.Half ≤ 3600000))) && (decide (a0.Half ≤ a0.Noon)))) ?_
     obtain ⟨b2, hm1, hm⟩ := bind_some hm
     refine Cu 4 (fun f w => f 1 = (pt b1) ∧ f 34 = .bool b2 ∧ Inv w0 w [boxI b1 52 [(vi a0.Noon), (vi a0.Half), (vi a0.Full), (vi a0.Late), (vi a0.Again), (vi a0.Wind)]]) ?_ ?_
     ·
      rcases ite_some hm1 with ⟨hc5, hm1⟩ | ⟨hc5, hm1⟩
      ·
       refine Rs (i := 30) (v := .bool true) (cb hc5) (Fa fd52_3 rfl (Ld _ sc3 (H.cell 0 rfl 3 _ rfl) ?_))
       obtain ⟨t2, hy2, hm1⟩ := bind_some hm1
       refine Ca call56 (c_ball_within _ _ _ hy2) ?_
       rintro _ w3 hb3 rfl
       have H := H.ext hb3
       refine Pt (.bool t2) (Nl ?_)
       obtain rfl := sj hm1
       exact ⟨rfl, rfl, H⟩
      ·
       refine Rs (i := 30) (v := .bool false) (cb hc5) (Sp (Sp (Sp (Pf (.bool false) (Nl ?_)))))
       obtain rfl := sj hm1
       exact ⟨rfl, rfl, H⟩
     ·
      rintro f w ⟨hf1, hf34, H⟩
      obtain ⟨u5, rfl⟩ := up2 hf1 hf34
      refine Mv (.bool b2) ?_
      obtain ⟨b3, hm2, hm⟩ := bind_some hm
      refine Cu 6 (fun f w => f 1 = (pt b1) ∧ f 41 = .bool b3 ∧ Inv w0 w [boxI b1 52 [(vi a0.Noon), (vi a0.Half), (vi a0.Full), (vi a0.Late), (vi a0.Again), (vi a0.Wind)]]) ?_ ?_
      ·
       rcases ite_some hm2 with ⟨hc6, hm2⟩ | ⟨hc6, hm2⟩
       ·
        refine Rs (i := 35) (v := .bool true) (cb hc6) (Fa fd52_4 rfl (Ld _ sc3 (H.cell 0 rfl 4 _ rfl) (Fa fd52_1 rfl (Ld _ sc3 (H.cell 0 rfl 1 _ rfl) ?_))))
        obtain ⟨t3, hy3, hm2⟩ := bind_some hm2
        refine Ca call56 (c_ball_within _ _ _ hy3) ?_
        rintro _ w4 hb4 rfl
        have H := H.ext hb4
        refine Pt (.bool t3) (Nl ?_)
        obtain rfl := sj hm2
        exact ⟨rfl, rfl, H⟩
       ·
        refine Rs (i := 35) (v := .bool false) (cb hc6) (Sp (Sp (Sp (Sp (Sp (Pf (.bool false) (Nl ?_)))))))
        obtain rfl := sj hm2
        exact ⟨rfl, rfl, H⟩
      ·
       rintro f w ⟨hf1, hf41, H⟩
       obtain ⟨u6, rfl⟩ := up2 hf1 hf41
       refine Mv (.bool b3) ?_
       obtain ⟨b4, hm3, hm⟩ := bind_some hm
       refine Cu 7 (fun f w => f 1 = (pt b1) ∧ f 49 = .bool b4 ∧ Inv w0 w [boxI b1 52 [(vi a0.Noon), (vi a0.Half), (vi a0.Full), (vi a0.Late), (vi a0.Again), (vi a0.Wind)]]) ?_ ?_
       ·
        rcases ite_some hm3 with ⟨hc7, hm3⟩ | ⟨hc7, hm3⟩
        ·
         refine Rs (i := 42) (v := .bool true) (cb hc7) (Fa fd52_0 rfl (Ld _ sc3 (H.cell 0 rfl 0 _ rfl) (Fa fd52_4 rfl (Ld _ sc3 (H.cell 0 rfl 4 _ rfl) ?_))))
         obtain ⟨t4, ht4, hm3⟩ := bind_some hm3
         refine Ad ht4 (Ls (Pt (.bool (decide (t4 < 86400000))) (Nl ?_)))
         obtain rfl := sj hm3
         exact ⟨rfl, rfl, H⟩
        ·
         refine Rs (i := 42) (v := .bool false) (cb hc7) (Sp (Sp (Sp (Sp (Sp (Sp (Pf (.bool false) (Nl ?_))))))))
         obtain rfl := sj hm3
         exact ⟨rfl, rfl, H⟩
       ·
        rintro f w ⟨hf1, hf49, H⟩
        obtain ⟨u7, rfl⟩ := up2 hf1 hf49
        refine Mv (.bool b4) ?_
        obtain ⟨b5, hm4, hm⟩ := bind_some hm
        refine Cu 4 (fun f w => f 54 = .bool b5 ∧ Inv w0 w [boxI b1 52 [(vi a0.Noon), (vi a0.Half), (vi a0.Full), (vi a0.Late), (vi a0.Again), (vi a0.Wind)]]) ?_ ?_
        ·
         rcases ite_some hm4 with ⟨hc8, hm4⟩ | ⟨hc8, hm4⟩
         ·
          refine Rs (i := 50) (v := .bool true) (cb hc8) (Fa fd52_5 rfl (Ld _ sc3 (H.cell 0 rfl 5 _ rfl) ?_))
          obtain ⟨t5, hy4, hm4⟩ := bind_some hm4
          refine Ca call56 (c_ball_within _ _ _ hy4) ?_
          rintro _ w5 hb5 rfl
          have H := H.ext hb5
          refine Pt (.bool t5) (Nl ?_)
          obtain rfl := sj hm4
          exact ⟨rfl, H⟩
         ·
          refine Rs (i := 50) (v := .bool false) (cb hc8) (Sp (Sp (Sp (Pf (.bool false) (Nl ?_)))))
          obtain rfl := sj hm4
          exact ⟨rfl, H⟩
        ·
         rintro f w ⟨hf54, H⟩
         obtain ⟨u8, rfl⟩ := up1 hf54
         refine As (.bool b5) (Nl (Rt ?_))
         obtain rfl := sj hm
         exact ends1 results37 rfl ⟨_, rfl, H.base, rfl⟩

theorem c_ball_validBall {w0 : World} (a0 : GBall) {r0 : Bool} (hm : ball_validBall a0 = some r0) :
  Calls prog 107 #[(.agg (Flat.cells a0).toArray)] w0 (Ret w0 fun _ v => v = (.bool r0)) := by
 unfold ball_validBall at hm
 refine cW func107 ntmps107 ?_
 have H := Inv.start (w := w0)
 refine Sq (Rg (Bx [(vi a0.Place), (vi a0.Wind), (.bool a0.Flag), (vi a0.At)] H fun b1 w1 H hb1 => As (.bool false) (Nl (Sq (Rg (Fa fd32_0 rfl (Ld _ sc3 (H.cell 0 rfl 0 _ rfl) ?_)))))))
 obtain ⟨t1, hy1, hm⟩ := bind_some hm
 refine Ca call56 (c_ball_within _ _ _ hy1) ?_
 rintro _ w2 hb2 rfl
 have H := H.ext hb2
 refine Mv (.bool t1) ?_
 obtain ⟨b2, hm1, hm⟩ := bind_some hm
 refine Cu 4 (fun f w => f 1 = (pt b1) ∧ f 10 = .bool b2 ∧ Inv w0 w [boxI b1 32 [(vi a0.Place), (vi a0.Wind), (.bool a0.Flag), (vi a0.At)]]) ?_ ?_
 ·
  rcases ite_some hm1 with ⟨hc1, hm1⟩ | ⟨hc1, hm1⟩
  ·
   refine Rs (i := 6) (v := .bool true) (cb hc1) (Fa fd32_1 rfl (Ld _ sc3 (H.cell 0 rfl 1 _ rfl) ?_))
   obtain ⟨t2, hy2, hm1⟩ := bind_some hm1
   refine Ca call56 (c_ball_within _ _ _ hy2) ?_
   rintro _ w3 hb3 rfl
   have H := H.ext hb3
   refine Pt (.bool t2) (Nl ?_)
   obtain rfl := sj hm1
   exact ⟨rfl, rfl, H⟩
  ·
   refine Rs (i := 6) (v := .bool false) (cb hc1) (Sp (Sp (Sp (Pf (.bool false) (Nl ?_)))))
   obtain rfl := sj hm1
   exact ⟨rfl, rfl, H⟩
 ·
  rintro f w ⟨hf1, hf10, H⟩
  obtain ⟨u1, rfl⟩ := up2 hf1 hf10
  refine Mv (.bool b2) ?_
  obtain ⟨b3, hm2, hm⟩ := bind_some hm
  refine Cu 4 (fun f w => f 15 = .bool b3 ∧ Inv w0 w [boxI b1 32 [(vi a0.Place), (vi a0.Wind), (.bool a0.Flag), (vi a0.At)]]) ?_ ?_
  ·
   rcases ite_some hm2 with ⟨hc2, hm2⟩ | ⟨hc2, hm2⟩
   ·
    refine Rs (i := 11) (v := .bool true) (cb hc2) (Fa fd32_3 rfl (Ld _ sc3 (H.cell 0 rfl 3 _ rfl) ?_))
    obtain ⟨t3, hy3, hm2⟩ := bind_some hm2
    refine Ca call56 (c_ball_within _ _ _ hy3) ?_
    rintro _ w4 hb4 rfl
    have H := H.ext hb4
    refine Pt (.bool t3) (Nl ?_)
    obtain rfl := sj hm2
    exact ⟨rfl, H⟩
   ·
    refine Rs (i := 11) (v := .bool false) (cb hc2) (Sp (Sp (Sp (Pf (.bool false) (Nl ?_)))))
    obtain rfl := sj hm2
    exact ⟨rfl, H⟩
  ·
   rintro f w ⟨hf15, H⟩
   obtain ⟨u2, rfl⟩ := up1 hf15
   refine As (.bool b3) (Nl (Rt ?_))
   obtain rfl := sj hm
   exact ends1 results107 rfl ⟨_, rfl, H.base, rfl⟩

set_option maxRecDepth 20000 in
theorem c_ball_fine {w0 : World} (a0 : GEvent) {r0 : Bool} (hm : ball_fine a0 = some r0) :
  Calls prog 143 #[(.agg (Flat.cells a0).toArray)] w0 (Ret w0 fun _ v => v = (.bool r0)) := by
 unfold ball_fine at hm
 refine cW func143 ntmps143 ?_
 have H := Inv.start (w := w0)
 refine Sq (Rg (Bx [(vi a0.At), (vi a0.Kind), (vi a0.N)] H fun b1 w1 H hb1 => As (.bool false) (Nl (Sq (Rg (Fa fd70_0 rfl (Ld _ sc3 (H.cell 0 rfl 0 _ rfl) ?_)))))))
 obtain ⟨t1, hy1, hm⟩ := bind_some hm
 refine Ca call56 (c_ball_within _ _ _ hy1) ?_
 rintro _ w2 hb2 rfl
 have H := H.ext hb2
 refine Mv (.bool t1) ?_
 obtain ⟨b2, hm1, hm⟩ := bind_some hm
 refine Cu 4 (fun f w => f 1 = (pt b1) ∧ f 10 = .bool b2 ∧ Inv w0 w [boxI b1 70 [(vi a0.At), (vi a0.Kind), (vi a0.N)]]) ?_ ?_
 ·
  rcases ite_some hm1 with ⟨hc1, hm1⟩ | ⟨hc1, hm1⟩
  ·
   refine Rs (i := 6) (v := .bool true) (cb hc1) (Fa fd70_1 rfl (Ld _ sc3 (H.cell 0 rfl 1 _ rfl) ?_))
   obtain ⟨t2, hy2, hm1⟩ := bind_some hm1
   refine Ca call56 (c_ball_within _ _ _ hy2) ?_
   rintro _ w3 hb3 rfl
   have H := H.ext hb3
   refine Pt (.bool t2) (Nl ?_)
   obtain rfl := sj hm1
   exact ⟨rfl, rfl, H⟩
  ·
   refine Rs (i := 6) (v := .bool false) (cb hc1) (Sp (Sp (Sp (Pf (.bool false) (Nl ?_)))))
   obtain rfl := sj hm1
   exact ⟨rfl, rfl, H⟩
 ·
  rintro f w ⟨hf1, hf10, H⟩
  obtain ⟨u1, rfl⟩ := up2 hf1 hf10
  refine Mv (.bool b2) ?_
  obtain ⟨b3, hm2, hm⟩ := bind_some hm
  refine Cu 4 (fun f w => f 1 = (pt b1) ∧ f 15 = .bool b3 ∧ Inv w0 w [boxI b1 70 [(vi a0.At), (vi a0.Kind), (vi a0.N)]]) ?_ ?_
  ·
   rcases ite_some hm2 with ⟨hc2, hm2⟩ | ⟨hc2, hm2⟩
   ·
    refine Rs (i := 11) (v := .bool true) (cb hc2) (Fa fd70_2 rfl (Ld _ sc3 (H.cell 0 rfl 2 _ rfl) ?_))
    obtain ⟨t3, hy3, hm2⟩ := bind_some hm2
    refine Ca call56 (c_ball_within _ _ _ hy3) ?_
    rintro _ w4 hb4 rfl
    have H := H.ext hb4
    refine Pt (.bool t3) (Nl ?_)
    obtain rfl := sj hm2
    exact ⟨rfl, rfl, H⟩
   ·
    refine Rs (i := 11) (v := .bool false) (cb hc2) (Sp (Sp (Sp (Pf (.bool false) (Nl ?_)))))
    obtain rfl := sj hm2
    exact ⟨rfl, rfl, H⟩
  ·
   rintro f w ⟨hf1, hf15, H⟩
   obtain ⟨u2, rfl⟩ := up2 hf1 hf15
   refine Mv (.bool b3) ?_
   refine Cu 9 (fun f w => f 25 = .bool (b3 && ((a0.Kind == 1) || (a0.N == 0))) ∧ Inv w0 w [boxI b1 70 [(vi a0.At), (vi a0.Kind), (vi a0.N)]]) ?_ ?_
   ·
    rcases bool_ft b3 with hc3 | hc3
    ·
     exact Rs (i := 16) (v := .bool false) (cb hc3) (Sp (Sp (Sp (Sp (Sp (Sp (Sp (Sp (Pf (.bool false) (Nl ⟨cb (and_f hc3), H⟩))))))))))
    ·
     refine Rs (i := 16) (v := .bool true) (cb hc3) (Fa fd70_1 rfl (Ld _ sc3 (H.cell 0 rfl 1 _ rfl) (Eq_ (Mv (.bool (a0.Kind == 1)) ?_))))
     refine Cu 4 (fun f w => f 16 = (.bool true) ∧ f 24 = .bool ((a0.Kind == 1) || (a0.N == 0)) ∧ Inv w0 w [boxI b1 70 [(vi a0.At), (vi a0.Kind), (vi a0.N)]]) ?_ ?_
     ·
      rcases bool_ft (a0.Kind == 1) with hc4 | hc4
      ·
       exact Rs (i := 20) (v := .bool false) (cb hc4) (Fa fd70_2 rfl (Ld _ sc3 (H.cell 0 rfl 2 _ rfl) (Eq_ (Pf (.bool (a0.N == 0)) (Nl ⟨rfl, cb (or_f hc4), H⟩)))))
      ·
       exact Rs (i := 20) (v := .bool true) (cb hc4) (Sp (Sp (Sp (Pt (.bool true) (Nl ⟨rfl, cb (or_t hc4), H⟩)))))
     ·
      rintro f w ⟨hf16, hf24, H⟩
      obtain ⟨u3, rfl⟩ := up2 hf16 hf24
      exact Pt (.bool ((a0.Kind == 1) || (a0.N == 0))) (Nl ⟨cb (and_t hc3), H⟩)
   ·
    rintro f w ⟨hf25, H⟩
    obtain ⟨u4, rfl⟩ := up1 hf25
    refine As (.bool (b3 && ((a0.Kind == 1) || (a0.N == 0)))) (Nl (Rt ?_))
    obtain rfl := sj hm
    exact ends1 results143 rfl ⟨_, rfl, H.base, rfl⟩

theorem c_ball_rules_c1 {w0 : World} (a0 : GMast) (a1 : GBall) (a2 : Int) {r0 : Bool} (hm : ball_rules_c1 a0 a1 a2 = some r0) :
  Calls prog 188 #[(.agg (Flat.cells a0).toArray), (.agg (Flat.cells a1).toArray), (vi a2)] w0 (Ret w0 fun _ v => v = (.bool r0)) := by
 unfold ball_rules_c1 at hm
 refine cW func188 ntmps188 ?_
 have H := Inv.start (w := w0)
 refine Sq (Rg (Bx [(vi a0.Noon), (vi a0.Half), (vi a0.Full), (vi a0.Late), (vi a0.Again), (vi a0.Wind)] H fun b1 w1 H hb1 => Bx [(vi a1.Place), (vi a1.Wind), (.bool a1.Flag), (vi a1.At)] H fun b2 w2 H hb2 => As (.bool false) (Nl (Sq (Rg (As (.bool true) (Nl (Rt ?_))))))))
 obtain rfl := sj hm
 exact ends1 results188 rfl ⟨_, rfl, H.base, rfl⟩

theorem c_ball_rules_c2 {w0 : World} (b0 : Nat) (a0 : GBall) (hb0 : w0.heap[b0]? = some (.cells (Flat.cells a0).toArray 32 (0, 0))) (a1 : Int) {r0 : GBall} (hm : ball_rules_c2 a0 a1 = some r0) :
  Calls prog 189 #[(pt b0), (vi a1)] w0 (fun e w => ∃ v, e = .returned v ∧ InvD (fun x => x = b0) w0 w [boxI b0 32 (Flat.cells r0)] ∧ v = .tuple #[]) := by
 unfold ball_rules_c2 at hm
 refine cW func189 ntmps189 ?_
 have H : InvD (fun x => x = b0) w0 w0 [boxI b0 32 [(vi a0.Place), (vi a0.Wind), (.bool a0.Flag), (vi a0.At)]] := InvD.startX hb0
 refine Rg (Mv (pt b0) (Mv (pt b0) (Nk rfl (Fa fd32_1 rfl (Ld _ sc3 (H.cell 0 rfl 1 _ rfl) (Mv (vi a1) (O.max2 R R R R (Nk rfl (Fa fd32_1 rfl (St 0 1 [(vi (max a0.Wind a1))] [(vi a0.Place), (vi (max a0.Wind a1)), (.bool a0.Flag), (vi a0.At)] sz3 H R R (one_cons rfl one_nil) fun w1 H => Nl ?_))))))))))
 obtain rfl := sj hm
 exact ends0 results189  ⟨_, rfl, H.pick [0] [boxI b0 32 [(vi a0.Place), (vi (max a0.Wind a1)), (.bool a0.Flag), (vi a0.At)]] rfl (by decide), rfl⟩

theorem c_ball_hoisting_c1 {w0 : World} (a0 : Int) (pc0 : Addr) (c0 : Int) (hc0 : ∀ j c, (Flat.cells c0)[j]? = some c → w0.cell? (pc0.add j) = some c) (pc1 : Addr) (c1 : GMast) (hc1 : ∀ j c, (Flat.cells c1)[j]? = some c → w0.cell? (pc1.add j) = some c) {r0 : Bool} (hm : ball_hoisting_c1 a0 c0 c1 = some r0) :
  Calls prog 218 #[(vi a0), (.pointer (some pc0)), (.pointer (some pc1))] w0 (Ret w0 fun _ v => v = (.bool r0)) := by
 unfold ball_hoisting_c1 at hm
 refine cW func218 ntmps218 ?_
 have H := Inv.start (w := w0)
 refine Sq (Rg (As (.bool false) (Nl (Sq (Rg (Ld _ sc3 (cells_mono hc0 H.base 0 _ rfl) (Mv (vi a0) (Fa fd52_1 rfl (Ld _ sc3 (cells_mono hc1 H.base 1 _ rfl) ?_)))))))))
 obtain ⟨t1, ht1, hm⟩ := bind_some hm
 refine Su ht1 (Mv (vi a0) (Fa fd52_2 rfl (Ld _ sc3 (cells_mono hc1 H.base 2 _ rfl) ?_)))
 obtain ⟨t2, ht2, hm⟩ := bind_some hm
 refine Su ht2 ?_
 obtain ⟨t3, ht3, hm⟩ := bind_some hm
 refine Su ht3 ?_
 obtain ⟨t4, hy1, hm⟩ := bind_some hm
 refine Ca call56 (c_ball_within _ _ _ hy1) ?_
 rintro _ w1 hb1 rfl
 have H := H.ext hb1
 refine As (.bool t4) (Nl (Rt ?_))
 obtain rfl := sj hm
 exact ends1 results218 rfl ⟨_, rfl, H.base, rfl⟩

theorem c_ball_hoisting {w0 : World} (a0 : GMast) (a1 : Int) {r0 : Bool} (hm : ball_hoisting a0 a1 = some r0) :
  Calls prog 191 #[(.agg (Flat.cells a0).toArray), (vi a1)] w0 (Ret w0 fun _ v => v = (.bool r0)) := by
 unfold ball_hoisting at hm
 refine cW func191 ntmps191 ?_
 have H := Inv.start (w := w0)
 refine Sq (Rg (Bx [(vi a0.Noon), (vi a0.Half), (vi a0.Full), (vi a0.Late), (vi a0.Again), (vi a0.Wind)] H fun b1 w1 H hb1 => Bx [(vi a1)] H fun b2 w2 H hb2 => As (.bool false) (Nl (Sq (Rg (Mf (As (.func (.func 218) #[] #[(pt b2), (pt b1)]) (Nl (Sq ?_)))))))))
 refine Rg (Mv (.func (.func 218) #[] #[(pt b2), (pt b1)]) (Fa fd52_0 rfl (Ld _ sc3 (H.cell 0 rfl 0 _ rfl) ?_)))
 obtain ⟨t1, hy1, hm⟩ := bind_some hm
 refine O.callV R R R R (callsV_mk call218 (c_ball_hoisting_c1 _ _ a1 (H.cell 1 rfl) _ a0 (H.cell 0 rfl) hy1)) ?_
 rintro _ w3 hb3 rfl
 have H := H.ext hb3
 refine Mv (.bool t1) ?_
 obtain ⟨b3, hm1, hm⟩ := bind_some hm
 refine Cu 8 (fun f w => f 19 = .bool b3 ∧ Inv w0 w [boxI b1 52 [(vi a0.Noon), (vi a0.Half), (vi a0.Full), (vi a0.Late), (vi a0.Again), (vi a0.Wind)], boxI b2 3 [(vi a1)]]) ?_ ?_
 ·
  rcases ite_some hm1 with ⟨hc1, hm1⟩ | ⟨hc1, hm1⟩
  ·
   refine Rs (i := 11) (v := .bool true) (cb hc1) (Sp (Sp (Sp (Sp (Sp (Sp (Sp (Pt (.bool true) (Nl ?_)))))))))
   obtain rfl := sj hm1
   exact ⟨rfl, H⟩
  ·
   refine Rs (i := 11) (v := .bool false) (cb hc1) (Mv (.func (.func 218) #[] #[(pt b2), (pt b1)]) (Fa fd52_0 rfl (Ld _ sc3 (H.cell 0 rfl 0 _ rfl) (Fa fd52_4 rfl (Ld _ sc3 (H.cell 0 rfl 4 _ rfl) ?_)))))
   obtain ⟨t2, ht2, hm1⟩ := bind_some hm1
   refine Ad ht2 ?_
   obtain ⟨t3, hy2, hm1⟩ := bind_some hm1
   refine O.callV R R R R (callsV_mk call218 (c_ball_hoisting_c1 _ _ a1 (H.cell 1 rfl) _ a0 (H.cell 0 rfl) hy2)) ?_
   rintro _ w4 hb4 rfl
   have H := H.ext hb4
   refine Pf (.bool t3) (Nl ?_)
   obtain rfl := sj hm1
   exact ⟨rfl, H⟩
 ·
  rintro f w ⟨hf19, H⟩
  obtain ⟨u1, rfl⟩ := up1 hf19
  refine As (.bool b3) (Nl (Rt ?_))
  obtain rfl := sj hm
  exact ends1 results191 rfl ⟨_, rfl, H.base, rfl⟩

theorem c_ball_rules_c3 {w0 : World} (a0 : GMast) (a1 : GBall) (a2 : Int) {r0 : Bool} (hm : ball_rules_c3 a0 a1 a2 = some r0) :
  Calls prog 190 #[(.agg (Flat.cells a0).toArray), (.agg (Flat.cells a1).toArray), (vi a2)] w0 (Ret w0 fun _ v => v = (.bool r0)) := by
 unfold ball_rules_c3 at hm
 refine cW func190 ntmps190 ?_
 have H := Inv.start (w := w0)
 refine Sq (Rg (Bx [(vi a0.Noon), (vi a0.Half), (vi a0.Full), (vi a0.Late), (vi a0.Again), (vi a0.Wind)] H fun b1 w1 H hb1 => Bx [(vi a1.Place), (vi a1.Wind), (.bool a1.Flag), (vi a1.At)] H fun b2 w2 H hb2 => As (.bool false) (Nl (Sq (Rg (Fa fd32_0 rfl (Ld _ sc3 (H.cell 1 rfl 0 _ rfl) (Eq_ (Mv (.bool (a1.Place == 0)) ?_)))))))))
 refine Cu 6 (fun f w => f 2 = (vi a2) ∧ f 3 = (pt b1) ∧ f 16 = .bool ((a1.Place == 0) && (decide (a1.Wind ≤ a0.Wind))) ∧ Inv w0 w [boxI b1 52 [(vi a0.Noon), (vi a0.Half), (vi a0.Full), (vi a0.Late), (vi a0.Again), (vi a0.Wind)], boxI b2 32 [(vi a1.Place), (vi a1.Wind), (.bool a1.Flag), (vi a1.At)]]) ?_ ?_
 ·
  rcases bool_ft (a1.Place == 0) with hc1 | hc1
  ·
   exact Rs (i := 10) (v := .bool false) (cb hc1) (Sp (Sp (Sp (Sp (Sp (Pf (.bool false) (Nl ⟨rfl, rfl, cb (and_f hc1), H⟩)))))))
  ·
   exact Rs (i := 10) (v := .bool true) (cb hc1) (Fa fd32_1 rfl (Ld _ sc3 (H.cell 1 rfl 1 _ rfl) (Fa fd52_5 rfl (Ld _ sc3 (H.cell 0 rfl 5 _ rfl) (Le_ (Pt (.bool (decide (a1.Wind ≤ a0.Wind))) (Nl ⟨rfl, rfl, cb (and_t hc1), H⟩)))))))
 ·
  rintro f w ⟨hf2, hf3, hf16, H⟩
  obtain ⟨u1, rfl⟩ := up3 hf2 hf3 hf16
  refine Mv (.bool ((a1.Place == 0) && (decide (a1.Wind ≤ a0.Wind)))) ?_
  obtain ⟨b3, hm1, hm⟩ := bind_some hm
  refine Cu 4 (fun f w => f 21 = .bool b3 ∧ Inv w0 w [boxI b1 52 [(vi a0.Noon), (vi a0.Half), (vi a0.Full), (vi a0.Late), (vi a0.Again), (vi a0.Wind)], boxI b2 32 [(vi a1.Place), (vi a1.Wind), (.bool a1.Flag), (vi a1.At)]]) ?_ ?_
  ·
   rcases ite_some hm1 with ⟨hc2, hm1⟩ | ⟨hc2, hm1⟩
   ·
    refine Rs (i := 17) (v := .bool true) (cb hc2) (La [(vi a0.Noon), (vi a0.Half), (vi a0.Full), (vi a0.Late), (vi a0.Again), (vi a0.Wind)] ag52 (H.cell 0 rfl) (Mv (vi a2) ?_))
    obtain ⟨t1, hy1, hm1⟩ := bind_some hm1
    refine Ca call191 (c_ball_hoisting a0 _ hy1) ?_
    rintro _ w3 hb3 rfl
    have H := H.ext hb3
    refine Pt (.bool t1) (Nl ?_)
    obtain rfl := sj hm1
    exact ⟨rfl, H⟩
   ·
    refine Rs (i := 17) (v := .bool false) (cb hc2) (Sp (Sp (Sp (Pf (.bool false) (Nl ?_)))))
    obtain rfl := sj hm1
    exact ⟨rfl, H⟩
  ·
   rintro f w ⟨hf21, H⟩
   obtain ⟨u2, rfl⟩ := up1 hf21
   refine As (.bool b3) (Nl (Rt ?_))
   obtain rfl := sj hm
   exact ends1 results190 rfl ⟨_, rfl, H.base, rfl⟩

theorem c_ball_rules_c4 {w0 : World} (b0 : Nat) (a0 : GBall) (hb0 : w0.heap[b0]? = some (.cells (Flat.cells a0).toArray 32 (0, 0))) (a1 : Int) {r0 : GBall} (hm : ball_rules_c4 a0 a1 = some r0) :
  Calls prog 192 #[(pt b0), (vi a1)] w0 (fun e w => ∃ v, e = .returned v ∧ InvD (fun x => x = b0) w0 w [boxI b0 32 (Flat.cells r0)] ∧ v = .tuple #[]) := by
 unfold ball_rules_c4 at hm
 refine cW func192 ntmps192 ?_
 have H : InvD (fun x => x = b0) w0 w0 [boxI b0 32 [(vi a0.Place), (vi a0.Wind), (.bool a0.Flag), (vi a0.At)]] := InvD.startX hb0
 refine Rg (Mv (pt b0) (Nk rfl (Fa fd32_0 rfl (St 0 0 [(vi 1)] [(vi 1), (vi a0.Wind), (.bool a0.Flag), (vi a0.At)] sz3 H R R (one_cons rfl one_nil) fun w1 H => Nl ?_))))
 obtain rfl := sj hm
 exact ends0 results192  ⟨_, rfl, H.pick [0] [boxI b0 32 [(vi 1), (vi a0.Wind), (.bool a0.Flag), (vi a0.At)]] rfl (by decide), rfl⟩

theorem c_ball_rules_c5 {w0 : World} (a0 : GMast) (a1 : GBall) (a2 : Int) {r0 : Bool} (hm : ball_rules_c5 a0 a1 a2 = some r0) :
  Calls prog 193 #[(.agg (Flat.cells a0).toArray), (.agg (Flat.cells a1).toArray), (vi a2)] w0 (Ret w0 fun _ v => v = (.bool r0)) := by
 unfold ball_rules_c5 at hm
 refine cW func193 ntmps193 ?_
 have H := Inv.start (w := w0)
 refine Sq (Rg (Bx [(vi a0.Noon), (vi a0.Half), (vi a0.Full), (vi a0.Late), (vi a0.Again), (vi a0.Wind)] H fun b1 w1 H hb1 => Bx [(vi a1.Place), (vi a1.Wind), (.bool a1.Flag), (vi a1.At)] H fun b2 w2 H hb2 => As (.bool false) (Nl (Sq (Rg (Fa fd32_0 rfl (Ld _ sc3 (H.cell 1 rfl 0 _ rfl) (Eq_ (Mv (.bool (a1.Place == 1)) ?_)))))))))
 obtain ⟨b3, hm1, hm⟩ := bind_some hm
 refine Cu 13 (fun f w => f 23 = .bool b3 ∧ Inv w0 w [boxI b1 52 [(vi a0.Noon), (vi a0.Half), (vi a0.Full), (vi a0.Late), (vi a0.Again), (vi a0.Wind)], boxI b2 32 [(vi a1.Place), (vi a1.Wind), (.bool a1.Flag), (vi a1.At)]]) ?_ ?_
 ·
  rcases ite_some hm1 with ⟨hc1, hm1⟩ | ⟨hc1, hm1⟩
  ·
   refine Rs (i := 10) (v := .bool true) (cb hc1) (Mv (vi a2) (Fa fd52_0 rfl (Ld _ sc3 (H.cell 0 rfl 0 _ rfl) (Fa fd52_2 rfl (Ld _ sc3 (H.cell 0 rfl 2 _ rfl) ?_)))))
   obtain ⟨t1, ht1, hm1⟩ := bind_some hm1
   refine Su ht1 (Fa fd52_0 rfl (Ld _ sc3 (H.cell 0 rfl 0 _ rfl) (Fa fd52_4 rfl (Ld _ sc3 (H.cell 0 rfl 4 _ rfl) ?_))))
   obtain ⟨t2, ht2, hm1⟩ := bind_some hm1
   refine Ad ht2 ?_
   obtain ⟨t3, hy1, hm1⟩ := bind_some hm1
   refine Ca call56 (c_ball_within _ _ _ hy1) ?_
   rintro _ w3 hb3 rfl
   have H := H.ext hb3
   refine Pt (.bool t3) (Nl ?_)
   obtain rfl := sj hm1
   exact ⟨rfl, H⟩
  ·
   refine Rs (i := 10) (v := .bool false) (cb hc1) (Sp (Sp (Sp (Sp (Sp (Sp (Sp (Sp (Sp (Sp (Sp (Sp (Pf (.bool false) ?_)))))))))))))
   refine Nl ?_
   obtain rfl := sj hm1
   exact ⟨rfl, H⟩
 ·
  rintro f w ⟨hf23, H⟩
  obtain ⟨u1, rfl⟩ := up1 hf23
  refine As (.bool b3) (Nl (Rt ?_))
  obtain rfl := sj hm
  exact ends1 results193 rfl ⟨_, rfl, H.base, rfl⟩

theorem c_ball_rules_c6 {w0 : World} (b0 : Nat) (a0 : GBall) (hb0 : w0.heap[b0]? = some (.cells (Flat.cells a0).toArray 32 (0, 0))) (a1 : Int) {r0 : GBall} (hm : ball_rules_c6 a0 a1 = some r0) :
  Calls prog 194 #[(pt b0), (vi a1)] w0 (fun e w => ∃ v, e = .returned v ∧ InvD (fun x => x = b0) w0 w [boxI b0 32 (Flat.cells r0)] ∧ v = .tuple #[]) := by
 unfold ball_rules_c6 at hm
 refine cW func194 ntmps194 ?_
 have H : InvD (fun x => x = b0) w0 w0 [boxI b0 32 [(vi a0.Place), (vi a0.Wind), (.bool a0.Flag), (vi a0.At)]] := InvD.startX hb0
 refine Rg (Mv (pt b0) (Nk rfl (Fa fd32_0 rfl (St 0 0 [(vi 2)] [(vi 2), (vi a0.Wind), (.bool a0.Flag), (vi a0.At)] sz3 H R R (one_cons rfl one_nil) fun w1 H => Nl ?_))))
 obtain rfl := sj hm
 exact ends0 results194  ⟨_, rfl, H.pick [0] [boxI b0 32 [(vi 2), (vi a0.Wind), (.bool a0.Flag), (vi a0.At)]] rfl (by decide), rfl⟩

theorem c_ball_rules_c7 {w0 : World} (a0 : GMast) (a1 : GBall) (a2 : Int) {r0 : Bool} (hm : ball_rules_c7 a0 a1 a2 = some r0) :
  Calls prog 195 #[(.agg (Flat.cells a0).toArray), (.agg (Flat.cells a1).toArray), (vi a2)] w0 (Ret w0 fun _ v => v = (.bool r0)) := by
 unfold ball_rules_c7 at hm
 refine cW func195 ntmps195 ?_
 have H := Inv.start (w := w0)
 refine Sq (Rg (Bx [(vi a0.Noon), (vi a0.Half), (vi a0.Full), (vi a0.Late), (vi a0.Again), (vi a0.Wind)] H fun b1 w1 H hb1 => Bx [(vi a1.Place), (vi a1.Wind), (.bool a1.Flag), (vi a1.At)] H fun b2 w2 H hb2 => As (.bool false) (Nl (Sq (Rg (Fa fd32_0 rfl (Ld _ sc3 (H.cell 1 rfl 0 _ rfl) (Eq_ (As (.bool (a1.Place == 2)) ?_)))))))))
 refine Nl (Rt ?_)
 obtain rfl := sj hm
 exact ends1 results195 rfl ⟨_, rfl, H.base, rfl⟩

theorem c_ball_rules_c8 {w0 : World} (b0 : Nat) (a0 : GBall) (hb0 : w0.heap[b0]? = some (.cells (Flat.cells a0).toArray 32 (0, 0))) (a1 : Int) {r0 : GBall} (hm : ball_rules_c8 a0 a1 = some r0) :
  Calls prog 196 #[(pt b0), (vi a1)] w0 (fun e w => ∃ v, e = .returned v ∧ InvD (fun x => x = b0) w0 w [boxI b0 32 (Flat.cells r0)] ∧ v = .tuple #[]) := by
 unfold ball_rules_c8 at hm
 refine cW func196 ntmps196 ?_
 have H : InvD (fun x => x = b0) w0 w0 [boxI b0 32 [(vi a0.Place), (vi a0.Wind), (.bool a0.Flag), (vi a0.At)]] := InvD.startX hb0
 refine Rg (Mv (pt b0) (Nk rfl (Fa fd32_0 rfl (St 0 0 [(vi 0)] [(vi 0), (vi a0.Wind), (.bool a0.Flag), (vi a0.At)] sz3 H R R (one_cons rfl one_nil) fun w1 H => Nl ?_))))
 obtain rfl := sj hm
 exact ends0 results196  ⟨_, rfl, H.pick [0] [boxI b0 32 [(vi 0), (vi a0.Wind), (.bool a0.Flag), (vi a0.At)]] rfl (by decide), rfl⟩

theorem c_ball_rules_c9 {w0 : World} (a0 : GMast) (a1 : GBall) (a2 : Int) {r0 : Bool} (hm : ball_rules_c9 a0 a1 a2 = some r0) :
  Calls prog 197 #[(.agg (Flat.cells a0).toArray), (.agg (Flat.cells a1).toArray), (vi a2)] w0 (Ret w0 fun _ v => v = (.bool r0)) := by
 unfold ball_rules_c9 at hm
 refine cW func197 ntmps197 ?_
 have H := Inv.start (w := w0)
 refine Sq (Rg (Bx [(vi a0.Noon), (vi a0.Half), (vi a0.Full), (vi a0.Late), (vi a0.Again), (vi a0.Wind)] H fun b1 w1 H hb1 => Bx [(vi a1.Place), (vi a1.Wind), (.bool a1.Flag), (vi a1.At)] H fun b2 w2 H hb2 => As (.bool false) (Nl (Sq (Rg (Fa fd32_0 rfl (Ld _ sc3 (H.cell 1 rfl 0 _ rfl) (Eq_ (As (.bool (a1.Place == 2)) ?_)))))))))
 refine Nl (Rt ?_)
 obtain rfl := sj hm
 exact ends1 results197 rfl ⟨_, rfl, H.base, rfl⟩

theorem c_ball_rules_c10 {w0 : World} (b0 : Nat) (a0 : GBall) (hb0 : w0.heap[b0]? = some (.cells (Flat.cells a0).toArray 32 (0, 0))) (a1 : Int) {r0 : GBall} (hm : ball_rules_c10 a0 a1 = some r0) :
  Calls prog 198 #[(pt b0), (vi a1)] w0 (fun e w => ∃ v, e = .returned v ∧ InvD (fun x => x = b0) w0 w [boxI b0 32 (Flat.cells r0)] ∧ v = .tuple #[]) := by
 unfold ball_rules_c10 at hm
 refine cW func198 ntmps198 ?_
 have H : InvD (fun x => x = b0) w0 w0 [boxI b0 32 [(vi a0.Place), (vi a0.Wind), (.bool a0.Flag), (vi a0.At)]] := InvD.startX hb0
 refine Rg (Mv (pt b0) (Nk rfl (Fa fd32_0 rfl (St 0 0 [(vi 3)] [(vi 3), (vi a0.Wind), (.bool a0.Flag), (vi a0.At)] sz3 H R R (one_cons rfl one_nil) fun w1 H => Nl ?_))))
 obtain rfl := sj hm
 exact ends0 results198  ⟨_, rfl, H.pick [0] [boxI b0 32 [(vi 3), (vi a0.Wind), (.bool a0.Flag), (vi a0.At)]] rfl (by decide), rfl⟩

theorem c_ball_rules_c11 {w0 : World} (a0 : GMast) (a1 : GBall) (a2 : Int) {r0 : Bool} (hm : ball_rules_c11 a0 a1 a2 = some r0) :
  Calls prog 199 #[(.agg (Flat.cells a0).toArray), (.agg (Flat.cells a1).toArray), (vi a2)] w0 (Ret w0 fun _ v => v = (.bool r0)) := by
 unfold ball_rules_c11 at hm
 refine cW func199 ntmps199 ?_
 have H := Inv.start (w := w0)
 refine Sq (Rg (Bx [(vi a0.Noon), (vi a0.Half), (vi a0.Full), (vi a0.Late), (vi a0.Again), (vi a0.Wind)] H fun b1 w1 H hb1 => Bx [(vi a1.Place), (vi a1.Wind), (.bool a1.Flag), (vi a1.At)] H fun b2 w2 H hb2 => As (.bool false) (Nl (Sq (Rg (Fa fd32_2 rfl (Ld _ sc4 (H.cell 1 rfl 2 _ rfl) (O.not R R R (As (.bool (!a1.Flag)) ?_)))))))))
 refine Nl (Rt ?_)
 obtain rfl := sj hm
 exact ends1 results199 rfl ⟨_, rfl, H.base, rfl⟩

theorem c_ball_rules_c12 {w0 : World} (b0 : Nat) (a0 : GBall) (hb0 : w0.heap[b0]? = some (.cells (Flat.cells a0).toArray 32 (0, 0))) (a1 : Int) {r0 : GBall} (hm : ball_rules_c12 a0 a1 = some r0) :
  Calls prog 200 #[(pt b0), (vi a1)] w0 (fun e w => ∃ v, e = .returned v ∧ InvD (fun x => x = b0) w0 w [boxI b0 32 (Flat.cells r0)] ∧ v = .tuple #[]) := by
 unfold ball_rules_c12 at hm
 refine cW func200 ntmps200 ?_
 have H : InvD (fun x => x = b0) w0 w0 [boxI b0 32 [(vi a0.Place), (vi a0.Wind), (.bool a0.Flag), (vi a0.At)]] := InvD.startX hb0
 refine Rg (Mv (pt b0) (Mv (pt b0) (Nk rfl (Fa fd32_2 rfl (St 0 2 [(.bool true)] [(vi a0.Place), (vi a0.Wind), (.bool true), (vi a0.At)] sz4 H R R (one_cons rfl one_nil) fun w1 H => Nk rfl (Fa fd32_0 rfl (St 0 0 [(vi 0)] [(vi 0), (vi a0.Wind), (.bool true), (vi a0.At)] sz3 H R R (one_cons rfl one_nil) fun w2 H => Nl ?_)))))))
 obtain rfl := sj hm
 exact ends0 results200  ⟨_, rfl, H.pick [0] [boxI b0 32 [(vi 0), (vi a0.Wind), (.bool true), (vi a0.At)]] rfl (by decide), rfl⟩

theorem c_ball_rules {w0 : World} : Calls prog 144 #[] w0 (Ret w0 fun _ v => v = (.agg #[.nilFunc, .nilFunc, (.func (.func 188) #[] #[]), (.func (.func 189) #[] #[]), (.func (.func 190) #[] #[]), (.func (.func 192) #[] #[]), (.func (.func 193) #[] #[]), (.func (.func 194) #[] #[]), (.func (.func 195) #[] #[]), (.func (.func 196) #[] #[]), (.func (.func 197) #[] #[]), (.func (.func 198) #[] #[]), (.func (.func 199) #[] #[]), (.func (.func 200) #[] #[])])) := by
 refine cW func144 ntmps144 ?_
 have H := Inv.start (w := w0)
 refine Sq (Rg (Al [.nilFunc, .nilFunc, .nilFunc, .nilFunc, .nilFunc, .nilFunc, .nilFunc, .nilFunc, .nilFunc, .nilFunc, .nilFunc, .nilFunc, .nilFunc, .nilFunc] ze221 H fun b1 w1 H hb1 => Nl (Sq (Rg (Bd (v := (.agg #[(.func (.func 188) #[] #[]), (.func (.func 189) #[] #[])])) bdf220_0_188_1_189 rfl (Bd (v := (.agg #[(.func (.func 190) #[] #[]), (.func (.func 192) #[] #[])])) bdf220_0_190_1_192 rfl (Bd (v := (.agg #[(.func (.func 193) #[] #[]), (.func (.func 194) #[] #[])])) bdf220_0_193_1_194 rfl (Bd (v := (.agg #[(.func (.func 195) #[] #[]), (.func (.func 196) #[] #[])])) bdf220_0_195_1_196 rfl (Bd (v := (.agg #[(.func (.func 197) #[] #[]), (.func (.func 198) #[] #[])])) bdf220_0_197_1_198 rfl (Bd (v := (.agg #[(.func (.func 199) #[] #[]), (.func (.func 200) #[] #[])])) bdf220_0_199_1_200 rfl (Bd (v := (.agg #[.nilFunc, .nilFunc, (.func (.func 188) #[] #[]), (.func (.func 189) #[] #[]), (.func (.func 190) #[] #[]), (.func (.func 192) #[] #[]), (.func (.func 193) #[] #[]), (.func (.func 194) #[] #[]), (.func (.func 195) #[] #[]), (.func (.func 196) #[] #[]), (.func (.func 197) #[] #[]), (.func (.func 198) #[] #[]), (.func (.func 199) #[] #[]), (.func (.func 200) #[] #[])])) bdf221_1_188_189_2_190_192_3_193_194_4_195_196_5_197_198_6_199_200 rfl ?_)))))))))))
 exact St 0 0 [.nilFunc, .nilFunc, (.func (.func 188) #[] #[]), (.func (.func 189) #[] #[]), (.func (.func 190) #[] #[]), (.func (.func 192) #[] #[]), (.func (.func 193) #[] #[]), (.func (.func 194) #[] #[]), (.func (.func 195) #[] #[]), (.func (.func 196) #[] #[]), (.func (.func 197) #[] #[]), (.func (.func 198) #[] #[]), (.func (.func 199) #[] #[]), (.func (.func 200) #[] #[])] [.nilFunc, .nilFunc, (.func (.func 188) #[] #[]), (.func (.func 189) #[] #[]), (.func (.func 190) #[] #[]), (.func (.func 192) #[] #[]), (.func (.func 193) #[] #[]), (.func (.func 194) #[] #[]), (.func (.func 195) #[] #[]), (.func (.func 196) #[] #[]), (.func (.func 197) #[] #[]), (.func (.func 198) #[] #[]), (.func (.func 199) #[] #[]), (.func (.func 200) #[] #[])] sz221 H R R (one_cons rfl (one_cons rfl (one_cons rfl (one_cons rfl (one_cons rfl (one_cons rfl (one_cons rfl (one_cons rfl (one_cons rfl (one_cons rfl (one_cons rfl (one_cons rfl (one_cons rfl (one_cons rfl one_nil)))))))))))))) fun w2 H => Nl (Rt (ends1 results144 ⟨_, rfl, run_loadVar_agg ag221 rfl (H.cell 0 rfl)⟩ ⟨_, rfl, H.base, rfl⟩))

end Go.Proofs
