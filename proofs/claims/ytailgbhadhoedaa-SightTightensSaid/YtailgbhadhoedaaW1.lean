/-
  The walks: each function does what its model says, where the model has a value. No other condition.
-/
import Derived.Test.YtailgbhadhoedaaW0
namespace Go.Proofs
open Go.Fw Go.RowKit Go.Shelf
set_option maxRecDepth 20000 in
theorem c_sight_graph_circle {w0 : World} (pa0 : Addr) (va0_0 : Value) (va0_1 : Value) (a0_0 : (List (GPoint × Int))) (a0_1 : (List GEdge)) (ha0 : ∀ j c, ([va0_0, va0_1] : List Value)[j]? = some c → w0.cell? (pa0.add j) = some c) (ra0_0 : MapR w0 va0_0 a0_0) (ra0_1 : SliceR w0 va0_1 a0_1) {r0 : Bool} {r1 : List Int} (hm : sight_graph_circle a0_0 a0_1 = some (r0, r1)) :
  Calls Try.prog 57 #[(.pointer (some pa0))] w0 (Ret w0 fun w v => OwnR w0 w v 3 r1 ∧ NilB v r0) := by
 unfold sight_graph_circle at hm
 refine calls_of_W Try.func57 rfl Try.ntmps57 (Nat.le_of_ble_eq_true rfl) ?_
 have H := Inv.start (w := w0)
 refine W.seq ?_
 refine W.region ?_
 have H := H.addNil (α := Int) (E := 3)
 refine O.assign (v := (.slice none 0 0)) rfl rfl rfl ?_
 refine WL.nil ?_
 refine W.seq ?_
 refine W.region ?_
 refine O.move (v := (.pointer (some pa0))) rfl rfl rfl ?_
 refine O.nilCheck rfl rfl rfl ?_
 refine O.fieldAddr fd104_0 rfl rfl rfl ?_
 refine O.load sc101 rfl rfl rfl (cells_mono ha0 H.base 0 _ rfl) ?_
 refine O.lenM Try.underlying101 (H.argM ra0_0) rfl rfl rfl ?_
 refine O.assign (v := (.int .i64 ((a0_0.length : Nat) : Int))) rfl rfl rfl ?_
 refine WL.nil ?_
 refine W.seq ?_
 obtain ⟨t1, ht1, hm⟩ := bind_some hm
 obtain ⟨t2, ht2, hm⟩ := bind_some hm
 have H := H.addGone
 have H := H.addGone
 have H := H.addGone
 have H := H.addGone
 have H := H.addGone
 have H := H.addGone
 refine W.drawD 7 [[], [0], [], [2], [], [], [0, 1, 4, 5]] [[1, 6], [6], [3], [], [6], [6], []] (fun S f w => ∃ v1 : Value, ∃ v2 : Value, ∃ b1 : Nat, ∃ b2 : Nat, Inv w0 w [] ∧ f 0 = (.pointer (some pa0)) ∧ f 3 = (.int .i64 ((a0_0.length : Nat) : Int)) ∧ (S 0 = true → f 17 = (.int .i64 ((a0_0.length : Nat) : Int))) ∧ (S 1 = true → f 18 = v1) ∧ (S 2 = true → f 19 = (.int .i64 ((a0_0.length : Nat) : Int))) ∧ (S 3 = true → f 20 = v2) ∧ (S 4 = true → f 4 = (.pointer (some ⟨b1, 0, none⟩))) ∧ (S 5 = true → f 5 = (.pointer (some ⟨b2, 0, none⟩))) ∧ (S 6 = true → S 1 = true) ∧ (S 6 = true → S 4 = true) ∧ (S 6 = true → S 5 = true) ∧ (S 1 = false → S 3 = false → S 4 = false → S 5 = false → S 6 = false → Inv w0 w [ownI (α := Int) (.slice none 0 0) 3 ([] : List Int), goneI, goneI, goneI, goneI, goneI, goneI]) ∧ (S 1 = true → S 3 = false → S 4 = false → S 5 = false → S 6 = false → Inv w0 w [ownI (α := Int) (.slice none 0 0) 3 ([] : List Int), ownI (α := Int) v1 3 t1, goneI, goneI, goneI, goneI, goneI]) ∧ (S 1 = false → S 3 = true → S 4 = false → S 5 = false → S 6 = false → Inv w0 w [ownI (α := Int) (.slice none 0 0) 3 ([] : List Int), goneI, ownI (α := GEdge) v2 108 t2, goneI, goneI, goneI, goneI]) ∧ (S 1 = false → S 3 = false → S 4 = true → S 5 = false → S 6 = false → Inv w0 w [ownI (α := Int) (.slice none 0 0) 3 ([] : List Int), goneI, goneI, boxI b1 22 [(.slice none 0 0)], ownI (α := Int) (.slice none 0 0) 3 ([] : List Int), goneI, goneI]) ∧ (S 1 = false → S 3 = false → S 4 = false → S 5 = true → S 6 = false → Inv w0 w [ownI (α := Int) (.slice none 0 0) 3 ([] : List Int), goneI, goneI, goneI, goneI, boxI b2 102 [(.slice none 0 0)], ownI (α := GEdge) (.slice none 0 0) 108 ([] : List GEdge)]) ∧ (S 1 = true → S 3 = true → S 4 = false → S 5 = false → S 6 = false → Inv w0 w [ownI (α := Int) (.slice none 0 0) 3 ([] : List Int), ownI (α := Int) v1 3 t1, ownI (α := GEdge) v2 108 t2, goneI, goneI, goneI, goneI]) ∧ (S 1 = true → S 3 = false → S 4 = true → S 5 = false → S 6 = false → Inv w0 w [ownI (α := Int) (.slice none 0 0) 3 ([] : List Int), ownI (α := Int) v1 3 t1, goneI, boxI b1 22 [(.slice none 0 0)], ownI (α := Int) (.slice none 0 0) 3 ([] : List Int), goneI, goneI]) ∧ (S 1 = true → S 3 = false → S 4 = false → S 5 = true → S 6 = false → Inv w0 w [ownI (α := Int) (.slice none 0 0) 3 ([] : List Int), ownI (α := Int) v1 3 t1, goneI, goneI, goneI, boxI b2 102 [(.slice none 0 0)], ownI (α := GEdge) (.slice none 0 0) 108 ([] : List GEdge)]) ∧ (S 1 = false → S 3 = true → S 4 = true → S 5 = false → S 6 = false → Inv w0 w [ownI (α := Int) (.slice none 0 0) 3 ([] : List Int), goneI, ownI (α := GEdge) v2 108 t2, boxI b1 22 [(.slice none 0 0)], ownI (α := Int) (.slice none 0 0) 3 ([] : List Int), goneI, goneI]) ∧ (S 1 = false → S 3 = true → S 4 = false → S 5 = true → S 6 = false → Inv w0 w [ownI (α := Int) (.slice none 0 0) 3 ([] : List Int), goneI, ownI (α := GEdge) v2 108 t2, goneI, goneI, boxI b2 102 [(.slice none 0 0)], ownI (α := GEdge) (.slice none 0 0) 108 ([] : List GEdge)]) ∧ (S 1 = false → S 3 = false → S 4 = true → S 5 = true → S 6 = false → Inv w0 w [ownI (α := Int) (.slice none 0 0) 3 ([] : List Int), goneI, goneI, boxI b1 22 [(.slice none 0 0)], ownI (α := Int) (.slice none 0 0) 3 ([] : List Int), boxI b2 102 [(.slice none 0 0)], ownI (α := GEdge) (.slice none 0 0) 108 ([] : List GEdge)]) ∧ (S 1 = true → S 3 = true → S 4 = true → S 5 = false → S 6 = false → Inv w0 w [ownI (α := Int) (.slice none 0 0) 3 ([] : List Int), ownI (α := Int) v1 3 t1, ownI (α := GEdge) v2 108 t2, boxI b1 22 [(.slice none 0 0)], ownI (α := Int) (.slice none 0 0) 3 ([] : List Int), goneI, goneI]) ∧ (S 1 = true → S 3 = true → S 4 = false → S 5 = true → S 6 = false → Inv w0 w [ownI (α := Int) (.slice none 0 0) 3 ([] : List Int), ownI (α := Int) v1 3 t1, ownI (α := GEdge) v2 108 t2, goneI, goneI, boxI b2 102 [(.slice none 0 0)], ownI (α := GEdge) (.slice none 0 0) 108 ([] : List GEdge)]) ∧ (S 1 = true → S 3 = false → S 4 = true → S 5 = true → S 6 = false → Inv w0 w [ownI (α := Int) (.slice none 0 0) 3 ([] : List Int), ownI (α := Int) v1 3 t1, goneI, boxI b1 22 [(.slice none 0 0)], ownI (α := Int) (.slice none 0 0) 3 ([] : List Int), boxI b2 102 [(.slice none 0 0)], ownI (α := GEdge) (.slice none 0 0) 108 ([] : List GEdge)]) ∧ (S 1 = false → S 3 = true → S 4 = true → S 5 = true → S 6 = false → Inv w0 w [ownI (α := Int) (.slice none 0 0) 3 ([] : List Int), goneI, ownI (α := GEdge) v2 108 t2, boxI b1 22 [(.slice none 0 0)], ownI (α := Int) (.slice none 0 0) 3 ([] : List Int), boxI b2 102 [(.slice none 0 0)], ownI (α := GEdge) (.slice none 0 0) 108 ([] : List GEdge)]) ∧ (S 1 = true → S 3 = true → S 4 = true → S 5 = true → S 6 = false → Inv w0 w [ownI (α := Int) (.slice none 0 0) 3 ([] : List Int), ownI (α := Int) v1 3 t1, ownI (α := GEdge) v2 108 t2, boxI b1 22 [(.slice none 0 0)], ownI (α := Int) (.slice none 0 0) 3 ([] : List Int), boxI b2 102 [(.slice none 0 0)], ownI (α := GEdge) (.slice none 0 0) 108 ([] : List GEdge)]) ∧ (S 1 = true → S 3 = false → S 4 = true → S 5 = true → S 6 = true → Inv w0 w [ownI (α := Int) (.slice none 0 0) 3 ([] : List Int), ownI (α := Int) v1 3 t1, goneI, boxI b1 22 [v1], ownI (α := Int) (.slice none 0 0) 3 ([] : List Int), boxI b2 102 [(.slice none 0 0)], ownI (α := GEdge) (.slice none 0 0) 108 ([] : List GEdge)]) ∧ (S 1 = true → S 3 = true → S 4 = true → S 5 = true → S 6 = true → Inv w0 w [ownI (α := Int) (.slice none 0 0) 3 ([] : List Int), ownI (α := Int) v1 3 t1, ownI (α := GEdge) v2 108 t2, boxI b1 22 [v1], ownI (α := Int) (.slice none 0 0) 3 ([] : List Int), boxI b2 102 [(.slice none 0 0)], ownI (α := GEdge) (.slice none 0 0) 108 ([] : List GEdge)])) fol (by kernel_rfl) ?_ ?_ ?_
 ·
  exact fun d _ => ⟨.nilFunc, .nilFunc, 0, 0, ((H.ext (below_drawn d)).pick [] [] rfl (by decide)), rfl, rfl, nF, nF, nF, nF, nF, nF, nF, nF, nF, (fun _ _ _ _ _ => H.ext (below_drawn d)), (fun a _ _ _ _ => nF a), (fun _ a _ _ _ => nF a), (fun _ _ a _ _ => nF a), (fun _ _ _ a _ => nF a), (fun a _ _ _ _ => nF a), (fun a _ _ _ _ => nF a), (fun a _ _ _ _ => nF a), (fun _ a _ _ _ => nF a), (fun _ a _ _ _ => nF a), (fun _ _ a _ _ => nF a), (fun a _ _ _ _ => nF a), (fun a _ _ _ _ => nF a), (fun a _ _ _ _ => nF a), (fun _ a _ _ _ => nF a), (fun a _ _ _ _ => nF a), (fun a _ _ _ _ => nF a), (fun a _ _ _ _ => nF a)⟩
 ·
  refine ⟨?_, ⟨?_, ⟨?_, ⟨?_, ⟨?_, ⟨?_, ⟨?_, trivial⟩⟩⟩⟩⟩⟩⟩
  ·
   rintro S f w hS - ⟨e1, e6, -⟩ ⟨v1, v2, b1, b2, B, hf0, hf3, hd0, t⟩
   obtain ⟨u1, rfl⟩ := up1 hf3
   have H := B
   refine O.move (v := (.int .i64 ((a0_0.length : Nat) : Int))) rfl rfl rfl ?_
   exact WL.nil ⟨v1, v2, b1, b2, B, hf0, rfl, (fun _ => rfl), t⟩
  ·
   rintro S f w hS ⟨e0, -⟩ ⟨e6, -⟩ ⟨_, v2, b1, b2, B, hf0, hf3, hd0, hd1, hd2, hd3, hd4, hd5, C6_1, C6_4, C6_5, W0, W1, W2, W3, W4, W5, W6, W7, W8, W9, W10, W11, W12, W13, W14, W15, W16, W17⟩
   have hf17 := hd0 e0
   obtain ⟨u2, rfl⟩ := up1 hf17
   rcases bool_ft (S 3) with e3 | e3
   ·
    rcases bool_ft (S 4) with e4 | e4
    ·
     rcases bool_ft (S 5) with e5 | e5
     ·
      have H := W0 hS e3 e4 e5 e6
      refine O.makeSlice Try.underlying22 zel3 rfl H ht1 rfl rfl rfl rfl ?_
      intro v1 w1 H hb1
      refine WL.nil ?_
      have H := H.pick [0, 7, 2, 3, 4, 5, 6] [ownI (α := Int) (.slice none 0 0) 3 ([] : List Int), ownI (α := Int) v1 3 t1, goneI, goneI, goneI, goneI, goneI] rfl (by decide)
      exact ⟨v1, v2, b1, b2, (H.pick [] [] rfl (by decide)), hf0, hf3, hd0, (fun _ => rfl), hd2, hd3, hd4, hd5, (fun _ => rfl), C6_4, C6_5, (fun a _ _ _ _ => nG a), (fun _ _ _ _ _ => H), (fun a _ _ _ _ => nG a), (fun a _ _ _ _ => nG a), (fun a _ _ _ _ => nG a), (fun _ a _ _ _ => nX e3 a), (fun _ _ a _ _ => nX e4 a), (fun _ _ _ a _ => nX e5 a), (fun a _ _ _ _ => nG a), (fun a _ _ _ _ => nG a), (fun a _ _ _ _ => nG a), (fun _ a _ _ _ => nX e3 a), (fun _ a _ _ _ => nX e3 a), (fun _ _ a _ _ => nX e4 a), (fun a _ _ _ _ => nG a), (fun _ a _ _ _ => nX e3 a), (fun _ _ a _ _ => nX e4 a), (fun _ a _ _ _ => nX e3 a)⟩
     ·
      have H := W4 hS e3 e4 e5 e6
      refine O.makeSlice Try.underlying22 zel3 rfl H ht1 rfl rfl rfl rfl ?_
      intro v1 w1 H hb1
      refine WL.nil ?_
      have H := H.pick [0, 7, 2, 3, 4, 5, 6] [ownI (α := Int) (.slice none 0 0) 3 ([] : List Int), ownI (α := Int) v1 3 t1, goneI, goneI, goneI, boxI b2 102 [(.slice none 0 0)], ownI (α := GEdge) (.slice none 0 0) 108 ([] : List GEdge)] rfl (by decide)
      exact ⟨v1, v2, b1, b2, (H.pick [] [] rfl (by decide)), hf0, hf3, hd0, (fun _ => rfl), hd2, hd3, hd4, hd5, (fun _ => rfl), C6_4, C6_5, (fun a _ _ _ _ => nG a), (fun _ _ _ a _ => nT e5 a), (fun a _ _ _ _ => nG a), (fun a _ _ _ _ => nG a), (fun a _ _ _ _ => nG a), (fun _ a _ _ _ => nX e3 a), (fun _ _ a _ _ => nX e4 a), (fun _ _ _ _ _ => H), (fun a _ _ _ _ => nG a), (fun a _ _ _ _ => nG a), (fun a _ _ _ _ => nG a), (fun _ a _ _ _ => nX e3 a), (fun _ a _ _ _ => nX e3 a), (fun _ _ a _ _ => nX e4 a), (fun a _ _ _ _ => nG a), (fun _ a _ _ _ => nX e3 a), (fun _ _ a _ _ => nX e4 a), (fun _ a _ _ _ => nX e3 a)⟩
    ·
     rcases bool_ft (S 5) with e5 | e5
     ·
      have H := W3 hS e3 e4 e5 e6
      refine O.makeSlice Try.underlying22 zel3 rfl H ht1 rfl rfl rfl rfl ?_
      intro v1 w1 H hb1
      refine WL.nil ?_
      have H := H.pick [0, 7, 2, 3, 4, 5, 6] [ownI (α := Int) (.slice none 0 0) 3 ([] : List Int), ownI (α := Int) v1 3 t1, goneI, boxI b1 22 [(.slice none 0 0)], ownI (α := Int) (.slice none 0 0) 3 ([] : List Int), goneI, goneI] rfl (by decide)
      exact ⟨v1, v2, b1, b2, (H.pick [] [] rfl (by decide)), hf0, hf3, hd0, (fun _ => rfl), hd2, hd3, hd4, hd5, (fun _ => rfl), C6_4, C6_5, (fun a _ _ _ _ => nG a), (fun _ _ a _ _ => nT e4 a), (fun a _ _ _ _ => nG a), (fun a _ _ _ _ => nG a), (fun a _ _ _ _ => nG a), (fun _ a _ _ _ => nX e3 a), (fun _ _ _ _ _ => H), (fun _ _ a _ _ => nT e4 a), (fun a _ _ _ _ => nG a), (fun a _ _ _ _ => nG a), (fun a _ _ _ _ => nG a), (fun _ a _ _ _ => nX e3 a), (fun _ a _ _ _ => nX e3 a), (fun _ _ _ a _ => nX e5 a), (fun a _ _ _ _ => nG a), (fun _ a _ _ _ => nX e3 a), (fun _ _ _ a _ => nX e5 a), (fun _ a _ _ _ => nX e3 a)⟩
     ·
      have H := W10 hS e3 e4 e5 e6
      refine O.makeSlice Try.underlying22 zel3 rfl H ht1 rfl rfl rfl rfl ?_
      intro v1 w1 H hb1
      refine WL.nil ?_
      have H := H.pick [0, 7, 2, 3, 4, 5, 6] [ownI (α := Int) (.slice none 0 0) 3 ([] : List Int), ownI (α := Int) v1 3 t1, goneI, boxI b1 22 [(.slice none 0 0)], ownI (α := Int) (.slice none 0 0) 3 ([] : List Int), boxI b2 102 [(.slice none 0 0)], ownI (α := GEdge) (.slice none 0 0) 108 ([] : List GEdge)] rfl (by decide)
      exact ⟨v1, v2, b1, b2, (H.pick [] [] rfl (by decide)), hf0, hf3, hd0, (fun _ => rfl), hd2, hd3, hd4, hd5, (fun _ => rfl), C6_4, C6_5, (fun a _ _ _ _ => nG a), (fun _ _ a _ _ => nT e4 a), (fun a _ _ _ _ => nG a), (fun a _ _ _ _ => nG a), (fun a _ _ _ _ => nG a), (fun _ a _ _ _ => nX e3 a), (fun _ _ _ a _ => nT e5 a), (fun _ _ a _ _ => nT e4 a), (fun a _ _ _ _ => nG a), (fun a _ _ _ _ => nG a), (fun a _ _ _ _ => nG a), (fun _ a _ _ _ => nX e3 a), (fun _ a _ _ _ => nX e3 a), (fun _ _ _ _ _ => H), (fun a _ _ _ _ => nG a), (fun _ a _ _ _ => nX e3 a), (fun _ _ _ _ a => nX e6 a), (fun _ a _ _ _ => nX e3 a)⟩
   ·
    rcases bool_ft (S 4) with e4 | e4
    ·
     rcases bool_ft (S 5) with e5 | e5
     ·
      have H := W2 hS e3 e4 e5 e6
      refine O.makeSlice Try.underlying22 zel3 rfl H ht1 rfl rfl rfl rfl ?_
      intro v1 w1 H hb1
      refine WL.nil ?_
      have H := H.pick [0, 7, 2, 3, 4, 5, 6] [ownI (α := Int) (.slice none 0 0) 3 ([] : List Int), ownI (α := Int) v1 3 t1, ownI (α := GEdge) v2 108 t2, goneI, goneI, goneI, goneI] rfl (by decide)
      exact ⟨v1, v2, b1, b2, (H.pick [] [] rfl (by decide)), hf0, hf3, hd0, (fun _ => rfl), hd2, hd3, hd4, hd5, (fun _ => rfl), C6_4, C6_5, (fun a _ _ _ _ => nG a), (fun _ a _ _ _ => nT e3 a), (fun a _ _ _ _ => nG a), (fun a _ _ _ _ => nG a), (fun a _ _ _ _ => nG a), (fun _ _ _ _ _ => H), (fun _ a _ _ _ => nT e3 a), (fun _ a _ _ _ => nT e3 a), (fun a _ _ _ _ => nG a), (fun a _ _ _ _ => nG a), (fun a _ _ _ _ => nG a), (fun _ _ a _ _ => nX e4 a), (fun _ _ _ a _ => nX e5 a), (fun _ a _ _ _ => nT e3 a), (fun a _ _ _ _ => nG a), (fun _ _ a _ _ => nX e4 a), (fun _ a _ _ _ => nT e3 a), (fun _ _ a _ _ => nX e4 a)⟩
     ·
      have H := W9 hS e3 e4 e5 e6
      refine O.makeSlice Try.underlying22 zel3 rfl H ht1 rfl rfl rfl rfl ?_
      intro v1 w1 H hb1
      refine WL.nil ?_
      have H := H.pick [0, 7, 2, 3, 4, 5, 6] [ownI (α := Int) (.slice none 0 0) 3 ([] : List Int), ownI (α := Int) v1 3 t1, ownI (α := GEdge) v2 108 t2, goneI, goneI, boxI b2 102 [(.slice none 0 0)], ownI (α := GEdge) (.slice none 0 0) 108 ([] : List GEdge)] rfl (by decide)
      exact ⟨v1, v2, b1, b2, (H.pick [] [] rfl (by decide)), hf0, hf3, hd0, (fun _ => rfl), hd2, hd3, hd4, hd5, (fun _ => rfl), C6_4, C6_5, (fun a _ _ _ _ => nG a), (fun _ a _ _ _ => nT e3 a), (fun a _ _ _ _ => nG a), (fun a _ _ _ _ => nG a), (fun a _ _ _ _ => nG a), (fun _ _ _ a _ => nT e5 a), (fun _ a _ _ _ => nT e3 a), (fun _ a _ _ _ => nT e3 a), (fun a _ _ _ _ => nG a), (fun a _ _ _ _ => nG a), (fun a _ _ _ _ => nG a), (fun _ _ a _ _ => nX e4 a), (fun _ _ _ _ _ => H), (fun _ a _ _ _ => nT e3 a), (fun a _ _ _ _ => nG a), (fun _ _ a _ _ => nX e4 a), (fun _ a _ _ _ => nT e3 a), (fun _ _ a _ _ => nX e4 a)⟩
    ·
     rcases bool_ft (S 5) with e5 | e5
     ·
      have H := W8 hS e3 e4 e5 e6
      refine O.makeSlice Try.underlying22 zel3 rfl H ht1 rfl rfl rfl rfl ?_
      intro v1 w1 H hb1
      refine WL.nil ?_
      have H := H.pick [0, 7, 2, 3, 4, 5, 6] [ownI (α := Int) (.slice none 0 0) 3 ([] : List Int), ownI (α := Int) v1 3 t1, ownI (α := GEdge) v2 108 t2, boxI b1 22 [(.slice none 0 0)], ownI (α := Int) (.slice none 0 0) 3 ([] : List Int), goneI, goneI] rfl (by decide)
      exact ⟨v1, v2, b1, b2, (H.pick [] [] rfl (by decide)), hf0, hf3, hd0, (fun _ => rfl), hd2, hd3, hd4, hd5, (fun _ => rfl), C6_4, C6_5, (fun a _ _ _ _ => nG a), (fun _ a _ _ _ => nT e3 a), (fun a _ _ _ _ => nG a), (fun a _ _ _ _ => nG a), (fun a _ _ _ _ => nG a), (fun _ _ a _ _ => nT e4 a), (fun _ a _ _ _ => nT e3 a), (fun _ a _ _ _ => nT e3 a), (fun a _ _ _ _ => nG a), (fun a _ _ _ _ => nG a), (fun a _ _ _ _ => nG a), (fun _ _ _ _ _ => H), (fun _ _ a _ _ => nT e4 a), (fun _ a _ _ _ => nT e3 a), (fun a _ _ _ _ => nG a), (fun _ _ _ a _ => nX e5 a), (fun _ a _ _ _ => nT e3 a), (fun _ _ _ a _ => nX e5 a)⟩
     ·
      have H := W14 hS e3 e4 e5 e6
      refine O.makeSlice Try.underlying22 zel3 rfl H ht1 rfl rfl rfl rfl ?_
      intro v1 w1 H hb1
      refine WL.nil ?_
      have H := H.pick [0, 7, 2, 3, 4, 5, 6] [ownI (α := Int) (.slice none 0 0) 3 ([] : List Int), ownI (α := Int) v1 3 t1, ownI (α := GEdge) v2 108 t2, boxI b1 22 [(.slice none 0 0)], ownI (α := Int) (.slice none 0 0) 3 ([] : List Int), boxI b2 102 [(.slice none 0 0)], ownI (α := GEdge) (.slice none 0 0) 108 ([] : List GEdge)] rfl (by decide)
      exact ⟨v1, v2, b1, b2, (H.pick [] [] rfl (by decide)), hf0, hf3, hd0, (fun _ => rfl), hd2, hd3, hd4, hd5, (fun _ => rfl), C6_4, C6_5, (fun a _ _ _ _ => nG a), (fun _ a _ _ _ => nT e3 a), (fun a _ _ _ _ => nG a), (fun a _ _ _ _ => nG a), (fun a _ _ _ _ => nG a), (fun _ _ a _ _ => nT e4 a), (fun _ a _ _ _ => nT e3 a), (fun _ a _ _ _ => nT e3 a), (fun a _ _ _ _ => nG a), (fun a _ _ _ _ => nG a), (fun a _ _ _ _ => nG a), (fun _ _ _ a _ => nT e5 a), (fun _ _ a _ _ => nT e4 a), (fun _ a _ _ _ => nT e3 a), (fun a _ _ _ _ => nG a), (fun _ _ _ _ _ => H), (fun _ a _ _ _ => nT e3 a), (fun _ _ _ _ a => nX e6 a)⟩
  ·
   rintro S f w hS - ⟨e3, -⟩ ⟨v1, v2, b1, b2, B, hf0, hf3, hd0, hd1, hd2, t⟩
   obtain ⟨u3, rfl⟩ := up1 hf3
   have H := B
   refine O.move (v := (.int .i64 ((a0_0.length : Nat) : Int))) rfl rfl rfl ?_
   exact WL.nil ⟨v1, v2, b1, b2, B, hf0, rfl, hd0, hd1, (fun _ => rfl), t⟩
  ·
   rintro S f w hS ⟨e2, -⟩ - ⟨v1, _, b1, b2, B, hf0, hf3, hd0, hd1, hd2, hd3, hd4, hd5, C6_1, C6_4, C6_5, W0, W1, W2, W3, W4, W5, W6, W7, W8, W9, W10, W11, W12, W13, W14, W15, W16, W17⟩
   have hf19 := hd2 e2
   obtain ⟨u4, rfl⟩ := up1 hf19
   rcases bool_ft (S 1) with e1 | e1
   ·
    rcases bool_ft (S 4) with e4 | e4
    ·
     rcases bool_ft (S 5) with e5 | e5
     ·
      rcases bool_ft (S 6) with e6 | e6
      ·
       have H := W0 e1 hS e4 e5 e6
       refine O.makeSlice Try.underlying102 zel108 rfl H ht2 rfl rfl rfl rfl ?_
       intro v2 w2 H hb2
       refine WL.nil ?_
       have H := H.pick [0, 1, 7, 3, 4, 5, 6] [ownI (α := Int) (.slice none 0 0) 3 ([] : List Int), goneI, ownI (α := GEdge) v2 108 t2, goneI, goneI, goneI, goneI] rfl (by decide)
       exact ⟨v1, v2, b1, b2, (H.pick [] [] rfl (by decide)), hf0, hf3, hd0, hd1, hd2, (fun _ => rfl), hd4, hd5, C6_1, C6_4, C6_5, (fun _ a _ _ _ => nG a), (fun a _ _ _ _ => nX e1 a), (fun _ _ _ _ _ => H), (fun _ a _ _ _ => nG a), (fun _ a _ _ _ => nG a), (fun a _ _ _ _ => nX e1 a), (fun a _ _ _ _ => nX e1 a), (fun a _ _ _ _ => nX e1 a), (fun _ _ a _ _ => nX e4 a), (fun _ _ _ a _ => nX e5 a), (fun _ a _ _ _ => nG a), (fun a _ _ _ _ => nX e1 a), (fun a _ _ _ _ => nX e1 a), (fun a _ _ _ _ => nX e1 a), (fun _ _ a _ _ => nX e4 a), (fun a _ _ _ _ => nX e1 a), (fun a _ _ _ _ => nX e1 a), (fun a _ _ _ _ => nX e1 a)⟩
      ·
       exact nomatch (show true = false from (C6_1 e6).symm.trans e1)
     ·
      rcases bool_ft (S 6) with e6 | e6
      ·
       have H := W4 e1 hS e4 e5 e6
       refine O.makeSlice Try.underlying102 zel108 rfl H ht2 rfl rfl rfl rfl ?_
       intro v2 w2 H hb2
       refine WL.nil ?_
       have H := H.pick [0, 1, 7, 3, 4, 5, 6] [ownI (α := Int) (.slice none 0 0) 3 ([] : List Int), goneI, ownI (α := GEdge) v2 108 t2, goneI, goneI, boxI b2 102 [(.slice none 0 0)], ownI (α := GEdge) (.slice none 0 0) 108 ([] : List GEdge)] rfl (by decide)
       exact ⟨v1, v2, b1, b2, (H.pick [] [] rfl (by decide)), hf0, hf3, hd0, hd1, hd2, (fun _ => rfl), hd4, hd5, C6_1, C6_4, C6_5, (fun _ a _ _ _ => nG a), (fun a _ _ _ _ => nX e1 a), (fun _ _ _ a _ => nT e5 a), (fun _ a _ _ _ => nG a), (fun _ a _ _ _ => nG a), (fun a _ _ _ _ => nX e1 a), (fun a _ _ _ _ => nX e1 a), (fun a _ _ _ _ => nX e1 a), (fun _ _ a _ _ => nX e4 a), (fun _ _ _ _ _ => H), (fun _ a _ _ _ => nG a), (fun a _ _ _ _ => nX e1 a), (fun a _ _ _ _ => nX e1 a), (fun a _ _ _ _ => nX e1 a), (fun _ _ a _ _ => nX e4 a), (fun a _ _ _ _ => nX e1 a), (fun a _ _ _ _ => nX e1 a), (fun a _ _ _ _ => nX e1 a)⟩
      ·
       exact nomatch (show true = false from (C6_1 e6).symm.trans e1)
    ·
     rcases bool_ft (S 5) with e5 | e5
     ·
      rcases bool_ft (S 6) with e6 | e6
      ·
       have H := W3 e1 hS e4 e5 e6
       refine O.makeSlice Try.underlying102 zel108 rfl H ht2 rfl rfl rfl rfl ?_
       intro v2 w2 H hb2
       refine WL.nil ?_
       have H := H.pick [0, 1, 7, 3, 4, 5, 6] [ownI (α := Int) (.slice none 0 0) 3 ([] : List Int), goneI, ownI (α := GEdge) v2 108 t2, boxI b1 22 [(.slice none 0 0)], ownI (α := Int) (.slice none 0 0) 3 ([] : List Int), goneI, goneI] rfl (by decide)
       exact ⟨v1, v2, b1, b2, (H.pick [] [] rfl (by decide)), hf0, hf3, hd0, hd1, hd2, (fun _ => rfl), hd4, hd5, C6_1, C6_4, C6_5, (fun _ a _ _ _ => nG a), (fun a _ _ _ _ => nX e1 a), (fun _ _ a _ _ => nT e4 a), (fun _ a _ _ _ => nG a), (fun _ a _ _ _ => nG a), (fun a _ _ _ _ => nX e1 a), (fun a _ _ _ _ => nX e1 a), (fun a _ _ _ _ => nX e1 a), (fun _ _ _ _ _ => H), (fun _ _ a _ _ => nT e4 a), (fun _ a _ _ _ => nG a), (fun a _ _ _ _ => nX e1 a), (fun a _ _ _ _ => nX e1 a), (fun a _ _ _ _ => nX e1 a), (fun _ _ _ a _ => nX e5 a), (fun a _ _ _ _ => nX e1 a), (fun a _ _ _ _ => nX e1 a), (fun a _ _ _ _ => nX e1 a)⟩
      ·
       exact nomatch (show true = false from (C6_1 e6).symm.trans e1)
     ·
      rcases bool_ft (S 6) with e6 | e6
      ·
       have H := W10 e1 hS e4 e5 e6
       refine O.makeSlice Try.underlying102 zel108 rfl H ht2 rfl rfl rfl rfl ?_
       intro v2 w2 H hb2
       refine WL.nil ?_
       have H := H.pick [0, 1, 7, 3, 4, 5, 6] [ownI (α := Int) (.slice none 0 0) 3 ([] : List Int), goneI, ownI (α := GEdge) v2 108 t2, boxI b1 22 [(.slice none 0 0)], ownI (α := Int) (.slice none 0 0) 3 ([] : List Int), boxI b2 102 [(.slice none 0 0)], ownI (α := GEdge) (.slice none 0 0) 108 ([] : List GEdge)] rfl (by decide)
       exact ⟨v1, v2, b1, b2, (H.pick [] [] rfl (by decide)), hf0, hf3, hd0, hd1, hd2, (fun _ => rfl), hd4, hd5, C6_1, C6_4, C6_5, (fun _ a _ _ _ => nG a), (fun a _ _ _ _ => nX e1 a), (fun _ _ a _ _ => nT e4 a), (fun _ a _ _ _ => nG a), (fun _ a _ _ _ => nG a), (fun a _ _ _ _ => nX e1 a), (fun a _ _ _ _ => nX e1 a), (fun a _ _ _ _ => nX e1 a), (fun _ _ _ a _ => nT e5 a), (fun _ _ a _ _ => nT e4 a), (fun _ a _ _ _ => nG a), (fun a _ _ _ _ => nX e1 a), (fun a _ _ _ _ => nX e1 a), (fun a _ _ _ _ => nX e1 a), (fun _ _ _ _ _ => H), (fun a _ _ _ _ => nX e1 a), (fun a _ _ _ _ => nX e1 a), (fun a _ _ _ _ => nX e1 a)⟩
      ·
       exact nomatch (show true = false from (C6_1 e6).symm.trans e1)
   ·
    rcases bool_ft (S 4) with e4 | e4
    ·
     rcases bool_ft (S 5) with e5 | e5
     ·
      rcases bool_ft (S 6) with e6 | e6
      ·
       have H := W1 e1 hS e4 e5 e6
       refine O.makeSlice Try.underlying102 zel108 rfl H ht2 rfl rfl rfl rfl ?_
       intro v2 w2 H hb2
       refine WL.nil ?_
       have H := H.pick [0, 1, 7, 3, 4, 5, 6] [ownI (α := Int) (.slice none 0 0) 3 ([] : List Int), ownI (α := Int) v1 3 t1, ownI (α := GEdge) v2 108 t2, goneI, goneI, goneI, goneI] rfl (by decide)
       exact ⟨v1, v2, b1, b2, (H.pick [] [] rfl (by decide)), hf0, hf3, hd0, hd1, hd2, (fun _ => rfl), hd4, hd5, C6_1, C6_4, C6_5, (fun a _ _ _ _ => nT e1 a), (fun _ a _ _ _ => nG a), (fun a _ _ _ _ => nT e1 a), (fun a _ _ _ _ => nT e1 a), (fun a _ _ _ _ => nT e1 a), (fun _ _ _ _ _ => H), (fun _ a _ _ _ => nG a), (fun _ a _ _ _ => nG a), (fun a _ _ _ _ => nT e1 a), (fun a _ _ _ _ => nT e1 a), (fun a _ _ _ _ => nT e1 a), (fun _ _ a _ _ => nX e4 a), (fun _ _ _ a _ => nX e5 a), (fun _ a _ _ _ => nG a), (fun a _ _ _ _ => nT e1 a), (fun _ _ a _ _ => nX e4 a), (fun _ a _ _ _ => nG a), (fun _ _ a _ _ => nX e4 a)⟩
      ·
       exact nomatch (show true = false from (C6_4 e6).symm.trans e4)
     ·
      rcases bool_ft (S 6) with e6 | e6
      ·
       have H := W7 e1 hS e4 e5 e6
       refine O.makeSlice Try.underlying102 zel108 rfl H ht2 rfl rfl rfl rfl ?_
       intro v2 w2 H hb2
       refine WL.nil ?_
       have H := H.pick [0, 1, 7, 3, 4, 5, 6] [ownI (α := Int) (.slice none 0 0) 3 ([] : List Int), ownI (α := Int) v1 3 t1, ownI (α := GEdge) v2 108 t2, goneI, goneI, boxI b2 102 [(.slice none 0 0)], ownI (α := GEdge) (.slice none 0 0) 108 ([] : List GEdge)] rfl (by decide)
       exact ⟨v1, v2, b1, b2, (H.pick [] [] rfl (by decide)), hf0, hf3, hd0, hd1, hd2, (fun _ => rfl), hd4, hd5, C6_1, C6_4, C6_5, (fun a _ _ _ _ => nT e1 a), (fun _ a _ _ _ => nG a), (fun a _ _ _ _ => nT e1 a), (fun a _ _ _ _ => nT e1 a), (fun a _ _ _ _ => nT e1 a), (fun _ _ _ a _ => nT e5 a), (fun _ a _ _ _ => nG a), (fun _ a _ _ _ => nG a), (fun a _ _ _ _ => nT e1 a), (fun a _ _ _ _ => nT e1 a), (fun a _ _ _ _ => nT e1 a), (fun _ _ a _ _ => nX e4 a), (fun _ _ _ _ _ => H), (fun _ a _ _ _ => nG a), (fun a _ _ _ _ => nT e1 a), (fun _ _ a _ _ => nX e4 a), (fun _ a _ _ _ => nG a), (fun _ _ a _ _ => nX e4 a)⟩
      ·
       exact nomatch (show true = false from (C6_4 e6).symm.trans e4)
    ·
     rcases bool_ft (S 5) with e5 | e5
     ·
      rcases bool_ft (S 6) with e6 | e6
      ·
       have H := W6 e1 hS e4 e5 e6
       refine O.makeSlice Try.underlying102 zel108 rfl H ht2 rfl rfl rfl rfl ?_
       intro v2 w2 H hb2
       refine WL.nil ?_
       have H := H.pick [0, 1, 7, 3, 4, 5, 6] [ownI (α := Int) (.slice none 0 0) 3 ([] : List Int), ownI (α := Int) v1 3 t1, ownI (α := GEdge) v2 108 t2, boxI b1 22 [(.slice none 0 0)], ownI (α := Int) (.slice none 0 0) 3 ([] : List Int), goneI, goneI] rfl (by decide)
       exact ⟨v1, v2, b1, b2, (H.pick [] [] rfl (by decide)), hf0, hf3, hd0, hd1, hd2, (fun _ => rfl), hd4, hd5, C6_1, C6_4, C6_5, (fun a _ _ _ _ => nT e1 a), (fun _ a _ _ _ => nG a), (fun a _ _ _ _ => nT e1 a), (fun a _ _ _ _ => nT e1 a), (fun a _ _ _ _ => nT e1 a), (fun _ _ a _ _ => nT e4 a), (fun _ a _ _ _ => nG a), (fun _ a _ _ _ => nG a), (fun a _ _ _ _ => nT e1 a), (fun a _ _ _ _ => nT e1 a), (fun a _ _ _ _ => nT e1 a), (fun _ _ _ _ _ => H), (fun _ _ a _ _ => nT e4 a), (fun _ a _ _ _ => nG a), (fun a _ _ _ _ => nT e1 a), (fun _ _ _ a _ => nX e5 a), (fun _ a _ _ _ => nG a), (fun _ _ _ a _ => nX e5 a)⟩
      ·
       exact nomatch (show true = false from (C6_5 e6).symm.trans e5)
     ·
      rcases bool_ft (S 6) with e6 | e6
      ·
       have H := W13 e1 hS e4 e5 e6
       refine O.makeSlice Try.underlying102 zel108 rfl H ht2 rfl rfl rfl rfl ?_
       intro v2 w2 H hb2
       refine WL.nil ?_
       have H := H.pick [0, 1, 7, 3, 4, 5, 6] [ownI (α := Int) (.slice none 0 0) 3 ([] : List Int), ownI (α := Int) v1 3 t1, ownI (α := GEdge) v2 108 t2, boxI b1 22 [(.slice none 0 0)], ownI (α := Int) (.slice none 0 0) 3 ([] : List Int), boxI b2 102 [(.slice none 0 0)], ownI (α := GEdge) (.slice none 0 0) 108 ([] : List GEdge)] rfl (by decide)
       exact ⟨v1, v2, b1, b2, (H.pick [] [] rfl (by decide)), hf0, hf3, hd0, hd1, hd2, (fun _ => rfl), hd4, hd5, C6_1, C6_4, C6_5, (fun a _ _ _ _ => nT e1 a), (fun _ a _ _ _ => nG a), (fun a _ _ _ _ => nT e1 a), (fun a _ _ _ _ => nT e1 a), (fun a _ _ _ _ => nT e1 a), (fun _ _ a _ _ => nT e4 a), (fun _ a _ _ _ => nG a), (fun _ a _ _ _ => nG a), (fun a _ _ _ _ => nT e1 a), (fun a _ _ _ _ => nT e1 a), (fun a _ _ _ _ => nT e1 a), (fun _ _ _ a _ => nT e5 a), (fun _ _ a _ _ => nT e4 a), (fun _ a _ _ _ => nG a), (fun a _ _ _ _ => nT e1 a), (fun _ _ _ _ _ => H), (fun _ a _ _ _ => nG a), (fun _ _ _ _ a => nX e6 a)⟩
      ·
       have H := W16 e1 hS e4 e5 e6
       refine O.makeSlice Try.underlying102 zel108 rfl H ht2 rfl rfl rfl rfl ?_
       intro v2 w2 H hb2
       refine WL.nil ?_
       have H := H.pick [0, 1, 7, 3, 4, 5, 6] [ownI (α := Int) (.slice none 0 0) 3 ([] : List Int), ownI (α := Int) v1 3 t1, ownI (α := GEdge) v2 108 t2, boxI b1 22 [v1], ownI (α := Int) (.slice none 0 0) 3 ([] : List Int), boxI b2 102 [(.slice none 0 0)], ownI (α := GEdge) (.slice none 0 0) 108 ([] : List GEdge)] rfl (by decide)
       exact ⟨v1, v2, b1, b2, (H.pick [] [] rfl (by decide)), hf0, hf3, hd0, hd1, hd2, (fun _ => rfl), hd4, hd5, C6_1, C6_4, C6_5, (fun a _ _ _ _ => nT e1 a), (fun _ a _ _ _ => nG a), (fun a _ _ _ _ => nT e1 a), (fun a _ _ _ _ => nT e1 a), (fun a _ _ _ _ => nT e1 a), (fun _ _ a _ _ => nT e4 a), (fun _ a _ _ _ => nG a), (fun _ a _ _ _ => nG a), (fun a _ _ _ _ => nT e1 a), (fun a _ _ _ _ => nT e1 a), (fun a _ _ _ _ => nT e1 a), (fun _ _ _ a _ => nT e5 a), (fun _ _ a _ _ => nT e4 a), (fun _ a _ _ _ => nG a), (fun a _ _ _ _ => nT e1 a), (fun _ _ _ _ a => nT e6 a), (fun _ a _ _ _ => nG a), (fun _ _ _ _ _ => H)⟩
  ·
   rintro S f w hS - ⟨e6, -⟩ ⟨v1, v2, _, b2, B, hf0, hf3, hd0, hd1, hd2, hd3, hd4, hd5, C6_1, C6_4, C6_5, W0, W1, W2, W3, W4, W5, W6, W7, W8, W9, W10, W11, W12, W13, W14, W15, W16, W17⟩
   rcases bool_ft (S 1) with e1 | e1
   ·
    rcases bool_ft (S 3) with e3 | e3
    ·
     rcases bool_ft (S 5) with e5 | e5
     ·
      have H := W0 e1 e3 hS e5 e6
      refine O.alloc [(.slice none 0 0)] ze22 H rfl rfl rfl ?_
      intro b1 w3 H hb3
      have H := H.addNil (α := Int) (E := 3)
      refine WL.nil ?_
      have H := H.pick [0, 1, 2, 7, 8, 5, 6] [ownI (α := Int) (.slice none 0 0) 3 ([] : List Int), goneI, goneI, boxI b1 22 [(.slice none 0 0)], ownI (α := Int) (.slice none 0 0) 3 ([] : List Int), goneI, goneI] rfl (by decide)
      exact ⟨v1, v2, b1, b2, (H.pick [] [] rfl (by decide)), hf0, hf3, hd0, hd1, hd2, hd3, (fun _ => rfl), hd5, C6_1, (fun _ => rfl), C6_5, (fun _ _ a _ _ => nG a), (fun a _ _ _ _ => nX e1 a), (fun _ a _ _ _ => nX e3 a), (fun _ _ _ _ _ => H), (fun _ _ a _ _ => nG a), (fun a _ _ _ _ => nX e1 a), (fun a _ _ _ _ => nX e1 a), (fun a _ _ _ _ => nX e1 a), (fun _ a _ _ _ => nX e3 a), (fun _ a _ _ _ => nX e3 a), (fun _ _ _ a _ => nX e5 a), (fun a _ _ _ _ => nX e1 a), (fun a _ _ _ _ => nX e1 a), (fun a _ _ _ _ => nX e1 a), (fun _ a _ _ _ => nX e3 a), (fun a _ _ _ _ => nX e1 a), (fun a _ _ _ _ => nX e1 a), (fun a _ _ _ _ => nX e1 a)⟩
     ·
      have H := W4 e1 e3 hS e5 e6
      refine O.alloc [(.slice none 0 0)] ze22 H rfl rfl rfl ?_
      intro b1 w3 H hb3
      have H := H.addNil (α := Int) (E := 3)
      refine WL.nil ?_
      have H := H.pick [0, 1, 2, 7, 8, 5, 6] [ownI (α := Int) (.slice none 0 0) 3 ([] : List Int), goneI, goneI, boxI b1 22 [(.slice none 0 0)], ownI (α := Int) (.slice none 0 0) 3 ([] : List Int), boxI b2 102 [(.slice none 0 0)], ownI (α := GEdge) (.slice none 0 0) 108 ([] : List GEdge)] rfl (by decide)
      exact ⟨v1, v2, b1, b2, (H.pick [] [] rfl (by decide)), hf0, hf3, hd0, hd1, hd2, hd3, (fun _ => rfl), hd5, C6_1, (fun _ => rfl), C6_5, (fun _ _ a _ _ => nG a), (fun a _ _ _ _ => nX e1 a), (fun _ a _ _ _ => nX e3 a), (fun _ _ _ a _ => nT e5 a), (fun _ _ a _ _ => nG a), (fun a _ _ _ _ => nX e1 a), (fun a _ _ _ _ => nX e1 a), (fun a _ _ _ _ => nX e1 a), (fun _ a _ _ _ => nX e3 a), (fun _ a _ _ _ => nX e3 a), (fun _ _ _ _ _ => H), (fun a _ _ _ _ => nX e1 a), (fun a _ _ _ _ => nX e1 a), (fun a _ _ _ _ => nX e1 a), (fun _ a _ _ _ => nX e3 a), (fun a _ _ _ _ => nX e1 a), (fun a _ _ _ _ => nX e1 a), (fun a _ _ _ _ => nX e1 a)⟩
    ·
     rcases bool_ft (S 5) with e5 | e5
     ·
      have H := W2 e1 e3 hS e5 e6
      refine O.alloc [(.slice none 0 0)] ze22 H rfl rfl rfl ?_
      intro b1 w3 H hb3
      have H := H.addNil (α := Int) (E := 3)
      refine WL.nil ?_
      have H := H.pick [0, 1, 2, 7, 8, 5, 6] [ownI (α := Int) (.slice none 0 0) 3 ([] : List Int), goneI, ownI (α := GEdge) v2 108 t2, boxI b1 22 [(.slice none 0 0)], ownI (α := Int) (.slice none 0 0) 3 ([] : List Int), goneI, goneI] rfl (by decide)
      exact ⟨v1, v2, b1, b2, (H.pick [] [] rfl (by decide)), hf0, hf3, hd0, hd1, hd2, hd3, (fun _ => rfl), hd5, C6_1, (fun _ => rfl), C6_5, (fun _ a _ _ _ => nT e3 a), (fun a _ _ _ _ => nX e1 a), (fun _ _ a _ _ => nG a), (fun _ a _ _ _ => nT e3 a), (fun _ a _ _ _ => nT e3 a), (fun a _ _ _ _ => nX e1 a), (fun a _ _ _ _ => nX e1 a), (fun a _ _ _ _ => nX e1 a), (fun _ _ _ _ _ => H), (fun _ _ a _ _ => nG a), (fun _ a _ _ _ => nT e3 a), (fun a _ _ _ _ => nX e1 a), (fun a _ _ _ _ => nX e1 a), (fun a _ _ _ _ => nX e1 a), (fun _ _ _ a _ => nX e5 a), (fun a _ _ _ _ => nX e1 a), (fun a _ _ _ _ => nX e1 a), (fun a _ _ _ _ => nX e1 a)⟩
     ·
      have H := W9 e1 e3 hS e5 e6
      refine O.alloc [(.slice none 0 0)] ze22 H rfl rfl rfl ?_
      intro b1 w3 H hb3
      have H := H.addNil (α := Int) (E := 3)
      refine WL.nil ?_
      have H := H.pick [0, 1, 2, 7, 8, 5, 6] [ownI (α := Int) (.slice none 0 0) 3 ([] : List Int), goneI, ownI (α := GEdge) v2 108 t2, boxI b1 22 [(.slice none 0 0)], ownI (α := Int) (.slice none 0 0) 3 ([] : List Int), boxI b2 102 [(.slice none 0 0)], ownI (α := GEdge) (.slice none 0 0) 108 ([] : List GEdge)] rfl (by decide)
      exact ⟨v1, v2, b1, b2, (H.pick [] [] rfl (by decide)), hf0, hf3, hd0, hd1, hd2, hd3, (fun _ => rfl), hd5, C6_1, (fun _ => rfl), C6_5, (fun _ a _ _ _ => nT e3 a), (fun a _ _ _ _ => nX e1 a), (fun _ _ a _ _ => nG a), (fun _ a _ _ _ => nT e3 a), (fun _ a _ _ _ => nT e3 a), (fun a _ _ _ _ => nX e1 a), (fun a _ _ _ _ => nX e1 a), (fun a _ _ _ _ => nX e1 a), (fun _ _ _ a _ => nT e5 a), (fun _ _ a _ _ => nG a), (fun _ a _ _ _ => nT e3 a), (fun a _ _ _ _ => nX e1 a), (fun a _ _ _ _ => nX e1 a), (fun a _ _ _ _ => nX e1 a), (fun _ _ _ _ _ => H), (fun a _ _ _ _ => nX e1 a), (fun a _ _ _ _ => nX e1 a), (fun a _ _ _ _ => nX e1 a)⟩
   ·
    rcases bool_ft (S 3) with e3 | e3
    ·
     rcases bool_ft (S 5) with e5 | e5
     ·
      have H := W1 e1 e3 hS e5 e6
      refine O.alloc [(.slice none 0 0)] ze22 H rfl rfl rfl ?_
      intro b1 w3 H hb3
      have H := H.addNil (α := Int) (E := 3)
      refine WL.nil ?_
      have H := H.pick [0, 1, 2, 7, 8, 5, 6] [ownI (α := Int) (.slice none 0 0) 3 ([] : List Int), ownI (α := Int) v1 3 t1, goneI, boxI b1 22 [(.slice none 0 0)], ownI (α := Int) (.slice none 0 0) 3 ([] : List Int), goneI, goneI] rfl (by decide)
      exact ⟨v1, v2, b1, b2, (H.pick [] [] rfl (by decide)), hf0, hf3, hd0, hd1, hd2, hd3, (fun _ => rfl), hd5, C6_1, (fun _ => rfl), C6_5, (fun a _ _ _ _ => nT e1 a), (fun _ _ a _ _ => nG a), (fun a _ _ _ _ => nT e1 a), (fun a _ _ _ _ => nT e1 a), (fun a _ _ _ _ => nT e1 a), (fun _ a _ _ _ => nX e3 a), (fun _ _ _ _ _ => H), (fun _ _ a _ _ => nG a), (fun a _ _ _ _ => nT e1 a), (fun a _ _ _ _ => nT e1 a), (fun a _ _ _ _ => nT e1 a), (fun _ a _ _ _ => nX e3 a), (fun _ a _ _ _ => nX e3 a), (fun _ _ _ a _ => nX e5 a), (fun a _ _ _ _ => nT e1 a), (fun _ a _ _ _ => nX e3 a), (fun _ _ _ a _ => nX e5 a), (fun _ a _ _ _ => nX e3 a)⟩
     ·
      have H := W7 e1 e3 hS e5 e6
      refine O.alloc [(.slice none 0 0)] ze22 H rfl rfl rfl ?_
      intro b1 w3 H hb3
      have H := H.addNil (α := Int) (E := 3)
      refine WL.nil ?_
      have H := H.pick [0, 1, 2, 7, 8, 5, 6] [ownI (α := Int) (.slice none 0 0) 3 ([] : List Int), ownI (α := Int) v1 3 t1, goneI, boxI b1 22 [(.slice none 0 0)], ownI (α := Int) (.slice none 0 0) 3 ([] : List Int), boxI b2 102 [(.slice none 0 0)], ownI (α := GEdge) (.slice none 0 0) 108 ([] : List GEdge)] rfl (by decide)
      exact ⟨v1, v2, b1, b2, (H.pick [] [] rfl (by decide)), hf0, hf3, hd0, hd1, hd2, hd3, (fun _ => rfl), hd5, C6_1, (fun _ => rfl), C6_5, (fun a _ _ _ _ => nT e1 a), (fun _ _ a _ _ => nG a), (fun a _ _ _ _ => nT e1 a), (fun a _ _ _ _ => nT e1 a), (fun a _ _ _ _ => nT e1 a), (fun _ a _ _ _ => nX e3 a), (fun _ _ _ a _ => nT e5 a), (fun _ _ a _ _ => nG a), (fun a _ _ _ _ => nT e1 a), (fun a _ _ _ _ => nT e1 a), (fun a _ _ _ _ => nT e1 a), (fun _ a _ _ _ => nX e3 a), (fun _ a _ _ _ => nX e3 a), (fun _ _ _ _ _ => H), (fun a _ _ _ _ => nT e1 a), (fun _ a _ _ _ => nX e3 a), (fun _ _ _ _ a => nX e6 a), (fun _ a _ _ _ => nX e3 a)⟩
    ·
     rcases bool_ft (S 5) with e5 | e5
     ·
      have H := W5 e1 e3 hS e5 e6
      refine O.alloc [(.slice none 0 0)] ze22 H rfl rfl rfl ?_
      intro b1 w3 H hb3
      have H := H.addNil (α := Int) (E := 3)
      refine WL.nil ?_
      have H := H.pick [0, 1, 2, 7, 8, 5, 6] [ownI (α := Int) (.slice none 0 0) 3 ([] : List Int), ownI (α := Int) v1 3 t1, ownI (α := GEdge) v2 108 t2, boxI b1 22 [(.slice none 0 0)], ownI (α := Int) (.slice none 0 0) 3 ([] : List Int), goneI, goneI] rfl (by decide)
      exact ⟨v1, v2, b1, b2, (H.pick [] [] rfl (by decide)), hf0, hf3, hd0, hd1, hd2, hd3, (fun _ => rfl), hd5, C6_1, (fun _ => rfl), C6_5, (fun a _ _ _ _ => nT e1 a), (fun _ a _ _ _ => nT e3 a), (fun a _ _ _ _ => nT e1 a), (fun a _ _ _ _ => nT e1 a), (fun a _ _ _ _ => nT e1 a), (fun _ _ a _ _ => nG a), (fun _ a _ _ _ => nT e3 a), (fun _ a _ _ _ => nT e3 a), (fun a _ _ _ _ => nT e1 a), (fun a _ _ _ _ => nT e1 a), (fun a _ _ _ _ => nT e1 a), (fun _ _ _ _ _ => H), (fun _ _ a _ _ => nG a), (fun _ a _ _ _ => nT e3 a), (fun a _ _ _ _ => nT e1 a), (fun _ _ _ a _ => nX e5 a), (fun _ a _ _ _ => nT e3 a), (fun _ _ _ a _ => nX e5 a)⟩
     ·
      have H := W12 e1 e3 hS e5 e6
      refine O.alloc [(.slice none 0 0)] ze22 H rfl rfl rfl ?_
      intro b1 w3 H hb3
      have H := H.addNil (α := Int) (E := 3)
      refine WL.nil ?_
      have H := H.pick [0, 1, 2, 7, 8, 5, 6] [ownI (α := Int) (.slice none 0 0) 3 ([] : List Int), ownI (α := Int) v1 3 t1, ownI (α := GEdge) v2 108 t2, boxI b1 22 [(.slice none 0 0)], ownI (α := Int) (.slice none 0 0) 3 ([] : List Int), boxI b2 102 [(.slice none 0 0)], ownI (α := GEdge) (.slice none 0 0) 108 ([] : List GEdge)] rfl (by decide)
      exact ⟨v1, v2, b1, b2, (H.pick [] [] rfl (by decide)), hf0, hf3, hd0, hd1, hd2, hd3, (fun _ => rfl), hd5, C6_1, (fun _ => rfl), C6_5, (fun a _ _ _ _ => nT e1 a), (fun _ a _ _ _ => nT e3 a), (fun a _ _ _ _ => nT e1 a), (fun a _ _ _ _ => nT e1 a), (fun a _ _ _ _ => nT e1 a), (fun _ _ a _ _ => nG a), (fun _ a _ _ _ => nT e3 a), (fun _ a _ _ _ => nT e3 a), (fun a _ _ _ _ => nT e1 a), (fun a _ _ _ _ => nT e1 a), (fun a _ _ _ _ => nT e1 a), (fun _ _ _ a _ => nT e5 a), (fun _ _ a _ _ => nG a), (fun _ a _ _ _ => nT e3 a), (fun a _ _ _ _ => nT e1 a), (fun _ _ _ _ _ => H), (fun _ a _ _ _ => nT e3 a), (fun _ _ _ _ a => nX e6 a)⟩
  ·
   rintro S f w hS - ⟨e6, -⟩ ⟨v1, v2, b1, _, B, hf0, hf3, hd0, hd1, hd2, hd3, hd4, hd5, C6_1, C6_4, C6_5, W0, W1, W2, W3, W4, W5, W6, W7, W8, W9, W10, W11, W12, W13, W14, W15, W16, W17⟩
   rcases bool_ft (S 1) with e1 | e1
   ·
    rcases bool_ft (S 3) with e3 | e3
    ·
     rcases bool_ft (S 4) with e4 | e4
     ·
      have H := W0 e1 e3 e4 hS e6
      refine O.alloc [(.slice none 0 0)] ze102 H rfl rfl rfl ?_
      intro b2 w4 H hb4
      have H := H.addNil (α := GEdge) (E := 108)
      refine WL.nil ?_
      have H := H.pick [0, 1, 2, 3, 4, 7, 8] [ownI (α := Int) (.slice none 0 0) 3 ([] : List Int), goneI, goneI, goneI, goneI, boxI b2 102 [(.slice none 0 0)], ownI (α := GEdge) (.slice none 0 0) 108 ([] : List GEdge)] rfl (by decide)
      exact ⟨v1, v2, b1, b2, (H.pick [] [] rfl (by decide)), hf0, hf3, hd0, hd1, hd2, hd3, hd4, (fun _ => rfl), C6_1, C6_4, (fun _ => rfl), (fun _ _ _ a _ => nG a), (fun a _ _ _ _ => nX e1 a), (fun _ a _ _ _ => nX e3 a), (fun _ _ a _ _ => nX e4 a), (fun _ _ _ _ _ => H), (fun a _ _ _ _ => nX e1 a), (fun a _ _ _ _ => nX e1 a), (fun a _ _ _ _ => nX e1 a), (fun _ a _ _ _ => nX e3 a), (fun _ a _ _ _ => nX e3 a), (fun _ _ a _ _ => nX e4 a), (fun a _ _ _ _ => nX e1 a), (fun a _ _ _ _ => nX e1 a), (fun a _ _ _ _ => nX e1 a), (fun _ a _ _ _ => nX e3 a), (fun a _ _ _ _ => nX e1 a), (fun a _ _ _ _ => nX e1 a), (fun a _ _ _ _ => nX e1 a)⟩
     ·
      have H := W3 e1 e3 e4 hS e6
      refine O.alloc [(.slice none 0 0)] ze102 H rfl rfl rfl ?_
      intro b2 w4 H hb4
      have H := H.addNil (α := GEdge) (E := 108)
      refine WL.nil ?_
      have H := H.pick [0, 1, 2, 3, 4, 7, 8] [ownI (α := Int) (.slice none 0 0) 3 ([] : List Int), goneI, goneI, boxI b1 22 [(.slice none 0 0)], ownI (α := Int) (.slice none 0 0) 3 ([] : List Int), boxI b2 102 [(.slice none 0 0)], ownI (α := GEdge) (.slice none 0 0) 108 ([] : List GEdge)] rfl (by decide)
      exact ⟨v1, v2, b1, b2, (H.pick [] [] rfl (by decide)), hf0, hf3, hd0, hd1, hd2, hd3, hd4, (fun _ => rfl), C6_1, C6_4, (fun _ => rfl), (fun _ _ a _ _ => nT e4 a), (fun a _ _ _ _ => nX e1 a), (fun _ a _ _ _ => nX e3 a), (fun _ _ _ a _ => nG a), (fun _ _ a _ _ => nT e4 a), (fun a _ _ _ _ => nX e1 a), (fun a _ _ _ _ => nX e1 a), (fun a _ _ _ _ => nX e1 a), (fun _ a _ _ _ => nX e3 a), (fun _ a _ _ _ => nX e3 a), (fun _ _ _ _ _ => H), (fun a _ _ _ _ => nX e1 a), (fun a _ _ _ _ => nX e1 a), (fun a _ _ _ _ => nX e1 a), (fun _ a _ _ _ => nX e3 a), (fun a _ _ _ _ => nX e1 a), (fun a _ _ _ _ => nX e1 a), (fun a _ _ _ _ => nX e1 a)⟩
    ·
     rcases bool_ft (S 4) with e4 | e4
     ·
      have H := W2 e1 e3 e4 hS e6
      refine O.alloc [(.slice none 0 0)] ze102 H rfl rfl rfl ?_
      intro b2 w4 H hb4
      have H := H.addNil (α := GEdge) (E := 108)
      refine WL.nil ?_
      have H := H.pick [0, 1, 2, 3, 4, 7, 8] [ownI (α := Int) (.slice none 0 0) 3 ([] : List Int), goneI, ownI (α := GEdge) v2 108 t2, goneI, goneI, boxI b2 102 [(.slice none 0 0)], ownI (α := GEdge) (.slice none 0 0) 108 ([] : List GEdge)] rfl (by decide)
      exact ⟨v1, v2, b1, b2, (H.pick [] [] rfl (by decide)), hf0, hf3, hd0, hd1, hd2, hd3, hd4, (fun _ => rfl), C6_1, C6_4, (fun _ => rfl), (fun _ a _ _ _ => nT e3 a), (fun a _ _ _ _ => nX e1 a), (fun _ _ _ a _ => nG a), (fun _ a _ _ _ => nT e3 a), (fun _ a _ _ _ => nT e3 a), (fun a _ _ _ _ => nX e1 a), (fun a _ _ _ _ => nX e1 a), (fun a _ _ _ _ => nX e1 a), (fun _ _ a _ _ => nX e4 a), (fun _ _ _ _ _ => H), (fun _ a _ _ _ => nT e3 a), (fun a _ _ _ _ => nX e1 a), (fun a _ _ _ _ => nX e1 a), (fun a _ _ _ _ => nX e1 a), (fun _ _ a _ _ => nX e4 a), (fun a _ _ _ _ => nX e1 a), (fun a _ _ _ _ => nX e1 a), (fun a _ _ _ _ => nX e1 a)⟩
     ·
      have H := W8 e1 e3 e4 hS e6
      refine O.alloc [(.slice none 0 0)] ze102 H rfl rfl rfl ?_
      intro b2 w4 H hb4
      have H := H.addNil (α := GEdge) (E := 108)
      refine WL.nil ?_
      have H := H.pick [0, 1, 2, 3, 4, 7, 8] [ownI (α := Int) (.slice none 0 0) 3 ([] : List Int), goneI, ownI (α := GEdge) v2 108 t2, boxI b1 22 [(.slice none 0 0)], ownI (α := Int) (.slice none 0 0) 3 ([] : List Int), boxI b2 102 [(.slice none 0 0)], ownI (α := GEdge) (.slice none 0 0) 108 ([] : List GEdge)] rfl (by decide)
      exact ⟨v1, v2, b1, b2, (H.pick [] [] rfl (by decide)), hf0, hf3, hd0, hd1, hd2, hd3, hd4, (fun _ => rfl), C6_1, C6_4, (fun _ => rfl), (fun _ a _ _ _ => nT e3 a), (fun a _ _ _ _ => nX e1 a), (fun _ _ a _ _ => nT e4 a), (fun _ a _ _ _ => nT e3 a), (fun _ a _ _ _ => nT e3 a), (fun a _ _ _ _ => nX e1 a), (fun a _ _ _ _ => nX e1 a), (fun a _ _ _ _ => nX e1 a), (fun _ _ _ a _ => nG a), (fun _ _ a _ _ => nT e4 a), (fun _ a _ _ _ => nT e3 a), (fun a _ _ _ _ => nX e1 a), (fun a _ _ _ _ => nX e1 a), (fun a _ _ _ _ => nX e1 a), (fun _ _ _ _ _ => H), (fun a _ _ _ _ => nX e1 a), (fun a _ _ _ _ => nX e1 a), (fun a _ _ _ _ => nX e1 a)⟩
   ·
    rcases bool_ft (S 3) with e3 | e3
    ·
     rcases bool_ft (S 4) with e4 | e4
     ·
      have H := W1 e1 e3 e4 hS e6
      refine O.alloc [(.slice none 0 0)] ze102 H rfl rfl rfl ?_
      intro b2 w4 H hb4
      have H := H.addNil (α := GEdge) (E := 108)
      refine WL.nil ?_
      have H := H.pick [0, 1, 2, 3, 4, 7, 8] [ownI (α := Int) (.slice none 0 0) 3 ([] : List Int), ownI (α := Int) v1 3 t1, goneI, goneI, goneI, boxI b2 102 [(.slice none 0 0)], ownI (α := GEdge) (.slice none 0 0) 108 ([] : List GEdge)] rfl (by decide)
      exact ⟨v1, v2, b1, b2, (H.pick [] [] rfl (by decide)), hf0, hf3, hd0, hd1, hd2, hd3, hd4, (fun _ => rfl), C6_1, C6_4, (fun _ => rfl), (fun a _ _ _ _ => nT e1 a), (fun _ _ _ a _ => nG a), (fun a _ _ _ _ => nT e1 a), (fun a _ _ _ _ => nT e1 a), (fun a _ _ _ _ => nT e1 a), (fun _ a _ _ _ => nX e3 a), (fun _ _ a _ _ => nX e4 a), (fun _ _ _ _ _ => H), (fun a _ _ _ _ => nT e1 a), (fun a _ _ _ _ => nT e1 a), (fun a _ _ _ _ => nT e1 a), (fun _ a _ _ _ => nX e3 a), (fun _ a _ _ _ => nX e3 a), (fun _ _ a _ _ => nX e4 a), (fun a _ _ _ _ => nT e1 a), (fun _ a _ _ _ => nX e3 a), (fun _ _ a _ _ => nX e4 a), (fun _ a _ _ _ => nX e3 a)⟩
     ·
      have H := W6 e1 e3 e4 hS e6
      refine O.alloc [(.slice none 0 0)] ze102 H rfl rfl rfl ?_
      intro b2 w4 H hb4
      have H := H.addNil (α := GEdge) (E := 108)
      refine WL.nil ?_
      have H := H.pick [0, 1, 2, 3, 4, 7, 8] [ownI (α := Int) (.slice none 0 0) 3 ([] : List Int), ownI (α := Int) v1 3 t1, goneI, boxI b1 22 [(.slice none 0 0)], ownI (α := Int) (.slice none 0 0) 3 ([] : List Int), boxI b2 102 [(.slice none 0 0)], ownI (α := GEdge) (.slice none 0 0) 108 ([] : List GEdge)] rfl (by decide)
      exact ⟨v1, v2, b1, b2, (H.pick [] [] rfl (by decide)), hf0, hf3, hd0, hd1, hd2, hd3, hd4, (fun _ => rfl), C6_1, C6_4, (fun _ => rfl), (fun a _ _ _ _ => nT e1 a), (fun _ _ a _ _ => nT e4 a), (fun a _ _ _ _ => nT e1 a), (fun a _ _ _ _ => nT e1 a), (fun a _ _ _ _ => nT e1 a), (fun _ a _ _ _ => nX e3 a), (fun _ _ _ a _ => nG a), (fun _ _ a _ _ => nT e4 a), (fun a _ _ _ _ => nT e1 a), (fun a _ _ _ _ => nT e1 a), (fun a _ _ _ _ => nT e1 a), (fun _ a _ _ _ => nX e3 a), (fun _ a _ _ _ => nX e3 a), (fun _ _ _ _ _ => H), (fun a _ _ _ _ => nT e1 a), (fun _ a _ _ _ => nX e3 a), (fun _ _ _ _ a => nX e6 a), (fun _ a _ _ _ => nX e3 a)⟩
    ·
     rcases bool_ft (S 4) with e4 | e4
     ·
      have H := W5 e1 e3 e4 hS e6
      refine O.alloc [(.slice none 0 0)] ze102 H rfl rfl rfl ?_
      intro b2 w4 H hb4
      have H := H.addNil (α := GEdge) (E := 108)
      refine WL.nil ?_
      have H := H.pick [0, 1, 2, 3, 4, 7, 8] [ownI (α := Int) (.slice none 0 0) 3 ([] : List Int), ownI (α := Int) v1 3 t1, ownI (α := GEdge) v2 108 t2, goneI, goneI, boxI b2 102 [(.slice none 0 0)], ownI (α := GEdge) (.slice none 0 0) 108 ([] : List GEdge)] rfl (by decide)
      exact ⟨v1, v2, b1, b2, (H.pick [] [] rfl (by decide)), hf0, hf3, hd0, hd1, hd2, hd3, hd4, (fun _ => rfl), C6_1, C6_4, (fun _ => rfl), (fun a _ _ _ _ => nT e1 a), (fun _ a _ _ _ => nT e3 a), (fun a _ _ _ _ => nT e1 a), (fun a _ _ _ _ => nT e1 a), (fun a _ _ _ _ => nT e1 a), (fun _ _ _ a _ => nG a), (fun _ a _ _ _ => nT e3 a), (fun _ a _ _ _ => nT e3 a), (fun a _ _ _ _ => nT e1 a), (fun a _ _ _ _ => nT e1 a), (fun a _ _ _ _ => nT e1 a), (fun _ _ a _ _ => nX e4 a), (fun _ _ _ _ _ => H), (fun _ a _ _ _ => nT e3 a), (fun a _ _ _ _ => nT e1 a), (fun _ _ a _ _ => nX e4 a), (fun _ a _ _ _ => nT e3 a), (fun _ _ a _ _ => nX e4 a)⟩
     ·
      have H := W11 e1 e3 e4 hS e6
      refine O.alloc [(.slice none 0 0)] ze102 H rfl rfl rfl ?_
      intro b2 w4 H hb4
      have H := H.addNil (α := GEdge) (E := 108)
      refine WL.nil ?_
      have H := H.pick [0, 1, 2, 3, 4, 7, 8] [ownI (α := Int) (.slice none 0 0) 3 ([] : List Int), ownI (α := Int) v1 3 t1, ownI (α := GEdge) v2 108 t2, boxI b1 22 [(.slice none 0 0)], ownI (α := Int) (.slice none 0 0) 3 ([] : List Int), boxI b2 102 [(.slice none 0 0)], ownI (α := GEdge) (.slice none 0 0) 108 ([] : List GEdge)] rfl (by decide)
      exact ⟨v1, v2, b1, b2, (H.pick [] [] rfl (by decide)), hf0, hf3, hd0, hd1, hd2, hd3, hd4, (fun _ => rfl), C6_1, C6_4, (fun _ => rfl), (fun a _ _ _ _ => nT e1 a), (fun _ a _ _ _ => nT e3 a), (fun a _ _ _ _ => nT e1 a), (fun a _ _ _ _ => nT e1 a), (fun a _ _ _ _ => nT e1 a), (fun _ _ a _ _ => nT e4 a), (fun _ a _ _ _ => nT e3 a), (fun _ a _ _ _ => nT e3 a), (fun a _ _ _ _ => nT e1 a), (fun a _ _ _ _ => nT e1 a), (fun a _ _ _ _ => nT e1 a), (fun _ _ _ a _ => nG a), (fun _ _ a _ _ => nT e4 a), (fun _ a _ _ _ => nT e3 a), (fun a _ _ _ _ => nT e1 a), (fun _ _ _ _ _ => H), (fun _ a _ _ _ => nT e3 a), (fun _ _ _ _ a => nX e6 a)⟩
  ·
   rintro S f w hS ⟨e0, e1, e4, e5, -⟩ - ⟨v1, v2, b1, b2, B, hf0, hf3, hd0, hd1, hd2, hd3, hd4, hd5, C6_1, C6_4, C6_5, W0, W1, W2, W3, W4, W5, W6, W7, W8, W9, W10, W11, W12, W13, W14, W15, W16, W17⟩
   have hf4 := hd4 e4
   have hf18 := hd1 e1
   obtain ⟨u5, rfl⟩ := up2 hf4 hf18
   rcases bool_ft (S 3) with e3 | e3
   ·
    have H := W13 e1 e3 e4 e5 hS
    refine O.store 3 0 [v1] [v1] sz22 H rfl rfl rfl rfl rfl (SliceR.cells1 (H.own 1 rfl)) ⟨⟨rfl, rfl⟩, rfl⟩ (one_cons (SliceR.one (H.own 1 rfl)) one_nil) ?_
    intro w5 H
    exact WL.nil ⟨v1, v2, b1, b2, (H.pick [] [] rfl (by decide)), hf0, hf3, hd0, hd1, hd2, hd3, hd4, hd5, (fun _ => e1), (fun _ => e4), (fun _ => e5), (fun a _ _ _ _ => nT e1 a), (fun _ _ a _ _ => nT e4 a), (fun a _ _ _ _ => nT e1 a), (fun a _ _ _ _ => nT e1 a), (fun a _ _ _ _ => nT e1 a), (fun _ a _ _ _ => nX e3 a), (fun _ _ _ a _ => nT e5 a), (fun _ _ a _ _ => nT e4 a), (fun a _ _ _ _ => nT e1 a), (fun a _ _ _ _ => nT e1 a), (fun a _ _ _ _ => nT e1 a), (fun _ a _ _ _ => nX e3 a), (fun _ a _ _ _ => nX e3 a), (fun _ _ _ _ a => nG a), (fun a _ _ _ _ => nT e1 a), (fun _ a _ _ _ => nX e3 a), (fun _ _ _ _ _ => H), (fun _ a _ _ _ => nX e3 a)⟩
   ·
    have H := W15 e1 e3 e4 e5 hS
    refine O.store 3 0 [v1] [v1] sz22 H rfl rfl rfl rfl rfl (SliceR.cells1 (H.own 1 rfl)) ⟨⟨rfl, rfl⟩, rfl⟩ (one_cons (SliceR.one (H.own 1 rfl)) one_nil) ?_
    intro w5 H
    exact WL.nil ⟨v1, v2, b1, b2, (H.pick [] [] rfl (by decide)), hf0, hf3, hd0, hd1, hd2, hd3, hd4, hd5, (fun _ => e1), (fun _ => e4), (fun _ => e5), (fun a _ _ _ _ => nT e1 a), (fun _ a _ _ _ => nT e3 a), (fun a _ _ _ _ => nT e1 a), (fun a _ _ _ _ => nT e1 a), (fun a _ _ _ _ => nT e1 a), (fun _ _ a _ _ => nT e4 a), (fun _ a _ _ _ => nT e3 a), (fun _ a _ _ _ => nT e3 a), (fun a _ _ _ _ => nT e1 a), (fun a _ _ _ _ => nT e1 a), (fun a _ _ _ _ => nT e1 a), (fun _ _ _ a _ => nT e5 a), (fun _ _ a _ _ => nT e4 a), (fun _ a _ _ _ => nT e3 a), (fun a _ _ _ _ => nT e1 a), (fun _ _ _ _ a => nG a), (fun _ a _ _ _ => nT e3 a), (fun _ _ _ _ _ => H)⟩
 ·
  rintro S f w ⟨e0, e1, e2, e3, e4, e5, e6, -⟩ ⟨v1, v2, b1, b2, B, hf0, hf3, hd0, hd1, hd2, hd3, hd4, hd5, C6_1, C6_4, C6_5, W0, W1, W2, W3, W4, W5, W6, W7, W8, W9, W10, W11, W12, W13, W14, W15, W16, W17⟩
  have hf4 := hd4 e4
  have hf5 := hd5 e5
  have hf20 := hd3 e3
  have H := W17 e1 e3 e4 e5 e6
  obtain ⟨u6, rfl⟩ := up5 hf0 hf3 hf4 hf5 hf20
  refine O.store 5 0 [v2] [v2] sz102 H rfl rfl rfl rfl rfl (SliceR.cells1 (H.own 2 rfl)) ⟨⟨rfl, rfl⟩, rfl⟩ (one_cons (SliceR.one (H.own 2 rfl)) one_nil) ?_
  intro w6 H
  refine WL.nil ?_
  refine W.seq ?_
  refine W.region ?_
  refine O.alloc [(.int .i64 0)] ze3 H rfl rfl rfl ?_
  intro b3 w7 H hb5
  refine O.store 7 0 [(.int .i64 (-1))] [(.int .i64 (-1))] sz3 H rfl rfl rfl rfl rfl rfl ⟨⟨rfl, rfl⟩, rfl⟩ (one_cons rfl one_nil) ?_
  intro w8 H
  refine WL.nil ?_
  refine W.seq ?_
  refine W.region ?_
  refine O.move (v := (.pointer (some pa0))) rfl rfl rfl ?_
  obtain ⟨t3, hy1, hm⟩ := bind_some hm
  refine O.call Try.call88 rfl rfl rfl (c_sight_graph_sorted _ _ _ a0_0 a0_1 (cells_mono ha0 H.base) (H.argM ra0_0) (H.arg ra0_1) hy1) ?_
  rintro v3 w9 hb6 ho1
  have H := H.addOwn hb6 ho1
  refine O.alloc [(.slice none 0 0)] ze102 H rfl rfl rfl ?_
  intro b4 w10 H hb7
  have H := H.addNil (α := GEdge) (E := 108)
  refine O.store 9 0 [v3] [v3] sz102 H rfl rfl rfl rfl rfl (SliceR.cells1 (H.own 8 rfl)) ⟨⟨rfl, rfl⟩, rfl⟩ (one_cons (SliceR.one (H.own 8 rfl)) one_nil) ?_
  intro w11 H
  refine WL.nil ?_
  refine W.seq ?_
  refine W.region ?_
  refine O.makeFunc rfl rfl rfl rfl ?_
  refine O.assign (v := (.func (.func 89) #[] #[(.pointer (some ⟨b3, 0, none⟩)), (.pointer (some ⟨b4, 0, none⟩)), (.pointer (some ⟨b1, 0, none⟩)), (.pointer (some ⟨b2, 0, none⟩))])) rfl rfl rfl ?_
  refine WL.nil ?_
  refine W.seq ?_
  refine W.seq ?_
  refine W.region ?_
  refine O.move (v := (.int .i64 ((a0_0.length : Nat) : Int))) rfl rfl rfl ?_
  obtain ⟨t4, ht4, hm⟩ := bind_some hm
  refine O.add rfl rfl rfl rfl ht4 ?_
  refine O.move (v := (.int .i64 0)) rfl rfl rfl ?_
  refine WL.nil ?_
  obtain ⟨⟨s1, s2⟩, hm1, hm⟩ := bind_some hm
  refine W.via (fun f w => ∃ v10 : Value, f 3 = (.int .i64 ((a0_0.length : Nat) : Int)) ∧ f 5 = (.pointer (some ⟨b2, 0, none⟩)) ∧ f 6 = (.pointer (some ⟨b3, 0, none⟩)) ∧ Inv w0 w [ownI (α := GEdge) v10 108 s1, boxI b2 102 [v10], boxI b3 3 [(.int .i64 s2)]]) ?_ ?_
  ·
   refine W.block ?_
   obtain ⟨hbdik1, hm1⟩ := chk_some hm1
   have H := H.keep [1, 2, 3, 5, 7, 8, 9] [ownI (α := Int) v1 3 t1, ownI (α := GEdge) v2 108 t2, boxI b1 22 [v1], boxI b2 102 [v2], boxI b3 3 [(.int .i64 (-1))], ownI (α := GEdge) v3 108 t3, boxI b4 102 [v3]] rfl (by decide)
   refine W.rangeN (i := 0) hm1 (fun rem ik1 s f w => ∃ z4 : (List Int), ∃ z5 : (List GEdge), ∃ z6 : Int, ∃ v6 : Value, ∃ v7 : Value, (z4, z5, z6) = s ∧ (ik1 : Int) + rem = max 0 t4 ∧ f 26 = .int .i64 (ik1 : Int) ∧ f 25 = (.int .i64 t4) ∧ f 3 = (.int .i64 ((a0_0.length : Nat) : Int)) ∧ f 5 = (.pointer (some ⟨b2, 0, none⟩)) ∧ f 6 = (.pointer (some ⟨b3, 0, none⟩)) ∧ f 8 = (.func (.func 89) #[] #[(.pointer (some ⟨b3, 0, none⟩)), (.pointer (some ⟨b4, 0, none⟩)), (.pointer (some ⟨b1, 0, none⟩)), (.pointer (some ⟨b2, 0, none⟩))]) ∧ Inv w0 w [ownI (α := Int) v6 3 z4, ownI (α := GEdge) v7 108 z5, boxI b1 22 [v6], boxI b2 102 [v7], boxI b3 3 [(.int .i64 z6)], ownI (α := GEdge) v3 108 t3, boxI b4 102 [v3]]) ?_ ?_ ?_
   ·
    exact ⟨_, _, _, v1, v2, rfl, rangeN_start, rfl, rfl, rfl, rfl, rfl, rfl, H⟩
   ·
    rintro k ik1 _ st f w ⟨z4, z5, z6, v6, v7, rfl, hdropk1, hf26, hf25, hf3, hf5, hf6, hf8, H⟩ hm2
    have hltk1 := rangeN_lt hdropk1
    obtain ⟨u7, rfl⟩ := up6 hf26 hf25 hf3 hf5 hf6 hf8
    have hinck1 := addI_lt hltk1 (inI_iff.1 hbdik1).2
    refine W.seq ?_
    refine W.region ?_
    refine O.lss rfl rfl rfl rfl ?_
    refine WL.nil ?_
    refine W.seq ?_
    refine W.cond_true (congrArg Value.bool (decide_eq_true hltk1)) ?_
    refine W.skip ?_
    refine W.seq ?_
    refine W.block ?_
    refine W.region ?_
    refine O.move (v := (.func (.func 89) #[] #[(.pointer (some ⟨b3, 0, none⟩)), (.pointer (some ⟨b4, 0, none⟩)), (.pointer (some ⟨b1, 0, none⟩)), (.pointer (some ⟨b2, 0, none⟩))])) rfl rfl rfl ?_
    obtain ⟨⟨t5, t6, t7⟩, hy2, hm2⟩ := bind_some hm2
    have H := H.pick [4, 6, 2, 3, 5, 0, 1] ([] ++ (pushItems b3 b4 b1 b2 v3 v6 v7 z6 t3 z4 z5)) rfl (by decide)
    refine O.callFV [] (pushItems b3 b4 b1 b2 v3 v6 v7 z6 t3 z4 z5) H Try.call89 rfl rfl rfl rfl (c_push b3 b4 b1 b2 v3 v6 v7 z6 t3 z4 z5 (InvD.frame H) hy2) ?_
    intro vq w12 Lq H hvq
    obtain ⟨v11, v12, rfl, rfl⟩ := hvq
    have H := H.pick [5, 6, 2, 3, 0, 4, 1] [ownI (α := Int) v11 3 t5, ownI (α := GEdge) v12 108 t6, boxI b1 22 [v11], boxI b2 102 [v12], boxI b3 3 [(.int .i64 t7)], ownI (α := GEdge) v3 108 t3, boxI b4 102 [v3]] rfl (by decide)
    refine WL.nil ?_
    refine W.region ?_
    refine O.add rfl rfl rfl rfl hinck1 ?_
    refine O.move (v := .int .i64 ((ik1 : Int) + 1)) rfl rfl rfl ?_
    refine WL.nil ?_
    obtain rfl := Option.some.inj hm2
    exact ⟨_, rfl, _, _, _, v11, v12, rfl, rangeN_next hdropk1, rfl, rfl, rfl, rfl, rfl, rfl, H⟩
   ·
    rintro ik1 _ f w ⟨z4, z5, z6, v6, v7, rfl, hdropk1, hf26, hf25, hf3, hf5, hf6, hf8, H⟩ hfin
    have hltk1 := rangeN_end hdropk1
    obtain ⟨u8, rfl⟩ := up6 hf26 hf25 hf3 hf5 hf6 hf8
    refine W.seq ?_
    refine W.region ?_
    refine O.lss rfl rfl rfl rfl ?_
    refine WL.nil ?_
    refine W.seq ?_
    refine W.cond_false (congrArg Value.bool (decide_eq_false hltk1)) ?_
    refine W.exit ?_
    have hq : (z5, z6) = (s1, s2) := hfin
    obtain ⟨he0, hq0⟩ := Prod.mk.inj hq; clear hq; subst he0
    subst hq0
    have H := H.keep [1, 3, 4] [ownI (α := GEdge) v7 108 z5, boxI b2 102 [v7], boxI b3 3 [(.int .i64 z6)]] rfl (by decide)
    refine xT rfl ?_
    exact ⟨v7, rfl, rfl, rfl, H⟩
  ·
   rintro f w ⟨v10, hf3, hf5, hf6, H⟩
   obtain ⟨u9, rfl⟩ := up3 hf3 hf5 hf6
   refine W.seq ?_
   refine W.seq ?_
   refine W.region ?_
   refine O.load sc3 rfl rfl rfl (H.cell 2 rfl 0 _ rfl) ?_
   refine O.lss rfl rfl rfl rfl ?_
   refine WL.nil ?_
   rcases ite_some hm with ⟨hc1, hm⟩ | ⟨hc1, hm⟩
   ·
    refine W.cond_true (congrArg Value.bool hc1) ?_
    refine W.seq ?_
    refine W.region ?_
    have H := H.addNil (α := Int) (E := 3)
    refine O.assign (v := (.slice none 0 0)) rfl rfl rfl ?_
    refine WL.nil ?_
    refine W.ret ?_
    have hq : (true, []) = (r0, r1) := Option.some.inj (show some (true, []) = some (r0, r1) from hm)
    obtain ⟨he0, hq0⟩ := Prod.mk.inj hq; clear hq; subst he0
    subst hq0
    exact ends1 Try.results57 rfl ⟨_, rfl, H.base, ⟨H.ownR 3 rfl, ⟨_, _, _, rfl, rfl⟩⟩⟩
   ·
    refine W.cond_false (congrArg Value.bool hc1) ?_
    refine W.skip ?_
    refine W.seq ?_
    refine W.seq ?_
    refine W.region ?_
    refine O.move (v := (.int .i64 ((a0_0.length : Nat) : Int))) rfl rfl rfl ?_
    refine O.move (v := (.int .i64 0)) rfl rfl rfl ?_
    refine WL.nil ?_
    obtain ⟨s3, hm3, hm⟩ := bind_some hm
    refine W.via (fun f w => f 5 = (.pointer (some ⟨b2, 0, none⟩)) ∧ f 6 = (.pointer (some ⟨b3, 0, none⟩)) ∧ Inv w0 w [ownI (α := GEdge) v10 108 s1, boxI b2 102 [v10], boxI b3 3 [(.int .i64 s3)]]) ?_ ?_
    ·
     refine W.block ?_
     obtain ⟨hbdik2, hm3⟩ := chk_some hm3
     refine W.rangeN (i := 0) hm3 (fun rem ik2 s f w => ∃ z11 : Int, z11 = s ∧ (ik2 : Int) + rem = max 0 ((a0_0.length : Nat) : Int) ∧ f 34 = .int .i64 (ik2 : Int) ∧ f 33 = (.int .i64 ((a0_0.length : Nat) : Int)) ∧ f 5 = (.pointer (some ⟨b2, 0, none⟩)) ∧ f 6 = (.pointer (some ⟨b3, 0, none⟩)) ∧ Inv w0 w [ownI (α := GEdge) v10 108 s1, boxI b2 102 [v10], boxI b3 3 [(.int .i64 z11)]]) ?_ ?_ ?_
     ·
      exact ⟨_, rfl, rangeN_start, rfl, rfl, rfl, rfl, H⟩
     ·
      rintro k ik2 _ st f w ⟨z11, rfl, hdropk2, hf34, hf33, hf5, hf6, H⟩ hm4
      have hltk2 := rangeN_lt hdropk2
      obtain ⟨u10, rfl⟩ := up4 hf34 hf33 hf5 hf6
      have hinck2 := addI_lt hltk2 (inI_iff.1 hbdik2).2
      refine W.seq ?_
      refine W.region ?_
      refine O.lss rfl rfl rfl rfl ?_
      refine WL.nil ?_
      refine W.seq ?_
      refine W.cond_true (congrArg Value.bool (decide_eq_true hltk2)) ?_
      refine W.skip ?_
      refine W.seq ?_
      refine W.block ?_
      refine W.region ?_
      refine O.load sc102 rfl rfl rfl (H.cell 1 rfl 0 _ rfl) ?_
      refine O.load sc3 rfl rfl rfl (H.cell 2 rfl 0 _ rfl) ?_
      obtain ⟨x1, hx1, hm4⟩ := bind_some hm4
      refine O.indexAddr Try.underlying102 sz108 (H.own 0 rfl) hx1 rfl rfl rfl rfl ?_
      intro p1 hp1
      refine O.fieldAddr fd108_0 rfl rfl rfl ?_
      refine O.load sc3 rfl rfl rfl (hp1.flat 0 _ rfl) ?_
      refine O.store 2 0 [(.int .i64 x1.from_)] [(.int .i64 x1.from_)] sz3 H rfl rfl rfl rfl rfl rfl ⟨⟨rfl, rfl⟩, rfl⟩ (one_cons rfl one_nil) ?_
      intro w13 H
      clear hp1
      refine WL.nil ?_
      refine W.region ?_
      refine O.add rfl rfl rfl rfl hinck2 ?_
      refine O.move (v := .int .i64 ((ik2 : Int) + 1)) rfl rfl rfl ?_
      refine WL.nil ?_
      obtain rfl := Option.some.inj hm4
      exact ⟨_, rfl, _, rfl, rangeN_next hdropk2, rfl, rfl, rfl, rfl, H⟩
     ·
      rintro ik2 _ f w ⟨z11, rfl, hdropk2, hf34, hf33, hf5, hf6, H⟩ hfin
      have hltk2 := rangeN_end hdropk2
      obtain ⟨u11, rfl⟩ := up4 hf34 hf33 hf5 hf6
      refine W.seq ?_
      refine W.region ?_
      refine O.lss rfl rfl rfl rfl ?_
      refine WL.nil ?_
      refine W.seq ?_
      refine W.cond_false (congrArg Value.bool (decide_eq_false hltk2)) ?_
      refine W.exit ?_
      have hq : z11 = s3 := hfin
      subst hq
      refine xT rfl ?_
      exact ⟨rfl, rfl, H⟩
    ·
     rintro f w ⟨hf5, hf6, H⟩
     obtain ⟨u12, rfl⟩ := up2 hf5 hf6
     refine W.seq ?_
     refine W.region ?_
     have H := H.addNil (α := Int) (E := 3)
     refine O.assign (v := (.slice none 0 0)) rfl rfl rfl ?_
     refine WL.nil ?_
     refine W.seq ?_
     refine W.seq ?_
     refine W.region ?_
     refine O.load sc3 rfl rfl rfl (H.cell 2 rfl 0 _ rfl) ?_
     refine O.assign (v := (.int .i64 s3)) rfl rfl rfl ?_
     refine WL.nil ?_
     obtain ⟨s4, hm5, hm⟩ := bind_some hm
     refine W.via (fun f w => ∃ v16 : Value, f 9 = v16 ∧ Inv w0 w [ownI (α := Int) v16 3 s4]) ?_ ?_
     ·
      refine W.block ?_
      refine W.loopR hm5 (fun s f w => ∃ z15 : Int, ∃ z16 : (List Int), ∃ v14 : Value, (z15, z16) = s ∧ f 5 = (.pointer (some ⟨b2, 0, none⟩)) ∧ f 6 = (.pointer (some ⟨b3, 0, none⟩)) ∧ f 9 = v14 ∧ f 10 = (.int .i64 z15) ∧ Inv w0 w [ownI (α := GEdge) v10 108 s1, boxI b2 102 [v10], boxI b3 3 [(.int .i64 s3)], ownI (α := Int) v14 3 z16]) ?_ ?_
      ·
       exact ⟨_, _, (.slice none 0 0), rfl, rfl, rfl, rfl, rfl, H⟩
      ·
       rintro _ st f w ⟨z15, z16, v14, rfl, hf5, hf6, hf9, hf10, H⟩ hm6
       obtain ⟨u13, rfl⟩ := up4 hf5 hf6 hf9 hf10
       refine W.block ?_
       refine W.seq ?_
       refine W.seq ?_
       refine W.region ?_
       refine O.load sc102 rfl rfl rfl (H.cell 1 rfl 0 _ rfl) ?_
       refine O.move (v := (.int .i64 z15)) rfl rfl rfl ?_
       obtain ⟨x2, hx2, hm6⟩ := bind_some hm6
       refine O.indexAddr Try.underlying102 sz108 (H.own 0 rfl) hx2 rfl rfl rfl rfl ?_
       intro p2 hp2
       refine O.fieldAddr fd108_3 rfl rfl rfl ?_
       refine O.load sc3 rfl rfl rfl (hp2.flat 3 _ rfl) ?_
       refine O.assign (v := (.int .i64 x2.number)) rfl rfl rfl ?_
       refine WL.nil ?_
       refine W.seq ?_
       refine W.region ?_
       refine O.move (v := (.int .i64 x2.number)) rfl rfl rfl ?_
       refine O.geq rfl rfl rfl rfl ?_
       refine WL.nil ?_
       obtain ⟨s5, hm7, hm6⟩ := bind_some hm6
       refine W.via (fun f w => ∃ v17 : Value, f 5 = (.pointer (some ⟨b2, 0, none⟩)) ∧ f 6 = (.pointer (some ⟨b3, 0, none⟩)) ∧ f 9 = v17 ∧ f 10 = (.int .i64 z15) ∧ Inv w0 w [ownI (α := GEdge) v10 108 s1, boxI b2 102 [v10], boxI b3 3 [(.int .i64 s3)], ownI (α := Int) v17 3 s5]) ?_ ?_
       ·
        rcases ite_some hm7 with ⟨hc2, hm7⟩ | ⟨hc2, hm7⟩
        ·
         refine W.cond_true (congrArg Value.bool hc2) ?_
         refine W.region ?_
         refine O.move (v := v14) rfl rfl rfl ?_
         refine O.move (v := (.int .i64 x2.number)) rfl rfl rfl ?_
         refine O.buildSlice (α := Int) [(.int .i64 x2.number)] [x2.number] Try.underlying22 el3 H rfl rfl rfl rfl rfl rfl rfl ?_
         intro v18 w14 H hb8
         have hp2 := hp2.mono hb8
         obtain ⟨t8, ht8, hm7⟩ := bind_some hm7
         refine O.append 3 Try.underlying22 el3 rfl H rfl (H.own 4 rfl) ht8 rfl rfl rfl rfl ?_
         intro v19 w15 H
         clear hp2
         refine O.assign (v := v19) rfl rfl rfl ?_
         refine WL.nil ?_
         have H := H.keep [0, 1, 2, 3] [ownI (α := GEdge) v10 108 s1, boxI b2 102 [v10], boxI b3 3 [(.int .i64 s3)], ownI (α := Int) v19 3 t8] rfl (by decide)
         have hq : t8 = s5 := Option.some.inj (show some t8 = some s5 from hm7)
         subst hq
         exact ⟨v19, rfl, rfl, rfl, rfl, H⟩
        ·
         refine W.cond_false (congrArg Value.bool hc2) ?_
         refine W.skip ?_
         have hq : z16 = s5 := Option.some.inj (show some z16 = some s5 from hm7)
         subst hq
         exact ⟨v14, rfl, rfl, rfl, rfl, H⟩
       ·
        rintro f w ⟨v17, hf5, hf6, hf9, hf10, H⟩
        obtain ⟨u14, rfl⟩ := up4 hf5 hf6 hf9 hf10
        refine W.seq ?_
        refine W.region ?_
        refine O.load sc102 rfl rfl rfl (H.cell 1 rfl 0 _ rfl) ?_
        refine O.move (v := (.int .i64 z15)) rfl rfl rfl ?_
        obtain ⟨x3, hx3, hm6⟩ := bind_some hm6
        refine O.indexAddr Try.underlying102 sz108 (H.own 0 rfl) hx3 rfl rfl rfl rfl ?_
        intro p3 hp3
        refine O.fieldAddr fd108_0 rfl rfl rfl ?_
        refine O.load sc3 rfl rfl rfl (hp3.flat 0 _ rfl) ?_
        refine O.assign (v := (.int .i64 x3.from_)) rfl rfl rfl ?_
        refine WL.nil ?_
        refine W.seq ?_
        refine W.region ?_
        refine O.move (v := (.int .i64 x3.from_)) rfl rfl rfl ?_
        refine O.load sc3 rfl rfl rfl (H.cell 2 rfl 0 _ rfl) ?_
        refine O.eql rfl rfl rfl rfl ?_
        refine WL.nil ?_
        rcases ite_some hm6 with ⟨hc3, hm6⟩ | ⟨hc3, hm6⟩
        ·
         refine W.cond_true (congrArg Value.bool hc3) ?_
         refine W.exit ?_
         refine xF rfl ?_
         obtain rfl := Option.some.inj hm6
         refine ⟨_, rfl, ?_⟩
         intro hy
         have hq : s5 = s4 := hy
         subst hq
         have H := H.keep [3] [ownI (α := Int) v17 3 s5] rfl (by decide)
         refine xT rfl ?_
         exact ⟨v17, rfl, H⟩
        ·
         refine W.cond_false (congrArg Value.bool hc3) ?_
         refine W.skip ?_
         obtain rfl := Option.some.inj hm6
         exact ⟨_, rfl, _, _, v17, rfl, rfl, rfl, rfl, rfl, H⟩
     ·
      rintro f w ⟨v16, hf9, H⟩
      obtain ⟨u15, rfl⟩ := up1 hf9
      refine W.seq ?_
      refine W.region ?_
      refine O.move (v := v16) rfl rfl rfl ?_
      obtain ⟨t9, hy3, hm⟩ := bind_some hm
      refine O.turnI2 0 H rfl rev_turns hy3 Try.call90 rfl rfl rfl ?_
      intro w16 H
      refine WL.nil ?_
      refine W.seq ?_
      refine W.region ?_
      refine O.move (v := v16) rfl rfl rfl ?_
      refine O.assign (v := v16) rfl rfl rfl ?_
      refine WL.nil ?_
      refine W.ret ?_
      obtain ⟨hne, hm⟩ := ne_some hm
      have hq : (false, t9) = (r0, r1) := Option.some.inj (show some (false, t9) = some (r0, r1) from hm)
      obtain ⟨he0, hq0⟩ := Prod.mk.inj hq; clear hq; subst he0
      subst hq0
      exact ends1 Try.results57 rfl ⟨_, rfl, H.base, ⟨H.ownR 0 rfl, nilB_of (H.ownR 0 rfl) hne⟩⟩

set_option maxRecDepth 20000 in
theorem c_sight_graph_least {w0 : World} (pa0 : Addr) (va0_0 : Value) (va0_1 : Value) (a0_0 : (List (GPoint × Int))) (a0_1 : (List GEdge)) (ha0 : ∀ j c, ([va0_0, va0_1] : List Value)[j]? = some c → w0.cell? (pa0.add j) = some c) (ra0_0 : MapR w0 va0_0 a0_0) (ra0_1 : SliceR w0 va0_1 a0_1) (a1 : GPoint) (a2 : GPoint) {r0 : Int} {r1 : Bool} (hm : sight_graph_least a0_0 a0_1 a1 a2 = some (r0, r1)) :
  Calls Try.prog 92 #[(.pointer (some pa0)), (.agg (Flat.cells a1).toArray), (.agg (Flat.cells a2).toArray)] w0 (Ret w0 fun _ v => v = .tuple #[(.int .i64 r0), (.bool r1)]) := by
 unfold sight_graph_least at hm
 refine calls_of_W Try.func92 rfl Try.ntmps92 (Nat.le_of_ble_eq_true rfl) ?_
 have H := Inv.start (w := w0)
 refine W.seq ?_
 refine W.region ?_
 refine O.box [(.int .i64 a1.clock), (.int .i64 a1.at_)] H rfl rfl rfl rfl ?_
 intro b1 w1 H hb1
 refine O.box [(.int .i64 a2.clock), (.int .i64 a2.at_)] H rfl rfl rfl rfl ?_
 intro b2 w2 H hb2
 refine O.assign (v := (.int .i64 0)) rfl rfl rfl ?_
 refine O.assign (v := (.bool false)) rfl rfl rfl ?_
 refine WL.nil ?_
 refine W.seq ?_
 refine W.region ?_
 refine O.move (v := (.pointer (some pa0))) rfl rfl rfl ?_
 refine O.nilCheck rfl rfl rfl ?_
 refine O.fieldAddr fd104_0 rfl rfl rfl ?_
 refine O.load sc101 rfl rfl rfl (cells_mono ha0 H.base 0 _ rfl) ?_
 refine O.lenM Try.underlying101 (H.argM ra0_0) rfl rfl rfl ?_
 refine O.assign (v := (.int .i64 ((a0_0.length : Nat) : Int))) rfl rfl rfl ?_
 refine WL.nil ?_
 refine W.seq ?_
 obtain ⟨t1, ht1, hm⟩ := bind_some hm
 obtain ⟨t2, ht2, hm⟩ := bind_some hm
 have H := H.addGone
 have H := H.addGone
 refine W.drawD 5 [[], [0], [], [2], [0, 1]] [[1, 4], [4], [3], [], []] (fun S f w => ∃ v1 : Value, ∃ v2 : Value, Inv w0 w [] ∧ f 0 = (.pointer (some pa0)) ∧ f 4 = (.pointer (some ⟨b1, 0, none⟩)) ∧ f 5 = (.pointer (some ⟨b2, 0, none⟩)) ∧ f 8 = (.int .i64 ((a0_0.length : Nat) : Int)) ∧ (S 0 = true → f 20 = (.int .i64 ((a0_0.length : Nat) : Int))) ∧ (S 1 = true → f 21 = v1) ∧ (S 2 = true → f 22 = (.int .i64 ((a0_0.length : Nat) : Int))) ∧ (S 3 = true → f 23 = v2) ∧ (S 4 = true → f 9 = v1) ∧ (S 1 = false → S 3 = false → Inv w0 w [boxI b1 87 [(.int .i64 a1.clock), (.int .i64 a1.at_)], boxI b2 87 [(.int .i64 a2.clock), (.int .i64 a2.at_)], goneI, goneI]) ∧ (S 1 = true → S 3 = false → Inv w0 w [boxI b1 87 [(.int .i64 a1.clock), (.int .i64 a1.at_)], boxI b2 87 [(.int .i64 a2.clock), (.int .i64 a2.at_)], ownI (α := Int) v1 3 t1, goneI]) ∧ (S 1 = false → S 3 = true → Inv w0 w [boxI b1 87 [(.int .i64 a1.clock), (.int .i64 a1.at_)], boxI b2 87 [(.int .i64 a2.clock), (.int .i64 a2.at_)], goneI, ownI (α := Bool) v2 4 t2]) ∧ (S 1 = true → S 3 = true → Inv w0 w [boxI b1 87 [(.int .i64 a1.clock), (.int .i64 a1.at_)], boxI b2 87 [(.int .i64 a2.clock), (.int .i64 a2.at_)], ownI (α := Int) v1 3 t1, ownI (α := Bool) v2 4 t2])) fol (by kernel_rfl) ?_ ?_ ?_
 ·
  exact fun d _ => ⟨.nilFunc, .nilFunc, ((H.ext (below_drawn d)).pick [] [] rfl (by decide)), rfl, rfl, rfl, rfl, nF, nF, nF, nF, nF, (fun _ _ => H.ext (below_drawn d)), (fun a _ => nF a), (fun _ a => nF a), (fun a _ => nF a)⟩
 ·
  refine ⟨?_, ⟨?_, ⟨?_, ⟨?_, ⟨?_, trivial⟩⟩⟩⟩⟩
  ·
   rintro S f w hS - ⟨e1, e4, -⟩ ⟨v1, v2, B, hf0, hf4, hf5, hf8, hd0, t⟩
   obtain ⟨u1, rfl⟩ := up1 hf8
   have H := B
   refine O.move (v := (.int .i64 ((a0_0.length : Nat) : Int))) rfl rfl rfl ?_
   exact WL.nil ⟨v1, v2, B, hf0, hf4, hf5, rfl, (fun _ => rfl), t⟩
  ·
   rintro S f w hS ⟨e0, -⟩ ⟨e4, -⟩ ⟨_, v2, B, hf0, hf4, hf5, hf8, hd0, hd1, hd2, hd3, hd4, W0, W1, W2, W3⟩
   have hf20 := hd0 e0
   obtain ⟨u2, rfl⟩ := up1 hf20
   rcases bool_ft (S 3) with e3 | e3
   ·
    have H := W0 hS e3
    refine O.makeSlice Try.underlying22 zel3 rfl H ht1 rfl rfl rfl rfl ?_
    intro v1 w3 H hb3
    refine WL.nil ?_
    have H := H.pick [0, 1, 4, 3] [boxI b1 87 [(.int .i64 a1.clock), (.int .i64 a1.at_)], boxI b2 87 [(.int .i64 a2.clock), (.int .i64 a2.at_)], ownI (α := Int) v1 3 t1, goneI] rfl (by decide)
    exact ⟨v1, v2, (H.pick [] [] rfl (by decide)), hf0, hf4, hf5, hf8, hd0, (fun _ => rfl), hd2, hd3, (fun a => nT a e4), (fun a _ => nG a), (fun _ _ => H), (fun a _ => nG a), (fun _ a => nX e3 a)⟩
   ·
    have H := W2 hS e3
    refine O.makeSlice Try.underlying22 zel3 rfl H ht1 rfl rfl rfl rfl ?_
    intro v1 w3 H hb3
    refine WL.nil ?_
    have H := H.pick [0, 1, 4, 3] [boxI b1 87 [(.int .i64 a1.clock), (.int .i64 a1.at_)], boxI b2 87 [(.int .i64 a2.clock), (.int .i64 a2.at_)], ownI (α := Int) v1 3 t1, ownI (α := Bool) v2 4 t2] rfl (by decide)
    exact ⟨v1, v2, (H.pick [] [] rfl (by decide)), hf0, hf4, hf5, hf8, hd0, (fun _ => rfl), hd2, hd3, (fun a => nT a e4), (fun a _ => nG a), (fun _ a => nT e3 a), (fun a _ => nG a), (fun _ _ => H)⟩
  ·
   rintro S f w hS - ⟨e3, -⟩ ⟨v1, v2, B, hf0, hf4, hf5, hf8, hd0, hd1, hd2, t⟩
   obtain ⟨u3, rfl⟩ := up1 hf8
   have H := B
   refine O.move (v := (.int .i64 ((a0_0.length : Nat) : Int))) rfl rfl rfl ?_
   exact WL.nil ⟨v1, v2, B, hf0, hf4, hf5, rfl, hd0, hd1, (fun _ => rfl), t⟩
  ·
   rintro S f w hS ⟨e2, -⟩ - ⟨v1, _, B, hf0, hf4, hf5, hf8, hd0, hd1, hd2, hd3, hd4, W0, W1, W2, W3⟩
   have hf22 := hd2 e2
   obtain ⟨u4, rfl⟩ := up1 hf22
   rcases bool_ft (S 1) with e1 | e1
   ·
    have H := W0 e1 hS
    refine O.makeSlice Try.underlying95 zel4 rfl H ht2 rfl rfl rfl rfl ?_
    intro v2 w4 H hb4
    refine WL.nil ?_
    have H := H.pick [0, 1, 2, 4] [boxI b1 87 [(.int .i64 a1.clock), (.int .i64 a1.at_)], boxI b2 87 [(.int .i64 a2.clock), (.int .i64 a2.at_)], goneI, ownI (α := Bool) v2 4 t2] rfl (by decide)
    exact ⟨v1, v2, (H.pick [] [] rfl (by decide)), hf0, hf4, hf5, hf8, hd0, hd1, hd2, (fun _ => rfl), hd4, (fun _ a => nG a), (fun a _ => nX e1 a), (fun _ _ => H), (fun a _ => nX e1 a)⟩
   ·
    have H := W1 e1 hS
    refine O.makeSlice Try.underlying95 zel4 rfl H ht2 rfl rfl rfl rfl ?_
    intro v2 w4 H hb4
    refine WL.nil ?_
    have H := H.pick [0, 1, 2, 4] [boxI b1 87 [(.int .i64 a1.clock), (.int .i64 a1.at_)], boxI b2 87 [(.int .i64 a2.clock), (.int .i64 a2.at_)], ownI (α := Int) v1 3 t1, ownI (α := Bool) v2 4 t2] rfl (by decide)
    exact ⟨v1, v2, (H.pick [] [] rfl (by decide)), hf0, hf4, hf5, hf8, hd0, hd1, hd2, (fun _ => rfl), hd4, (fun a _ => nT e1 a), (fun _ a => nG a), (fun a _ => nT e1 a), (fun _ _ => H)⟩
  ·
   rintro S f w hS ⟨e0, e1, -⟩ - ⟨v1, v2, B, hf0, hf4, hf5, hf8, hd0, hd1, hd2, hd3, hd4, t⟩
   have hf21 := hd1 e1
   obtain ⟨u5, rfl⟩ := up1 hf21
   have H := B
   refine O.assign (v := v1) rfl rfl rfl ?_
   exact WL.nil ⟨v1, v2, B, hf0, hf4, hf5, hf8, hd0, hd1, hd2, hd3, (fun _ => rfl), t⟩
 ·
  rintro S f w ⟨e0, e1, e2, e3, e4, -⟩ ⟨v1, v2, B, hf0, hf4, hf5, hf8, hd0, hd1, hd2, hd3, hd4, W0, W1, W2, W3⟩
  have hf9 := hd4 e4
  have hf23 := hd3 e3
  have H := W3 e1 e3
  obtain ⟨u6, rfl⟩ := up6 hf0 hf4 hf5 hf8 hf9 hf23
  refine O.assign (v := v2) rfl rfl rfl ?_
  refine WL.nil ?_
  refine W.seq ?_
  refine W.drawN 7 (fun f => f 0 = (.pointer (some pa0)) ∧ f 5 = (.pointer (some ⟨b2, 0, none⟩)) ∧ f 8 = (.int .i64 ((a0_0.length : Nat) : Int)) ∧ f 9 = v1 ∧ f 10 = v2 ∧ f 24 = v2 ∧ f 30 = (.int .i64 ((mget a0_0 a1).getD 0))) fol (by kernel_rfl) ?_ ?_
  ·
   refine PL.of (fun _ w8 _ hx => O.move (v := v2) rfl rfl rfl (WL.nil ⟨rfl, hx⟩)) ?_
   refine PL.of (fun _ w8 _ hx => O.move (v := (.pointer (some pa0))) rfl rfl rfl (WL.nil ⟨rfl, hx⟩)) ?_
   refine PL.of (fun _ w8 _ hx => O.nilCheck rfl rfl rfl (WL.nil ⟨rfl, hx⟩)) ?_
   refine PL.of (fun _ w8 _ hx => O.fieldAddr fd104_0 rfl rfl rfl (WL.nil ⟨rfl, hx⟩)) ?_
   refine PL.of (fun _ w8 _ hx => by have H := H.ext hx; exact O.load sc101 rfl rfl rfl (cells_mono ha0 H.base 0 _ rfl) (WL.nil ⟨rfl, hx⟩)) ?_
   refine PL.of (fun _ w8 _ hx => by have H := H.ext hx; exact O.loadA [(.int .i64 a1.clock), (.int .i64 a1.at_)] ag87 rfl rfl rfl rfl (H.cell 0 rfl) (WL.nil ⟨rfl, hx⟩)) ?_
   refine PL.of (fun _ w8 _ hx => by have H := H.ext hx; exact O.lookup1 (z := 0) a1 Try.underlying101 key87 ze3 (H.argM ra0_0) rfl rfl rfl rfl (WL.nil ⟨rfl, hx⟩)) ?_
   refine PL.nil ?_
   exact ⟨rfl, rfl, rfl, rfl, rfl, rfl, rfl⟩
  ·
   rintro f w ⟨hf0, hf5, hf8, hf9, hf10, hf24, hf30⟩ hmd hx
   have H := H.ext hx
   obtain ⟨u7, rfl⟩ := up7 hf0 hf5 hf8 hf9 hf10 hf24 hf30
   obtain ⟨x1, hx1, hm⟩ := bind_some hm
   refine O.indexOwn 3 Try.underlying95 sz4 H rfl hx1 rfl rfl rfl rfl ?_
   intro b3 hob1 hp1
   refine O.storeOwn (α := Bool) (i0 := ((mget a0_0 a1).getD 0)) (x0 := x1) 3 0 true [(.bool true)] sz4 H rfl hob1 hx1 rfl rfl rfl rfl rfl rfl rfl rfl (one_cons rfl one_nil) ?_
   intro w5 H
   clear hp1
   refine WL.nil ?_
   refine W.seq ?_
   refine W.seq ?_
   refine W.region ?_
   refine O.move (v := (.int .i64 ((a0_0.length : Nat) : Int))) rfl rfl rfl ?_
   refine O.move (v := (.int .i64 0)) rfl rfl rfl ?_
   refine WL.nil ?_
   obtain ⟨⟨s1, s2⟩, hm1, hm⟩ := bind_some hm
   refine W.via (fun f w => ∃ v9 : Value, ∃ v10 : Value, f 0 = (.pointer (some pa0)) ∧ f 5 = (.pointer (some ⟨b2, 0, none⟩)) ∧ f 9 = v9 ∧ f 10 = v10 ∧ Inv w0 w [boxI b2 87 [(.int .i64 a2.clock), (.int .i64 a2.at_)], ownI (α := Int) v9 3 s1, ownI (α := Bool) v10 4 s2]) ?_ ?_
   ·
    refine W.block ?_
    obtain ⟨hbdik1, hm1⟩ := chk_some hm1
    have H := H.keep [1, 2, 3] [boxI b2 87 [(.int .i64 a2.clock), (.int .i64 a2.at_)], ownI (α := Int) v1 3 t1, ownI (α := Bool) v2 4 (t2.set (Int.toNat ((mget a0_0 a1).getD 0)) true)] rfl (by decide)
    refine W.rangeN (i := 0) hm1 (fun rem ik1 s f w => ∃ z3 : (List Int), ∃ z4 : (List Bool), ∃ v5 : Value, ∃ v6 : Value, (z3, z4) = s ∧ (ik1 : Int) + rem = max 0 ((a0_0.length : Nat) : Int) ∧ f 33 = .int .i64 (ik1 : Int) ∧ f 32 = (.int .i64 ((a0_0.length : Nat) : Int)) ∧ f 0 = (.pointer (some pa0)) ∧ f 5 = (.pointer (some ⟨b2, 0, none⟩)) ∧ f 9 = v5 ∧ f 10 = v6 ∧ Inv w0 w [boxI b2 87 [(.int .i64 a2.clock), (.int .i64 a2.at_)], ownI (α := Int) v5 3 z3, ownI (α := Bool) v6 4 z4]) ?_ ?_ ?_
    ·
     exact ⟨_, _, v1, v2, rfl, rangeN_start, rfl, rfl, rfl, rfl, rfl, rfl, H⟩
    ·
     rintro k ik1 _ st f w ⟨z3, z4, v5, v6, rfl, hdropk1, hf33, hf32, hf0, hf5, hf9, hf10, H⟩ hm2
     have hltk1 := rangeN_lt hdropk1
     obtain ⟨u8, rfl⟩ := up6 hf33 hf32 hf0 hf5 hf9 hf10
     have hinck1 := addI_lt hltk1 (inI_iff.1 hbdik1).2
     refine W.seq ?_
     refine W.region ?_
     refine O.lss rfl rfl rfl rfl ?_
     refine WL.nil ?_
     refine W.seq ?_
     refine W.cond_true (congrArg Value.bool (decide_eq_true hltk1)) ?_
     refine W.skip ?_
     refine W.seq ?_
     obtain ⟨⟨s3, s4⟩, hm3, hm2⟩ := bind_some hm2
     refine W.via (fun f w => ∃ v11 : Value, ∃ v12 : Value, f 0 = (.pointer (some pa0)) ∧ f 5 = (.pointer (some ⟨b2, 0, none⟩)) ∧ f 9 = v11 ∧ f 10 = v12 ∧ f 32 = (.int .i64 ((a0_0.length : Nat) : Int)) ∧ f 33 = (.int .i64 (ik1 : Int)) ∧ Inv w0 w [boxI b2 87 [(.int .i64 a2.clock), (.int .i64 a2.at_)], ownI (α := Int) v11 3 s3, ownI (α := Bool) v12 4 s4]) ?_ ?_
     ·
      refine W.block ?_
      refine W.seq ?_
      refine W.region ?_
      refine O.move (v := (.pointer (some pa0))) rfl rfl rfl ?_
      refine O.nilCheck rfl rfl rfl ?_
      refine O.fieldAddr fd104_1 rfl rfl rfl ?_
      refine O.load sc102 rfl rfl rfl (cells_mono ha0 H.base 1 _ rfl) ?_
      refine O.lenS Try.underlying102 (H.arg ra0_1) rfl rfl rfl ?_
      refine O.move (v := (.int .i64 0)) rfl rfl rfl ?_
      refine WL.nil ?_
      obtain ⟨⟨s5, s6⟩, hm4, hm3⟩ := bind_some hm3
      refine W.via (fun f w => ∃ v19 : Value, ∃ v20 : Value, f 0 = (.pointer (some pa0)) ∧ f 5 = (.pointer (some ⟨b2, 0, none⟩)) ∧ f 9 = v19 ∧ f 10 = v20 ∧ f 32 = (.int .i64 ((a0_0.length : Nat) : Int)) ∧ f 33 = (.int .i64 (ik1 : Int)) ∧ Inv w0 w [boxI b2 87 [(.int .i64 a2.clock), (.int .i64 a2.at_)], ownI (α := Int) v19 3 s5, ownI (α := Bool) v20 4 s6]) ?_ ?_
      ·
       refine W.block ?_
       refine W.rangeL (i := 0) hm4 (fun rem ik2 s f w => ∃ z9 : (List Int), ∃ z10 : (List Bool), ∃ v15 : Value, ∃ v16 : Value, (z9, z10) = s ∧ a0_1.drop ik2 = rem ∧ f 40 = .int .i64 (ik2 : Int) ∧ f 39 = (.int .i64 ((a0_1.length : Nat) : Int)) ∧ f 0 = (.pointer (some pa0)) ∧ f 5 = (.pointer (some ⟨b2, 0, none⟩)) ∧ f 9 = v15 ∧ f 10 = v16 ∧ f 32 = (.int .i64 ((a0_0.length : Nat) : Int)) ∧ f 33 = (.int .i64 (ik1 : Int)) ∧ f 38 = va0_1 ∧ Inv w0 w [boxI b2 87 [(.int .i64 a2.clock), (.int .i64 a2.at_)], ownI (α := Int) v15 3 z9, ownI (α := Bool) v16 4 z10]) ?_ ?_ ?_
       ·
        exact ⟨_, _, v5, v6, rfl, List.drop_zero, rfl, rfl, rfl, rfl, rfl, rfl, rfl, rfl, rfl, H⟩
       ·
        rintro yk2 xs ik2 _ st f w ⟨z9, z10, v15, v16, rfl, hdropk2, hf40, hf39, hf0, hf5, hf9, hf10, hf32, hf33, hf38, H⟩ hm5
        have hltk2 := drop_lt hdropk2; have hixk2 := drop_idx hdropk2
        obtain ⟨u9, rfl⟩ := up9 hf40 hf39 hf0 hf5 hf9 hf10 hf32 hf33 hf38
        have hinck2 := addI_lt hltk2 (H.arg ra0_1).len_le
        refine W.seq ?_
        refine W.region ?_
        refine O.lss rfl rfl rfl rfl ?_
        refine WL.nil ?_
        refine W.seq ?_
        refine W.cond_true (congrArg Value.bool (decide_eq_true hltk2)) ?_
        refine W.skip ?_
        refine W.seq ?_
        obtain ⟨⟨s7, s8⟩, hm6, hm5⟩ := bind_some hm5
        refine W.via (fun f w => ∃ v21 : Value, ∃ v22 : Value, f 0 = (.pointer (some pa0)) ∧ f 5 = (.pointer (some ⟨b2, 0, none⟩)) ∧ f 9 = v21 ∧ f 10 = v22 ∧ f 32 = (.int .i64 ((a0_0.length : Nat) : Int)) ∧ f 33 = (.int .i64 (ik1 : Int)) ∧ f 38 = va0_1 ∧ f 39 = (.int .i64 ((a0_1.length : Nat) : Int)) ∧ f 40 = (.int .i64 (ik2 : Int)) ∧ Inv w0 w [boxI b2 87 [(.int .i64 a2.clock), (.int .i64 a2.at_)], ownI (α := Int) v21 3 s7, ownI (α := Bool) v22 4 s8]) ?_ ?_
        ·
         refine W.block ?_
         refine W.seq ?_
         refine W.region ?_
         obtain ⟨p1, hp2, hrp1⟩ := fix_indexAddr Try.underlying102 sz108 ra0_1 hixk2
         refine hrp1 rfl rfl rfl rfl ?_
         refine O.loadA [(.int .i64 yk2.from_), (.int .i64 yk2.to), (.int .i64 yk2.cost), (.int .i64 yk2.number)] ag108 rfl rfl rfl rfl ((hp2.mono H.base).flat) ?_
         refine O.alloc [(.int .i64 0), (.int .i64 0), (.int .i64 0), (.int .i64 0)] ze108 H rfl rfl rfl ?_
         intro b4 w6 H hb5
         refine O.store 3 0 [(.int .i64 yk2.from_), (.int .i64 yk2.to), (.int .i64 yk2.cost), (.int .i64 yk2.number)] [(.int .i64 yk2.from_), (.int .i64 yk2.to), (.int .i64 yk2.cost), (.int .i64 yk2.number)] sz108 H rfl rfl rfl rfl rfl rfl ⟨⟨rfl, rfl⟩, rfl⟩ (one_cons rfl (one_cons rfl (one_cons rfl (one_cons rfl one_nil)))) ?_
         intro w7 H
         refine WL.nil ?_
         refine W.seq ?_
         obtain ⟨x2, hx2, hm6⟩ := bind_some hm6
         obtain ⟨p2, hp3, hrp2⟩ := fix_indexAddr Try.underlying22 sz3 (H.own 1 rfl) hx2
         refine W.drawN 7 (fun f => f 0 = (.pointer (some pa0)) ∧ f 5 = (.pointer (some ⟨b2, 0, none⟩)) ∧ f 9 = v15 ∧ f 10 = v16 ∧ f 12 = (.pointer (some ⟨b4, 0, none⟩)) ∧ f 32 = (.int .i64 ((a0_0.length : Nat) : Int)) ∧ f 33 = (.int .i64 (ik1 : Int)) ∧ f 38 = va0_1 ∧ f 39 = (.int .i64 ((a0_1.length : Nat) : Int)) ∧ f 40 = (.int .i64 (ik2 : Int)) ∧ f 48 = (.int .i64 x2) ∧ f 50 = (.int .i64 yk2.cost)) fol (by kernel_rfl) ?_ ?_
         ·
          refine PL.of (fun _ w8 _ hx => O.move (v := v15) rfl rfl rfl (WL.nil ⟨rfl, hx⟩)) ?_
          refine PL.of (fun _ w8 _ hx => O.fieldAddr fd108_0 rfl rfl rfl (WL.nil ⟨rfl, hx⟩)) ?_
          refine PL.of (fun _ w8 _ hx => by have H := H.ext hx; exact O.load sc3 rfl rfl rfl (H.cell 3 rfl 0 _ rfl) (WL.nil ⟨rfl, hx⟩)) ?_
          refine PL.of (fun _ w8 _ hx => hrp2 rfl rfl rfl rfl (WL.nil ⟨rfl, hx⟩)) ?_
          refine PL.of (fun _ w8 _ hx => by have hp3 := hp3.mono hx; exact O.load sc3 rfl rfl rfl (hp3.flat 0 _ rfl) (WL.nil ⟨rfl, hx⟩)) ?_
          refine PL.of (fun _ w8 _ hx => O.fieldAddr fd108_2 rfl rfl rfl (WL.nil ⟨rfl, hx⟩)) ?_
          refine PL.of (fun _ w8 _ hx => by have H := H.ext hx; exact O.load sc3 rfl rfl rfl (H.cell 3 rfl 2 _ rfl) (WL.nil ⟨rfl, hx⟩)) ?_
          refine PL.nil ?_
          exact ⟨rfl, rfl, rfl, rfl, rfl, rfl, rfl, rfl, rfl, rfl, rfl, rfl⟩
         ·
          rintro f w ⟨hf0, hf5, hf9, hf10, hf12, hf32, hf33, hf38, hf39, hf40, hf48, hf50⟩ hmd hx
          have H := H.ext hx
          have hp3 := hp3.mono hx
          obtain ⟨u10, rfl⟩ : ∃ u10, f = (upd (upd (upd (upd (upd (upd (upd (upd (upd (upd (upd (upd u10 0 (.pointer (some pa0))) 5 (.pointer (some ⟨b2, 0, none⟩))) 9 v15) 10 v16) 12 (.pointer (some ⟨b4, 0, none⟩))) 32 (.int .i64 ((a0_0.length : Nat) : Int))) 33 (.int .i64 (ik1 : Int))) 38 va0_1) 39 (.int .i64 ((a0_1.length : Nat) : Int))) 40 (.int .i64 (ik2 : Int))) 48 (.int .i64 x2)) 50 (.int .i64 yk2.cost)) := ⟨f, by rw [upd_self hf0, upd_self hf5, upd_self hf9, upd_self hf10, upd_self hf12, upd_self hf32, upd_self hf33, upd_self hf38, upd_self hf39, upd_self hf40, upd_self hf48, upd_self hf50]⟩
          obtain ⟨t3, ht3, hm6⟩ := bind_some hm6
          refine O.add rfl rfl rfl rfl ht3 ?_
          refine O.assign (v := (.int .i64 t3)) rfl rfl rfl ?_
          refine WL.nil ?_
          refine W.seq ?_
          refine W.region ?_
          refine O.move (v := v16) rfl rfl rfl ?_
          refine O.fieldAddr fd108_0 rfl rfl rfl ?_
          refine O.load sc3 rfl rfl rfl (H.cell 3 rfl 0 _ rfl) ?_
          obtain ⟨x3, hx3, hm6⟩ := bind_some hm6
          refine O.indexAddr Try.underlying95 sz4 (H.own 2 rfl) hx3 rfl rfl rfl rfl ?_
          intro p3 hp4
          refine O.load sc4 rfl rfl rfl (hp4.flat 0 _ rfl) ?_
          refine O.move (v := (.bool x3)) rfl rfl rfl ?_
          obtain ⟨b5, hm7, hm6⟩ := bind_some hm6
          refine WL.cut 16 (fun f w => f 0 = (.pointer (some pa0)) ∧ f 5 = (.pointer (some ⟨b2, 0, none⟩)) ∧ f 9 = v15 ∧ f 10 = v16 ∧ f 12 = (.pointer (some ⟨b4, 0, none⟩)) ∧ f 13 = (.int .i64 t3) ∧ f 32 = (.int .i64 ((a0_0.length : Nat) : Int)) ∧ f 33 = (.int .i64 (ik1 : Int)) ∧ f 38 = va0_1 ∧ f 39 = (.int .i64 ((a0_1.length : Nat) : Int)) ∧ f 40 = (.int .i64 (ik2 : Int)) ∧ f 73 = .bool b5 ∧ Inv w0 w [boxI b2 87 [(.int .i64 a2.clock), (.int .i64 a2.at_)], ownI (α := Int) v15 3 z9, ownI (α := Bool) v16 4 z10, boxI b4 108 [(.int .i64 yk2.from_), (.int .i64 yk2.to), (.int .i64 yk2.cost), (.int .i64 yk2.number)]]) ?_ ?_
          ·
           rcases ite_some hm7 with ⟨hc1, hm7⟩ | ⟨hc1, hm7⟩
           ·
            refine WL.reset (i := 57) (v := .bool true) (congrArg Value.bool hc1) ?_
            refine O.move (v := v16) rfl rfl rfl ?_
            refine O.fieldAddr fd108_1 rfl rfl rfl ?_
            refine O.load sc3 rfl rfl rfl (H.cell 3 rfl 1 _ rfl) ?_
            obtain ⟨x4, hx4, hm7⟩ := bind_some hm7
            refine O.indexAddr Try.underlying95 sz4 (H.own 2 rfl) hx4 rfl rfl rfl rfl ?_
            intro p4 hp5
            refine O.load sc4 rfl rfl rfl (hp5.flat 0 _ rfl) ?_
            refine O.not rfl rfl rfl ?_
            refine O.move (v := (.bool (!x4))) rfl rfl rfl ?_
            obtain ⟨b6, hm8, hm7⟩ := bind_some hm7
            refine WL.cut 8 (fun f w => f 0 = (.pointer (some pa0)) ∧ f 5 = (.pointer (some ⟨b2, 0, none⟩)) ∧ f 9 = v15 ∧ f 10 = v16 ∧ f 12 = (.pointer (some ⟨b4, 0, none⟩)) ∧ f 13 = (.int .i64 t3) ∧ f 32 = (.int .i64 ((a0_0.length : Nat) : Int)) ∧ f 33 = (.int .i64 (ik1 : Int)) ∧ f 38 = va0_1 ∧ f 39 = (.int .i64 ((a0_1.length : Nat) : Int)) ∧ f 40 = (.int .i64 (ik2 : Int)) ∧ f 57 = (.bool true) ∧ f 58 = v16 ∧ f 59 = (.pointer (some (Addr.add (Addr.mk b4 0 none) 1))) ∧ f 60 = (.int .i64 yk2.to) ∧ f 61 = (.pointer (some p4)) ∧ f 62 = (.bool x4) ∧ f 63 = (.bool (!x4)) ∧ f 64 = (.bool (!x4)) ∧ f 72 = .bool b6 ∧ Inv w0 w [boxI b2 87 [(.int .i64 a2.clock), (.int .i64 a2.at_)], ownI (α := Int) v15 3 z9, ownI (α := Bool) v16 4 z10, boxI b4 108 [(.int .i64 yk2.from_), (.int .i64 yk2.to), (.int .i64 yk2.cost), (.int .i64 yk2.number)]]) ?_ ?_
            ·
             rcases ite_some hm8 with ⟨hc2, hm8⟩ | ⟨hc2, hm8⟩
             ·
              refine WL.reset (i := 64) (v := .bool true) (congrArg Value.bool hc2) ?_
              refine O.skip rfl rfl ?_
              refine O.skip rfl rfl ?_
              refine O.skip rfl rfl ?_
              refine O.skip rfl rfl ?_
              refine O.skip rfl rfl ?_
              refine O.skip rfl rfl ?_
              refine O.skip rfl rfl ?_
              refine O.pick_true (v := (.bool true)) rfl rfl rfl rfl ?_
              refine WL.nil ?_
              have hq : true = b6 := Option.some.inj (show some true = some b6 from hm8)
              subst hq
              exact ⟨rfl, rfl, rfl, rfl, rfl, rfl, rfl, rfl, rfl, rfl, rfl, rfl, rfl, rfl, rfl, rfl, rfl, rfl, (congrArg Value.bool hc2).symm, rfl, H⟩
             ·
              refine WL.reset (i := 64) (v := .bool false) (congrArg Value.bool hc2) ?_
              refine O.move (v := (.int .i64 t3)) rfl rfl rfl ?_
              refine O.move (v := v15) rfl rfl rfl ?_
              refine O.fieldAddr fd108_1 rfl rfl rfl ?_
              refine O.load sc3 rfl rfl rfl (H.cell 3 rfl 1 _ rfl) ?_
              obtain ⟨x5, hx5, hm8⟩ := bind_some hm8
              refine O.indexAddr Try.underlying22 sz3 (H.own 1 rfl) hx5 rfl rfl rfl rfl ?_
              intro p5 hp6
              refine O.load sc3 rfl rfl rfl (hp6.flat 0 _ rfl) ?_
              refine O.lss rfl rfl rfl rfl ?_
              refine O.pick_false (v := (.bool (decide (t3 < x5)))) rfl rfl rfl rfl ?_
              refine WL.nil ?_
              have hq : (decide (t3 < x5)) = b6 := Option.some.inj (show some (decide (t3 < x5)) = some b6 from hm8)
              subst hq
              exact ⟨rfl, rfl, rfl, rfl, rfl, rfl, rfl, rfl, rfl, rfl, rfl, rfl, rfl, rfl, rfl, rfl, rfl, rfl, (congrArg Value.bool hc2).symm, rfl, H⟩
            ·
             rintro f w ⟨hf0, hf5, hf9, hf10, hf12, hf13, hf32, hf33, hf38, hf39, hf40, hf57, hf58, hf59, hf60, hf61, hf62, hf63, hf64, hf72, H⟩
             obtain ⟨u11, rfl⟩ : ∃ u11, f = (upd (upd (upd (upd (upd (upd (upd (upd (upd (upd (upd (upd (upd (upd (upd (upd (upd (upd (upd (upd u11 0 (.pointer (some pa0))) 5 (.pointer (some ⟨b2, 0, none⟩))) 9 v15) 10 v16) 12 (.pointer (some ⟨b4, 0, none⟩))) 13 (.int .i64 t3)) 32 (.int .i64 ((a0_0.length : Nat) : Int))) 33 (.int .i64 (ik1 : Int))) 38 va0_1) 39 (.int .i64 ((a0_1.length : Nat) : Int))) 40 (.int .i64 (ik2 : Int))) 57 (.bool true)) 58 v16) 59 (.pointer (some (Addr.add (Addr.mk b4 0 none) 1)))) 60 (.int .i64 yk2.to)) 61 (.pointer (some p4))) 62 (.bool x4)) 63 (.bool (!x4))) 64 (.bool (!x4))) 72 (.bool b6)) := ⟨f, by rw [upd_self hf0, upd_self hf5, upd_self hf9, upd_self hf10, upd_self hf12, upd_self hf13, upd_self hf32, upd_self hf33, upd_self hf38, upd_self hf39, upd_self hf40, upd_self hf57, upd_self hf58, upd_self hf59, upd_self hf60, upd_self hf61, upd_self hf62, upd_self hf63, upd_self hf64, upd_self hf72]⟩
             refine O.pick_true (v := (.bool b6)) rfl rfl rfl rfl ?_
             refine WL.nil ?_
             have hq : b6 = b5 := Option.some.inj (show some b6 = some b5 from hm7)
             subst hq
             exact ⟨rfl, rfl, rfl, rfl, rfl, rfl, rfl, rfl, rfl, rfl, rfl, rfl, H⟩
           ·
            refine WL.reset (i := 57) (v := .bool false) (congrArg Value.bool hc1) ?_
            refine O.skip rfl rfl ?_
            refine O.skip rfl rfl ?_
            refine O.skip rfl rfl ?_
            refine O.skip rfl rfl ?_
            refine O.skip rfl rfl ?_
            refine O.skip rfl rfl ?_
            refine O.skip rfl rfl ?_
            refine O.skip rfl rfl ?_
            refine O.skip rfl rfl ?_
            refine O.skip rfl rfl ?_
            refine O.skip rfl rfl ?_
            refine O.skip rfl rfl ?_
            refine O.skip rfl rfl ?_
            refine O.skip rfl rfl ?_
            refine O.skip rfl rfl ?_
            refine O.pick_false (v := (.bool false)) rfl rfl rfl rfl ?_
            refine WL.nil ?_
            have hq : false = b5 := Option.some.inj (show some false = some b5 from hm7)
            subst hq
            exact ⟨rfl, rfl, rfl, rfl, rfl, rfl, rfl, rfl, rfl, rfl, rfl, rfl, H⟩
          ·
           rintro f w ⟨hf0, hf5, hf9, hf10, hf12, hf13, hf32, hf33, hf38, hf39, hf40, hf73, H⟩
           obtain ⟨u12, rfl⟩ : ∃ u12, f = (upd (upd (upd (upd (upd (upd (upd (upd (upd (upd (upd (upd u12 0 (.pointer (some pa0))) 5 (.pointer (some ⟨b2, 0, none⟩))) 9 v15) 10 v16) 12 (.pointer (some ⟨b4, 0, none⟩))) 13 (.int .i64 t3)) 32 (.int .i64 ((a0_0.length : Nat) : Int))) 33 (.int .i64 (ik1 : Int))) 38 va0_1) 39 (.int .i64 ((a0_1.length : Nat) : Int))) 40 (.int .i64 (ik2 : Int))) 73 (.bool b5)) := ⟨f, by rw [upd_self hf0, upd_self hf5, upd_self hf9, upd_self hf10, upd_self hf12, upd_self hf13, upd_self hf32, upd_self hf33, upd_self hf38, upd_self hf39, upd_self hf40, upd_self hf73]⟩
           refine WL.nil ?_
           obtain ⟨⟨s9, s10⟩, hm9, hm6⟩ := bind_some hm6
           refine W.via (fun f w => ∃ v23 : Value, ∃ v24 : Value, f 0 = (.pointer (some pa0)) ∧ f 5 = (.pointer (some ⟨b2, 0, none⟩)) ∧ f 9 = v23 ∧ f 10 = v24 ∧ f 32 = (.int .i64 ((a0_0.length : Nat) : Int)) ∧ f 33 = (.int .i64 (ik1 : Int)) ∧ f 38 = va0_1 ∧ f 39 = (.int .i64 ((a0_1.length : Nat) : Int)) ∧ f 40 = (.int .i64 (ik2 : Int)) ∧ Inv w0 w [boxI b2 87 [(.int .i64 a2.clock), (.int .i64 a2.at_)], ownI (α := Int) v23 3 s9, ownI (α := Bool) v24 4 s10]) ?_ ?_
           ·
            rcases ite_some hm9 with ⟨hc3, hm9⟩ | ⟨hc3, hm9⟩
            ·
             refine W.cond_true (congrArg Value.bool hc3) ?_
             obtain ⟨x6, hx6, hm9⟩ := bind_some hm9
             refine W.drawD 9 [[], [], [1], [], [], [4], [], [0, 1, 2, 6], [0, 1, 2, 6, 7]] [[7, 8], [2, 7, 8], [7, 8], [], [5], [], [7, 8], [8], []] (fun S f w => ∃ b7 : Nat, Inv w0 w [] ∧ f 0 = (.pointer (some pa0)) ∧ f 5 = (.pointer (some ⟨b2, 0, none⟩)) ∧ f 9 = v15 ∧ f 10 = v16 ∧ f 12 = (.pointer (some ⟨b4, 0, none⟩)) ∧ f 13 = (.int .i64 t3) ∧ f 32 = (.int .i64 ((a0_0.length : Nat) : Int)) ∧ f 33 = (.int .i64 (ik1 : Int)) ∧ f 38 = va0_1 ∧ f 39 = (.int .i64 ((a0_1.length : Nat) : Int)) ∧ f 40 = (.int .i64 (ik2 : Int)) ∧ (S 0 = true → f 74 = v15) ∧ (S 1 = true → f 75 = (.pointer (some (Addr.add (Addr.mk b4 0 none) 1)))) ∧ (S 2 = true → f 76 = (.int .i64 yk2.to)) ∧ (S 3 = true → f 77 = v16) ∧ (S 4 = true → f 78 = (.pointer (some (Addr.add (Addr.mk b4 0 none) 1)))) ∧ (S 5 = true → f 79 = (.int .i64 yk2.to)) ∧ (S 6 = true → f 80 = (.int .i64 t3)) ∧ (S 7 = true → f 81 = (.pointer (some ⟨b7, Int.toNat yk2.to * Flat.size Int, none⟩))) ∧ (S 7 = true → Value.ownBlock v15 = some b7) ∧ (S 7 = true → S 8 = false → (ElemAt w (⟨b7, Int.toNat yk2.to * Flat.size Int, none⟩ : Addr) x6)) ∧ (S 8 = false → Inv w0 w [boxI b2 87 [(.int .i64 a2.clock), (.int .i64 a2.at_)], ownI (α := Int) v15 3 z9, ownI (α := Bool) v16 4 z10, boxI b4 108 [(.int .i64 yk2.from_), (.int .i64 yk2.to), (.int .i64 yk2.cost), (.int .i64 yk2.number)]]) ∧ (S 8 = true → Inv w0 w [boxI b2 87 [(.int .i64 a2.clock), (.int .i64 a2.at_)], ownI (α := Int) v15 3 (z9.set (Int.toNat yk2.to) t3), ownI (α := Bool) v16 4 z10, boxI b4 108 [(.int .i64 yk2.from_), (.int .i64 yk2.to), (.int .i64 yk2.cost), (.int .i64 yk2.number)]])) fol (by kernel_rfl) ?_ ?_ ?_
             ·
              exact fun d _ => ⟨0, ((H.ext (below_drawn d)).pick [] [] rfl (by decide)), rfl, rfl, rfl, rfl, rfl, rfl, rfl, rfl, rfl, rfl, rfl, nF, nF, nF, nF, nF, nF, nF, nF, nF, nF, (fun _ => H.ext (below_drawn d)), nF⟩
             ·
              refine ⟨?_, ⟨?_, ⟨?_, ⟨?_, ⟨?_, ⟨?_, ⟨?_, ⟨?_, ⟨?_, trivial⟩⟩⟩⟩⟩⟩⟩⟩⟩
              ·
               rintro S f w hS - ⟨e7, e8, -⟩ ⟨b7, B, hf0, hf5, hf9, hf10, hf12, hf13, hf32, hf33, hf38, hf39, hf40, hd0, hd1, hd2, hd3, hd4, hd5, hd6, hd7, Fhob2, Fhp7, t⟩
               obtain ⟨u13, rfl⟩ := up1 hf9
               have H := t.1 e8
               refine O.move (v := v15) rfl rfl rfl ?_
               exact WL.nil ⟨b7, B, hf0, hf5, rfl, hf10, hf12, hf13, hf32, hf33, hf38, hf39, hf40, (fun _ => rfl), hd1, hd2, hd3, hd4, hd5, hd6, hd7, Fhob2, (fun g0 g1 => Fhp7 g0 g1), t⟩
              ·
               rintro S f w hS - ⟨e2, e7, e8, -⟩ ⟨b7, B, hf0, hf5, hf9, hf10, hf12, hf13, hf32, hf33, hf38, hf39, hf40, hd0, hd1, hd2, hd3, hd4, hd5, hd6, hd7, Fhob2, Fhp7, t⟩
               obtain ⟨u14, rfl⟩ := up1 hf12
               have H := t.1 e8
               refine O.fieldAddr fd108_1 rfl rfl rfl ?_
               exact WL.nil ⟨b7, B, hf0, hf5, hf9, hf10, rfl, hf13, hf32, hf33, hf38, hf39, hf40, hd0, (fun _ => rfl), hd2, hd3, hd4, hd5, hd6, hd7, Fhob2, (fun g0 g1 => Fhp7 g0 g1), t⟩
              ·
               rintro S f w hS ⟨e1, -⟩ ⟨e7, e8, -⟩ ⟨b7, B, hf0, hf5, hf9, hf10, hf12, hf13, hf32, hf33, hf38, hf39, hf40, hd0, hd1, hd2, hd3, hd4, hd5, hd6, hd7, Fhob2, Fhp7, t⟩
               have hf75 := hd1 e1
               obtain ⟨u15, rfl⟩ := up1 hf75
               have H := t.1 e8
               refine O.load sc3 rfl rfl rfl (H.cell 3 rfl 1 _ rfl) ?_
               exact WL.nil ⟨b7, B, hf0, hf5, hf9, hf10, hf12, hf13, hf32, hf33, hf38, hf39, hf40, hd0, hd1, (fun _ => rfl), hd3, hd4, hd5, hd6, hd7, Fhob2, (fun g0 g1 => Fhp7 g0 g1), t⟩
              ·
               rintro S f w hS - - ⟨b7, B, hf0, hf5, hf9, hf10, hf12, hf13, hf32, hf33, hf38, hf39, hf40, hd0, hd1, hd2, hd3, hd4, hd5, hd6, hd7, Fhob2, Fhp7, W0, W1⟩
               obtain ⟨u16, rfl⟩ := up1 hf10
               rcases bool_ft (S 8) with e8 | e8
               ·
                have H := W0 e8
                refine O.move (v := v16) rfl rfl rfl ?_
                exact WL.nil ⟨b7, B, hf0, hf5, hf9, rfl, hf12, hf13, hf32, hf33, hf38, hf39, hf40, hd0, hd1, hd2, (fun _ => rfl), hd4, hd5, hd6, hd7, Fhob2, (fun g0 g1 => Fhp7 g0 g1), (fun _ => H), (nX e8)⟩
               ·
                have H := W1 e8
                refine O.move (v := v16) rfl rfl rfl ?_
                exact WL.nil ⟨b7, B, hf0, hf5, hf9, rfl, hf12, hf13, hf32, hf33, hf38, hf39, hf40, hd0, hd1, hd2, (fun _ => rfl), hd4, hd5, hd6, hd7, Fhob2, (fun g0 g1 => Fhp7 g0 g1), (nT e8), (fun _ => H)⟩
              ·
               rintro S f w hS - ⟨e5, -⟩ ⟨b7, B, hf0, hf5, hf9, hf10, hf12, hf13, hf32, hf33, hf38, hf39, hf40, hd0, hd1, hd2, hd3, hd4, hd5, hd6, hd7, Fhob2, Fhp7, W0, W1⟩
               obtain ⟨u17, rfl⟩ := up1 hf12
               rcases bool_ft (S 8) with e8 | e8
               ·
                have H := W0 e8
                refine O.fieldAddr fd108_1 rfl rfl rfl ?_
                exact WL.nil ⟨b7, B, hf0, hf5, hf9, hf10, rfl, hf13, hf32, hf33, hf38, hf39, hf40, hd0, hd1, hd2, hd3, (fun _ => rfl), hd5, hd6, hd7, Fhob2, (fun g0 g1 => Fhp7 g0 g1), (fun _ => H), (nX e8)⟩
               ·
                have H := W1 e8
                refine O.fieldAddr fd108_1 rfl rfl rfl ?_
                exact WL.nil ⟨b7, B, hf0, hf5, hf9, hf10, rfl, hf13, hf32, hf33, hf38, hf39, hf40, hd0, hd1, hd2, hd3, (fun _ => rfl), hd5, hd6, hd7, Fhob2, (fun g0 g1 => Fhp7 g0 g1), (nT e8), (fun _ => H)⟩
              ·
               rintro S f w hS ⟨e4, -⟩ - ⟨b7, B, hf0, hf5, hf9, hf10, hf12, hf13, hf32, hf33, hf38, hf39, hf40, hd0, hd1, hd2, hd3, hd4, hd5, hd6, hd7, Fhob2, Fhp7, W0, W1⟩
               have hf78 := hd4 e4
               obtain ⟨u18, rfl⟩ := up1 hf78
               rcases bool_ft (S 8) with e8 | e8
               ·
                have H := W0 e8
                refine O.load sc3 rfl rfl rfl (H.cell 3 rfl 1 _ rfl) ?_
                exact WL.nil ⟨b7, B, hf0, hf5, hf9, hf10, hf12, hf13, hf32, hf33, hf38, hf39, hf40, hd0, hd1, hd2, hd3, hd4, (fun _ => rfl), hd6, hd7, Fhob2, (fun g0 g1 => Fhp7 g0 g1), (fun _ => H), (nX e8)⟩
               ·
                have H := W1 e8
                refine O.load sc3 rfl rfl rfl (H.cell 3 rfl 1 _ rfl) ?_
                exact WL.nil ⟨b7, B, hf0, hf5, hf9, hf10, hf12, hf13, hf32, hf33, hf38, hf39, hf40, hd0, hd1, hd2, hd3, hd4, (fun _ => rfl), hd6, hd7, Fhob2, (fun g0 g1 => Fhp7 g0 g1), (nT e8), (fun _ => H)⟩
              ·
               rintro S f w hS - ⟨e7, e8, -⟩ ⟨b7, B, hf0, hf5, hf9, hf10, hf12, hf13, hf32, hf33, hf38, hf39, hf40, hd0, hd1, hd2, hd3, hd4, hd5, hd6, hd7, Fhob2, Fhp7, t⟩
               obtain ⟨u19, rfl⟩ := up1 hf13
               have H := t.1 e8
               refine O.move (v := (.int .i64 t3)) rfl rfl rfl ?_
               exact WL.nil ⟨b7, B, hf0, hf5, hf9, hf10, hf12, rfl, hf32, hf33, hf38, hf39, hf40, hd0, hd1, hd2, hd3, hd4, hd5, (fun _ => rfl), hd7, Fhob2, (fun g0 g1 => Fhp7 g0 g1), t⟩
              ·
               rintro S f w hS ⟨e0, e1, e2, e6, -⟩ ⟨e8, -⟩ ⟨_, B, hf0, hf5, hf9, hf10, hf12, hf13, hf32, hf33, hf38, hf39, hf40, hd0, hd1, hd2, hd3, hd4, hd5, hd6, hd7, Fhob2, Fhp7, t⟩
               have hf74 := hd0 e0
               have hf76 := hd2 e2
               obtain ⟨u20, rfl⟩ := up2 hf74 hf76
               have H := t.1 e8
               refine O.indexOwn 1 Try.underlying22 sz3 H rfl hx6 rfl rfl rfl rfl ?_
               intro b7 hob2 hp7
               exact WL.nil ⟨b7, B, hf0, hf5, hf9, hf10, hf12, hf13, hf32, hf33, hf38, hf39, hf40, hd0, hd1, hd2, hd3, hd4, hd5, hd6, (fun _ => rfl), (fun _ => hob2), (fun _ _ => hp7), t⟩
              ·
               rintro S f w hS ⟨e0, e1, e2, e6, e7, -⟩ - ⟨b7, B, hf0, hf5, hf9, hf10, hf12, hf13, hf32, hf33, hf38, hf39, hf40, hd0, hd1, hd2, hd3, hd4, hd5, hd6, hd7, Fhob2, Fhp7, W0, W1⟩
               have hf80 := hd6 e6
               have hf81 := hd7 e7
               obtain ⟨u21, rfl⟩ := up2 hf80 hf81
               have H := W0 hS
               have hp7 := Fhp7 e7 hS
               have hob2 := Fhob2 e7
               refine O.storeOwn (α := Int) (i0 := yk2.to) (x0 := x6) 1 0 t3 [(.int .i64 t3)] sz3 H rfl hob2 hx6 rfl rfl rfl rfl rfl rfl rfl rfl (one_cons rfl one_nil) ?_
               intro w8 H
               clear hp7
               exact WL.nil ⟨b7, (H.pick [] [] rfl (by decide)), hf0, hf5, hf9, hf10, hf12, hf13, hf32, hf33, hf38, hf39, hf40, hd0, hd1, hd2, hd3, hd4, hd5, hd6, hd7, Fhob2, (fun g0 g1 => nG g1), nG, (fun _ => H)⟩
             ·
              rintro S f w ⟨e0, e1, e2, e3, e4, e5, e6, e7, e8, -⟩ ⟨b7, B, hf0, hf5, hf9, hf10, hf12, hf13, hf32, hf33, hf38, hf39, hf40, hd0, hd1, hd2, hd3, hd4, hd5, hd6, hd7, Fhob2, Fhp7, W0, W1⟩
              have hf77 := hd3 e3
              have hf79 := hd5 e5
              have H := W1 e8
              obtain ⟨u22, rfl⟩ : ∃ u22, f = (upd (upd (upd (upd (upd (upd (upd (upd (upd (upd (upd u22 0 (.pointer (some pa0))) 5 (.pointer (some ⟨b2, 0, none⟩))) 9 v15) 10 v16) 32 (.int .i64 ((a0_0.length : Nat) : Int))) 33 (.int .i64 (ik1 : Int))) 38 va0_1) 39 (.int .i64 ((a0_1.length : Nat) : Int))) 40 (.int .i64 (ik2 : Int))) 77 v16) 79 (.int .i64 yk2.to)) := ⟨f, by rw [upd_self hf0, upd_self hf5, upd_self hf9, upd_self hf10, upd_self hf32, upd_self hf33, upd_self hf38, upd_self hf39, upd_self hf40, upd_self hf77, upd_self hf79]⟩
              obtain ⟨x7, hx7, hm9⟩ := bind_some hm9
              refine O.indexOwn 2 Try.underlying95 sz4 H rfl hx7 rfl rfl rfl rfl ?_
              intro b8 hob3 hp8
              refine O.storeOwn (α := Bool) (i0 := yk2.to) (x0 := x7) 2 0 true [(.bool true)] sz4 H rfl hob3 hx7 rfl rfl rfl rfl rfl rfl rfl rfl (one_cons rfl one_nil) ?_
              intro w9 H
              clear hp8
              refine WL.nil ?_
              have H := H.keep [0, 1, 2] [boxI b2 87 [(.int .i64 a2.clock), (.int .i64 a2.at_)], ownI (α := Int) v15 3 (z9.set (Int.toNat yk2.to) t3), ownI (α := Bool) v16 4 (z10.set (Int.toNat yk2.to) true)] rfl (by decide)
              have hq : ((z9.set (Int.toNat yk2.to) t3), (z10.set (Int.toNat yk2.to) true)) = (s9, s10) := Option.some.inj (show some ((z9.set (Int.toNat yk2.to) t3), (z10.set (Int.toNat yk2.to) true)) = some (s9, s10) from hm9)
              obtain ⟨he0, hq0⟩ := Prod.mk.inj hq; clear hq; subst he0
              subst hq0
              exact ⟨v15, v16, rfl, rfl, rfl, rfl, rfl, rfl, rfl, rfl, rfl, H⟩
            ·
             refine W.cond_false (congrArg Value.bool hc3) ?_
             refine W.skip ?_
             have H := H.keep [0, 1, 2] [boxI b2 87 [(.int .i64 a2.clock), (.int .i64 a2.at_)], ownI (α := Int) v15 3 z9, ownI (α := Bool) v16 4 z10] rfl (by decide)
             have hq : (z9, z10) = (s9, s10) := Option.some.inj (show some (z9, z10) = some (s9, s10) from hm9)
             obtain ⟨he0, hq0⟩ := Prod.mk.inj hq; clear hq; subst he0
             subst hq0
             exact ⟨v15, v16, rfl, rfl, rfl, rfl, rfl, rfl, rfl, rfl, rfl, H⟩
           ·
            rintro f w ⟨v23, v24, hf0, hf5, hf9, hf10, hf32, hf33, hf38, hf39, hf40, H⟩
            obtain ⟨u23, rfl⟩ := up9 hf0 hf5 hf9 hf10 hf32 hf33 hf38 hf39 hf40
            have hq : (s9, s10) = (s7, s8) := Option.some.inj (show some (s9, s10) = some (s7, s8) from hm6)
            obtain ⟨he0, hq0⟩ := Prod.mk.inj hq; clear hq; subst he0
            subst hq0
            exact ⟨v23, v24, rfl, rfl, rfl, rfl, rfl, rfl, rfl, rfl, rfl, H⟩
        ·
         rintro f w ⟨v21, v22, hf0, hf5, hf9, hf10, hf32, hf33, hf38, hf39, hf40, H⟩
         obtain ⟨u24, rfl⟩ := up9 hf0 hf5 hf9 hf10 hf32 hf33 hf38 hf39 hf40
         refine W.region ?_
         refine O.add rfl rfl rfl rfl hinck2 ?_
         refine O.move (v := .int .i64 ((ik2 : Int) + 1)) rfl rfl rfl ?_
         refine WL.nil ?_
         obtain rfl := Option.some.inj hm5
         exact ⟨_, rfl, _, _, v21, v22, rfl, drop_next hdropk2, rfl, rfl, rfl, rfl, rfl, rfl, rfl, rfl, rfl, H⟩
       ·
        rintro ik2 _ f w ⟨z9, z10, v15, v16, rfl, hdropk2, hf40, hf39, hf0, hf5, hf9, hf10, hf32, hf33, hf38, H⟩ hfin
        have hltk2 := drop_end hdropk2
        obtain ⟨u25, rfl⟩ := up9 hf40 hf39 hf0 hf5 hf9 hf10 hf32 hf33 hf38
        refine W.seq ?_
        refine W.region ?_
        refine O.lss rfl rfl rfl rfl ?_
        refine WL.nil ?_
        refine W.seq ?_
        refine W.cond_false (congrArg Value.bool (decide_eq_false hltk2)) ?_
        refine W.exit ?_
        have hq : (z9, z10) = (s5, s6) := hfin
        obtain ⟨he0, hq0⟩ := Prod.mk.inj hq; clear hq; subst he0
        subst hq0
        refine xT rfl ?_
        exact ⟨v15, v16, rfl, rfl, rfl, rfl, rfl, rfl, H⟩
      ·
       rintro f w ⟨v19, v20, hf0, hf5, hf9, hf10, hf32, hf33, H⟩
       obtain ⟨u26, rfl⟩ := up6 hf0 hf5 hf9 hf10 hf32 hf33
       have hq : (s5, s6) = (s3, s4) := Option.some.inj (show some (s5, s6) = some (s3, s4) from hm3)
       obtain ⟨he0, hq0⟩ := Prod.mk.inj hq; clear hq; subst he0
       subst hq0
       exact ⟨v19, v20, rfl, rfl, rfl, rfl, rfl, rfl, H⟩
     ·
      rintro f w ⟨v11, v12, hf0, hf5, hf9, hf10, hf32, hf33, H⟩
      obtain ⟨u27, rfl⟩ := up6 hf0 hf5 hf9 hf10 hf32 hf33
      refine W.region ?_
      refine O.add rfl rfl rfl rfl hinck1 ?_
      refine O.move (v := .int .i64 ((ik1 : Int) + 1)) rfl rfl rfl ?_
      refine WL.nil ?_
      obtain rfl := Option.some.inj hm2
      exact ⟨_, rfl, _, _, v11, v12, rfl, rangeN_next hdropk1, rfl, rfl, rfl, rfl, rfl, rfl, H⟩
    ·
     rintro ik1 _ f w ⟨z3, z4, v5, v6, rfl, hdropk1, hf33, hf32, hf0, hf5, hf9, hf10, H⟩ hfin
     have hltk1 := rangeN_end hdropk1
     obtain ⟨u28, rfl⟩ := up6 hf33 hf32 hf0 hf5 hf9 hf10
     refine W.seq ?_
     refine W.region ?_
     refine O.lss rfl rfl rfl rfl ?_
     refine WL.nil ?_
     refine W.seq ?_
     refine W.cond_false (congrArg Value.bool (decide_eq_false hltk1)) ?_
     refine W.exit ?_
     have hq : (z3, z4) = (s1, s2) := hfin
     obtain ⟨he0, hq0⟩ := Prod.mk.inj hq; clear hq; subst he0
     subst hq0
     refine xT rfl ?_
     exact ⟨v5, v6, rfl, rfl, rfl, rfl, H⟩
   ·
    rintro f w ⟨v9, v10, hf0, hf5, hf9, hf10, H⟩
    obtain ⟨u29, rfl⟩ := up4 hf0 hf5 hf9 hf10
    refine W.seq ?_
    refine W.drawN 5 (fun f => f 9 = v9 ∧ f 10 = v10 ∧ f 88 = va0_0 ∧ f 89 = (.agg (Flat.cells a2).toArray)) fol (by kernel_rfl) ?_ ?_
    ·
     refine PL.of (fun _ w8 _ hx => O.move (v := (.pointer (some pa0))) rfl rfl rfl (WL.nil ⟨rfl, hx⟩)) ?_
     refine PL.of (fun _ w8 _ hx => O.nilCheck rfl rfl rfl (WL.nil ⟨rfl, hx⟩)) ?_
     refine PL.of (fun _ w8 _ hx => O.fieldAddr fd104_0 rfl rfl rfl (WL.nil ⟨rfl, hx⟩)) ?_
     refine PL.of (fun _ w8 _ hx => by have H := H.ext hx; exact O.load sc101 rfl rfl rfl (cells_mono ha0 H.base 0 _ rfl) (WL.nil ⟨rfl, hx⟩)) ?_
     refine PL.of (fun _ w8 _ hx => by have H := H.ext hx; exact O.loadA [(.int .i64 a2.clock), (.int .i64 a2.at_)] ag87 rfl rfl rfl rfl (H.cell 0 rfl) (WL.nil ⟨rfl, hx⟩)) ?_
     refine PL.nil ?_
     exact ⟨rfl, rfl, rfl, rfl⟩
    ·
     rintro f w ⟨hf9, hf10, hf88, hf89⟩ hmd hx
     have H := H.ext hx
     obtain ⟨u30, rfl⟩ := up4 hf9 hf10 hf88 hf89
     refine O.lookup1 (z := 0) a2 Try.underlying101 key87 ze3 (H.argM ra0_0) rfl rfl rfl rfl ?_
     refine O.assign (v := (.int .i64 ((mget a0_0 a2).getD 0))) rfl rfl rfl ?_
     refine WL.nil ?_
     refine W.seq ?_
     obtain ⟨x8, hx8, hm⟩ := bind_some hm
     obtain ⟨p6, hp9, hrp6⟩ := fix_indexAddr Try.underlying22 sz3 (H.own 1 rfl) hx8
     obtain ⟨x9, hx9, hm⟩ := bind_some hm
     obtain ⟨p7, hp10, hrp7⟩ := fix_indexAddr Try.underlying95 sz4 (H.own 2 rfl) hx9
     refine W.drawN 9 (fun f => f 6 = (.int .i64 x8) ∧ f 98 = (.bool x9)) fol (by kernel_rfl) ?_ ?_
     ·
      refine PL.of (fun _ w8 _ hx => O.move (v := v9) rfl rfl rfl (WL.nil ⟨rfl, hx⟩)) ?_
      refine PL.of (fun _ w8 _ hx => O.move (v := (.int .i64 ((mget a0_0 a2).getD 0))) rfl rfl rfl (WL.nil ⟨rfl, hx⟩)) ?_
      refine PL.of (fun _ w8 _ hx => hrp6 rfl rfl rfl rfl (WL.nil ⟨rfl, hx⟩)) ?_
      refine PL.of (fun _ w8 _ hx => by have hp9 := hp9.mono hx; exact O.load sc3 rfl rfl rfl (hp9.flat 0 _ rfl) (WL.nil ⟨rfl, hx⟩)) ?_
      refine PL.of (fun _ w8 _ hx => O.move (v := v10) rfl rfl rfl (WL.nil ⟨rfl, hx⟩)) ?_
      refine PL.of (fun _ w8 _ hx => O.move (v := (.int .i64 ((mget a0_0 a2).getD 0))) rfl rfl rfl (WL.nil ⟨rfl, hx⟩)) ?_
      refine PL.of (fun _ w8 _ hx => hrp7 rfl rfl rfl rfl (WL.nil ⟨rfl, hx⟩)) ?_
      refine PL.of (fun _ w8 _ hx => by have hp10 := hp10.mono hx; exact O.load sc4 rfl rfl rfl (hp10.flat 0 _ rfl) (WL.nil ⟨rfl, hx⟩)) ?_
      refine PL.of (fun _ w8 _ hx => O.assign (v := (.int .i64 x8)) rfl rfl rfl (WL.nil ⟨rfl, hx⟩)) ?_
      refine PL.nil ?_
      exact ⟨rfl, rfl⟩
     ·
      rintro f w ⟨hf6, hf98⟩ hmd hx
      have H := H.ext hx
      have hp9 := hp9.mono hx
      have hp10 := hp10.mono hx
      obtain ⟨u31, rfl⟩ := up2 hf6 hf98
      refine O.assign (v := (.bool x9)) rfl rfl rfl ?_
      refine WL.nil ?_
      refine W.ret ?_
      have hq : (x8, x9) = (r0, r1) := Option.some.inj (show some (x8, x9) = some (r0, r1) from hm)
      obtain ⟨he0, hq0⟩ := Prod.mk.inj hq; clear hq; subst he0
      subst hq0
      exact ends2 Try.results92 rfl rfl ⟨_, rfl, H.base, rfl⟩

theorem c_noongunref02_spot {w0 : World} (a0 : Int) (a1 : Int) {r0 : GPoint} (hm : noongunref02_spot a0 a1 = some r0) :
  Calls Try.prog 63 #[(.int .i64 a0), (.int .i64 a1)] w0 (Ret w0 fun _ v => v = (.agg (Flat.cells r0).toArray)) := by
 unfold noongunref02_spot at hm
 refine calls_of_W Try.func63 rfl Try.ntmps63 (Nat.le_of_ble_eq_true rfl) ?_
 have H := Inv.start (w := w0)
 refine W.seq ?_
 refine W.region ?_
 refine O.alloc [(.int .i64 0), (.int .i64 0)] ze78 H rfl rfl rfl ?_
 intro b1 w1 H hb1
 refine WL.nil ?_
 refine W.seq ?_
 refine W.seq ?_
 refine W.region ?_
 refine O.move (v := (.int .i64 a0)) rfl rfl rfl ?_
 refine O.eql rfl rfl rfl rfl ?_
 refine WL.nil ?_
 obtain ⟨s1, hm1, hm⟩ := bind_some hm
 refine W.via (fun f w => f 0 = (.int .i64 a0) ∧ f 1 = (.int .i64 s1) ∧ f 4 = (.pointer (some ⟨b1, 0, none⟩)) ∧ Inv w0 w [boxI b1 78 [(.int .i64 0), (.int .i64 0)]]) ?_ ?_
 ·
  rcases ite_some hm1 with ⟨hc1, hm1⟩ | ⟨hc1, hm1⟩
  ·
   refine W.cond_true (congrArg Value.bool hc1) ?_
   refine W.region ?_
   refine O.assign (v := (.int .i64 0)) rfl rfl rfl ?_
   refine WL.nil ?_
   have hq : 0 = s1 := Option.some.inj (show some 0 = some s1 from hm1)
   subst hq
   exact ⟨rfl, rfl, rfl, H⟩
  ·
   refine W.cond_false (congrArg Value.bool hc1) ?_
   refine W.skip ?_
   have hq : a1 = s1 := Option.some.inj (show some a1 = some s1 from hm1)
   subst hq
   exact ⟨rfl, rfl, rfl, H⟩
 ·
  rintro f w ⟨hf0, hf1, hf4, H⟩
  obtain ⟨u1, rfl⟩ := up3 hf0 hf1 hf4
  refine W.seq ?_
  refine W.region ?_
  refine O.move (v := (.int .i64 a0)) rfl rfl rfl ?_
  refine O.move (v := (.int .i64 s1)) rfl rfl rfl ?_
  refine O.build (v := (.agg (Flat.cells (GPoint.mk a0 s1)).toArray)) (fun w => bd78_0_1 _ _ w) rfl rfl rfl ?_
  refine O.store 0 0 [(.int .i64 a0), (.int .i64 s1)] [(.int .i64 a0), (.int .i64 s1)] sz78 H rfl rfl rfl rfl rfl rfl ⟨⟨rfl, rfl⟩, rfl⟩ (one_cons rfl (one_cons rfl one_nil)) ?_
  intro w2 H
  refine WL.nil ?_
  refine W.ret ?_
  have hq : (GPoint.mk a0 s1) = r0 := Option.some.inj (show some (GPoint.mk a0 s1) = some r0 from hm)
  subst hq
  exact ends1 Try.results63 ⟨_, rfl, run_loadVar_agg ag78 rfl (H.cell 0 rfl)⟩ ⟨_, rfl, H.base, rfl⟩

theorem c_noongunref02_graph_index {w0 : World} (pa0 : Addr) (va0_0 : Value) (va0_1 : Value) (a0 : GRefgraph) (ha0 : ∀ j c, ([va0_0, va0_1] : List Value)[j]? = some c → w0.cell? (pa0.add j) = some c) (ra0_0 : SliceR w0 va0_0 a0.points) (ra0_1 : SliceR w0 va0_1 a0.cost) (a1 : GPoint) {r0 : Int} (hm : noongunref02_graph_index a0 a1 = some r0) :
  Calls Try.prog 93 #[(.pointer (some pa0)), (.agg (Flat.cells a1).toArray)] w0 (Ret w0 fun _ v => v = (.int .i64 r0)) := by
 unfold noongunref02_graph_index at hm
 refine calls_of_W Try.func93 rfl Try.ntmps93 (Nat.le_of_ble_eq_true rfl) ?_
 have H := Inv.start (w := w0)
 refine W.seq ?_
 refine W.region ?_
 refine O.box [(.int .i64 a1.clock), (.int .i64 a1.at_)] H rfl rfl rfl rfl ?_
 intro b1 w1 H hb1
 refine O.assign (v := (.int .i64 0)) rfl rfl rfl ?_
 refine WL.nil ?_
 refine W.seq ?_
 refine W.seq ?_
 refine W.region ?_
 refine O.move (v := (.pointer (some pa0))) rfl rfl rfl ?_
 refine O.nilCheck rfl rfl rfl ?_
 refine O.fieldAddr fd118_0 rfl rfl rfl ?_
 refine O.load sc91 rfl rfl rfl (cells_mono ha0 H.base 0 _ rfl) ?_
 refine O.lenS Try.underlying91 (H.arg ra0_0) rfl rfl rfl ?_
 refine O.move (v := (.int .i64 0)) rfl rfl rfl ?_
 refine WL.nil ?_
 obtain ⟨o1, hm1, hm⟩ := bind_some hm
 refine W.via (fun f w => o1 = .next () ∧ Inv w0 w []) ?_ ?_
 ·
  refine W.block ?_
  have hbdik1 := (H.arg ra0_0).len_le
  refine W.rangeN (i := 0) hm1 (fun rem ik1 s f w => () = s ∧ (ik1 : Int) + rem = max 0 ((a0.points.length : Nat) : Int) ∧ f 12 = .int .i64 (ik1 : Int) ∧ f 11 = (.int .i64 ((a0.points.length : Nat) : Int)) ∧ f 3 = (.pointer (some ⟨b1, 0, none⟩)) ∧ f 10 = va0_0 ∧ Inv w0 w [boxI b1 78 [(.int .i64 a1.clock), (.int .i64 a1.at_)]]) ?_ ?_ ?_
  ·
   exact ⟨rfl, rangeN_start, rfl, rfl, rfl, rfl, H⟩
  ·
   rintro k ik1 _ st f w ⟨rfl, hdropk1, hf12, hf11, hf3, hf10, H⟩ hm2
   have hltk1 := rangeN_lt hdropk1
   obtain ⟨u1, rfl⟩ := up4 hf12 hf11 hf3 hf10
   have hinck1 := addI_lt hltk1 hbdik1
   refine W.seq ?_
   refine W.region ?_
   refine O.lss rfl rfl rfl rfl ?_
   refine WL.nil ?_
   refine W.seq ?_
   refine W.cond_true (congrArg Value.bool (decide_eq_true hltk1)) ?_
   refine W.skip ?_
   refine W.seq ?_
   refine W.block ?_
   refine W.seq ?_
   refine W.region ?_
   refine O.move (v := (.int .i64 (ik1 : Int))) rfl rfl rfl ?_
   obtain ⟨x1, hx1, hm2⟩ := bind_some hm2
   obtain ⟨p1, hp1, hrp1⟩ := fix_indexAddr Try.underlying91 sz78 ra0_0 hx1
   refine hrp1 rfl rfl rfl rfl ?_
   refine O.loadA [(.int .i64 x1.clock), (.int .i64 x1.at_)] ag78 rfl rfl rfl rfl ((hp1.mono H.base).flat) ?_
   refine O.alloc [(.int .i64 0), (.int .i64 0)] ze78 H rfl rfl rfl ?_
   intro b2 w2 H hb2
   refine O.assign (v := (.int .i64 (ik1 : Int))) rfl rfl rfl ?_
   refine O.store 1 0 [(.int .i64 x1.clock), (.int .i64 x1.at_)] [(.int .i64 x1.clock), (.int .i64 x1.at_)] sz78 H rfl rfl rfl rfl rfl rfl ⟨⟨rfl, rfl⟩, rfl⟩ (one_cons rfl (one_cons rfl one_nil)) ?_
   intro w3 H
   refine WL.nil ?_
   refine W.seq ?_
   refine W.region ?_
   refine O.loadA [(.int .i64 a1.clock), (.int .i64 a1.at_)] ag78 rfl rfl rfl rfl (H.cell 0 rfl) ?_
   refine O.loadA [(.int .i64 x1.clock), (.int .i64 x1.at_)] ag78 rfl rfl rfl rfl (H.cell 1 rfl) ?_
   refine O.eqlSt a1 x1 eq78 rfl rfl rfl rfl ?_
   refine WL.nil ?_
   rcases ite_some hm2 with ⟨hc1, hm2⟩ | ⟨hc1, hm2⟩
   ·
    refine W.cond_true (congrArg Value.bool hc1) ?_
    refine W.seq ?_
    refine W.region ?_
    refine O.move (v := (.int .i64 (ik1 : Int))) rfl rfl rfl ?_
    refine O.assign (v := (.int .i64 (ik1 : Int))) rfl rfl rfl ?_
    refine WL.nil ?_
    refine W.ret ?_
    obtain rfl := Option.some.inj hm2
    refine ⟨_, rfl, ?_⟩
    rintro rfl
    have hq : (ik1 : Int) = r0 := Option.some.inj (show some (ik1 : Int) = some r0 from hm)
    subst hq
    exact ends1 Try.results93 rfl ⟨_, rfl, H.base, rfl⟩
   ·
    refine W.cond_false (congrArg Value.bool hc1) ?_
    refine W.skip ?_
    refine W.region ?_
    refine O.add rfl rfl rfl rfl hinck1 ?_
    refine O.move (v := .int .i64 ((ik1 : Int) + 1)) rfl rfl rfl ?_
    refine WL.nil ?_
    have H := H.keep [0] [boxI b1 78 [(.int .i64 a1.clock), (.int .i64 a1.at_)]] rfl (by decide)
    obtain rfl := Option.some.inj hm2
    exact ⟨_, rfl, rfl, rangeN_next hdropk1, rfl, rfl, rfl, rfl, H⟩
  ·
   rintro ik1 _ f w ⟨rfl, hdropk1, hf12, hf11, hf3, hf10, H⟩ hfin
   have hltk1 := rangeN_end hdropk1
   obtain ⟨u2, rfl⟩ := up4 hf12 hf11 hf3 hf10
   refine W.seq ?_
   refine W.region ?_
   refine O.lss rfl rfl rfl rfl ?_
   refine WL.nil ?_
   refine W.seq ?_
   refine W.cond_false (congrArg Value.bool (decide_eq_false hltk1)) ?_
   refine W.exit ?_
   obtain rfl : Ctl.next () = o1 := hfin
   have H := H.keep [] [] rfl (by decide)
   refine xT rfl ?_
   exact ⟨rfl, H⟩
 ·
  rintro f w ⟨rfl, H⟩
  refine W.seq ?_
  refine W.region ?_
  refine O.assign (v := (.int .i64 (-1))) rfl rfl rfl ?_
  refine WL.nil ?_
  refine W.ret ?_
  have hq : (-1) = r0 := Option.some.inj (show some (-1) = some r0 from hm)
  subst hq
  exact ends1 Try.results93 rfl ⟨_, rfl, H.base, rfl⟩

theorem c_noongunref02_carry {w0 : World} (a0 : Int) (a1 : Int) {r0 : Int} (hm : noongunref02_carry a0 a1 = some r0) :
  Calls Try.prog 73 #[(.int .i64 a0), (.int .i64 a1)] w0 (Ret w0 fun _ v => v = (.int .i64 r0)) := by
 unfold noongunref02_carry at hm
 refine calls_of_W Try.func73 rfl Try.ntmps73 (Nat.le_of_ble_eq_true rfl) ?_
 have H := Inv.start (w := w0)
 refine W.seq ?_
 refine W.region ?_
 refine O.assign (v := (.int .i64 0)) rfl rfl rfl ?_
 refine WL.nil ?_
 refine W.seq ?_
 refine W.region ?_
 refine O.move (v := (.int .i64 a0)) rfl rfl rfl ?_
 refine O.move (v := (.int .i64 a1)) rfl rfl rfl ?_
 refine O.move (v := (.int .i64 a1)) rfl rfl rfl ?_
 obtain ⟨t1, ht1, hm⟩ := bind_some hm
 refine O.neg rfl rfl rfl ht1 ?_
 refine O.max2 rfl rfl rfl rfl ?_
 obtain ⟨t2, ht2, hm⟩ := bind_some hm
 refine O.mul rfl rfl rfl rfl ht2 ?_
 obtain ⟨t3, ht3, hm⟩ := bind_some hm
 refine O.add rfl rfl rfl rfl ht3 ?_
 obtain ⟨t4, ht4, hm⟩ := bind_some hm
 refine O.quo rfl rfl rfl rfl ht4 ?_
 refine O.assign (v := (.int .i64 t4)) rfl rfl rfl ?_
 refine WL.nil ?_
 refine W.ret ?_
 have hq : t4 = r0 := Option.some.inj (show some t4 = some r0 from hm)
 subst hq
 exact ends1 Try.results73 rfl ⟨_, rfl, H.base, rfl⟩

end Go.Proofs
