/-
  The walks: each function does what its model says, where the model has a value. No other condition.
-/
import Derived.Test.YtnkncedhanainaaW0
namespace Go.Proofs
open Go.Fw Go.RowKit Go.Shelf
set_option maxRecDepth 20000 in
theorem c_sight_graph_circle {w0 : World} (pa0 : Addr) (va0_0 : Value) (va0_1 : Value) (a0_0 : (List (GPoint × Int))) (a0_1 : (List GEdge)) (ha0 : ∀ j c, ([va0_0, va0_1] : List Value)[j]? = some c → w0.cell? (pa0.add j) = some c) (ra0_0 : MapR w0 va0_0 a0_0) (ra0_1 : SliceR w0 va0_1 a0_1) {r0 : Bool} {r1 : List Int} (hm : sight_graph_circle a0_0 a0_1 = some (r0, r1)) :
  Calls Try.prog 49 #[(.pointer (some pa0))] w0 (Ret w0 fun w v => OwnR w0 w v 3 r1 ∧ NilB v r0) := by
 unfold sight_graph_circle at hm
 refine calls_of_W Try.func49 rfl Try.ntmps49 (Nat.le_of_ble_eq_true rfl) ?_
 have H := Inv.start (w := w0)
 refine W.seq ?_
 refine W.region ?_
 have H := H.addNil (α := Int) (E := 3)
 refine O.assign (v := (.slice none 0 0)) rfl rfl rfl ?_
 refine WL.nil ?_
 refine W.seq ?_
 refine W.region ?_
 refine O.move (v := (.pointer (some pa0))) rfl rfl rfl ?_
 refine O.nilCheck rfl rfl rfl ?_
 refine O.fieldAddr fd129_0 rfl rfl rfl ?_
 refine O.load sc126 rfl rfl rfl (cells_mono ha0 H.base 0 _ rfl) ?_
 refine O.lenM Try.underlying126 (H.argM ra0_0) rfl rfl rfl ?_
 refine O.assign (v := (.int .i64 ((a0_0.length : Nat) : Int))) rfl rfl rfl ?_
 refine WL.nil ?_
 refine W.seq ?_
 obtain ⟨t1, ht1, hm⟩ := bind_some hm
 obtain ⟨t2, ht2, hm⟩ := bind_some hm
 have H := H.addGone
 have H := H.addGone
 have H := H.addGone
 have H := H.addGone
 have H := H.addGone
 have H := H.addGone
 refine W.drawD 7 [[], [0], [], [2], [], [], [0, 1, 4, 5]] [[1, 6], [6], [3], [], [6], [6], []] (fun S f w => ∃ v1 : Value, ∃ v2 : Value, ∃ b1 : Nat, ∃ b2 : Nat, Inv w0 w [] ∧ f 0 = (.pointer (some pa0)) ∧ f 3 = (.int .i64 ((a0_0.length : Nat) : Int)) ∧ (S 0 = true → f 17 = (.int .i64 ((a0_0.length : Nat) : Int))) ∧ (S 1 = true → f 18 = v1) ∧ (S 2 = true → f 19 = (.int .i64 ((a0_0.length : Nat) : Int))) ∧ (S 3 = true → f 20 = v2) ∧ (S 4 = true → f 4 = (.pointer (some ⟨b1, 0, none⟩))) ∧ (S 5 = true → f 5 = (.pointer (some ⟨b2, 0, none⟩))) ∧ (S 6 = true → S 1 = true) ∧ (S 6 = true → S 4 = true) ∧ (S 6 = true → S 5 = true) ∧ (S 1 = false → S 3 = false → S 4 = false → S 5 = false → S 6 = false → Inv w0 w [ownI (α := Int) (.slice none 0 0) 3 ([] : List Int), goneI, goneI, goneI, goneI, goneI, goneI]) ∧ (S 1 = true → S 3 = false → S 4 = false → S 5 = false → S 6 = false → Inv w0 w [ownI (α := Int) (.slice none 0 0) 3 ([] : List Int), ownI (α := Int) v1 3 t1, goneI, goneI, goneI, goneI, goneI]) ∧ (S 1 = false → S 3 = true → S 4 = false → S 5 = false → S 6 = false → Inv w0 w [ownI (α := Int) (.slice none 0 0) 3 ([] : List Int), goneI, ownI (α := GEdge) v2 137 t2, goneI, goneI, goneI, goneI]) ∧ (S 1 = false → S 3 = false → S 4 = true → S 5 = false → S 6 = false → Inv w0 w [ownI (α := Int) (.slice none 0 0) 3 ([] : List Int), goneI, goneI, boxI b1 22 [(.slice none 0 0)], ownI (α := Int) (.slice none 0 0) 3 ([] : List Int), goneI, goneI]) ∧ (S 1 = false → S 3 = false → S 4 = false → S 5 = true → S 6 = false → Inv w0 w [ownI (α := Int) (.slice none 0 0) 3 ([] : List Int), goneI, goneI, goneI, goneI, boxI b2 127 [(.slice none 0 0)], ownI (α := GEdge) (.slice none 0 0) 137 ([] : List GEdge)]) ∧ (S 1 = true → S 3 = true → S 4 = false → S 5 = false → S 6 = false → Inv w0 w [ownI (α := Int) (.slice none 0 0) 3 ([] : List Int), ownI (α := Int) v1 3 t1, ownI (α := GEdge) v2 137 t2, goneI, goneI, goneI, goneI]) ∧ (S 1 = true → S 3 = false → S 4 = true → S 5 = false → S 6 = false → Inv w0 w [ownI (α := Int) (.slice none 0 0) 3 ([] : List Int), ownI (α := Int) v1 3 t1, goneI, boxI b1 22 [(.slice none 0 0)], ownI (α := Int) (.slice none 0 0) 3 ([] : List Int), goneI, goneI]) ∧ (S 1 = true → S 3 = false → S 4 = false → S 5 = true → S 6 = false → Inv w0 w [ownI (α := Int) (.slice none 0 0) 3 ([] : List Int), ownI (α := Int) v1 3 t1, goneI, goneI, goneI, boxI b2 127 [(.slice none 0 0)], ownI (α := GEdge) (.slice none 0 0) 137 ([] : List GEdge)]) ∧ (S 1 = false → S 3 = true → S 4 = true → S 5 = false → S 6 = false → Inv w0 w [ownI (α := Int) (.slice none 0 0) 3 ([] : List Int), goneI, ownI (α := GEdge) v2 137 t2, boxI b1 22 [(.slice none 0 0)], ownI (α := Int) (.slice none 0 0) 3 ([] : List Int), goneI, goneI]) ∧ (S 1 = false → S 3 = true → S 4 = false → S 5 = true → S 6 = false → Inv w0 w [ownI (α := Int) (.slice none 0 0) 3 ([] : List Int), goneI, ownI (α := GEdge) v2 137 t2, goneI, goneI, boxI b2 127 [(.slice none 0 0)], ownI (α := GEdge) (.slice none 0 0) 137 ([] : List GEdge)]) ∧ (S 1 = false → S 3 = false → S 4 = true → S 5 = true → S 6 = false → Inv w0 w [ownI (α := Int) (.slice none 0 0) 3 ([] : List Int), goneI, goneI, boxI b1 22 [(.slice none 0 0)], ownI (α := Int) (.slice none 0 0) 3 ([] : List Int), boxI b2 127 [(.slice none 0 0)], ownI (α := GEdge) (.slice none 0 0) 137 ([] : List GEdge)]) ∧ (S 1 = true → S 3 = true → S 4 = true → S 5 = false → S 6 = false → Inv w0 w [ownI (α := Int) (.slice none 0 0) 3 ([] : List Int), ownI (α := Int) v1 3 t1, ownI (α := GEdge) v2 137 t2, boxI b1 22 [(.slice none 0 0)], ownI (α := Int) (.slice none 0 0) 3 ([] : List Int), goneI, goneI]) ∧ (S 1 = true → S 3 = true → S 4 = false → S 5 = true → S 6 = false → Inv w0 w [ownI (α := Int) (.slice none 0 0) 3 ([] : List Int), ownI (α := Int) v1 3 t1, ownI (α := GEdge) v2 137 t2, goneI, goneI, boxI b2 127 [(.slice none 0 0)], ownI (α := GEdge) (.slice none 0 0) 137 ([] : List GEdge)]) ∧ (S 1 = true → S 3 = false → S 4 = true → S 5 = true → S 6 = false → Inv w0 w [ownI (α := Int) (.slice none 0 0) 3 ([] : List Int), ownI (α := Int) v1 3 t1, goneI, boxI b1 22 [(.slice none 0 0)], ownI (α := Int) (.slice none 0 0) 3 ([] : List Int), boxI b2 127 [(.slice none 0 0)], ownI (α := GEdge) (.slice none 0 0) 137 ([] : List GEdge)]) ∧ (S 1 = false → S 3 = true → S 4 = true → S 5 = true → S 6 = false → Inv w0 w [ownI (α := Int) (.slice none 0 0) 3 ([] : List Int), goneI, ownI (α := GEdge) v2 137 t2, boxI b1 22 [(.slice none 0 0)], ownI (α := Int) (.slice none 0 0) 3 ([] : List Int), boxI b2 127 [(.slice none 0 0)], ownI (α := GEdge) (.slice none 0 0) 137 ([] : List GEdge)]) ∧ (S 1 = true → S 3 = true → S 4 = true → S 5 = true → S 6 = false → Inv w0 w [ownI (α := Int) (.slice none 0 0) 3 ([] : List Int), ownI (α := Int) v1 3 t1, ownI (α := GEdge) v2 137 t2, boxI b1 22 [(.slice none 0 0)], ownI (α := Int) (.slice none 0 0) 3 ([] : List Int), boxI b2 127 [(.slice none 0 0)], ownI (α := GEdge) (.slice none 0 0) 137 ([] : List GEdge)]) ∧ (S 1 = true → S 3 = false → S 4 = true → S 5 = true → S 6 = true → Inv w0 w [ownI (α := Int) (.slice none 0 0) 3 ([] : List Int), ownI (α := Int) v1 3 t1, goneI, boxI b1 22 [v1], ownI (α := Int) (.slice none 0 0) 3 ([] : List Int), boxI b2 127 [(.slice none 0 0)], ownI (α := GEdge) (.slice none 0 0) 137 ([] : List GEdge)]) ∧ (S 1 = true → S 3 = true → S 4 = true → S 5 = true → S 6 = true → Inv w0 w [ownI (α := Int) (.slice none 0 0) 3 ([] : List Int), ownI (α := Int) v1 3 t1, ownI (α := GEdge) v2 137 t2, boxI b1 22 [v1], ownI (α := Int) (.slice none 0 0) 3 ([] : List Int), boxI b2 127 [(.slice none 0 0)], ownI (α := GEdge) (.slice none 0 0) 137 ([] : List GEdge)])) fol (by kernel_rfl) ?_ ?_ ?_
 ·
  exact fun d _ => ⟨.nilFunc, .nilFunc, 0, 0, ((H.ext (below_drawn d)).pick [] [] rfl (by decide)), rfl, rfl, nF, nF, nF, nF, nF, nF, nF, nF, nF, (fun _ _ _ _ _ => H.ext (below_drawn d)), (fun a _ _ _ _ => nF a), (fun _ a _ _ _ => nF a), (fun _ _ a _ _ => nF a), (fun _ _ _ a _ => nF a), (fun a _ _ _ _ => nF a), (fun a _ _ _ _ => nF a), (fun a _ _ _ _ => nF a), (fun _ a _ _ _ => nF a), (fun _ a _ _ _ => nF a), (fun _ _ a _ _ => nF a), (fun a _ _ _ _ => nF a), (fun a _ _ _ _ => nF a), (fun a _ _ _ _ => nF a), (fun _ a _ _ _ => nF a), (fun a _ _ _ _ => nF a), (fun a _ _ _ _ => nF a), (fun a _ _ _ _ => nF a)⟩
 ·
  refine ⟨?_, ⟨?_, ⟨?_, ⟨?_, ⟨?_, ⟨?_, ⟨?_, trivial⟩⟩⟩⟩⟩⟩⟩
  ·
   rintro S f w hS - ⟨e1, e6, -⟩ ⟨v1, v2, b1, b2, B, hf0, hf3, hd0, t⟩
   obtain ⟨u1, rfl⟩ := up1 hf3
   have H := B
   refine O.move (v := (.int .i64 ((a0_0.length : Nat) : Int))) rfl rfl rfl ?_
   exact WL.nil ⟨v1, v2, b1, b2, B, hf0, rfl, (fun _ => rfl), t⟩
  ·
   rintro S f w hS ⟨e0, -⟩ ⟨e6, -⟩ ⟨_, v2, b1, b2, B, hf0, hf3, hd0, hd1, hd2, hd3, hd4, hd5, C6_1, C6_4, C6_5, W0, W1, W2, W3, W4, W5, W6, W7, W8, W9, W10, W11, W12, W13, W14, W15, W16, W17⟩
   have hf17 := hd0 e0
   obtain ⟨u2, rfl⟩ := up1 hf17
   rcases bool_ft (S 3) with e3 | e3
   ·
    rcases bool_ft (S 4) with e4 | e4
    ·
     rcases bool_ft (S 5) with e5 | e5
     ·
      have H := W0 hS e3 e4 e5 e6
      refine O.makeSlice Try.underlying22 zel3 rfl H ht1 rfl rfl rfl rfl ?_
      intro v1 w1 H hb1
      refine WL.nil ?_
      have H := H.pick [0, 7, 2, 3, 4, 5, 6] [ownI (α := Int) (.slice none 0 0) 3 ([] : List Int), ownI (α := Int) v1 3 t1, goneI, goneI, goneI, goneI, goneI] rfl (by decide)
      exact ⟨v1, v2, b1, b2, (H.pick [] [] rfl (by decide)), hf0, hf3, hd0, (fun _ => rfl), hd2, hd3, hd4, hd5, (fun _ => rfl), C6_4, C6_5, (fun a _ _ _ _ => nG a), (fun _ _ _ _ _ => H), (fun a _ _ _ _ => nG a), (fun a _ _ _ _ => nG a), (fun a _ _ _ _ => nG a), (fun _ a _ _ _ => nX e3 a), (fun _ _ a _ _ => nX e4 a), (fun _ _ _ a _ => nX e5 a), (fun a _ _ _ _ => nG a), (fun a _ _ _ _ => nG a), (fun a _ _ _ _ => nG a), (fun _ a _ _ _ => nX e3 a), (fun _ a _ _ _ => nX e3 a), (fun _ _ a _ _ => nX e4 a), (fun a _ _ _ _ => nG a), (fun _ a _ _ _ => nX e3 a), (fun _ _ a _ _ => nX e4 a), (fun _ a _ _ _ => nX e3 a)⟩
     ·
      have H := W4 hS e3 e4 e5 e6
      refine O.makeSlice Try.underlying22 zel3 rfl H ht1 rfl rfl rfl rfl ?_
      intro v1 w1 H hb1
      refine WL.nil ?_
      have H := H.pick [0, 7, 2, 3, 4, 5, 6] [ownI (α := Int) (.slice none 0 0) 3 ([] : List Int), ownI (α := Int) v1 3 t1, goneI, goneI, goneI, boxI b2 127 [(.slice none 0 0)], ownI (α := GEdge) (.slice none 0 0) 137 ([] : List GEdge)] rfl (by decide)
      exact ⟨v1, v2, b1, b2, (H.pick [] [] rfl (by decide)), hf0, hf3, hd0, (fun _ => rfl), hd2, hd3, hd4, hd5, (fun _ => rfl), C6_4, C6_5, (fun a _ _ _ _ => nG a), (fun _ _ _ a _ => nT e5 a), (fun a _ _ _ _ => nG a), (fun a _ _ _ _ => nG a), (fun a _ _ _ _ => nG a), (fun _ a _ _ _ => nX e3 a), (fun _ _ a _ _ => nX e4 a), (fun _ _ _ _ _ => H), (fun a _ _ _ _ => nG a), (fun a _ _ _ _ => nG a), (fun a _ _ _ _ => nG a), (fun _ a _ _ _ => nX e3 a), (fun _ a _ _ _ => nX e3 a), (fun _ _ a _ _ => nX e4 a), (fun a _ _ _ _ => nG a), (fun _ a _ _ _ => nX e3 a), (fun _ _ a _ _ => nX e4 a), (fun _ a _ _ _ => nX e3 a)⟩
    ·
     rcases bool_ft (S 5) with e5 | e5
     ·
      have H := W3 hS e3 e4 e5 e6
      refine O.makeSlice Try.underlying22 zel3 rfl H ht1 rfl rfl rfl rfl ?_
      intro v1 w1 H hb1
      refine WL.nil ?_
      have H := H.pick [0, 7, 2, 3, 4, 5, 6] [ownI (α := Int) (.slice none 0 0) 3 ([] : List Int), ownI (α := Int) v1 3 t1, goneI, boxI b1 22 [(.slice none 0 0)], ownI (α := Int) (.slice none 0 0) 3 ([] : List Int), goneI, goneI] rfl (by decide)
      exact ⟨v1, v2, b1, b2, (H.pick [] [] rfl (by decide)), hf0, hf3, hd0, (fun _ => rfl), hd2, hd3, hd4, hd5, (fun _ => rfl), C6_4, C6_5, (fun a _ _ _ _ => nG a), (fun _ _ a _ _ => nT e4 a), (fun a _ _ _ _ => nG a), (fun a _ _ _ _ => nG a), (fun a _ _ _ _ => nG a), (fun _ a _ _ _ => nX e3 a), (fun _ _ _ _ _ => H), (fun _ _ a _ _ => nT e4 a), (fun a _ _ _ _ => nG a), (fun a _ _ _ _ => nG a), (fun a _ _ _ _ => nG a), (fun _ a _ _ _ => nX e3 a), (fun _ a _ _ _ => nX e3 a), (fun _ _ _ a _ => nX e5 a), (fun a _ _ _ _ => nG a), (fun _ a _ _ _ => nX e3 a), (fun _ _ _ a _ => nX e5 a), (fun _ a _ _ _ => nX e3 a)⟩
     ·
      have H := W10 hS e3 e4 e5 e6
      refine O.makeSlice Try.underlying22 zel3 rfl H ht1 rfl rfl rfl rfl ?_
      intro v1 w1 H hb1
      refine WL.nil ?_
      have H := H.pick [0, 7, 2, 3, 4, 5, 6] [ownI (α := Int) (.slice none 0 0) 3 ([] : List Int), ownI (α := Int) v1 3 t1, goneI, boxI b1 22 [(.slice none 0 0)], ownI (α := Int) (.slice none 0 0) 3 ([] : List Int), boxI b2 127 [(.slice none 0 0)], ownI (α := GEdge) (.slice none 0 0) 137 ([] : List GEdge)] rfl (by decide)
      exact ⟨v1, v2, b1, b2, (H.pick [] [] rfl (by decide)), hf0, hf3, hd0, (fun _ => rfl), hd2, hd3, hd4, hd5, (fun _ => rfl), C6_4, C6_5, (fun a _ _ _ _ => nG a), (fun _ _ a _ _ => nT e4 a), (fun a _ _ _ _ => nG a), (fun a _ _ _ _ => nG a), (fun a _ _ _ _ => nG a), (fun _ a _ _ _ => nX e3 a), (fun _ _ _ a _ => nT e5 a), (fun _ _ a _ _ => nT e4 a), (fun a _ _ _ _ => nG a), (fun a _ _ _ _ => nG a), (fun a _ _ _ _ => nG a), (fun _ a _ _ _ => nX e3 a), (fun _ a _ _ _ => nX e3 a), (fun _ _ _ _ _ => H), (fun a _ _ _ _ => nG a), (fun _ a _ _ _ => nX e3 a), (fun _ _ _ _ a => nX e6 a), (fun _ a _ _ _ => nX e3 a)⟩
   ·
    rcases bool_ft (S 4) with e4 | e4
    ·
     rcases bool_ft (S 5) with e5 | e5
     ·
      have H := W2 hS e3 e4 e5 e6
      refine O.makeSlice Try.underlying22 zel3 rfl H ht1 rfl rfl rfl rfl ?_
      intro v1 w1 H hb1
      refine WL.nil ?_
      have H := H.pick [0, 7, 2, 3, 4, 5, 6] [ownI (α := Int) (.slice none 0 0) 3 ([] : List Int), ownI (α := Int) v1 3 t1, ownI (α := GEdge) v2 137 t2, goneI, goneI, goneI, goneI] rfl (by decide)
      exact ⟨v1, v2, b1, b2, (H.pick [] [] rfl (by decide)), hf0, hf3, hd0, (fun _ => rfl), hd2, hd3, hd4, hd5, (fun _ => rfl), C6_4, C6_5, (fun a _ _ _ _ => nG a), (fun _ a _ _ _ => nT e3 a), (fun a _ _ _ _ => nG a), (fun a _ _ _ _ => nG a), (fun a _ _ _ _ => nG a), (fun _ _ _ _ _ => H), (fun _ a _ _ _ => nT e3 a), (fun _ a _ _ _ => nT e3 a), (fun a _ _ _ _ => nG a), (fun a _ _ _ _ => nG a), (fun a _ _ _ _ => nG a), (fun _ _ a _ _ => nX e4 a), (fun _ _ _ a _ => nX e5 a), (fun _ a _ _ _ => nT e3 a), (fun a _ _ _ _ => nG a), (fun _ _ a _ _ => nX e4 a), (fun _ a _ _ _ => nT e3 a), (fun _ _ a _ _ => nX e4 a)⟩
     ·
      have H := W9 hS e3 e4 e5 e6
      refine O.makeSlice Try.underlying22 zel3 rfl H ht1 rfl rfl rfl rfl ?_
      intro v1 w1 H hb1
      refine WL.nil ?_
      have H := H.pick [0, 7, 2, 3, 4, 5, 6] [ownI (α := Int) (.slice none 0 0) 3 ([] : List Int), ownI (α := Int) v1 3 t1, ownI (α := GEdge) v2 137 t2, goneI, goneI, boxI b2 127 [(.slice none 0 0)], ownI (α := GEdge) (.slice none 0 0) 137 ([] : List GEdge)] rfl (by decide)
      exact ⟨v1, v2, b1, b2, (H.pick [] [] rfl (by decide)), hf0, hf3, hd0, (fun _ => rfl), hd2, hd3, hd4, hd5, (fun _ => rfl), C6_4, C6_5, (fun a _ _ _ _ => nG a), (fun _ a _ _ _ => nT e3 a), (fun a _ _ _ _ => nG a), (fun a _ _ _ _ => nG a), (fun a _ _ _ _ => nG a), (fun _ _ _ a _ => nT e5 a), (fun _ a _ _ _ => nT e3 a), (fun _ a _ _ _ => nT e3 a), (fun a _ _ _ _ => nG a), (fun a _ _ _ _ => nG a), (fun a _ _ _ _ => nG a), (fun _ _ a _ _ => nX e4 a), (fun _ _ _ _ _ => H), (fun _ a _ _ _ => nT e3 a), (fun a _ _ _ _ => nG a), (fun _ _ a _ _ => nX e4 a), (fun _ a _ _ _ => nT e3 a), (fun _ _ a _ _ => nX e4 a)⟩
    ·
     rcases bool_ft (S 5) with e5 | e5
     ·
      have H := W8 hS e3 e4 e5 e6
      refine O.makeSlice Try.underlying22 zel3 rfl H ht1 rfl rfl rfl rfl ?_
      intro v1 w1 H hb1
      refine WL.nil ?_
      have H := H.pick [0, 7, 2, 3, 4, 5, 6] [ownI (α := Int) (.slice none 0 0) 3 ([] : List Int), ownI (α := Int) v1 3 t1, ownI (α := GEdge) v2 137 t2, boxI b1 22 [(.slice none 0 0)], ownI (α := Int) (.slice none 0 0) 3 ([] : List Int), goneI, goneI] rfl (by decide)
      exact ⟨v1, v2, b1, b2, (H.pick [] [] rfl (by decide)), hf0, hf3, hd0, (fun _ => rfl), hd2, hd3, hd4, hd5, (fun _ => rfl), C6_4, C6_5, (fun a _ _ _ _ => nG a), (fun _ a _ _ _ => nT e3 a), (fun a _ _ _ _ => nG a), (fun a _ _ _ _ => nG a), (fun a _ _ _ _ => nG a), (fun _ _ a _ _ => nT e4 a), (fun _ a _ _ _ => nT e3 a), (fun _ a _ _ _ => nT e3 a), (fun a _ _ _ _ => nG a), (fun a _ _ _ _ => nG a), (fun a _ _ _ _ => nG a), (fun _ _ _ _ _ => H), (fun _ _ a _ _ => nT e4 a), (fun _ a _ _ _ => nT e3 a), (fun a _ _ _ _ => nG a), (fun _ _ _ a _ => nX e5 a), (fun _ a _ _ _ => nT e3 a), (fun _ _ _ a _ => nX e5 a)⟩
     ·
      have H := W14 hS e3 e4 e5 e6
      refine O.makeSlice Try.underlying22 zel3 rfl H ht1 rfl rfl rfl rfl ?_
      intro v1 w1 H hb1
      refine WL.nil ?_
      have H := H.pick [0, 7, 2, 3, 4, 5, 6] [ownI (α := Int) (.slice none 0 0) 3 ([] : List Int), ownI (α := Int) v1 3 t1, ownI (α := GEdge) v2 137 t2, boxI b1 22 [(.slice none 0 0)], ownI (α := Int) (.slice none 0 0) 3 ([] : List Int), boxI b2 127 [(.slice none 0 0)], ownI (α := GEdge) (.slice none 0 0) 137 ([] : List GEdge)] rfl (by decide)
      exact ⟨v1, v2, b1, b2, (H.pick [] [] rfl (by decide)), hf0, hf3, hd0, (fun _ => rfl), hd2, hd3, hd4, hd5, (fun _ => rfl), C6_4, C6_5, (fun a _ _ _ _ => nG a), (fun _ a _ _ _ => nT e3 a), (fun a _ _ _ _ => nG a), (fun a _ _ _ _ => nG a), (fun a _ _ _ _ => nG a), (fun _ _ a _ _ => nT e4 a), (fun _ a _ _ _ => nT e3 a), (fun _ a _ _ _ => nT e3 a), (fun a _ _ _ _ => nG a), (fun a _ _ _ _ => nG a), (fun a _ _ _ _ => nG a), (fun _ _ _ a _ => nT e5 a), (fun _ _ a _ _ => nT e4 a), (fun _ a _ _ _ => nT e3 a), (fun a _ _ _ _ => nG a), (fun _ _ _ _ _ => H), (fun _ a _ _ _ => nT e3 a), (fun _ _ _ _ a => nX e6 a)⟩
  ·
   rintro S f w hS - ⟨e3, -⟩ ⟨v1, v2, b1, b2, B, hf0, hf3, hd0, hd1, hd2, t⟩
   obtain ⟨u3, rfl⟩ := up1 hf3
   have H := B
   refine O.move (v := (.int .i64 ((a0_0.length : Nat) : Int))) rfl rfl rfl ?_
   exact WL.nil ⟨v1, v2, b1, b2, B, hf0, rfl, hd0, hd1, (fun _ => rfl), t⟩
  ·
   rintro S f w hS ⟨e2, -⟩ - ⟨v1, _, b1, b2, B, hf0, hf3, hd0, hd1, hd2, hd3, hd4, hd5, C6_1, C6_4, C6_5, W0, W1, W2, W3, W4, W5, W6, W7, W8, W9, W10, W11, W12, W13, W14, W15, W16, W17⟩
   have hf19 := hd2 e2
   obtain ⟨u4, rfl⟩ := up1 hf19
   rcases bool_ft (S 1) with e1 | e1
   ·
    rcases bool_ft (S 4) with e4 | e4
    ·
     rcases bool_ft (S 5) with e5 | e5
     ·
      rcases bool_ft (S 6) with e6 | e6
      ·
       have H := W0 e1 hS e4 e5 e6
       refine O.makeSlice Try.underlying127 zel137 rfl H ht2 rfl rfl rfl rfl ?_
       intro v2 w2 H hb2
       refine WL.nil ?_
       have H := H.pick [0, 1, 7, 3, 4, 5, 6] [ownI (α := Int) (.slice none 0 0) 3 ([] : List Int), goneI, ownI (α := GEdge) v2 137 t2, goneI, goneI, goneI, goneI] rfl (by decide)
       exact ⟨v1, v2, b1, b2, (H.pick [] [] rfl (by decide)), hf0, hf3, hd0, hd1, hd2, (fun _ => rfl), hd4, hd5, C6_1, C6_4, C6_5, (fun _ a _ _ _ => nG a), (fun a _ _ _ _ => nX e1 a), (fun _ _ _ _ _ => H), (fun _ a _ _ _ => nG a), (fun _ a _ _ _ => nG a), (fun a _ _ _ _ => nX e1 a), (fun a _ _ _ _ => nX e1 a), (fun a _ _ _ _ => nX e1 a), (fun _ _ a _ _ => nX e4 a), (fun _ _ _ a _ => nX e5 a), (fun _ a _ _ _ => nG a), (fun a _ _ _ _ => nX e1 a), (fun a _ _ _ _ => nX e1 a), (fun a _ _ _ _ => nX e1 a), (fun _ _ a _ _ => nX e4 a), (fun a _ _ _ _ => nX e1 a), (fun a _ _ _ _ => nX e1 a), (fun a _ _ _ _ => nX e1 a)⟩
      ·
       exact nomatch (show true = false from (C6_1 e6).symm.trans e1)
     ·
      rcases bool_ft (S 6) with e6 | e6
      ·
       have H := W4 e1 hS e4 e5 e6
       refine O.makeSlice Try.underlying127 zel137 rfl H ht2 rfl rfl rfl rfl ?_
       intro v2 w2 H hb2
       refine WL.nil ?_
       have H := H.pick [0, 1, 7, 3, 4, 5, 6] [ownI (α := Int) (.slice none 0 0) 3 ([] : List Int), goneI, ownI (α := GEdge) v2 137 t2, goneI, goneI, boxI b2 127 [(.slice none 0 0)], ownI (α := GEdge) (.slice none 0 0) 137 ([] : List GEdge)] rfl (by decide)
       exact ⟨v1, v2, b1, b2, (H.pick [] [] rfl (by decide)), hf0, hf3, hd0, hd1, hd2, (fun _ => rfl), hd4, hd5, C6_1, C6_4, C6_5, (fun _ a _ _ _ => nG a), (fun a _ _ _ _ => nX e1 a), (fun _ _ _ a _ => nT e5 a), (fun _ a _ _ _ => nG a), (fun _ a _ _ _ => nG a), (fun a _ _ _ _ => nX e1 a), (fun a _ _ _ _ => nX e1 a), (fun a _ _ _ _ => nX e1 a), (fun _ _ a _ _ => nX e4 a), (fun _ _ _ _ _ => H), (fun _ a _ _ _ => nG a), (fun a _ _ _ _ => nX e1 a), (fun a _ _ _ _ => nX e1 a), (fun a _ _ _ _ => nX e1 a), (fun _ _ a _ _ => nX e4 a), (fun a _ _ _ _ => nX e1 a), (fun a _ _ _ _ => nX e1 a), (fun a _ _ _ _ => nX e1 a)⟩
      ·
       exact nomatch (show true = false from (C6_1 e6).symm.trans e1)
    ·
     rcases bool_ft (S 5) with e5 | e5
     ·
      rcases bool_ft (S 6) with e6 | e6
      ·
       have H := W3 e1 hS e4 e5 e6
       refine O.makeSlice Try.underlying127 zel137 rfl H ht2 rfl rfl rfl rfl ?_
       intro v2 w2 H hb2
       refine WL.nil ?_
       have H := H.pick [0, 1, 7, 3, 4, 5, 6] [ownI (α := Int) (.slice none 0 0) 3 ([] : List Int), goneI, ownI (α := GEdge) v2 137 t2, boxI b1 22 [(.slice none 0 0)], ownI (α := Int) (.slice none 0 0) 3 ([] : List Int), goneI, goneI] rfl (by decide)
       exact ⟨v1, v2, b1, b2, (H.pick [] [] rfl (by decide)), hf0, hf3, hd0, hd1, hd2, (fun _ => rfl), hd4, hd5, C6_1, C6_4, C6_5, (fun _ a _ _ _ => nG a), (fun a _ _ _ _ => nX e1 a), (fun _ _ a _ _ => nT e4 a), (fun _ a _ _ _ => nG a), (fun _ a _ _ _ => nG a), (fun a _ _ _ _ => nX e1 a), (fun a _ _ _ _ => nX e1 a), (fun a _ _ _ _ => nX e1 a), (fun _ _ _ _ _ => H), (fun _ _ a _ _ => nT e4 a), (fun _ a _ _ _ => nG a), (fun a _ _ _ _ => nX e1 a), (fun a _ _ _ _ => nX e1 a), (fun a _ _ _ _ => nX e1 a), (fun _ _ _ a _ => nX e5 a), (fun a _ _ _ _ => nX e1 a), (fun a _ _ _ _ => nX e1 a), (fun a _ _ _ _ => nX e1 a)⟩
      ·
       exact nomatch (show true = false from (C6_1 e6).symm.trans e1)
     ·
      rcases bool_ft (S 6) with e6 | e6
      ·
       have H := W10 e1 hS e4 e5 e6
       refine O.makeSlice Try.underlying127 zel137 rfl H ht2 rfl rfl rfl rfl ?_
       intro v2 w2 H hb2
       refine WL.nil ?_
       have H := H.pick [0, 1, 7, 3, 4, 5, 6] [ownI (α := Int) (.slice none 0 0) 3 ([] : List Int), goneI, ownI (α := GEdge) v2 137 t2, boxI b1 22 [(.slice none 0 0)], ownI (α := Int) (.slice none 0 0) 3 ([] : List Int), boxI b2 127 [(.slice none 0 0)], ownI (α := GEdge) (.slice none 0 0) 137 ([] : List GEdge)] rfl (by decide)
       exact ⟨v1, v2, b1, b2, (H.pick [] [] rfl (by decide)), hf0, hf3, hd0, hd1, hd2, (fun _ => rfl), hd4, hd5, C6_1, C6_4, C6_5, (fun _ a _ _ _ => nG a), (fun a _ _ _ _ => nX e1 a), (fun _ _ a _ _ => nT e4 a), (fun _ a _ _ _ => nG a), (fun _ a _ _ _ => nG a), (fun a _ _ _ _ => nX e1 a), (fun a _ _ _ _ => nX e1 a), (fun a _ _ _ _ => nX e1 a), (fun _ _ _ a _ => nT e5 a), (fun _ _ a _ _ => nT e4 a), (fun _ a _ _ _ => nG a), (fun a _ _ _ _ => nX e1 a), (fun a _ _ _ _ => nX e1 a), (fun a _ _ _ _ => nX e1 a), (fun _ _ _ _ _ => H), (fun a _ _ _ _ => nX e1 a), (fun a _ _ _ _ => nX e1 a), (fun a _ _ _ _ => nX e1 a)⟩
      ·
       exact nomatch (show true = false from (C6_1 e6).symm.trans e1)
   ·
    rcases bool_ft (S 4) with e4 | e4
    ·
     rcases bool_ft (S 5) with e5 | e5
     ·
      rcases bool_ft (S 6) with e6 | e6
      ·
       have H := W1 e1 hS e4 e5 e6
       refine O.makeSlice Try.underlying127 zel137 rfl H ht2 rfl rfl rfl rfl ?_
       intro v2 w2 H hb2
       refine WL.nil ?_
       have H := H.pick [0, 1, 7, 3, 4, 5, 6] [ownI (α := Int) (.slice none 0 0) 3 ([] : List Int), ownI (α := Int) v1 3 t1, ownI (α := GEdge) v2 137 t2, goneI, goneI, goneI, goneI] rfl (by decide)
       exact ⟨v1, v2, b1, b2, (H.pick [] [] rfl (by decide)), hf0, hf3, hd0, hd1, hd2, (fun _ => rfl), hd4, hd5, C6_1, C6_4, C6_5, (fun a _ _ _ _ => nT e1 a), (fun _ a _ _ _ => nG a), (fun a _ _ _ _ => nT e1 a), (fun a _ _ _ _ => nT e1 a), (fun a _ _ _ _ => nT e1 a), (fun _ _ _ _ _ => H), (fun _ a _ _ _ => nG a), (fun _ a _ _ _ => nG a), (fun a _ _ _ _ => nT e1 a), (fun a _ _ _ _ => nT e1 a), (fun a _ _ _ _ => nT e1 a), (fun _ _ a _ _ => nX e4 a), (fun _ _ _ a _ => nX e5 a), (fun _ a _ _ _ => nG a), (fun a _ _ _ _ => nT e1 a), (fun _ _ a _ _ => nX e4 a), (fun _ a _ _ _ => nG a), (fun _ _ a _ _ => nX e4 a)⟩
      ·
       exact nomatch (show true = false from (C6_4 e6).symm.trans e4)
     ·
      rcases bool_ft (S 6) with e6 | e6
      ·
       have H := W7 e1 hS e4 e5 e6
       refine O.makeSlice Try.underlying127 zel137 rfl H ht2 rfl rfl rfl rfl ?_
       intro v2 w2 H hb2
       refine WL.nil ?_
       have H := H.pick [0, 1, 7, 3, 4, 5, 6] [ownI (α := Int) (.slice none 0 0) 3 ([] : List Int), ownI (α := Int) v1 3 t1, ownI (α := GEdge) v2 137 t2, goneI, goneI, boxI b2 127 [(.slice none 0 0)], ownI (α := GEdge) (.slice none 0 0) 137 ([] : List GEdge)] rfl (by decide)
       exact ⟨v1, v2, b1, b2, (H.pick [] [] rfl (by decide)), hf0, hf3, hd0, hd1, hd2, (fun _ => rfl), hd4, hd5, C6_1, C6_4, C6_5, (fun a _ _ _ _ => nT e1 a), (fun _ a _ _ _ => nG a), (fun a _ _ _ _ => nT e1 a), (fun a _ _ _ _ => nT e1 a), (fun a _ _ _ _ => nT e1 a), (fun _ _ _ a _ => nT e5 a), (fun _ a _ _ _ => nG a), (fun _ a _ _ _ => nG a), (fun a _ _ _ _ => nT e1 a), (fun a _ _ _ _ => nT e1 a), (fun a _ _ _ _ => nT e1 a), (fun _ _ a _ _ => nX e4 a), (fun _ _ _ _ _ => H), (fun _ a _ _ _ => nG a), (fun a _ _ _ _ => nT e1 a), (fun _ _ a _ _ => nX e4 a), (fun _ a _ _ _ => nG a), (fun _ _ a _ _ => nX e4 a)⟩
      ·
       exact nomatch (show true = false from (C6_4 e6).symm.trans e4)
    ·
     rcases bool_ft (S 5) with e5 | e5
     ·
      rcases bool_ft (S 6) with e6 | e6
      ·
       have H := W6 e1 hS e4 e5 e6
       refine O.makeSlice Try.underlying127 zel137 rfl H ht2 rfl rfl rfl rfl ?_
       intro v2 w2 H hb2
       refine WL.nil ?_
       have H := H.pick [0, 1, 7, 3, 4, 5, 6] [ownI (α := Int) (.slice none 0 0) 3 ([] : List Int), ownI (α := Int) v1 3 t1, ownI (α := GEdge) v2 137 t2, boxI b1 22 [(.slice none 0 0)], ownI (α := Int) (.slice none 0 0) 3 ([] : List Int), goneI, goneI] rfl (by decide)
       exact ⟨v1, v2, b1, b2, (H.pick [] [] rfl (by decide)), hf0, hf3, hd0, hd1, hd2, (fun _ => rfl), hd4, hd5, C6_1, C6_4, C6_5, (fun a _ _ _ _ => nT e1 a), (fun _ a _ _ _ => nG a), (fun a _ _ _ _ => nT e1 a), (fun a _ _ _ _ => nT e1 a), (fun a _ _ _ _ => nT e1 a), (fun _ _ a _ _ => nT e4 a), (fun _ a _ _ _ => nG a), (fun _ a _ _ _ => nG a), (fun a _ _ _ _ => nT e1 a), (fun a _ _ _ _ => nT e1 a), (fun a _ _ _ _ => nT e1 a), (fun _ _ _ _ _ => H), (fun _ _ a _ _ => nT e4 a), (fun _ a _ _ _ => nG a), (fun a _ _ _ _ => nT e1 a), (fun _ _ _ a _ => nX e5 a), (fun _ a _ _ _ => nG a), (fun _ _ _ a _ => nX e5 a)⟩
      ·
       exact nomatch (show true = false from (C6_5 e6).symm.trans e5)
     ·
      rcases bool_ft (S 6) with e6 | e6
      ·
       have H := W13 e1 hS e4 e5 e6
       refine O.makeSlice Try.underlying127 zel137 rfl H ht2 rfl rfl rfl rfl ?_
       intro v2 w2 H hb2
       refine WL.nil ?_
       have H := H.pick [0, 1, 7, 3, 4, 5, 6] [ownI (α := Int) (.slice none 0 0) 3 ([] : List Int), ownI (α := Int) v1 3 t1, ownI (α := GEdge) v2 137 t2, boxI b1 22 [(.slice none 0 0)], ownI (α := Int) (.slice none 0 0) 3 ([] : List Int), boxI b2 127 [(.slice none 0 0)], ownI (α := GEdge) (.slice none 0 0) 137 ([] : List GEdge)] rfl (by decide)
       exact ⟨v1, v2, b1, b2, (H.pick [] [] rfl (by decide)), hf0, hf3, hd0, hd1, hd2, (fun _ => rfl), hd4, hd5, C6_1, C6_4, C6_5, (fun a _ _ _ _ => nT e1 a), (fun _ a _ _ _ => nG a), (fun a _ _ _ _ => nT e1 a), (fun a _ _ _ _ => nT e1 a), (fun a _ _ _ _ => nT e1 a), (fun _ _ a _ _ => nT e4 a), (fun _ a _ _ _ => nG a), (fun _ a _ _ _ => nG a), (fun a _ _ _ _ => nT e1 a), (fun a _ _ _ _ => nT e1 a), (fun a _ _ _ _ => nT e1 a), (fun _ _ _ a _ => nT e5 a), (fun _ _ a _ _ => nT e4 a), (fun _ a _ _ _ => nG a), (fun a _ _ _ _ => nT e1 a), (fun _ _ _ _ _ => H), (fun _ a _ _ _ => nG a), (fun _ _ _ _ a => nX e6 a)⟩
      ·
       have H := W16 e1 hS e4 e5 e6
       refine O.makeSlice Try.underlying127 zel137 rfl H ht2 rfl rfl rfl rfl ?_
       intro v2 w2 H hb2
       refine WL.nil ?_
       have H := H.pick [0, 1, 7, 3, 4, 5, 6] [ownI (α := Int) (.slice none 0 0) 3 ([] : List Int), ownI (α := Int) v1 3 t1, ownI (α := GEdge) v2 137 t2, boxI b1 22 [v1], ownI (α := Int) (.slice none 0 0) 3 ([] : List Int), boxI b2 127 [(.slice none 0 0)], ownI (α := GEdge) (.slice none 0 0) 137 ([] : List GEdge)] rfl (by decide)
       exact ⟨v1, v2, b1, b2, (H.pick [] [] rfl (by decide)), hf0, hf3, hd0, hd1, hd2, (fun _ => rfl), hd4, hd5, C6_1, C6_4, C6_5, (fun a _ _ _ _ => nT e1 a), (fun _ a _ _ _ => nG a), (fun a _ _ _ _ => nT e1 a), (fun a _ _ _ _ => nT e1 a), (fun a _ _ _ _ => nT e1 a), (fun _ _ a _ _ => nT e4 a), (fun _ a _ _ _ => nG a), (fun _ a _ _ _ => nG a), (fun a _ _ _ _ => nT e1 a), (fun a _ _ _ _ => nT e1 a), (fun a _ _ _ _ => nT e1 a), (fun _ _ _ a _ => nT e5 a), (fun _ _ a _ _ => nT e4 a), (fun _ a _ _ _ => nG a), (fun a _ _ _ _ => nT e1 a), (fun _ _ _ _ a => nT e6 a), (fun _ a _ _ _ => nG a), (fun _ _ _ _ _ => H)⟩
  ·
   rintro S f w hS - ⟨e6, -⟩ ⟨v1, v2, _, b2, B, hf0, hf3, hd0, hd1, hd2, hd3, hd4, hd5, C6_1, C6_4, C6_5, W0, W1, W2, W3, W4, W5, W6, W7, W8, W9, W10, W11, W12, W13, W14, W15, W16, W17⟩
   rcases bool_ft (S 1) with e1 | e1
   ·
    rcases bool_ft (S 3) with e3 | e3
    ·
     rcases bool_ft (S 5) with e5 | e5
     ·
      have H := W0 e1 e3 hS e5 e6
      refine O.alloc [(.slice none 0 0)] ze22 H rfl rfl rfl ?_
      intro b1 w3 H hb3
      have H := H.addNil (α := Int) (E := 3)
      refine WL.nil ?_
      have H := H.pick [0, 1, 2, 7, 8, 5, 6] [ownI (α := Int) (.slice none 0 0) 3 ([] : List Int), goneI, goneI, boxI b1 22 [(.slice none 0 0)], ownI (α := Int) (.slice none 0 0) 3 ([] : List Int), goneI, goneI] rfl (by decide)
      exact ⟨v1, v2, b1, b2, (H.pick [] [] rfl (by decide)), hf0, hf3, hd0, hd1, hd2, hd3, (fun _ => rfl), hd5, C6_1, (fun _ => rfl), C6_5, (fun _ _ a _ _ => nG a), (fun a _ _ _ _ => nX e1 a), (fun _ a _ _ _ => nX e3 a), (fun _ _ _ _ _ => H), (fun _ _ a _ _ => nG a), (fun a _ _ _ _ => nX e1 a), (fun a _ _ _ _ => nX e1 a), (fun a _ _ _ _ => nX e1 a), (fun _ a _ _ _ => nX e3 a), (fun _ a _ _ _ => nX e3 a), (fun _ _ _ a _ => nX e5 a), (fun a _ _ _ _ => nX e1 a), (fun a _ _ _ _ => nX e1 a), (fun a _ _ _ _ => nX e1 a), (fun _ a _ _ _ => nX e3 a), (fun a _ _ _ _ => nX e1 a), (fun a _ _ _ _ => nX e1 a), (fun a _ _ _ _ => nX e1 a)⟩
     ·
      have H := W4 e1 e3 hS e5 e6
      refine O.alloc [(.slice none 0 0)] ze22 H rfl rfl rfl ?_
      intro b1 w3 H hb3
      have H := H.addNil (α := Int) (E := 3)
      refine WL.nil ?_
      have H := H.pick [0, 1, 2, 7, 8, 5, 6] [ownI (α := Int) (.slice none 0 0) 3 ([] : List Int), goneI, goneI, boxI b1 22 [(.slice none 0 0)], ownI (α := Int) (.slice none 0 0) 3 ([] : List Int), boxI b2 127 [(.slice none 0 0)], ownI (α := GEdge) (.slice none 0 0) 137 ([] : List GEdge)] rfl (by decide)
      exact ⟨v1, v2, b1, b2, (H.pick [] [] rfl (by decide)), hf0, hf3, hd0, hd1, hd2, hd3, (fun _ => rfl), hd5, C6_1, (fun _ => rfl), C6_5, (fun _ _ a _ _ => nG a), (fun a _ _ _ _ => nX e1 a), (fun _ a _ _ _ => nX e3 a), (fun _ _ _ a _ => nT e5 a), (fun _ _ a _ _ => nG a), (fun a _ _ _ _ => nX e1 a), (fun a _ _ _ _ => nX e1 a), (fun a _ _ _ _ => nX e1 a), (fun _ a _ _ _ => nX e3 a), (fun _ a _ _ _ => nX e3 a), (fun _ _ _ _ _ => H), (fun a _ _ _ _ => nX e1 a), (fun a _ _ _ _ => nX e1 a), (fun a _ _ _ _ => nX e1 a), (fun _ a _ _ _ => nX e3 a), (fun a _ _ _ _ => nX e1 a), (fun a _ _ _ _ => nX e1 a), (fun a _ _ _ _ => nX e1 a)⟩
    ·
     rcases bool_ft (S 5) with e5 | e5
     ·
      have H := W2 e1 e3 hS e5 e6
      refine O.alloc [(.slice none 0 0)] ze22 H rfl rfl rfl ?_
      intro b1 w3 H hb3
      have H := H.addNil (α := Int) (E := 3)
      refine WL.nil ?_
      have H := H.pick [0, 1, 2, 7, 8, 5, 6] [ownI (α := Int) (.slice none 0 0) 3 ([] : List Int), goneI, ownI (α := GEdge) v2 137 t2, boxI b1 22 [(.slice none 0 0)], ownI (α := Int) (.slice none 0 0) 3 ([] : List Int), goneI, goneI] rfl (by decide)
      exact ⟨v1, v2, b1, b2, (H.pick [] [] rfl (by decide)), hf0, hf3, hd0, hd1, hd2, hd3, (fun _ => rfl), hd5, C6_1, (fun _ => rfl), C6_5, (fun _ a _ _ _ => nT e3 a), (fun a _ _ _ _ => nX e1 a), (fun _ _ a _ _ => nG a), (fun _ a _ _ _ => nT e3 a), (fun _ a _ _ _ => nT e3 a), (fun a _ _ _ _ => nX e1 a), (fun a _ _ _ _ => nX e1 a), (fun a _ _ _ _ => nX e1 a), (fun _ _ _ _ _ => H), (fun _ _ a _ _ => nG a), (fun _ a _ _ _ => nT e3 a), (fun a _ _ _ _ => nX e1 a), (fun a _ _ _ _ => nX e1 a), (fun a _ _ _ _ => nX e1 a), (fun _ _ _ a _ => nX e5 a), (fun a _ _ _ _ => nX e1 a), (fun a _ _ _ _ => nX e1 a), (fun a _ _ _ _ => nX e1 a)⟩
     ·
      have H := W9 e1 e3 hS e5 e6
      refine O.alloc [(.slice none 0 0)] ze22 H rfl rfl rfl ?_
      intro b1 w3 H hb3
      have H := H.addNil (α := Int) (E := 3)
      refine WL.nil ?_
      have H := H.pick [0, 1, 2, 7, 8, 5, 6] [ownI (α := Int) (.slice none 0 0) 3 ([] : List Int), goneI, ownI (α := GEdge) v2 137 t2, boxI b1 22 [(.slice none 0 0)], ownI (α := Int) (.slice none 0 0) 3 ([] : List Int), boxI b2 127 [(.slice none 0 0)], ownI (α := GEdge) (.slice none 0 0) 137 ([] : List GEdge)] rfl (by decide)
      exact ⟨v1, v2, b1, b2, (H.pick [] [] rfl (by decide)), hf0, hf3, hd0, hd1, hd2, hd3, (fun _ => rfl), hd5, C6_1, (fun _ => rfl), C6_5, (fun _ a _ _ _ => nT e3 a), (fun a _ _ _ _ => nX e1 a), (fun _ _ a _ _ => nG a), (fun _ a _ _ _ => nT e3 a), (fun _ a _ _ _ => nT e3 a), (fun a _ _ _ _ => nX e1 a), (fun a _ _ _ _ => nX e1 a), (fun a _ _ _ _ => nX e1 a), (fun _ _ _ a _ => nT e5 a), (fun _ _ a _ _ => nG a), (fun _ a _ _ _ => nT e3 a), (fun a _ _ _ _ => nX e1 a), (fun a _ _ _ _ => nX e1 a), (fun a _ _ _ _ => nX e1 a), (fun _ _ _ _ _ => H), (fun a _ _ _ _ => nX e1 a), (fun a _ _ _ _ => nX e1 a), (fun a _ _ _ _ => nX e1 a)⟩
   ·
    rcases bool_ft (S 3) with e3 | e3
    ·
     rcases bool_ft (S 5) with e5 | e5
     ·
      have H := W1 e1 e3 hS e5 e6
      refine O.alloc [(.slice none 0 0)] ze22 H rfl rfl rfl ?_
      intro b1 w3 H hb3
      have H := H.addNil (α := Int) (E := 3)
      refine WL.nil ?_
      have H := H.pick [0, 1, 2, 7, 8, 5, 6] [ownI (α := Int) (.slice none 0 0) 3 ([] : List Int), ownI (α := Int) v1 3 t1, goneI, boxI b1 22 [(.slice none 0 0)], ownI (α := Int) (.slice none 0 0) 3 ([] : List Int), goneI, goneI] rfl (by decide)
      exact ⟨v1, v2, b1, b2, (H.pick [] [] rfl (by decide)), hf0, hf3, hd0, hd1, hd2, hd3, (fun _ => rfl), hd5, C6_1, (fun _ => rfl), C6_5, (fun a _ _ _ _ => nT e1 a), (fun _ _ a _ _ => nG a), (fun a _ _ _ _ => nT e1 a), (fun a _ _ _ _ => nT e1 a), (fun a _ _ _ _ => nT e1 a), (fun _ a _ _ _ => nX e3 a), (fun _ _ _ _ _ => H), (fun _ _ a _ _ => nG a), (fun a _ _ _ _ => nT e1 a), (fun a _ _ _ _ => nT e1 a), (fun a _ _ _ _ => nT e1 a), (fun _ a _ _ _ => nX e3 a), (fun _ a _ _ _ => nX e3 a), (fun _ _ _ a _ => nX e5 a), (fun a _ _ _ _ => nT e1 a), (fun _ a _ _ _ => nX e3 a), (fun _ _ _ a _ => nX e5 a), (fun _ a _ _ _ => nX e3 a)⟩
     ·
      have H := W7 e1 e3 hS e5 e6
      refine O.alloc [(.slice none 0 0)] ze22 H rfl rfl rfl ?_
      intro b1 w3 H hb3
      have H := H.addNil (α := Int) (E := 3)
      refine WL.nil ?_
      have H := H.pick [0, 1, 2, 7, 8, 5, 6] [ownI (α := Int) (.slice none 0 0) 3 ([] : List Int), ownI (α := Int) v1 3 t1, goneI, boxI b1 22 [(.slice none 0 0)], ownI (α := Int) (.slice none 0 0) 3 ([] : List Int), boxI b2 127 [(.slice none 0 0)], ownI (α := GEdge) (.slice none 0 0) 137 ([] : List GEdge)] rfl (by decide)
      exact ⟨v1, v2, b1, b2, (H.pick [] [] rfl (by decide)), hf0, hf3, hd0, hd1, hd2, hd3, (fun _ => rfl), hd5, C6_1, (fun _ => rfl), C6_5, (fun a _ _ _ _ => nT e1 a), (fun _ _ a _ _ => nG a), (fun a _ _ _ _ => nT e1 a), (fun a _ _ _ _ => nT e1 a), (fun a _ _ _ _ => nT e1 a), (fun _ a _ _ _ => nX e3 a), (fun _ _ _ a _ => nT e5 a), (fun _ _ a _ _ => nG a), (fun a _ _ _ _ => nT e1 a), (fun a _ _ _ _ => nT e1 a), (fun a _ _ _ _ => nT e1 a), (fun _ a _ _ _ => nX e3 a), (fun _ a _ _ _ => nX e3 a), (fun _ _ _ _ _ => H), (fun a _ _ _ _ => nT e1 a), (fun _ a _ _ _ => nX e3 a), (fun _ _ _ _ a => nX e6 a), (fun _ a _ _ _ => nX e3 a)⟩
    ·
     rcases bool_ft (S 5) with e5 | e5
     ·
      have H := W5 e1 e3 hS e5 e6
      refine O.alloc [(.slice none 0 0)] ze22 H rfl rfl rfl ?_
      intro b1 w3 H hb3
      have H := H.addNil (α := Int) (E := 3)
      refine WL.nil ?_
      have H := H.pick [0, 1, 2, 7, 8, 5, 6] [ownI (α := Int) (.slice none 0 0) 3 ([] : List Int), ownI (α := Int) v1 3 t1, ownI (α := GEdge) v2 137 t2, boxI b1 22 [(.slice none 0 0)], ownI (α := Int) (.slice none 0 0) 3 ([] : List Int), goneI, goneI] rfl (by decide)
      exact ⟨v1, v2, b1, b2, (H.pick [] [] rfl (by decide)), hf0, hf3, hd0, hd1, hd2, hd3, (fun _ => rfl), hd5, C6_1, (fun _ => rfl), C6_5, (fun a _ _ _ _ => nT e1 a), (fun _ a _ _ _ => nT e3 a), (fun a _ _ _ _ => nT e1 a), (fun a _ _ _ _ => nT e1 a), (fun a _ _ _ _ => nT e1 a), (fun _ _ a _ _ => nG a), (fun _ a _ _ _ => nT e3 a), (fun _ a _ _ _ => nT e3 a), (fun a _ _ _ _ => nT e1 a), (fun a _ _ _ _ => nT e1 a), (fun a _ _ _ _ => nT e1 a), (fun _ _ _ _ _ => H), (fun _ _ a _ _ => nG a), (fun _ a _ _ _ => nT e3 a), (fun a _ _ _ _ => nT e1 a), (fun _ _ _ a _ => nX e5 a), (fun _ a _ _ _ => nT e3 a), (fun _ _ _ a _ => nX e5 a)⟩
     ·
      have H := W12 e1 e3 hS e5 e6
      refine O.alloc [(.slice none 0 0)] ze22 H rfl rfl rfl ?_
      intro b1 w3 H hb3
      have H := H.addNil (α := Int) (E := 3)
      refine WL.nil ?_
      have H := H.pick [0, 1, 2, 7, 8, 5, 6] [ownI (α := Int) (.slice none 0 0) 3 ([] : List Int), ownI (α := Int) v1 3 t1, ownI (α := GEdge) v2 137 t2, boxI b1 22 [(.slice none 0 0)], ownI (α := Int) (.slice none 0 0) 3 ([] : List Int), boxI b2 127 [(.slice none 0 0)], ownI (α := GEdge) (.slice none 0 0) 137 ([] : List GEdge)] rfl (by decide)
      exact ⟨v1, v2, b1, b2, (H.pick [] [] rfl (by decide)), hf0, hf3, hd0, hd1, hd2, hd3, (fun _ => rfl), hd5, C6_1, (fun _ => rfl), C6_5, (fun a _ _ _ _ => nT e1 a), (fun _ a _ _ _ => nT e3 a), (fun a _ _ _ _ => nT e1 a), (fun a _ _ _ _ => nT e1 a), (fun a _ _ _ _ => nT e1 a), (fun _ _ a _ _ => nG a), (fun _ a _ _ _ => nT e3 a), (fun _ a _ _ _ => nT e3 a), (fun a _ _ _ _ => nT e1 a), (fun a _ _ _ _ => nT e1 a), (fun a _ _ _ _ => nT e1 a), (fun _ _ _ a _ => nT e5 a), (fun _ _ a _ _ => nG a), (fun _ a _ _ _ => nT e3 a), (fun a _ _ _ _ => nT e1 a), (fun _ _ _ _ _ => H), (fun _ a _ _ _ => nT e3 a), (fun _ _ _ _ a => nX e6 a)⟩
  ·
   rintro S f w hS - ⟨e6, -⟩ ⟨v1, v2, b1, _, B, hf0, hf3, hd0, hd1, hd2, hd3, hd4, hd5, C6_1, C6_4, C6_5, W0, W1, W2, W3, W4, W5, W6, W7, W8, W9, W10, W11, W12, W13, W14, W15, W16, W17⟩
   rcases bool_ft (S 1) with e1 | e1
   ·
    rcases bool_ft (S 3) with e3 | e3
    ·
     rcases bool_ft (S 4) with e4 | e4
     ·
      have H := W0 e1 e3 e4 hS e6
      refine O.alloc [(.slice none 0 0)] ze127 H rfl rfl rfl ?_
      intro b2 w4 H hb4
      have H := H.addNil (α := GEdge) (E := 137)
      refine WL.nil ?_
      have H := H.pick [0, 1, 2, 3, 4, 7, 8] [ownI (α := Int) (.slice none 0 0) 3 ([] : List Int), goneI, goneI, goneI, goneI, boxI b2 127 [(.slice none 0 0)], ownI (α := GEdge) (.slice none 0 0) 137 ([] : List GEdge)] rfl (by decide)
      exact ⟨v1, v2, b1, b2, (H.pick [] [] rfl (by decide)), hf0, hf3, hd0, hd1, hd2, hd3, hd4, (fun _ => rfl), C6_1, C6_4, (fun _ => rfl), (fun _ _ _ a _ => nG a), (fun a _ _ _ _ => nX e1 a), (fun _ a _ _ _ => nX e3 a), (fun _ _ a _ _ => nX e4 a), (fun _ _ _ _ _ => H), (fun a _ _ _ _ => nX e1 a), (fun a _ _ _ _ => nX e1 a), (fun a _ _ _ _ => nX e1 a), (fun _ a _ _ _ => nX e3 a), (fun _ a _ _ _ => nX e3 a), (fun _ _ a _ _ => nX e4 a), (fun a _ _ _ _ => nX e1 a), (fun a _ _ _ _ => nX e1 a), (fun a _ _ _ _ => nX e1 a), (fun _ a _ _ _ => nX e3 a), (fun a _ _ _ _ => nX e1 a), (fun a _ _ _ _ => nX e1 a), (fun a _ _ _ _ => nX e1 a)⟩
     ·
      have H := W3 e1 e3 e4 hS e6
      refine O.alloc [(.slice none 0 0)] ze127 H rfl rfl rfl ?_
      intro b2 w4 H hb4
      have H := H.addNil (α := GEdge) (E := 137)
      refine WL.nil ?_
      have H := H.pick [0, 1, 2, 3, 4, 7, 8] [ownI (α := Int) (.slice none 0 0) 3 ([] : List Int), goneI, goneI, boxI b1 22 [(.slice none 0 0)], ownI (α := Int) (.slice none 0 0) 3 ([] : List Int), boxI b2 127 [(.slice none 0 0)], ownI (α := GEdge) (.slice none 0 0) 137 ([] : List GEdge)] rfl (by decide)
      exact ⟨v1, v2, b1, b2, (H.pick [] [] rfl (by decide)), hf0, hf3, hd0, hd1, hd2, hd3, hd4, (fun _ => rfl), C6_1, C6_4, (fun _ => rfl), (fun _ _ a _ _ => nT e4 a), (fun a _ _ _ _ => nX e1 a), (fun _ a _ _ _ => nX e3 a), (fun _ _ _ a _ => nG a), (fun _ _ a _ _ => nT e4 a), (fun a _ _ _ _ => nX e1 a), (fun a _ _ _ _ => nX e1 a), (fun a _ _ _ _ => nX e1 a), (fun _ a _ _ _ => nX e3 a), (fun _ a _ _ _ => nX e3 a), (fun _ _ _ _ _ => H), (fun a _ _ _ _ => nX e1 a), (fun a _ _ _ _ => nX e1 a), (fun a _ _ _ _ => nX e1 a), (fun _ a _ _ _ => nX e3 a), (fun a _ _ _ _ => nX e1 a), (fun a _ _ _ _ => nX e1 a), (fun a _ _ _ _ => nX e1 a)⟩
    ·
     rcases bool_ft (S 4) with e4 | e4
     ·
      have H := W2 e1 e3 e4 hS e6
      refine O.alloc [(.slice none 0 0)] ze127 H rfl rfl rfl ?_
      intro b2 w4 H hb4
      have H := H.addNil (α := GEdge) (E := 137)
      refine WL.nil ?_
      have H := H.pick [0, 1, 2, 3, 4, 7, 8] [ownI (α := Int) (.slice none 0 0) 3 ([] : List Int), goneI, ownI (α := GEdge) v2 137 t2, goneI, goneI, boxI b2 127 [(.slice none 0 0)], ownI (α := GEdge) (.slice none 0 0) 137 ([] : List GEdge)] rfl (by decide)
      exact ⟨v1, v2, b1, b2, (H.pick [] [] rfl (by decide)), hf0, hf3, hd0, hd1, hd2, hd3, hd4, (fun _ => rfl), C6_1, C6_4, (fun _ => rfl), (fun _ a _ _ _ => nT e3 a), (fun a _ _ _ _ => nX e1 a), (fun _ _ _ a _ => nG a), (fun _ a _ _ _ => nT e3 a), (fun _ a _ _ _ => nT e3 a), (fun a _ _ _ _ => nX e1 a), (fun a _ _ _ _ => nX e1 a), (fun a _ _ _ _ => nX e1 a), (fun _ _ a _ _ => nX e4 a), (fun _ _ _ _ _ => H), (fun _ a _ _ _ => nT e3 a), (fun a _ _ _ _ => nX e1 a), (fun a _ _ _ _ => nX e1 a), (fun a _ _ _ _ => nX e1 a), (fun _ _ a _ _ => nX e4 a), (fun a _ _ _ _ => nX e1 a), (fun a _ _ _ _ => nX e1 a), (fun a _ _ _ _ => nX e1 a)⟩
     ·
      have H := W8 e1 e3 e4 hS e6
      refine O.alloc [(.slice none 0 0)] ze127 H rfl rfl rfl ?_
      intro b2 w4 H hb4
      have H := H.addNil (α := GEdge) (E := 137)
      refine WL.nil ?_
      have H := H.pick [0, 1, 2, 3, 4, 7, 8] [ownI (α := Int) (.slice none 0 0) 3 ([] : List Int), goneI, ownI (α := GEdge) v2 137 t2, boxI b1 22 [(.slice none 0 0)], ownI (α := Int) (.slice none 0 0) 3 ([] : List Int), boxI b2 127 [(.slice none 0 0)], ownI (α := GEdge) (.slice none 0 0) 137 ([] : List GEdge)] rfl (by decide)
      exact ⟨v1, v2, b1, b2, (H.pick [] [] rfl (by decide)), hf0, hf3, hd0, hd1, hd2, hd3, hd4, (fun _ => rfl), C6_1, C6_4, (fun _ => rfl), (fun _ a _ _ _ => nT e3 a), (fun a _ _ _ _ => nX e1 a), (fun _ _ a _ _ => nT e4 a), (fun _ a _ _ _ => nT e3 a), (fun _ a _ _ _ => nT e3 a), (fun a _ _ _ _ => nX e1 a), (fun a _ _ _ _ => nX e1 a), (fun a _ _ _ _ => nX e1 a), (fun _ _ _ a _ => nG a), (fun _ _ a _ _ => nT e4 a), (fun _ a _ _ _ => nT e3 a), (fun a _ _ _ _ => nX e1 a), (fun a _ _ _ _ => nX e1 a), (fun a _ _ _ _ => nX e1 a), (fun _ _ _ _ _ => H), (fun a _ _ _ _ => nX e1 a), (fun a _ _ _ _ => nX e1 a), (fun a _ _ _ _ => nX e1 a)⟩
   ·
    rcases bool_ft (S 3) with e3 | e3
    ·
     rcases bool_ft (S 4) with e4 | e4
     ·
      have H := W1 e1 e3 e4 hS e6
      refine O.alloc [(.slice none 0 0)] ze127 H rfl rfl rfl ?_
      intro b2 w4 H hb4
      have H := H.addNil (α := GEdge) (E := 137)
      refine WL.nil ?_
      have H := H.pick [0, 1, 2, 3, 4, 7, 8] [ownI (α := Int) (.slice none 0 0) 3 ([] : List Int), ownI (α := Int) v1 3 t1, goneI, goneI, goneI, boxI b2 127 [(.slice none 0 0)], ownI (α := GEdge) (.slice none 0 0) 137 ([] : List GEdge)] rfl (by decide)
      exact ⟨v1, v2, b1, b2, (H.pick [] [] rfl (by decide)), hf0, hf3, hd0, hd1, hd2, hd3, hd4, (fun _ => rfl), C6_1, C6_4, (fun _ => rfl), (fun a _ _ _ _ => nT e1 a), (fun _ _ _ a _ => nG a), (fun a _ _ _ _ => nT e1 a), (fun a _ _ _ _ => nT e1 a), (fun a _ _ _ _ => nT e1 a), (fun _ a _ _ _ => nX e3 a), (fun _ _ a _ _ => nX e4 a), (fun _ _ _ _ _ => H), (fun a _ _ _ _ => nT e1 a), (fun a _ _ _ _ => nT e1 a), (fun a _ _ _ _ => nT e1 a), (fun _ a _ _ _ => nX e3 a), (fun _ a _ _ _ => nX e3 a), (fun _ _ a _ _ => nX e4 a), (fun a _ _ _ _ => nT e1 a), (fun _ a _ _ _ => nX e3 a), (fun _ _ a _ _ => nX e4 a), (fun _ a _ _ _ => nX e3 a)⟩
     ·
      have H := W6 e1 e3 e4 hS e6
      refine O.alloc [(.slice none 0 0)] ze127 H rfl rfl rfl ?_
      intro b2 w4 H hb4
      have H := H.addNil (α := GEdge) (E := 137)
      refine WL.nil ?_
      have H := H.pick [0, 1, 2, 3, 4, 7, 8] [ownI (α := Int) (.slice none 0 0) 3 ([] : List Int), ownI (α := Int) v1 3 t1, goneI, boxI b1 22 [(.slice none 0 0)], ownI (α := Int) (.slice none 0 0) 3 ([] : List Int), boxI b2 127 [(.slice none 0 0)], ownI (α := GEdge) (.slice none 0 0) 137 ([] : List GEdge)] rfl (by decide)
      exact ⟨v1, v2, b1, b2, (H.pick [] [] rfl (by decide)), hf0, hf3, hd0, hd1, hd2, hd3, hd4, (fun _ => rfl), C6_1, C6_4, (fun _ => rfl), (fun a _ _ _ _ => nT e1 a), (fun _ _ a _ _ => nT e4 a), (fun a _ _ _ _ => nT e1 a), (fun a _ _ _ _ => nT e1 a), (fun a _ _ _ _ => nT e1 a), (fun _ a _ _ _ => nX e3 a), (fun _ _ _ a _ => nG a), (fun _ _ a _ _ => nT e4 a), (fun a _ _ _ _ => nT e1 a), (fun a _ _ _ _ => nT e1 a), (fun a _ _ _ _ => nT e1 a), (fun _ a _ _ _ => nX e3 a), (fun _ a _ _ _ => nX e3 a), (fun _ _ _ _ _ => H), (fun a _ _ _ _ => nT e1 a), (fun _ a _ _ _ => nX e3 a), (fun _ _ _ _ a => nX e6 a), (fun _ a _ _ _ => nX e3 a)⟩
    ·
     rcases bool_ft (S 4) with e4 | e4
     ·
      have H := W5 e1 e3 e4 hS e6
      refine O.alloc [(.slice none 0 0)] ze127 H rfl rfl rfl ?_
      intro b2 w4 H hb4
      have H := H.addNil (α := GEdge) (E := 137)
      refine WL.nil ?_
      have H := H.pick [0, 1, 2, 3, 4, 7, 8] [ownI (α := Int) (.slice none 0 0) 3 ([] : List Int), ownI (α := Int) v1 3 t1, ownI (α := GEdge) v2 137 t2, goneI, goneI, boxI b2 127 [(.slice none 0 0)], ownI (α := GEdge) (.slice none 0 0) 137 ([] : List GEdge)] rfl (by decide)
      exact ⟨v1, v2, b1, b2, (H.pick [] [] rfl (by decide)), hf0, hf3, hd0, hd1, hd2, hd3, hd4, (fun _ => rfl), C6_1, C6_4, (fun _ => rfl), (fun a _ _ _ _ => nT e1 a), (fun _ a _ _ _ => nT e3 a), (fun a _ _ _ _ => nT e1 a), (fun a _ _ _ _ => nT e1 a), (fun a _ _ _ _ => nT e1 a), (fun _ _ _ a _ => nG a), (fun _ a _ _ _ => nT e3 a), (fun _ a _ _ _ => nT e3 a), (fun a _ _ _ _ => nT e1 a), (fun a _ _ _ _ => nT e1 a), (fun a _ _ _ _ => nT e1 a), (fun _ _ a _ _ => nX e4 a), (fun _ _ _ _ _ => H), (fun _ a _ _ _ => nT e3 a), (fun a _ _ _ _ => nT e1 a), (fun _ _ a _ _ => nX e4 a), (fun _ a _ _ _ => nT e3 a), (fun _ _ a _ _ => nX e4 a)⟩
     ·
      have H := W11 e1 e3 e4 hS e6
      refine O.alloc [(.slice none 0 0)] ze127 H rfl rfl rfl ?_
      intro b2 w4 H hb4
      have H := H.addNil (α := GEdge) (E := 137)
      refine WL.nil ?_
      have H := H.pick [0, 1, 2, 3, 4, 7, 8] [ownI (α := Int) (.slice none 0 0) 3 ([] : List Int), ownI (α := Int) v1 3 t1, ownI (α := GEdge) v2 137 t2, boxI b1 22 [(.slice none 0 0)], ownI (α := Int) (.slice none 0 0) 3 ([] : List Int), boxI b2 127 [(.slice none 0 0)], ownI (α := GEdge) (.slice none 0 0) 137 ([] : List GEdge)] rfl (by decide)
      exact ⟨v1, v2, b1, b2, (H.pick [] [] rfl (by decide)), hf0, hf3, hd0, hd1, hd2, hd3, hd4, (fun _ => rfl), C6_1, C6_4, (fun _ => rfl), (fun a _ _ _ _ => nT e1 a), (fun _ a _ _ _ => nT e3 a), (fun a _ _ _ _ => nT e1 a), (fun a _ _ _ _ => nT e1 a), (fun a _ _ _ _ => nT e1 a), (fun _ _ a _ _ => nT e4 a), (fun _ a _ _ _ => nT e3 a), (fun _ a _ _ _ => nT e3 a), (fun a _ _ _ _ => nT e1 a), (fun a _ _ _ _ => nT e1 a), (fun a _ _ _ _ => nT e1 a), (fun _ _ _ a _ => nG a), (fun _ _ a _ _ => nT e4 a), (fun _ a _ _ _ => nT e3 a), (fun a _ _ _ _ => nT e1 a), (fun _ _ _ _ _ => H), (fun _ a _ _ _ => nT e3 a), (fun _ _ _ _ a => nX e6 a)⟩
  ·
   rintro S f w hS ⟨e0, e1, e4, e5, -⟩ - ⟨v1, v2, b1, b2, B, hf0, hf3, hd0, hd1, hd2, hd3, hd4, hd5, C6_1, C6_4, C6_5, W0, W1, W2, W3, W4, W5, W6, W7, W8, W9, W10, W11, W12, W13, W14, W15, W16, W17⟩
   have hf4 := hd4 e4
   have hf18 := hd1 e1
   obtain ⟨u5, rfl⟩ := up2 hf4 hf18
   rcases bool_ft (S 3) with e3 | e3
   ·
    have H := W13 e1 e3 e4 e5 hS
    refine O.store 3 0 [v1] [v1] sz22 H rfl rfl rfl rfl rfl (SliceR.cells1 (H.own 1 rfl)) ⟨⟨rfl, rfl⟩, rfl⟩ (one_cons (SliceR.one (H.own 1 rfl)) one_nil) ?_
    intro w5 H
    exact WL.nil ⟨v1, v2, b1, b2, (H.pick [] [] rfl (by decide)), hf0, hf3, hd0, hd1, hd2, hd3, hd4, hd5, (fun _ => e1), (fun _ => e4), (fun _ => e5), (fun a _ _ _ _ => nT e1 a), (fun _ _ a _ _ => nT e4 a), (fun a _ _ _ _ => nT e1 a), (fun a _ _ _ _ => nT e1 a), (fun a _ _ _ _ => nT e1 a), (fun _ a _ _ _ => nX e3 a), (fun _ _ _ a _ => nT e5 a), (fun _ _ a _ _ => nT e4 a), (fun a _ _ _ _ => nT e1 a), (fun a _ _ _ _ => nT e1 a), (fun a _ _ _ _ => nT e1 a), (fun _ a _ _ _ => nX e3 a), (fun _ a _ _ _ => nX e3 a), (fun _ _ _ _ a => nG a), (fun a _ _ _ _ => nT e1 a), (fun _ a _ _ _ => nX e3 a), (fun _ _ _ _ _ => H), (fun _ a _ _ _ => nX e3 a)⟩
   ·
    have H := W15 e1 e3 e4 e5 hS
    refine O.store 3 0 [v1] [v1] sz22 H rfl rfl rfl rfl rfl (SliceR.cells1 (H.own 1 rfl)) ⟨⟨rfl, rfl⟩, rfl⟩ (one_cons (SliceR.one (H.own 1 rfl)) one_nil) ?_
    intro w5 H
    exact WL.nil ⟨v1, v2, b1, b2, (H.pick [] [] rfl (by decide)), hf0, hf3, hd0, hd1, hd2, hd3, hd4, hd5, (fun _ => e1), (fun _ => e4), (fun _ => e5), (fun a _ _ _ _ => nT e1 a), (fun _ a _ _ _ => nT e3 a), (fun a _ _ _ _ => nT e1 a), (fun a _ _ _ _ => nT e1 a), (fun a _ _ _ _ => nT e1 a), (fun _ _ a _ _ => nT e4 a), (fun _ a _ _ _ => nT e3 a), (fun _ a _ _ _ => nT e3 a), (fun a _ _ _ _ => nT e1 a), (fun a _ _ _ _ => nT e1 a), (fun a _ _ _ _ => nT e1 a), (fun _ _ _ a _ => nT e5 a), (fun _ _ a _ _ => nT e4 a), (fun _ a _ _ _ => nT e3 a), (fun a _ _ _ _ => nT e1 a), (fun _ _ _ _ a => nG a), (fun _ a _ _ _ => nT e3 a), (fun _ _ _ _ _ => H)⟩
 ·
  rintro S f w ⟨e0, e1, e2, e3, e4, e5, e6, -⟩ ⟨v1, v2, b1, b2, B, hf0, hf3, hd0, hd1, hd2, hd3, hd4, hd5, C6_1, C6_4, C6_5, W0, W1, W2, W3, W4, W5, W6, W7, W8, W9, W10, W11, W12, W13, W14, W15, W16, W17⟩
  have hf4 := hd4 e4
  have hf5 := hd5 e5
  have hf20 := hd3 e3
  have H := W17 e1 e3 e4 e5 e6
  obtain ⟨u6, rfl⟩ := up5 hf0 hf3 hf4 hf5 hf20
  refine O.store 5 0 [v2] [v2] sz127 H rfl rfl rfl rfl rfl (SliceR.cells1 (H.own 2 rfl)) ⟨⟨rfl, rfl⟩, rfl⟩ (one_cons (SliceR.one (H.own 2 rfl)) one_nil) ?_
  intro w6 H
  refine WL.nil ?_
  refine W.seq ?_
  refine W.region ?_
  refine O.alloc [(.int .i64 0)] ze3 H rfl rfl rfl ?_
  intro b3 w7 H hb5
  refine O.store 7 0 [(.int .i64 (-1))] [(.int .i64 (-1))] sz3 H rfl rfl rfl rfl rfl rfl ⟨⟨rfl, rfl⟩, rfl⟩ (one_cons rfl one_nil) ?_
  intro w8 H
  refine WL.nil ?_
  refine W.seq ?_
  refine W.region ?_
  refine O.move (v := (.pointer (some pa0))) rfl rfl rfl ?_
  obtain ⟨t3, hy1, hm⟩ := bind_some hm
  refine O.call Try.call67 rfl rfl rfl (c_sight_graph_sorted _ _ _ a0_0 a0_1 (cells_mono ha0 H.base) (H.argM ra0_0) (H.arg ra0_1) hy1) ?_
  rintro v3 w9 hb6 ho1
  have H := H.addOwn hb6 ho1
  refine O.alloc [(.slice none 0 0)] ze127 H rfl rfl rfl ?_
  intro b4 w10 H hb7
  have H := H.addNil (α := GEdge) (E := 137)
  refine O.store 9 0 [v3] [v3] sz127 H rfl rfl rfl rfl rfl (SliceR.cells1 (H.own 8 rfl)) ⟨⟨rfl, rfl⟩, rfl⟩ (one_cons (SliceR.one (H.own 8 rfl)) one_nil) ?_
  intro w11 H
  refine WL.nil ?_
  refine W.seq ?_
  refine W.region ?_
  refine O.makeFunc rfl rfl rfl rfl ?_
  refine O.assign (v := (.func (.func 68) #[] #[(.pointer (some ⟨b3, 0, none⟩)), (.pointer (some ⟨b4, 0, none⟩)), (.pointer (some ⟨b1, 0, none⟩)), (.pointer (some ⟨b2, 0, none⟩))])) rfl rfl rfl ?_
  refine WL.nil ?_
  refine W.seq ?_
  refine W.seq ?_
  refine W.region ?_
  refine O.move (v := (.int .i64 ((a0_0.length : Nat) : Int))) rfl rfl rfl ?_
  obtain ⟨t4, ht4, hm⟩ := bind_some hm
  refine O.add rfl rfl rfl rfl ht4 ?_
  refine O.move (v := (.int .i64 0)) rfl rfl rfl ?_
  refine WL.nil ?_
  obtain ⟨⟨s1, s2⟩, hm1, hm⟩ := bind_some hm
  refine W.via (fun f w => ∃ v10 : Value, f 3 = (.int .i64 ((a0_0.length : Nat) : Int)) ∧ f 5 = (.pointer (some ⟨b2, 0, none⟩)) ∧ f 6 = (.pointer (some ⟨b3, 0, none⟩)) ∧ Inv w0 w [ownI (α := GEdge) v10 137 s1, boxI b2 127 [v10], boxI b3 3 [(.int .i64 s2)]]) ?_ ?_
  ·
   refine W.block ?_
   obtain ⟨hbdik1, hm1⟩ := chk_some hm1
   have H := H.keep [1, 2, 3, 5, 7, 8, 9] [ownI (α := Int) v1 3 t1, ownI (α := GEdge) v2 137 t2, boxI b1 22 [v1], boxI b2 127 [v2], boxI b3 3 [(.int .i64 (-1))], ownI (α := GEdge) v3 137 t3, boxI b4 127 [v3]] rfl (by decide)
   refine W.rangeN (i := 0) hm1 (fun rem ik1 s f w => ∃ z4 : (List Int), ∃ z5 : (List GEdge), ∃ z6 : Int, ∃ v6 : Value, ∃ v7 : Value, (z4, z5, z6) = s ∧ (ik1 : Int) + rem = max 0 t4 ∧ f 26 = .int .i64 (ik1 : Int) ∧ f 25 = (.int .i64 t4) ∧ f 3 = (.int .i64 ((a0_0.length : Nat) : Int)) ∧ f 5 = (.pointer (some ⟨b2, 0, none⟩)) ∧ f 6 = (.pointer (some ⟨b3, 0, none⟩)) ∧ f 8 = (.func (.func 68) #[] #[(.pointer (some ⟨b3, 0, none⟩)), (.pointer (some ⟨b4, 0, none⟩)), (.pointer (some ⟨b1, 0, none⟩)), (.pointer (some ⟨b2, 0, none⟩))]) ∧ Inv w0 w [ownI (α := Int) v6 3 z4, ownI (α := GEdge) v7 137 z5, boxI b1 22 [v6], boxI b2 127 [v7], boxI b3 3 [(.int .i64 z6)], ownI (α := GEdge) v3 137 t3, boxI b4 127 [v3]]) ?_ ?_ ?_
   ·
    exact ⟨_, _, _, v1, v2, rfl, rangeN_start, rfl, rfl, rfl, rfl, rfl, rfl, H⟩
   ·
    rintro k ik1 _ st f w ⟨z4, z5, z6, v6, v7, rfl, hdropk1, hf26, hf25, hf3, hf5, hf6, hf8, H⟩ hm2
    have hltk1 := rangeN_lt hdropk1
    obtain ⟨u7, rfl⟩ := up6 hf26 hf25 hf3 hf5 hf6 hf8
    have hinck1 := addI_lt hltk1 (inI_iff.1 hbdik1).2
    refine W.seq ?_
    refine W.region ?_
    refine O.lss rfl rfl rfl rfl ?_
    refine WL.nil ?_
    refine W.seq ?_
    refine W.cond_true (congrArg Value.bool (decide_eq_true hltk1)) ?_
    refine W.skip ?_
    refine W.seq ?_
    refine W.block ?_
    refine W.region ?_
    refine O.move (v := (.func (.func 68) #[] #[(.pointer (some ⟨b3, 0, none⟩)), (.pointer (some ⟨b4, 0, none⟩)), (.pointer (some ⟨b1, 0, none⟩)), (.pointer (some ⟨b2, 0, none⟩))])) rfl rfl rfl ?_
    obtain ⟨⟨t5, t6, t7⟩, hy2, hm2⟩ := bind_some hm2
    have H := H.pick [4, 6, 2, 3, 5, 0, 1] ([] ++ (pushItems b3 b4 b1 b2 v3 v6 v7 z6 t3 z4 z5)) rfl (by decide)
    refine O.callFV [] (pushItems b3 b4 b1 b2 v3 v6 v7 z6 t3 z4 z5) H Try.call68 rfl rfl rfl rfl (c_push b3 b4 b1 b2 v3 v6 v7 z6 t3 z4 z5 (InvD.frame H) hy2) ?_
    intro vq w12 Lq H hvq
    obtain ⟨v11, v12, rfl, rfl⟩ := hvq
    have H := H.pick [5, 6, 2, 3, 0, 4, 1] [ownI (α := Int) v11 3 t5, ownI (α := GEdge) v12 137 t6, boxI b1 22 [v11], boxI b2 127 [v12], boxI b3 3 [(.int .i64 t7)], ownI (α := GEdge) v3 137 t3, boxI b4 127 [v3]] rfl (by decide)
    refine WL.nil ?_
    refine W.region ?_
    refine O.add rfl rfl rfl rfl hinck1 ?_
    refine O.move (v := .int .i64 ((ik1 : Int) + 1)) rfl rfl rfl ?_
    refine WL.nil ?_
    obtain rfl := Option.some.inj hm2
    exact ⟨_, rfl, _, _, _, v11, v12, rfl, rangeN_next hdropk1, rfl, rfl, rfl, rfl, rfl, rfl, H⟩
   ·
    rintro ik1 _ f w ⟨z4, z5, z6, v6, v7, rfl, hdropk1, hf26, hf25, hf3, hf5, hf6, hf8, H⟩ hfin
    have hltk1 := rangeN_end hdropk1
    obtain ⟨u8, rfl⟩ := up6 hf26 hf25 hf3 hf5 hf6 hf8
    refine W.seq ?_
    refine W.region ?_
    refine O.lss rfl rfl rfl rfl ?_
    refine WL.nil ?_
    refine W.seq ?_
    refine W.cond_false (congrArg Value.bool (decide_eq_false hltk1)) ?_
    refine W.exit ?_
    have hq : (z5, z6) = (s1, s2) := hfin
    obtain ⟨he0, hq0⟩ := Prod.mk.inj hq; clear hq; subst he0
    subst hq0
    have H := H.keep [1, 3, 4] [ownI (α := GEdge) v7 137 z5, boxI b2 127 [v7], boxI b3 3 [(.int .i64 z6)]] rfl (by decide)
    refine xT rfl ?_
    exact ⟨v7, rfl, rfl, rfl, H⟩
  ·
   rintro f w ⟨v10, hf3, hf5, hf6, H⟩
   obtain ⟨u9, rfl⟩ := up3 hf3 hf5 hf6
   refine W.seq ?_
   refine W.seq ?_
   refine W.region ?_
   refine O.load sc3 rfl rfl rfl (H.cell 2 rfl 0 _ rfl) ?_
   refine O.lss rfl rfl rfl rfl ?_
   refine WL.nil ?_
   rcases ite_some hm with ⟨hc1, hm⟩ | ⟨hc1, hm⟩
   ·
    refine W.cond_true (congrArg Value.bool hc1) ?_
    refine W.seq ?_
    refine W.region ?_
    have H := H.addNil (α := Int) (E := 3)
    refine O.assign (v := (.slice none 0 0)) rfl rfl rfl ?_
    refine WL.nil ?_
    refine W.ret ?_
    have hq : (true, []) = (r0, r1) := Option.some.inj (show some (true, []) = some (r0, r1) from hm)
    obtain ⟨he0, hq0⟩ := Prod.mk.inj hq; clear hq; subst he0
    subst hq0
    exact ends1 Try.results49 rfl ⟨_, rfl, H.base, ⟨H.ownR 3 rfl, ⟨_, _, _, rfl, rfl⟩⟩⟩
   ·
    refine W.cond_false (congrArg Value.bool hc1) ?_
    refine W.skip ?_
    refine W.seq ?_
    refine W.seq ?_
    refine W.region ?_
    refine O.move (v := (.int .i64 ((a0_0.length : Nat) : Int))) rfl rfl rfl ?_
    refine O.move (v := (.int .i64 0)) rfl rfl rfl ?_
    refine WL.nil ?_
    obtain ⟨s3, hm3, hm⟩ := bind_some hm
    refine W.via (fun f w => f 5 = (.pointer (some ⟨b2, 0, none⟩)) ∧ f 6 = (.pointer (some ⟨b3, 0, none⟩)) ∧ Inv w0 w [ownI (α := GEdge) v10 137 s1, boxI b2 127 [v10], boxI b3 3 [(.int .i64 s3)]]) ?_ ?_
    ·
     refine W.block ?_
     obtain ⟨hbdik2, hm3⟩ := chk_some hm3
     refine W.rangeN (i := 0) hm3 (fun rem ik2 s f w => ∃ z11 : Int, z11 = s ∧ (ik2 : Int) + rem = max 0 ((a0_0.length : Nat) : Int) ∧ f 34 = .int .i64 (ik2 : Int) ∧ f 33 = (.int .i64 ((a0_0.length : Nat) : Int)) ∧ f 5 = (.pointer (some ⟨b2, 0, none⟩)) ∧ f 6 = (.pointer (some ⟨b3, 0, none⟩)) ∧ Inv w0 w [ownI (α := GEdge) v10 137 s1, boxI b2 127 [v10], boxI b3 3 [(.int .i64 z11)]]) ?_ ?_ ?_
     ·
      exact ⟨_, rfl, rangeN_start, rfl, rfl, rfl, rfl, H⟩
     ·
      rintro k ik2 _ st f w ⟨z11, rfl, hdropk2, hf34, hf33, hf5, hf6, H⟩ hm4
      have hltk2 := rangeN_lt hdropk2
      obtain ⟨u10, rfl⟩ := up4 hf34 hf33 hf5 hf6
      have hinck2 := addI_lt hltk2 (inI_iff.1 hbdik2).2
      refine W.seq ?_
      refine W.region ?_
      refine O.lss rfl rfl rfl rfl ?_
      refine WL.nil ?_
      refine W.seq ?_
      refine W.cond_true (congrArg Value.bool (decide_eq_true hltk2)) ?_
      refine W.skip ?_
      refine W.seq ?_
      refine W.block ?_
      refine W.region ?_
      refine O.load sc127 rfl rfl rfl (H.cell 1 rfl 0 _ rfl) ?_
      refine O.load sc3 rfl rfl rfl (H.cell 2 rfl 0 _ rfl) ?_
      obtain ⟨x1, hx1, hm4⟩ := bind_some hm4
      refine O.indexAddr Try.underlying127 sz137 (H.own 0 rfl) hx1 rfl rfl rfl rfl ?_
      intro p1 hp1
      refine O.fieldAddr fd137_0 rfl rfl rfl ?_
      refine O.load sc3 rfl rfl rfl (hp1.flat 0 _ rfl) ?_
      refine O.store 2 0 [(.int .i64 x1.from_)] [(.int .i64 x1.from_)] sz3 H rfl rfl rfl rfl rfl rfl ⟨⟨rfl, rfl⟩, rfl⟩ (one_cons rfl one_nil) ?_
      intro w13 H
      clear hp1
      refine WL.nil ?_
      refine W.region ?_
      refine O.add rfl rfl rfl rfl hinck2 ?_
      refine O.move (v := .int .i64 ((ik2 : Int) + 1)) rfl rfl rfl ?_
      refine WL.nil ?_
      obtain rfl := Option.some.inj hm4
      exact ⟨_, rfl, _, rfl, rangeN_next hdropk2, rfl, rfl, rfl, rfl, H⟩
     ·
      rintro ik2 _ f w ⟨z11, rfl, hdropk2, hf34, hf33, hf5, hf6, H⟩ hfin
      have hltk2 := rangeN_end hdropk2
      obtain ⟨u11, rfl⟩ := up4 hf34 hf33 hf5 hf6
      refine W.seq ?_
      refine W.region ?_
      refine O.lss rfl rfl rfl rfl ?_
      refine WL.nil ?_
      refine W.seq ?_
      refine W.cond_false (congrArg Value.bool (decide_eq_false hltk2)) ?_
      refine W.exit ?_
      have hq : z11 = s3 := hfin
      subst hq
      refine xT rfl ?_
      exact ⟨rfl, rfl, H⟩
    ·
     rintro f w ⟨hf5, hf6, H⟩
     obtain ⟨u12, rfl⟩ := up2 hf5 hf6
     refine W.seq ?_
     refine W.region ?_
     have H := H.addNil (α := Int) (E := 3)
     refine O.assign (v := (.slice none 0 0)) rfl rfl rfl ?_
     refine WL.nil ?_
     refine W.seq ?_
     refine W.seq ?_
     refine W.region ?_
     refine O.load sc3 rfl rfl rfl (H.cell 2 rfl 0 _ rfl) ?_
     refine O.assign (v := (.int .i64 s3)) rfl rfl rfl ?_
     refine WL.nil ?_
     obtain ⟨s4, hm5, hm⟩ := bind_some hm
     refine W.via (fun f w => ∃ v16 : Value, f 9 = v16 ∧ Inv w0 w [ownI (α := Int) v16 3 s4]) ?_ ?_
     ·
      refine W.block ?_
      refine W.loopR hm5 (fun s f w => ∃ z15 : Int, ∃ z16 : (List Int), ∃ v14 : Value, (z15, z16) = s ∧ f 5 = (.pointer (some ⟨b2, 0, none⟩)) ∧ f 6 = (.pointer (some ⟨b3, 0, none⟩)) ∧ f 9 = v14 ∧ f 10 = (.int .i64 z15) ∧ Inv w0 w [ownI (α := GEdge) v10 137 s1, boxI b2 127 [v10], boxI b3 3 [(.int .i64 s3)], ownI (α := Int) v14 3 z16]) ?_ ?_
      ·
       exact ⟨_, _, (.slice none 0 0), rfl, rfl, rfl, rfl, rfl, H⟩
      ·
       rintro _ st f w ⟨z15, z16, v14, rfl, hf5, hf6, hf9, hf10, H⟩ hm6
       obtain ⟨u13, rfl⟩ := up4 hf5 hf6 hf9 hf10
       refine W.block ?_
       refine W.seq ?_
       refine W.seq ?_
       refine W.region ?_
       refine O.load sc127 rfl rfl rfl (H.cell 1 rfl 0 _ rfl) ?_
       refine O.move (v := (.int .i64 z15)) rfl rfl rfl ?_
       obtain ⟨x2, hx2, hm6⟩ := bind_some hm6
       refine O.indexAddr Try.underlying127 sz137 (H.own 0 rfl) hx2 rfl rfl rfl rfl ?_
       intro p2 hp2
       refine O.fieldAddr fd137_3 rfl rfl rfl ?_
       refine O.load sc3 rfl rfl rfl (hp2.flat 3 _ rfl) ?_
       refine O.assign (v := (.int .i64 x2.number)) rfl rfl rfl ?_
       refine WL.nil ?_
       refine W.seq ?_
       refine W.region ?_
       refine O.move (v := (.int .i64 x2.number)) rfl rfl rfl ?_
       refine O.geq rfl rfl rfl rfl ?_
       refine WL.nil ?_
       obtain ⟨s5, hm7, hm6⟩ := bind_some hm6
       refine W.via (fun f w => ∃ v17 : Value, f 5 = (.pointer (some ⟨b2, 0, none⟩)) ∧ f 6 = (.pointer (some ⟨b3, 0, none⟩)) ∧ f 9 = v17 ∧ f 10 = (.int .i64 z15) ∧ Inv w0 w [ownI (α := GEdge) v10 137 s1, boxI b2 127 [v10], boxI b3 3 [(.int .i64 s3)], ownI (α := Int) v17 3 s5]) ?_ ?_
       ·
        rcases ite_some hm7 with ⟨hc2, hm7⟩ | ⟨hc2, hm7⟩
        ·
         refine W.cond_true (congrArg Value.bool hc2) ?_
         refine W.region ?_
         refine O.move (v := v14) rfl rfl rfl ?_
         refine O.move (v := (.int .i64 x2.number)) rfl rfl rfl ?_
         refine O.buildSlice (α := Int) [(.int .i64 x2.number)] [x2.number] Try.underlying22 el3 H rfl rfl rfl rfl rfl rfl rfl ?_
         intro v18 w14 H hb8
         have hp2 := hp2.mono hb8
         obtain ⟨t8, ht8, hm7⟩ := bind_some hm7
         refine O.append 3 Try.underlying22 el3 rfl H rfl (H.own 4 rfl) ht8 rfl rfl rfl rfl ?_
         intro v19 w15 H
         clear hp2
         refine O.assign (v := v19) rfl rfl rfl ?_
         refine WL.nil ?_
         have H := H.keep [0, 1, 2, 3] [ownI (α := GEdge) v10 137 s1, boxI b2 127 [v10], boxI b3 3 [(.int .i64 s3)], ownI (α := Int) v19 3 t8] rfl (by decide)
         have hq : t8 = s5 := Option.some.inj (show some t8 = some s5 from hm7)
         subst hq
         exact ⟨v19, rfl, rfl, rfl, rfl, H⟩
        ·
         refine W.cond_false (congrArg Value.bool hc2) ?_
         refine W.skip ?_
         have hq : z16 = s5 := Option.some.inj (show some z16 = some s5 from hm7)
         subst hq
         exact ⟨v14, rfl, rfl, rfl, rfl, H⟩
       ·
        rintro f w ⟨v17, hf5, hf6, hf9, hf10, H⟩
        obtain ⟨u14, rfl⟩ := up4 hf5 hf6 hf9 hf10
        refine W.seq ?_
        refine W.region ?_
        refine O.load sc127 rfl rfl rfl (H.cell 1 rfl 0 _ rfl) ?_
        refine O.move (v := (.int .i64 z15)) rfl rfl rfl ?_
        obtain ⟨x3, hx3, hm6⟩ := bind_some hm6
        refine O.indexAddr Try.underlying127 sz137 (H.own 0 rfl) hx3 rfl rfl rfl rfl ?_
        intro p3 hp3
        refine O.fieldAddr fd137_0 rfl rfl rfl ?_
        refine O.load sc3 rfl rfl rfl (hp3.flat 0 _ rfl) ?_
        refine O.assign (v := (.int .i64 x3.from_)) rfl rfl rfl ?_
        refine WL.nil ?_
        refine W.seq ?_
        refine W.region ?_
        refine O.move (v := (.int .i64 x3.from_)) rfl rfl rfl ?_
        refine O.load sc3 rfl rfl rfl (H.cell 2 rfl 0 _ rfl) ?_
        refine O.eql rfl rfl rfl rfl ?_
        refine WL.nil ?_
        rcases ite_some hm6 with ⟨hc3, hm6⟩ | ⟨hc3, hm6⟩
        ·
         refine W.cond_true (congrArg Value.bool hc3) ?_
         refine W.exit ?_
         refine xF rfl ?_
         obtain rfl := Option.some.inj hm6
         refine ⟨_, rfl, ?_⟩
         intro hy
         have hq : s5 = s4 := hy
         subst hq
         have H := H.keep [3] [ownI (α := Int) v17 3 s5] rfl (by decide)
         refine xT rfl ?_
         exact ⟨v17, rfl, H⟩
        ·
         refine W.cond_false (congrArg Value.bool hc3) ?_
         refine W.skip ?_
         obtain rfl := Option.some.inj hm6
         exact ⟨_, rfl, _, _, v17, rfl, rfl, rfl, rfl, rfl, H⟩
     ·
      rintro f w ⟨v16, hf9, H⟩
      obtain ⟨u15, rfl⟩ := up1 hf9
      refine W.seq ?_
      refine W.region ?_
      refine O.move (v := v16) rfl rfl rfl ?_
      obtain ⟨t9, hy3, hm⟩ := bind_some hm
      refine O.turnI2 0 H rfl rev_turns hy3 Try.call69 rfl rfl rfl ?_
      intro w16 H
      refine WL.nil ?_
      refine W.seq ?_
      refine W.region ?_
      refine O.move (v := v16) rfl rfl rfl ?_
      refine O.assign (v := v16) rfl rfl rfl ?_
      refine WL.nil ?_
      refine W.ret ?_
      obtain ⟨hne, hm⟩ := ne_some hm
      have hq : (false, t9) = (r0, r1) := Option.some.inj (show some (false, t9) = some (r0, r1) from hm)
      obtain ⟨he0, hq0⟩ := Prod.mk.inj hq; clear hq; subst he0
      subst hq0
      exact ends1 Try.results49 rfl ⟨_, rfl, H.base, ⟨H.ownR 0 rfl, nilB_of (H.ownR 0 rfl) hne⟩⟩

set_option maxRecDepth 20000 in
theorem c_sight_graph_least {w0 : World} (pa0 : Addr) (va0_0 : Value) (va0_1 : Value) (a0_0 : (List (GPoint × Int))) (a0_1 : (List GEdge)) (ha0 : ∀ j c, ([va0_0, va0_1] : List Value)[j]? = some c → w0.cell? (pa0.add j) = some c) (ra0_0 : MapR w0 va0_0 a0_0) (ra0_1 : SliceR w0 va0_1 a0_1) (a1 : GPoint) (a2 : GPoint) {r0 : Int} {r1 : Bool} (hm : sight_graph_least a0_0 a0_1 a1 a2 = some (r0, r1)) :
  Calls Try.prog 71 #[(.pointer (some pa0)), (.agg (Flat.cells a1).toArray), (.agg (Flat.cells a2).toArray)] w0 (Ret w0 fun _ v => v = .tuple #[(.int .i64 r0), (.bool r1)]) := by
 unfold sight_graph_least at hm
 refine calls_of_W Try.func71 rfl Try.ntmps71 (Nat.le_of_ble_eq_true rfl) ?_
 have H := Inv.start (w := w0)
 refine W.seq ?_
 refine W.region ?_
 refine O.box [(.int .i64 a1.clock), (.int .i64 a1.at_)] H rfl rfl rfl rfl ?_
 intro b1 w1 H hb1
 refine O.box [(.int .i64 a2.clock), (.int .i64 a2.at_)] H rfl rfl rfl rfl ?_
 intro b2 w2 H hb2
 refine O.assign (v := (.int .i64 0)) rfl rfl rfl ?_
 refine O.assign (v := (.bool false)) rfl rfl rfl ?_
 refine WL.nil ?_
 refine W.seq ?_
 refine W.region ?_
 refine O.move (v := (.pointer (some pa0))) rfl rfl rfl ?_
 refine O.nilCheck rfl rfl rfl ?_
 refine O.fieldAddr fd129_0 rfl rfl rfl ?_
 refine O.load sc126 rfl rfl rfl (cells_mono ha0 H.base 0 _ rfl) ?_
 refine O.lenM Try.underlying126 (H.argM ra0_0) rfl rfl rfl ?_
 refine O.assign (v := (.int .i64 ((a0_0.length : Nat) : Int))) rfl rfl rfl ?_
 refine WL.nil ?_
 refine W.seq ?_
 obtain ⟨t1, ht1, hm⟩ := bind_some hm
 obtain ⟨t2, ht2, hm⟩ := bind_some hm
 have H := H.addGone
 have H := H.addGone
 refine W.drawD 5 [[], [0], [], [2], [0, 1]] [[1, 4], [4], [3], [], []] (fun S f w => ∃ v1 : Value, ∃ v2 : Value, Inv w0 w [] ∧ f 0 = (.pointer (some pa0)) ∧ f 4 = (.pointer (some ⟨b1, 0, none⟩)) ∧ f 5 = (.pointer (some ⟨b2, 0, none⟩)) ∧ f 8 = (.int .i64 ((a0_0.length : Nat) : Int)) ∧ (S 0 = true → f 20 = (.int .i64 ((a0_0.length : Nat) : Int))) ∧ (S 1 = true → f 21 = v1) ∧ (S 2 = true → f 22 = (.int .i64 ((a0_0.length : Nat) : Int))) ∧ (S 3 = true → f 23 = v2) ∧ (S 4 = true → f 9 = v1) ∧ (S 1 = false → S 3 = false → Inv w0 w [boxI b1 131 [(.int .i64 a1.clock), (.int .i64 a1.at_)], boxI b2 131 [(.int .i64 a2.clock), (.int .i64 a2.at_)], goneI, goneI]) ∧ (S 1 = true → S 3 = false → Inv w0 w [boxI b1 131 [(.int .i64 a1.clock), (.int .i64 a1.at_)], boxI b2 131 [(.int .i64 a2.clock), (.int .i64 a2.at_)], ownI (α := Int) v1 3 t1, goneI]) ∧ (S 1 = false → S 3 = true → Inv w0 w [boxI b1 131 [(.int .i64 a1.clock), (.int .i64 a1.at_)], boxI b2 131 [(.int .i64 a2.clock), (.int .i64 a2.at_)], goneI, ownI (α := Bool) v2 4 t2]) ∧ (S 1 = true → S 3 = true → Inv w0 w [boxI b1 131 [(.int .i64 a1.clock), (.int .i64 a1.at_)], boxI b2 131 [(.int .i64 a2.clock), (.int .i64 a2.at_)], ownI (α := Int) v1 3 t1, ownI (α := Bool) v2 4 t2])) fol (by kernel_rfl) ?_ ?_ ?_
 ·
  exact fun d _ => ⟨.nilFunc, .nilFunc, ((H.ext (below_drawn d)).pick [] [] rfl (by decide)), rfl, rfl, rfl, rfl, nF, nF, nF, nF, nF, (fun _ _ => H.ext (below_drawn d)), (fun a _ => nF a), (fun _ a => nF a), (fun a _ => nF a)⟩
 ·
  refine ⟨?_, ⟨?_, ⟨?_, ⟨?_, ⟨?_, trivial⟩⟩⟩⟩⟩
  ·
   rintro S f w hS - ⟨e1, e4, -⟩ ⟨v1, v2, B, hf0, hf4, hf5, hf8, hd0, t⟩
   obtain ⟨u1, rfl⟩ := up1 hf8
   have H := B
   refine O.move (v := (.int .i64 ((a0_0.length : Nat) : Int))) rfl rfl rfl ?_
   exact WL.nil ⟨v1, v2, B, hf0, hf4, hf5, rfl, (fun _ => rfl), t⟩
  ·
   rintro S f w hS ⟨e0, -⟩ ⟨e4, -⟩ ⟨_, v2, B, hf0, hf4, hf5, hf8, hd0, hd1, hd2, hd3, hd4, W0, W1, W2, W3⟩
   have hf20 := hd0 e0
   obtain ⟨u2, rfl⟩ := up1 hf20
   rcases bool_ft (S 3) with e3 | e3
   ·
    have H := W0 hS e3
    refine O.makeSlice Try.underlying22 zel3 rfl H ht1 rfl rfl rfl rfl ?_
    intro v1 w3 H hb3
    refine WL.nil ?_
    have H := H.pick [0, 1, 4, 3] [boxI b1 131 [(.int .i64 a1.clock), (.int .i64 a1.at_)], boxI b2 131 [(.int .i64 a2.clock), (.int .i64 a2.at_)], ownI (α := Int) v1 3 t1, goneI] rfl (by decide)
    exact ⟨v1, v2, (H.pick [] [] rfl (by decide)), hf0, hf4, hf5, hf8, hd0, (fun _ => rfl), hd2, hd3, (fun a => nT a e4), (fun a _ => nG a), (fun _ _ => H), (fun a _ => nG a), (fun _ a => nX e3 a)⟩
   ·
    have H := W2 hS e3
    refine O.makeSlice Try.underlying22 zel3 rfl H ht1 rfl rfl rfl rfl ?_
    intro v1 w3 H hb3
    refine WL.nil ?_
    have H := H.pick [0, 1, 4, 3] [boxI b1 131 [(.int .i64 a1.clock), (.int .i64 a1.at_)], boxI b2 131 [(.int .i64 a2.clock), (.int .i64 a2.at_)], ownI (α := Int) v1 3 t1, ownI (α := Bool) v2 4 t2] rfl (by decide)
    exact ⟨v1, v2, (H.pick [] [] rfl (by decide)), hf0, hf4, hf5, hf8, hd0, (fun _ => rfl), hd2, hd3, (fun a => nT a e4), (fun a _ => nG a), (fun _ a => nT e3 a), (fun a _ => nG a), (fun _ _ => H)⟩
  ·
   rintro S f w hS - ⟨e3, -⟩ ⟨v1, v2, B, hf0, hf4, hf5, hf8, hd0, hd1, hd2, t⟩
   obtain ⟨u3, rfl⟩ := up1 hf8
   have H := B
   refine O.move (v := (.int .i64 ((a0_0.length : Nat) : Int))) rfl rfl rfl ?_
   exact WL.nil ⟨v1, v2, B, hf0, hf4, hf5, rfl, hd0, hd1, (fun _ => rfl), t⟩
  ·
   rintro S f w hS ⟨e2, -⟩ - ⟨v1, _, B, hf0, hf4, hf5, hf8, hd0, hd1, hd2, hd3, hd4, W0, W1, W2, W3⟩
   have hf22 := hd2 e2
   obtain ⟨u4, rfl⟩ := up1 hf22
   rcases bool_ft (S 1) with e1 | e1
   ·
    have H := W0 e1 hS
    refine O.makeSlice Try.underlying158 zel4 rfl H ht2 rfl rfl rfl rfl ?_
    intro v2 w4 H hb4
    refine WL.nil ?_
    have H := H.pick [0, 1, 2, 4] [boxI b1 131 [(.int .i64 a1.clock), (.int .i64 a1.at_)], boxI b2 131 [(.int .i64 a2.clock), (.int .i64 a2.at_)], goneI, ownI (α := Bool) v2 4 t2] rfl (by decide)
    exact ⟨v1, v2, (H.pick [] [] rfl (by decide)), hf0, hf4, hf5, hf8, hd0, hd1, hd2, (fun _ => rfl), hd4, (fun _ a => nG a), (fun a _ => nX e1 a), (fun _ _ => H), (fun a _ => nX e1 a)⟩
   ·
    have H := W1 e1 hS
    refine O.makeSlice Try.underlying158 zel4 rfl H ht2 rfl rfl rfl rfl ?_
    intro v2 w4 H hb4
    refine WL.nil ?_
    have H := H.pick [0, 1, 2, 4] [boxI b1 131 [(.int .i64 a1.clock), (.int .i64 a1.at_)], boxI b2 131 [(.int .i64 a2.clock), (.int .i64 a2.at_)], ownI (α := Int) v1 3 t1, ownI (α := Bool) v2 4 t2] rfl (by decide)
    exact ⟨v1, v2, (H.pick [] [] rfl (by decide)), hf0, hf4, hf5, hf8, hd0, hd1, hd2, (fun _ => rfl), hd4, (fun a _ => nT e1 a), (fun _ a => nG a), (fun a _ => nT e1 a), (fun _ _ => H)⟩
  ·
   rintro S f w hS ⟨e0, e1, -⟩ - ⟨v1, v2, B, hf0, hf4, hf5, hf8, hd0, hd1, hd2, hd3, hd4, t⟩
   have hf21 := hd1 e1
   obtain ⟨u5, rfl⟩ := up1 hf21
   have H := B
   refine O.assign (v := v1) rfl rfl rfl ?_
   exact WL.nil ⟨v1, v2, B, hf0, hf4, hf5, hf8, hd0, hd1, hd2, hd3, (fun _ => rfl), t⟩
 ·
  rintro S f w ⟨e0, e1, e2, e3, e4, -⟩ ⟨v1, v2, B, hf0, hf4, hf5, hf8, hd0, hd1, hd2, hd3, hd4, W0, W1, W2, W3⟩
  have hf9 := hd4 e4
  have hf23 := hd3 e3
  have H := W3 e1 e3
  obtain ⟨u6, rfl⟩ := up6 hf0 hf4 hf5 hf8 hf9 hf23
  refine O.assign (v := v2) rfl rfl rfl ?_
  refine WL.nil ?_
  refine W.seq ?_
  refine W.drawN 7 (fun f => f 0 = (.pointer (some pa0)) ∧ f 5 = (.pointer (some ⟨b2, 0, none⟩)) ∧ f 8 = (.int .i64 ((a0_0.length : Nat) : Int)) ∧ f 9 = v1 ∧ f 10 = v2 ∧ f 24 = v2 ∧ f 30 = (.int .i64 ((mget a0_0 a1).getD 0))) fol (by kernel_rfl) ?_ ?_
  ·
   refine PL.of (fun _ w8 _ hx => O.move (v := v2) rfl rfl rfl (WL.nil ⟨rfl, hx⟩)) ?_
   refine PL.of (fun _ w8 _ hx => O.move (v := (.pointer (some pa0))) rfl rfl rfl (WL.nil ⟨rfl, hx⟩)) ?_
   refine PL.of (fun _ w8 _ hx => O.nilCheck rfl rfl rfl (WL.nil ⟨rfl, hx⟩)) ?_
   refine PL.of (fun _ w8 _ hx => O.fieldAddr fd129_0 rfl rfl rfl (WL.nil ⟨rfl, hx⟩)) ?_
   refine PL.of (fun _ w8 _ hx => by have H := H.ext hx; exact O.load sc126 rfl rfl rfl (cells_mono ha0 H.base 0 _ rfl) (WL.nil ⟨rfl, hx⟩)) ?_
   refine PL.of (fun _ w8 _ hx => by have H := H.ext hx; exact O.loadA [(.int .i64 a1.clock), (.int .i64 a1.at_)] ag131 rfl rfl rfl rfl (H.cell 0 rfl) (WL.nil ⟨rfl, hx⟩)) ?_
   refine PL.of (fun _ w8 _ hx => by have H := H.ext hx; exact O.lookup1 (z := 0) a1 Try.underlying126 key131 ze3 (H.argM ra0_0) rfl rfl rfl rfl (WL.nil ⟨rfl, hx⟩)) ?_
   refine PL.nil ?_
   exact ⟨rfl, rfl, rfl, rfl, rfl, rfl, rfl⟩
  ·
   rintro f w ⟨hf0, hf5, hf8, hf9, hf10, hf24, hf30⟩ hmd hx
   have H := H.ext hx
   obtain ⟨u7, rfl⟩ := up7 hf0 hf5 hf8 hf9 hf10 hf24 hf30
   obtain ⟨x1, hx1, hm⟩ := bind_some hm
   refine O.indexOwn 3 Try.underlying158 sz4 H rfl hx1 rfl rfl rfl rfl ?_
   intro b3 hob1 hp1
   refine O.storeOwn (α := Bool) (i0 := ((mget a0_0 a1).getD 0)) (x0 := x1) 3 0 true [(.bool true)] sz4 H rfl hob1 hx1 rfl rfl rfl rfl rfl rfl rfl rfl (one_cons rfl one_nil) ?_
   intro w5 H
   clear hp1
   refine WL.nil ?_
   refine W.seq ?_
   refine W.seq ?_
   refine W.region ?_
   refine O.move (v := (.int .i64 ((a0_0.length : Nat) : Int))) rfl rfl rfl ?_
   refine O.move (v := (.int .i64 0)) rfl rfl rfl ?_
   refine WL.nil ?_
   obtain ⟨⟨s1, s2⟩, hm1, hm⟩ := bind_some hm
   refine W.via (fun f w => ∃ v9 : Value, ∃ v10 : Value, f 0 = (.pointer (some pa0)) ∧ f 5 = (.pointer (some ⟨b2, 0, none⟩)) ∧ f 9 = v9 ∧ f 10 = v10 ∧ Inv w0 w [boxI b2 131 [(.int .i64 a2.clock), (.int .i64 a2.at_)], ownI (α := Int) v9 3 s1, ownI (α := Bool) v10 4 s2]) ?_ ?_
   ·
    refine W.block ?_
    obtain ⟨hbdik1, hm1⟩ := chk_some hm1
    have H := H.keep [1, 2, 3] [boxI b2 131 [(.int .i64 a2.clock), (.int .i64 a2.at_)], ownI (α := Int) v1 3 t1, ownI (α := Bool) v2 4 (t2.set (Int.toNat ((mget a0_0 a1).getD 0)) true)] rfl (by decide)
    refine W.rangeN (i := 0) hm1 (fun rem ik1 s f w => ∃ z3 : (List Int), ∃ z4 : (List Bool), ∃ v5 : Value, ∃ v6 : Value, (z3, z4) = s ∧ (ik1 : Int) + rem = max 0 ((a0_0.length : Nat) : Int) ∧ f 33 = .int .i64 (ik1 : Int) ∧ f 32 = (.int .i64 ((a0_0.length : Nat) : Int)) ∧ f 0 = (.pointer (some pa0)) ∧ f 5 = (.pointer (some ⟨b2, 0, none⟩)) ∧ f 9 = v5 ∧ f 10 = v6 ∧ Inv w0 w [boxI b2 131 [(.int .i64 a2.clock), (.int .i64 a2.at_)], ownI (α := Int) v5 3 z3, ownI (α := Bool) v6 4 z4]) ?_ ?_ ?_
    ·
     exact ⟨_, _, v1, v2, rfl, rangeN_start, rfl, rfl, rfl, rfl, rfl, rfl, H⟩
    ·
     rintro k ik1 _ st f w ⟨z3, z4, v5, v6, rfl, hdropk1, hf33, hf32, hf0, hf5, hf9, hf10, H⟩ hm2
     have hltk1 := rangeN_lt hdropk1
     obtain ⟨u8, rfl⟩ := up6 hf33 hf32 hf0 hf5 hf9 hf10
     have hinck1 := addI_lt hltk1 (inI_iff.1 hbdik1).2
     refine W.seq ?_
     refine W.region ?_
     refine O.lss rfl rfl rfl rfl ?_
     refine WL.nil ?_
     refine W.seq ?_
     refine W.cond_true (congrArg Value.bool (decide_eq_true hltk1)) ?_
     refine W.skip ?_
     refine W.seq ?_
     obtain ⟨⟨s3, s4⟩, hm3, hm2⟩ := bind_some hm2
     refine W.via (fun f w => ∃ v11 : Value, ∃ v12 : Value, f 0 = (.pointer (some pa0)) ∧ f 5 = (.pointer (some ⟨b2, 0, none⟩)) ∧ f 9 = v11 ∧ f 10 = v12 ∧ f 32 = (.int .i64 ((a0_0.length : Nat) : Int)) ∧ f 33 = (.int .i64 (ik1 : Int)) ∧ Inv w0 w [boxI b2 131 [(.int .i64 a2.clock), (.int .i64 a2.at_)], ownI (α := Int) v11 3 s3, ownI (α := Bool) v12 4 s4]) ?_ ?_
     ·
      refine W.block ?_
      refine W.seq ?_
      refine W.region ?_
      refine O.move (v := (.pointer (some pa0))) rfl rfl rfl ?_
      refine O.nilCheck rfl rfl rfl ?_
      refine O.fieldAddr fd129_1 rfl rfl rfl ?_
      refine O.load sc127 rfl rfl rfl (cells_mono ha0 H.base 1 _ rfl) ?_
      refine O.lenS Try.underlying127 (H.arg ra0_1) rfl rfl rfl ?_
      refine O.move (v := (.int .i64 0)) rfl rfl rfl ?_
      refine WL.nil ?_
      obtain ⟨⟨s5, s6⟩, hm4, hm3⟩ := bind_some hm3
      refine W.via (fun f w => ∃ v19 : Value, ∃ v20 : Value, f 0 = (.pointer (some pa0)) ∧ f 5 = (.pointer (some ⟨b2, 0, none⟩)) ∧ f 9 = v19 ∧ f 10 = v20 ∧ f 32 = (.int .i64 ((a0_0.length : Nat) : Int)) ∧ f 33 = (.int .i64 (ik1 : Int)) ∧ Inv w0 w [boxI b2 131 [(.int .i64 a2.clock), (.int .i64 a2.at_)], ownI (α := Int) v19 3 s5, ownI (α := Bool) v20 4 s6]) ?_ ?_
      ·
       refine W.block ?_
       refine W.rangeL (i := 0) hm4 (fun rem ik2 s f w => ∃ z9 : (List Int), ∃ z10 : (List Bool), ∃ v15 : Value, ∃ v16 : Value, (z9, z10) = s ∧ a0_1.drop ik2 = rem ∧ f 40 = .int .i64 (ik2 : Int) ∧ f 39 = (.int .i64 ((a0_1.length : Nat) : Int)) ∧ f 0 = (.pointer (some pa0)) ∧ f 5 = (.pointer (some ⟨b2, 0, none⟩)) ∧ f 9 = v15 ∧ f 10 = v16 ∧ f 32 = (.int .i64 ((a0_0.length : Nat) : Int)) ∧ f 33 = (.int .i64 (ik1 : Int)) ∧ f 38 = va0_1 ∧ Inv w0 w [boxI b2 131 [(.int .i64 a2.clock), (.int .i64 a2.at_)], ownI (α := Int) v15 3 z9, ownI (α := Bool) v16 4 z10]) ?_ ?_ ?_
       ·
        exact ⟨_, _, v5, v6, rfl, List.drop_zero, rfl, rfl, rfl, rfl, rfl, rfl, rfl, rfl, rfl, H⟩
       ·
        rintro yk2 xs ik2 _ st f w ⟨z9, z10, v15, v16, rfl, hdropk2, hf40, hf39, hf0, hf5, hf9, hf10, hf32, hf33, hf38, H⟩ hm5
        have hltk2 := drop_lt hdropk2; have hixk2 := drop_idx hdropk2
        obtain ⟨u9, rfl⟩ := up9 hf40 hf39 hf0 hf5 hf9 hf10 hf32 hf33 hf38
        have hinck2 := addI_lt hltk2 (H.arg ra0_1).len_le
        refine W.seq ?_
        refine W.region ?_
        refine O.lss rfl rfl rfl rfl ?_
        refine WL.nil ?_
        refine W.seq ?_
        refine W.cond_true (congrArg Value.bool (decide_eq_true hltk2)) ?_
        refine W.skip ?_
        refine W.seq ?_
        obtain ⟨⟨s7, s8⟩, hm6, hm5⟩ := bind_some hm5
        refine W.via (fun f w => ∃ v21 : Value, ∃ v22 : Value, f 0 = (.pointer (some pa0)) ∧ f 5 = (.pointer (some ⟨b2, 0, none⟩)) ∧ f 9 = v21 ∧ f 10 = v22 ∧ f 32 = (.int .i64 ((a0_0.length : Nat) : Int)) ∧ f 33 = (.int .i64 (ik1 : Int)) ∧ f 38 = va0_1 ∧ f 39 = (.int .i64 ((a0_1.length : Nat) : Int)) ∧ f 40 = (.int .i64 (ik2 : Int)) ∧ Inv w0 w [boxI b2 131 [(.int .i64 a2.clock), (.int .i64 a2.at_)], ownI (α := Int) v21 3 s7, ownI (α := Bool) v22 4 s8]) ?_ ?_
        ·
         refine W.block ?_
         refine W.seq ?_
         refine W.region ?_
         obtain ⟨p1, hp2, hrp1⟩ := fix_indexAddr Try.underlying127 sz137 ra0_1 hixk2
         refine hrp1 rfl rfl rfl rfl ?_
         refine O.loadA [(.int .i64 yk2.from_), (.int .i64 yk2.to), (.int .i64 yk2.cost), (.int .i64 yk2.number)] ag137 rfl rfl rfl rfl ((hp2.mono H.base).flat) ?_
         refine O.alloc [(.int .i64 0), (.int .i64 0), (.int .i64 0), (.int .i64 0)] ze137 H rfl rfl rfl ?_
         intro b4 w6 H hb5
         refine O.store 3 0 [(.int .i64 yk2.from_), (.int .i64 yk2.to), (.int .i64 yk2.cost), (.int .i64 yk2.number)] [(.int .i64 yk2.from_), (.int .i64 yk2.to), (.int .i64 yk2.cost), (.int .i64 yk2.number)] sz137 H rfl rfl rfl rfl rfl rfl ⟨⟨rfl, rfl⟩, rfl⟩ (one_cons rfl (one_cons rfl (one_cons rfl (one_cons rfl one_nil)))) ?_
         intro w7 H
         refine WL.nil ?_
         refine W.seq ?_
         obtain ⟨x2, hx2, hm6⟩ := bind_some hm6
         obtain ⟨p2, hp3, hrp2⟩ := fix_indexAddr Try.underlying22 sz3 (H.own 1 rfl) hx2
         refine W.drawN 7 (fun f => f 0 = (.pointer (some pa0)) ∧ f 5 = (.pointer (some ⟨b2, 0, none⟩)) ∧ f 9 = v15 ∧ f 10 = v16 ∧ f 12 = (.pointer (some ⟨b4, 0, none⟩)) ∧ f 32 = (.int .i64 ((a0_0.length : Nat) : Int)) ∧ f 33 = (.int .i64 (ik1 : Int)) ∧ f 38 = va0_1 ∧ f 39 = (.int .i64 ((a0_1.length : Nat) : Int)) ∧ f 40 = (.int .i64 (ik2 : Int)) ∧ f 48 = (.int .i64 x2) ∧ f 50 = (.int .i64 yk2.cost)) fol (by kernel_rfl) ?_ ?_
         ·
          refine PL.of (fun _ w8 _ hx => O.move (v := v15) rfl rfl rfl (WL.nil ⟨rfl, hx⟩)) ?_
          refine PL.of (fun _ w8 _ hx => O.fieldAddr fd137_0 rfl rfl rfl (WL.nil ⟨rfl, hx⟩)) ?_
          refine PL.of (fun _ w8 _ hx => by have H := H.ext hx; exact O.load sc3 rfl rfl rfl (H.cell 3 rfl 0 _ rfl) (WL.nil ⟨rfl, hx⟩)) ?_
          refine PL.of (fun _ w8 _ hx => hrp2 rfl rfl rfl rfl (WL.nil ⟨rfl, hx⟩)) ?_
          refine PL.of (fun _ w8 _ hx => by have hp3 := hp3.mono hx; exact O.load sc3 rfl rfl rfl (hp3.flat 0 _ rfl) (WL.nil ⟨rfl, hx⟩)) ?_
          refine PL.of (fun _ w8 _ hx => O.fieldAddr fd137_2 rfl rfl rfl (WL.nil ⟨rfl, hx⟩)) ?_
          refine PL.of (fun _ w8 _ hx => by have H := H.ext hx; exact O.load sc3 rfl rfl rfl (H.cell 3 rfl 2 _ rfl) (WL.nil ⟨rfl, hx⟩)) ?_
          refine PL.nil ?_
          exact ⟨rfl, rfl, rfl, rfl, rfl, rfl, rfl, rfl, rfl, rfl, rfl, rfl⟩
         ·
          rintro f w ⟨hf0, hf5, hf9, hf10, hf12, hf32, hf33, hf38, hf39, hf40, hf48, hf50⟩ hmd hx
          have H := H.ext hx
          have hp3 := hp3.mono hx
          obtain ⟨u10, rfl⟩ : ∃ u10, f = (upd (upd (upd (upd (upd (upd (upd (upd (upd (upd (upd (upd u10 0 (.pointer (some pa0))) 5 (.pointer (some ⟨b2, 0, none⟩))) 9 v15) 10 v16) 12 (.pointer (some ⟨b4, 0, none⟩))) 32 (.int .i64 ((a0_0.length : Nat) : Int))) 33 (.int .i64 (ik1 : Int))) 38 va0_1) 39 (.int .i64 ((a0_1.length : Nat) : Int))) 40 (.int .i64 (ik2 : Int))) 48 (.int .i64 x2)) 50 (.int .i64 yk2.cost)) := ⟨f, by rw [upd_self hf0, upd_self hf5, upd_self hf9, upd_self hf10, upd_self hf12, upd_self hf32, upd_self hf33, upd_self hf38, upd_self hf39, upd_self hf40, upd_self hf48, upd_self hf50]⟩
          obtain ⟨t3, ht3, hm6⟩ := bind_some hm6
          refine O.add rfl rfl rfl rfl ht3 ?_
          refine O.assign (v := (.int .i64 t3)) rfl rfl rfl ?_
          refine WL.nil ?_
          refine W.seq ?_
          refine W.region ?_
          refine O.move (v := v16) rfl rfl rfl ?_
          refine O.fieldAddr fd137_0 rfl rfl rfl ?_
          refine O.load sc3 rfl rfl rfl (H.cell 3 rfl 0 _ rfl) ?_
          obtain ⟨x3, hx3, hm6⟩ := bind_some hm6
          refine O.indexAddr Try.underlying158 sz4 (H.own 2 rfl) hx3 rfl rfl rfl rfl ?_
          intro p3 hp4
          refine O.load sc4 rfl rfl rfl (hp4.flat 0 _ rfl) ?_
          refine O.move (v := (.bool x3)) rfl rfl rfl ?_
          obtain ⟨b5, hm7, hm6⟩ := bind_some hm6
          refine WL.cut 16 (fun f w => f 0 = (.pointer (some pa0)) ∧ f 5 = (.pointer (some ⟨b2, 0, none⟩)) ∧ f 9 = v15 ∧ f 10 = v16 ∧ f 12 = (.pointer (some ⟨b4, 0, none⟩)) ∧ f 13 = (.int .i64 t3) ∧ f 32 = (.int .i64 ((a0_0.length : Nat) : Int)) ∧ f 33 = (.int .i64 (ik1 : Int)) ∧ f 38 = va0_1 ∧ f 39 = (.int .i64 ((a0_1.length : Nat) : Int)) ∧ f 40 = (.int .i64 (ik2 : Int)) ∧ f 73 = .bool b5 ∧ Inv w0 w [boxI b2 131 [(.int .i64 a2.clock), (.int .i64 a2.at_)], ownI (α := Int) v15 3 z9, ownI (α := Bool) v16 4 z10, boxI b4 137 [(.int .i64 yk2.from_), (.int .i64 yk2.to), (.int .i64 yk2.cost), (.int .i64 yk2.number)]]) ?_ ?_
          ·
           rcases ite_some hm7 with ⟨hc1, hm7⟩ | ⟨hc1, hm7⟩
           ·
            refine WL.reset (i := 57) (v := .bool true) (congrArg Value.bool hc1) ?_
            refine O.move (v := v16) rfl rfl rfl ?_
            refine O.fieldAddr fd137_1 rfl rfl rfl ?_
            refine O.load sc3 rfl rfl rfl (H.cell 3 rfl 1 _ rfl) ?_
            obtain ⟨x4, hx4, hm7⟩ := bind_some hm7
            refine O.indexAddr Try.underlying158 sz4 (H.own 2 rfl) hx4 rfl rfl rfl rfl ?_
            intro p4 hp5
            refine O.load sc4 rfl rfl rfl (hp5.flat 0 _ rfl) ?_
            refine O.not rfl rfl rfl ?_
            refine O.move (v := (.bool (!x4))) rfl rfl rfl ?_
            obtain ⟨b6, hm8, hm7⟩ := bind_some hm7
            refine WL.cut 8 (fun f w => f 0 = (.pointer (some pa0)) ∧ f 5 = (.pointer (some ⟨b2, 0, none⟩)) ∧ f 9 = v15 ∧ f 10 = v16 ∧ f 12 = (.pointer (some ⟨b4, 0, none⟩)) ∧ f 13 = (.int .i64 t3) ∧ f 32 = (.int .i64 ((a0_0.length : Nat) : Int)) ∧ f 33 = (.int .i64 (ik1 : Int)) ∧ f 38 = va0_1 ∧ f 39 = (.int .i64 ((a0_1.length : Nat) : Int)) ∧ f 40 = (.int .i64 (ik2 : Int)) ∧ f 57 = (.bool true) ∧ f 58 = v16 ∧ f 59 = (.pointer (some (Addr.add (Addr.mk b4 0 none) 1))) ∧ f 60 = (.int .i64 yk2.to) ∧ f 61 = (.pointer (some p4)) ∧ f 62 = (.bool x4) ∧ f 63 = (.bool (!x4)) ∧ f 64 = (.bool (!x4)) ∧ f 72 = .bool b6 ∧ Inv w0 w [boxI b2 131 [(.int .i64 a2.clock), (.int .i64 a2.at_)], ownI (α := Int) v15 3 z9, ownI (α := Bool) v16 4 z10, boxI b4 137 [(.int .i64 yk2.from_), (.int .i64 yk2.to), (.int .i64 yk2.cost), (.int .i64 yk2.number)]]) ?_ ?_
            ·
             rcases ite_some hm8 with ⟨hc2, hm8⟩ | ⟨hc2, hm8⟩
             ·
              refine WL.reset (i := 64) (v := .bool true) (congrArg Value.bool hc2) ?_
              refine O.skip rfl rfl ?_
              refine O.skip rfl rfl ?_
              refine O.skip rfl rfl ?_
              refine O.skip rfl rfl ?_
              refine O.skip rfl rfl ?_
              refine O.skip rfl rfl ?_
              refine O.skip rfl rfl ?_
              refine O.pick_true (v := (.bool true)) rfl rfl rfl rfl ?_
              refine WL.nil ?_
              have hq : true = b6 := Option.some.inj (show some true = some b6 from hm8)
              subst hq
              exact ⟨rfl, rfl, rfl, rfl, rfl, rfl, rfl, rfl, rfl, rfl, rfl, rfl, rfl, rfl, rfl, rfl, rfl, rfl, (congrArg Value.bool hc2).symm, rfl, H⟩
             ·
              refine WL.reset (i := 64) (v := .bool false) (congrArg Value.bool hc2) ?_
              refine O.move (v := (.int .i64 t3)) rfl rfl rfl ?_
              refine O.move (v := v15) rfl rfl rfl ?_
              refine O.fieldAddr fd137_1 rfl rfl rfl ?_
              refine O.load sc3 rfl rfl rfl (H.cell 3 rfl 1 _ rfl) ?_
              obtain ⟨x5, hx5, hm8⟩ := bind_some hm8
              refine O.indexAddr Try.underlying22 sz3 (H.own 1 rfl) hx5 rfl rfl rfl rfl ?_
              intro p5 hp6
              refine O.load sc3 rfl rfl rfl (hp6.flat 0 _ rfl) ?_
              refine O.lss rfl rfl rfl rfl ?_
              refine O.pick_false (v := (.bool (decide (t3 < x5)))) rfl rfl rfl rfl ?_
              refine WL.nil ?_
              have hq : (decide (t3 < x5)) = b6 := Option.some.inj (show some (decide (t3 < x5)) = some b6 from hm8)
              subst hq
              exact ⟨rfl, rfl, rfl, rfl, rfl, rfl, rfl, rfl, rfl, rfl, rfl, rfl, rfl, rfl, rfl, rfl, rfl, rfl, (congrArg Value.bool hc2).symm, rfl, H⟩
            ·
             rintro f w ⟨hf0, hf5, hf9, hf10, hf12, hf13, hf32, hf33, hf38, hf39, hf40, hf57, hf58, hf59, hf60, hf61, hf62, hf63, hf64, hf72, H⟩
             obtain ⟨u11, rfl⟩ : ∃ u11, f = (upd (upd (upd (upd (upd (upd (upd (upd (upd (upd (upd (upd (upd (upd (upd (upd (upd (upd (upd (upd u11 0 (.pointer (some pa0))) 5 (.pointer (some ⟨b2, 0, none⟩))) 9 v15) 10 v16) 12 (.pointer (some ⟨b4, 0, none⟩))) 13 (.int .i64 t3)) 32 (.int .i64 ((a0_0.length : Nat) : Int))) 33 (.int .i64 (ik1 : Int))) 38 va0_1) 39 (.int .i64 ((a0_1.length : Nat) : Int))) 40 (.int .i64 (ik2 : Int))) 57 (.bool true)) 58 v16) 59 (.pointer (some (Addr.add (Addr.mk b4 0 none) 1)))) 60 (.int .i64 yk2.to)) 61 (.pointer (some p4))) 62 (.bool x4)) 63 (.bool (!x4))) 64 (.bool (!x4))) 72 (.bool b6)) := ⟨f, by rw [upd_self hf0, upd_self hf5, upd_self hf9, upd_self hf10, upd_self hf12, upd_self hf13, upd_self hf32, upd_self hf33, upd_self hf38, upd_self hf39, upd_self hf40, upd_self hf57, upd_self hf58, upd_self hf59, upd_self hf60, upd_self hf61, upd_self hf62, upd_self hf63, upd_self hf64, upd_self hf72]⟩
             refine O.pick_true (v := (.bool b6)) rfl rfl rfl rfl ?_
             refine WL.nil ?_
             have hq : b6 = b5 := Option.some.inj (show some b6 = some b5 from hm7)
             subst hq
             exact ⟨rfl, rfl, rfl, rfl, rfl, rfl, rfl, rfl, rfl, rfl, rfl, rfl, H⟩
           ·
            refine WL.reset (i := 57) (v := .bool false) (congrArg Value.bool hc1) ?_
            refine O.skip rfl rfl ?_
            refine O.skip rfl rfl ?_
            refine O.skip rfl rfl ?_
            refine O.skip rfl rfl ?_
            refine O.skip rfl rfl ?_
            refine O.skip rfl rfl ?_
            refine O.skip rfl rfl ?_
            refine O.skip rfl rfl ?_
            refine O.skip rfl rfl ?_
            refine O.skip rfl rfl ?_
            refine O.skip rfl rfl ?_
            refine O.skip rfl rfl ?_
            refine O.skip rfl rfl ?_
            refine O.skip rfl rfl ?_
            refine O.skip rfl rfl ?_
            refine O.pick_false (v := (.bool false)) rfl rfl rfl rfl ?_
            refine WL.nil ?_
            have hq : false = b5 := Option.some.inj (show some false = some b5 from hm7)
            subst hq
            exact ⟨rfl, rfl, rfl, rfl, rfl, rfl, rfl, rfl, rfl, rfl, rfl, rfl, H⟩
          ·
           rintro f w ⟨hf0, hf5, hf9, hf10, hf12, hf13, hf32, hf33, hf38, hf39, hf40, hf73, H⟩
           obtain ⟨u12, rfl⟩ : ∃ u12, f = (upd (upd (upd (upd (upd (upd (upd (upd (upd (upd (upd (upd u12 0 (.pointer (some pa0))) 5 (.pointer (some ⟨b2, 0, none⟩))) 9 v15) 10 v16) 12 (.pointer (some ⟨b4, 0, none⟩))) 13 (.int .i64 t3)) 32 (.int .i64 ((a0_0.length : Nat) : Int))) 33 (.int .i64 (ik1 : Int))) 38 va0_1) 39 (.int .i64 ((a0_1.length : Nat) : Int))) 40 (.int .i64 (ik2 : Int))) 73 (.bool b5)) := ⟨f, by rw [upd_self hf0, upd_self hf5, upd_self hf9, upd_self hf10, upd_self hf12, upd_self hf13, upd_self hf32, upd_self hf33, upd_self hf38, upd_self hf39, upd_self hf40, upd_self hf73]⟩
           refine WL.nil ?_
           obtain ⟨⟨s9, s10⟩, hm9, hm6⟩ := bind_some hm6
           refine W.via (fun f w => ∃ v23 : Value, ∃ v24 : Value, f 0 = (.pointer (some pa0)) ∧ f 5 = (.pointer (some ⟨b2, 0, none⟩)) ∧ f 9 = v23 ∧ f 10 = v24 ∧ f 32 = (.int .i64 ((a0_0.length : Nat) : Int)) ∧ f 33 = (.int .i64 (ik1 : Int)) ∧ f 38 = va0_1 ∧ f 39 = (.int .i64 ((a0_1.length : Nat) : Int)) ∧ f 40 = (.int .i64 (ik2 : Int)) ∧ Inv w0 w [boxI b2 131 [(.int .i64 a2.clock), (.int .i64 a2.at_)], ownI (α := Int) v23 3 s9, ownI (α := Bool) v24 4 s10]) ?_ ?_
           ·
            rcases ite_some hm9 with ⟨hc3, hm9⟩ | ⟨hc3, hm9⟩
            ·
             refine W.cond_true (congrArg Value.bool hc3) ?_
             obtain ⟨x6, hx6, hm9⟩ := bind_some hm9
             refine W.drawD 9 [[], [], [1], [], [], [4], [], [0, 1, 2, 6], [0, 1, 2, 6, 7]] [[7, 8], [2, 7, 8], [7, 8], [], [5], [], [7, 8], [8], []] (fun S f w => ∃ b7 : Nat, Inv w0 w [] ∧ f 0 = (.pointer (some pa0)) ∧ f 5 = (.pointer (some ⟨b2, 0, none⟩)) ∧ f 9 = v15 ∧ f 10 = v16 ∧ f 12 = (.pointer (some ⟨b4, 0, none⟩)) ∧ f 13 = (.int .i64 t3) ∧ f 32 = (.int .i64 ((a0_0.length : Nat) : Int)) ∧ f 33 = (.int .i64 (ik1 : Int)) ∧ f 38 = va0_1 ∧ f 39 = (.int .i64 ((a0_1.length : Nat) : Int)) ∧ f 40 = (.int .i64 (ik2 : Int)) ∧ (S 0 = true → f 74 = v15) ∧ (S 1 = true → f 75 = (.pointer (some (Addr.add (Addr.mk b4 0 none) 1)))) ∧ (S 2 = true → f 76 = (.int .i64 yk2.to)) ∧ (S 3 = true → f 77 = v16) ∧ (S 4 = true → f 78 = (.pointer (some (Addr.add (Addr.mk b4 0 none) 1)))) ∧ (S 5 = true → f 79 = (.int .i64 yk2.to)) ∧ (S 6 = true → f 80 = (.int .i64 t3)) ∧ (S 7 = true → f 81 = (.pointer (some ⟨b7, Int.toNat yk2.to * Flat.size Int, none⟩))) ∧ (S 7 = true → Value.ownBlock v15 = some b7) ∧ (S 7 = true → S 8 = false → (ElemAt w (⟨b7, Int.toNat yk2.to * Flat.size Int, none⟩ : Addr) x6)) ∧ (S 8 = false → Inv w0 w [boxI b2 131 [(.int .i64 a2.clock), (.int .i64 a2.at_)], ownI (α := Int) v15 3 z9, ownI (α := Bool) v16 4 z10, boxI b4 137 [(.int .i64 yk2.from_), (.int .i64 yk2.to), (.int .i64 yk2.cost), (.int .i64 yk2.number)]]) ∧ (S 8 = true → Inv w0 w [boxI b2 131 [(.int .i64 a2.clock), (.int .i64 a2.at_)], ownI (α := Int) v15 3 (z9.set (Int.toNat yk2.to) t3), ownI (α := Bool) v16 4 z10, boxI b4 137 [(.int .i64 yk2.from_), (.int .i64 yk2.to), (.int .i64 yk2.cost), (.int .i64 yk2.number)]])) fol (by kernel_rfl) ?_ ?_ ?_
             ·
              exact fun d _ => ⟨0, ((H.ext (below_drawn d)).pick [] [] rfl (by decide)), rfl, rfl, rfl, rfl, rfl, rfl, rfl, rfl, rfl, rfl, rfl, nF, nF, nF, nF, nF, nF, nF, nF, nF, nF, (fun _ => H.ext (below_drawn d)), nF⟩
             ·
              refine ⟨?_, ⟨?_, ⟨?_, ⟨?_, ⟨?_, ⟨?_, ⟨?_, ⟨?_, ⟨?_, trivial⟩⟩⟩⟩⟩⟩⟩⟩⟩
              ·
               rintro S f w hS - ⟨e7, e8, -⟩ ⟨b7, B, hf0, hf5, hf9, hf10, hf12, hf13, hf32, hf33, hf38, hf39, hf40, hd0, hd1, hd2, hd3, hd4, hd5, hd6, hd7, Fhob2, Fhp7, t⟩
               obtain ⟨u13, rfl⟩ := up1 hf9
               have H := t.1 e8
               refine O.move (v := v15) rfl rfl rfl ?_
               exact WL.nil ⟨b7, B, hf0, hf5, rfl, hf10, hf12, hf13, hf32, hf33, hf38, hf39, hf40, (fun _ => rfl), hd1, hd2, hd3, hd4, hd5, hd6, hd7, Fhob2, (fun g0 g1 => Fhp7 g0 g1), t⟩
              ·
               rintro S f w hS - ⟨e2, e7, e8, -⟩ ⟨b7, B, hf0, hf5, hf9, hf10, hf12, hf13, hf32, hf33, hf38, hf39, hf40, hd0, hd1, hd2, hd3, hd4, hd5, hd6, hd7, Fhob2, Fhp7, t⟩
               obtain ⟨u14, rfl⟩ := up1 hf12
               have H := t.1 e8
               refine O.fieldAddr fd137_1 rfl rfl rfl ?_
               exact WL.nil ⟨b7, B, hf0, hf5, hf9, hf10, rfl, hf13, hf32, hf33, hf38, hf39, hf40, hd0, (fun _ => rfl), hd2, hd3, hd4, hd5, hd6, hd7, Fhob2, (fun g0 g1 => Fhp7 g0 g1), t⟩
              ·
               rintro S f w hS ⟨e1, -⟩ ⟨e7, e8, -⟩ ⟨b7, B, hf0, hf5, hf9, hf10, hf12, hf13, hf32, hf33, hf38, hf39, hf40, hd0, hd1, hd2, hd3, hd4, hd5, hd6, hd7, Fhob2, Fhp7, t⟩
               have hf75 := hd1 e1
               obtain ⟨u15, rfl⟩ := up1 hf75
               have H := t.1 e8
               refine O.load sc3 rfl rfl rfl (H.cell 3 rfl 1 _ rfl) ?_
               exact WL.nil ⟨b7, B, hf0, hf5, hf9, hf10, hf12, hf13, hf32, hf33, hf38, hf39, hf40, hd0, hd1, (fun _ => rfl), hd3, hd4, hd5, hd6, hd7, Fhob2, (fun g0 g1 => Fhp7 g0 g1), t⟩
              ·
               rintro S f w hS - - ⟨b7, B, hf0, hf5, hf9, hf10, hf12, hf13, hf32, hf33, hf38, hf39, hf40, hd0, hd1, hd2, hd3, hd4, hd5, hd6, hd7, Fhob2, Fhp7, W0, W1⟩
               obtain ⟨u16, rfl⟩ := up1 hf10
               rcases bool_ft (S 8) with e8 | e8
               ·
                have H := W0 e8
                refine O.move (v := v16) rfl rfl rfl ?_
                exact WL.nil ⟨b7, B, hf0, hf5, hf9, rfl, hf12, hf13, hf32, hf33, hf38, hf39, hf40, hd0, hd1, hd2, (fun _ => rfl), hd4, hd5, hd6, hd7, Fhob2, (fun g0 g1 => Fhp7 g0 g1), (fun _ => H), (nX e8)⟩
               ·
                have H := W1 e8
                refine O.move (v := v16) rfl rfl rfl ?_
                exact WL.nil ⟨b7, B, hf0, hf5, hf9, rfl, hf12, hf13, hf32, hf33, hf38, hf39, hf40, hd0, hd1, hd2, (fun _ => rfl), hd4, hd5, hd6, hd7, Fhob2, (fun g0 g1 => Fhp7 g0 g1), (nT e8), (fun _ => H)⟩
              ·
               rintro S f w hS - ⟨e5, -⟩ ⟨b7, B, hf0, hf5, hf9, hf10, hf12, hf13, hf32, hf33, hf38, hf39, hf40, hd0, hd1, hd2, hd3, hd4, hd5, hd6, hd7, Fhob2, Fhp7, W0, W1⟩
               obtain ⟨u17, rfl⟩ := up1 hf12
               rcases bool_ft (S 8) with e8 | e8
               ·
                have H := W0 e8
                refine O.fieldAddr fd137_1 rfl rfl rfl ?_
                exact WL.nil ⟨b7, B, hf0, hf5, hf9, hf10, rfl, hf13, hf32, hf33, hf38, hf39, hf40, hd0, hd1, hd2, hd3, (fun _ => rfl), hd5, hd6, hd7, Fhob2, (fun g0 g1 => Fhp7 g0 g1), (fun _ => H), (nX e8)⟩
               ·
                have H := W1 e8
                refine O.fieldAddr fd137_1 rfl rfl rfl ?_
                exact WL.nil ⟨b7, B, hf0, hf5, hf9, hf10, rfl, hf13, hf32, hf33, hf38, hf39, hf40, hd0, hd1, hd2, hd3, (fun _ => rfl), hd5, hd6, hd7, Fhob2, (fun g0 g1 => Fhp7 g0 g1), (nT e8), (fun _ => H)⟩
              ·
               rintro S f w hS ⟨e4, -⟩ - ⟨b7, B, hf0, hf5, hf9, hf10, hf12, hf13, hf32, hf33, hf38, hf39, hf40, hd0, hd1, hd2, hd3, hd4, hd5, hd6, hd7, Fhob2, Fhp7, W0, W1⟩
               have hf78 := hd4 e4
               obtain ⟨u18, rfl⟩ := up1 hf78
               rcases bool_ft (S 8) with e8 | e8
               ·
                have H := W0 e8
                refine O.load sc3 rfl rfl rfl (H.cell 3 rfl 1 _ rfl) ?_
                exact WL.nil ⟨b7, B, hf0, hf5, hf9, hf10, hf12, hf13, hf32, hf33, hf38, hf39, hf40, hd0, hd1, hd2, hd3, hd4, (fun _ => rfl), hd6, hd7, Fhob2, (fun g0 g1 => Fhp7 g0 g1), (fun _ => H), (nX e8)⟩
               ·
                have H := W1 e8
                refine O.load sc3 rfl rfl rfl (H.cell 3 rfl 1 _ rfl) ?_
                exact WL.nil ⟨b7, B, hf0, hf5, hf9, hf10, hf12, hf13, hf32, hf33, hf38, hf39, hf40, hd0, hd1, hd2, hd3, hd4, (fun _ => rfl), hd6, hd7, Fhob2, (fun g0 g1 => Fhp7 g0 g1), (nT e8), (fun _ => H)⟩
              ·
               rintro S f w hS - ⟨e7, e8, -⟩ ⟨b7, B, hf0, hf5, hf9, hf10, hf12, hf13, hf32, hf33, hf38, hf39, hf40, hd0, hd1, hd2, hd3, hd4, hd5, hd6, hd7, Fhob2, Fhp7, t⟩
               obtain ⟨u19, rfl⟩ := up1 hf13
               have H := t.1 e8
               refine O.move (v := (.int .i64 t3)) rfl rfl rfl ?_
               exact WL.nil ⟨b7, B, hf0, hf5, hf9, hf10, hf12, rfl, hf32, hf33, hf38, hf39, hf40, hd0, hd1, hd2, hd3, hd4, hd5, (fun _ => rfl), hd7, Fhob2, (fun g0 g1 => Fhp7 g0 g1), t⟩
              ·
               rintro S f w hS ⟨e0, e1, e2, e6, -⟩ ⟨e8, -⟩ ⟨_, B, hf0, hf5, hf9, hf10, hf12, hf13, hf32, hf33, hf38, hf39, hf40, hd0, hd1, hd2, hd3, hd4, hd5, hd6, hd7, Fhob2, Fhp7, t⟩
               have hf74 := hd0 e0
               have hf76 := hd2 e2
               obtain ⟨u20, rfl⟩ := up2 hf74 hf76
               have H := t.1 e8
               refine O.indexOwn 1 Try.underlying22 sz3 H rfl hx6 rfl rfl rfl rfl ?_
               intro b7 hob2 hp7
               exact WL.nil ⟨b7, B, hf0, hf5, hf9, hf10, hf12, hf13, hf32, hf33, hf38, hf39, hf40, hd0, hd1, hd2, hd3, hd4, hd5, hd6, (fun _ => rfl), (fun _ => hob2), (fun _ _ => hp7), t⟩
              ·
               rintro S f w hS ⟨e0, e1, e2, e6, e7, -⟩ - ⟨b7, B, hf0, hf5, hf9, hf10, hf12, hf13, hf32, hf33, hf38, hf39, hf40, hd0, hd1, hd2, hd3, hd4, hd5, hd6, hd7, Fhob2, Fhp7, W0, W1⟩
               have hf80 := hd6 e6
               have hf81 := hd7 e7
               obtain ⟨u21, rfl⟩ := up2 hf80 hf81
               have H := W0 hS
               have hp7 := Fhp7 e7 hS
               have hob2 := Fhob2 e7
               refine O.storeOwn (α := Int) (i0 := yk2.to) (x0 := x6) 1 0 t3 [(.int .i64 t3)] sz3 H rfl hob2 hx6 rfl rfl rfl rfl rfl rfl rfl rfl (one_cons rfl one_nil) ?_
               intro w8 H
               clear hp7
               exact WL.nil ⟨b7, (H.pick [] [] rfl (by decide)), hf0, hf5, hf9, hf10, hf12, hf13, hf32, hf33, hf38, hf39, hf40, hd0, hd1, hd2, hd3, hd4, hd5, hd6, hd7, Fhob2, (fun g0 g1 => nG g1), nG, (fun _ => H)⟩
             ·
              rintro S f w ⟨e0, e1, e2, e3, e4, e5, e6, e7, e8, -⟩ ⟨b7, B, hf0, hf5, hf9, hf10, hf12, hf13, hf32, hf33, hf38, hf39, hf40, hd0, hd1, hd2, hd3, hd4, hd5, hd6, hd7, Fhob2, Fhp7, W0, W1⟩
              have hf77 := hd3 e3
              have hf79 := hd5 e5
              have H := W1 e8
              obtain ⟨u22, rfl⟩ : ∃ u22, f = (upd (upd (upd (upd (upd (upd (upd (upd (upd (upd (upd u22 0 (.pointer (some pa0))) 5 (.pointer (some ⟨b2, 0, none⟩))) 9 v15) 10 v16) 32 (.int .i64 ((a0_0.length : Nat) : Int))) 33 (.int .i64 (ik1 : Int))) 38 va0_1) 39 (.int .i64 ((a0_1.length : Nat) : Int))) 40 (.int .i64 (ik2 : Int))) 77 v16) 79 (.int .i64 yk2.to)) := ⟨f, by rw [upd_self hf0, upd_self hf5, upd_self hf9, upd_self hf10, upd_self hf32, upd_self hf33, upd_self hf38, upd_self hf39, upd_self hf40, upd_self hf77, upd_self hf79]⟩
              obtain ⟨x7, hx7, hm9⟩ := bind_some hm9
              refine O.indexOwn 2 Try.underlying158 sz4 H rfl hx7 rfl rfl rfl rfl ?_
              intro b8 hob3 hp8
              refine O.storeOwn (α := Bool) (i0 := yk2.to) (x0 := x7) 2 0 true [(.bool true)] sz4 H rfl hob3 hx7 rfl rfl rfl rfl rfl rfl rfl rfl (one_cons rfl one_nil) ?_
              intro w9 H
              clear hp8
              refine WL.nil ?_
              have H := H.keep [0, 1, 2] [boxI b2 131 [(.int .i64 a2.clock), (.int .i64 a2.at_)], ownI (α := Int) v15 3 (z9.set (Int.toNat yk2.to) t3), ownI (α := Bool) v16 4 (z10.set (Int.toNat yk2.to) true)] rfl (by decide)
              have hq : ((z9.set (Int.toNat yk2.to) t3), (z10.set (Int.toNat yk2.to) true)) = (s9, s10) := Option.some.inj (show some ((z9.set (Int.toNat yk2.to) t3), (z10.set (Int.toNat yk2.to) true)) = some (s9, s10) from hm9)
              obtain ⟨he0, hq0⟩ := Prod.mk.inj hq; clear hq; subst he0
              subst hq0
              exact ⟨v15, v16, rfl, rfl, rfl, rfl, rfl, rfl, rfl, rfl, rfl, H⟩
            ·
             refine W.cond_false (congrArg Value.bool hc3) ?_
             refine W.skip ?_
             have H := H.keep [0, 1, 2] [boxI b2 131 [(.int .i64 a2.clock), (.int .i64 a2.at_)], ownI (α := Int) v15 3 z9, ownI (α := Bool) v16 4 z10] rfl (by decide)
             have hq : (z9, z10) = (s9, s10) := Option.some.inj (show some (z9, z10) = some (s9, s10) from hm9)
             obtain ⟨he0, hq0⟩ := Prod.mk.inj hq; clear hq; subst he0
             subst hq0
             exact ⟨v15, v16, rfl, rfl, rfl, rfl, rfl, rfl, rfl, rfl, rfl, H⟩
           ·
            rintro f w ⟨v23, v24, hf0, hf5, hf9, hf10, hf32, hf33, hf38, hf39, hf40, H⟩
            obtain ⟨u23, rfl⟩ := up9 hf0 hf5 hf9 hf10 hf32 hf33 hf38 hf39 hf40
            have hq : (s9, s10) = (s7, s8) := Option.some.inj (show some (s9, s10) = some (s7, s8) from hm6)
            obtain ⟨he0, hq0⟩ := Prod.mk.inj hq; clear hq; subst he0
            subst hq0
            exact ⟨v23, v24, rfl, rfl, rfl, rfl, rfl, rfl, rfl, rfl, rfl, H⟩
        ·
         rintro f w ⟨v21, v22, hf0, hf5, hf9, hf10, hf32, hf33, hf38, hf39, hf40, H⟩
         obtain ⟨u24, rfl⟩ := up9 hf0 hf5 hf9 hf10 hf32 hf33 hf38 hf39 hf40
         refine W.region ?_
         refine O.add rfl rfl rfl rfl hinck2 ?_
         refine O.move (v := .int .i64 ((ik2 : Int) + 1)) rfl rfl rfl ?_
         refine WL.nil ?_
         obtain rfl := Option.some.inj hm5
         exact ⟨_, rfl, _, _, v21, v22, rfl, drop_next hdropk2, rfl, rfl, rfl, rfl, rfl, rfl, rfl, rfl, rfl, H⟩
       ·
        rintro ik2 _ f w ⟨z9, z10, v15, v16, rfl, hdropk2, hf40, hf39, hf0, hf5, hf9, hf10, hf32, hf33, hf38, H⟩ hfin
        have hltk2 := drop_end hdropk2
        obtain ⟨u25, rfl⟩ := up9 hf40 hf39 hf0 hf5 hf9 hf10 hf32 hf33 hf38
        refine W.seq ?_
        refine W.region ?_
        refine O.lss rfl rfl rfl rfl ?_
        refine WL.nil ?_
        refine W.seq ?_
        refine W.cond_false (congrArg Value.bool (decide_eq_false hltk2)) ?_
        refine W.exit ?_
        have hq : (z9, z10) = (s5, s6) := hfin
        obtain ⟨he0, hq0⟩ := Prod.mk.inj hq; clear hq; subst he0
        subst hq0
        refine xT rfl ?_
        exact ⟨v15, v16, rfl, rfl, rfl, rfl, rfl, rfl, H⟩
      ·
       rintro f w ⟨v19, v20, hf0, hf5, hf9, hf10, hf32, hf33, H⟩
       obtain ⟨u26, rfl⟩ := up6 hf0 hf5 hf9 hf10 hf32 hf33
       have hq : (s5, s6) = (s3, s4) := Option.some.inj (show some (s5, s6) = some (s3, s4) from hm3)
       obtain ⟨he0, hq0⟩ := Prod.mk.inj hq; clear hq; subst he0
       subst hq0
       exact ⟨v19, v20, rfl, rfl, rfl, rfl, rfl, rfl, H⟩
     ·
      rintro f w ⟨v11, v12, hf0, hf5, hf9, hf10, hf32, hf33, H⟩
      obtain ⟨u27, rfl⟩ := up6 hf0 hf5 hf9 hf10 hf32 hf33
      refine W.region ?_
      refine O.add rfl rfl rfl rfl hinck1 ?_
      refine O.move (v := .int .i64 ((ik1 : Int) + 1)) rfl rfl rfl ?_
      refine WL.nil ?_
      obtain rfl := Option.some.inj hm2
      exact ⟨_, rfl, _, _, v11, v12, rfl, rangeN_next hdropk1, rfl, rfl, rfl, rfl, rfl, rfl, H⟩
    ·
     rintro ik1 _ f w ⟨z3, z4, v5, v6, rfl, hdropk1, hf33, hf32, hf0, hf5, hf9, hf10, H⟩ hfin
     have hltk1 := rangeN_end hdropk1
     obtain ⟨u28, rfl⟩ := up6 hf33 hf32 hf0 hf5 hf9 hf10
     refine W.seq ?_
     refine W.region ?_
     refine O.lss rfl rfl rfl rfl ?_
     refine WL.nil ?_
     refine W.seq ?_
     refine W.cond_false (congrArg Value.bool (decide_eq_false hltk1)) ?_
     refine W.exit ?_
     have hq : (z3, z4) = (s1, s2) := hfin
     obtain ⟨he0, hq0⟩ := Prod.mk.inj hq; clear hq; subst he0
     subst hq0
     refine xT rfl ?_
     exact ⟨v5, v6, rfl, rfl, rfl, rfl, H⟩
   ·
    rintro f w ⟨v9, v10, hf0, hf5, hf9, hf10, H⟩
    obtain ⟨u29, rfl⟩ := up4 hf0 hf5 hf9 hf10
    refine W.seq ?_
    refine W.drawN 5 (fun f => f 9 = v9 ∧ f 10 = v10 ∧ f 88 = va0_0 ∧ f 89 = (.agg (Flat.cells a2).toArray)) fol (by kernel_rfl) ?_ ?_
    ·
     refine PL.of (fun _ w8 _ hx => O.move (v := (.pointer (some pa0))) rfl rfl rfl (WL.nil ⟨rfl, hx⟩)) ?_
     refine PL.of (fun _ w8 _ hx => O.nilCheck rfl rfl rfl (WL.nil ⟨rfl, hx⟩)) ?_
     refine PL.of (fun _ w8 _ hx => O.fieldAddr fd129_0 rfl rfl rfl (WL.nil ⟨rfl, hx⟩)) ?_
     refine PL.of (fun _ w8 _ hx => by have H := H.ext hx; exact O.load sc126 rfl rfl rfl (cells_mono ha0 H.base 0 _ rfl) (WL.nil ⟨rfl, hx⟩)) ?_
     refine PL.of (fun _ w8 _ hx => by have H := H.ext hx; exact O.loadA [(.int .i64 a2.clock), (.int .i64 a2.at_)] ag131 rfl rfl rfl rfl (H.cell 0 rfl) (WL.nil ⟨rfl, hx⟩)) ?_
     refine PL.nil ?_
     exact ⟨rfl, rfl, rfl, rfl⟩
    ·
     rintro f w ⟨hf9, hf10, hf88, hf89⟩ hmd hx
     have H := H.ext hx
     obtain ⟨u30, rfl⟩ := up4 hf9 hf10 hf88 hf89
     refine O.lookup1 (z := 0) a2 Try.underlying126 key131 ze3 (H.argM ra0_0) rfl rfl rfl rfl ?_
     refine O.assign (v := (.int .i64 ((mget a0_0 a2).getD 0))) rfl rfl rfl ?_
     refine WL.nil ?_
     refine W.seq ?_
     obtain ⟨x8, hx8, hm⟩ := bind_some hm
     obtain ⟨p6, hp9, hrp6⟩ := fix_indexAddr Try.underlying22 sz3 (H.own 1 rfl) hx8
     obtain ⟨x9, hx9, hm⟩ := bind_some hm
     obtain ⟨p7, hp10, hrp7⟩ := fix_indexAddr Try.underlying158 sz4 (H.own 2 rfl) hx9
     refine W.drawN 9 (fun f => f 6 = (.int .i64 x8) ∧ f 98 = (.bool x9)) fol (by kernel_rfl) ?_ ?_
     ·
      refine PL.of (fun _ w8 _ hx => O.move (v := v9) rfl rfl rfl (WL.nil ⟨rfl, hx⟩)) ?_
      refine PL.of (fun _ w8 _ hx => O.move (v := (.int .i64 ((mget a0_0 a2).getD 0))) rfl rfl rfl (WL.nil ⟨rfl, hx⟩)) ?_
      refine PL.of (fun _ w8 _ hx => hrp6 rfl rfl rfl rfl (WL.nil ⟨rfl, hx⟩)) ?_
      refine PL.of (fun _ w8 _ hx => by have hp9 := hp9.mono hx; exact O.load sc3 rfl rfl rfl (hp9.flat 0 _ rfl) (WL.nil ⟨rfl, hx⟩)) ?_
      refine PL.of (fun _ w8 _ hx => O.move (v := v10) rfl rfl rfl (WL.nil ⟨rfl, hx⟩)) ?_
      refine PL.of (fun _ w8 _ hx => O.move (v := (.int .i64 ((mget a0_0 a2).getD 0))) rfl rfl rfl (WL.nil ⟨rfl, hx⟩)) ?_
      refine PL.of (fun _ w8 _ hx => hrp7 rfl rfl rfl rfl (WL.nil ⟨rfl, hx⟩)) ?_
      refine PL.of (fun _ w8 _ hx => by have hp10 := hp10.mono hx; exact O.load sc4 rfl rfl rfl (hp10.flat 0 _ rfl) (WL.nil ⟨rfl, hx⟩)) ?_
      refine PL.of (fun _ w8 _ hx => O.assign (v := (.int .i64 x8)) rfl rfl rfl (WL.nil ⟨rfl, hx⟩)) ?_
      refine PL.nil ?_
      exact ⟨rfl, rfl⟩
     ·
      rintro f w ⟨hf6, hf98⟩ hmd hx
      have H := H.ext hx
      have hp9 := hp9.mono hx
      have hp10 := hp10.mono hx
      obtain ⟨u31, rfl⟩ := up2 hf6 hf98
      refine O.assign (v := (.bool x9)) rfl rfl rfl ?_
      refine WL.nil ?_
      refine W.ret ?_
      have hq : (x8, x9) = (r0, r1) := Option.some.inj (show some (x8, x9) = some (r0, r1) from hm)
      obtain ⟨he0, hq0⟩ := Prod.mk.inj hq; clear hq; subst he0
      subst hq0
      exact ends2 Try.results71 rfl rfl ⟨_, rfl, H.base, rfl⟩

theorem c_sight_within {w0 : World} (a0 : Int) (a1 : Int) (a2 : Int) {r0 : Bool} (hm : sight_within a0 a1 a2 = some r0) :
  Calls Try.prog 47 #[(.int .i64 a0), (.int .i64 a1), (.int .i64 a2)] w0 (Ret w0 fun _ v => v = (.bool r0)) := by
 unfold sight_within at hm
 refine calls_of_W Try.func47 rfl Try.ntmps47 (Nat.le_of_ble_eq_true rfl) ?_
 have H := Inv.start (w := w0)
 refine W.seq ?_
 refine W.region ?_
 refine O.assign (v := (.bool false)) rfl rfl rfl ?_
 refine WL.nil ?_
 refine W.seq ?_
 refine W.region ?_
 refine O.move (v := (.int .i64 a0)) rfl rfl rfl ?_
 refine O.move (v := (.int .i64 a1)) rfl rfl rfl ?_
 refine O.geq rfl rfl rfl rfl ?_
 refine O.move (v := (.bool (decide (a1 ≤ a0)))) rfl rfl rfl ?_
 refine WL.cut 4 (fun f w => f 14 = .bool ((decide (a1 ≤ a0)) && (decide (a0 ≤ a2))) ∧ Inv w0 w []) ?_ ?_
 ·
  rcases bool_ft (decide (a1 ≤ a0)) with hc1 | hc1
  ·
   refine WL.reset (i := 10) (v := .bool false) (congrArg Value.bool hc1) ?_
   refine O.skip rfl rfl ?_
   refine O.skip rfl rfl ?_
   refine O.skip rfl rfl ?_
   refine O.pick_false (v := (.bool false)) rfl rfl rfl rfl ?_
   exact WL.nil ⟨congrArg Value.bool (and_f hc1), H⟩
  ·
   refine WL.reset (i := 10) (v := .bool true) (congrArg Value.bool hc1) ?_
   refine O.move (v := (.int .i64 a0)) rfl rfl rfl ?_
   refine O.move (v := (.int .i64 a2)) rfl rfl rfl ?_
   refine O.leq rfl rfl rfl rfl ?_
   refine O.pick_true (v := (.bool (decide (a0 ≤ a2)))) rfl rfl rfl rfl ?_
   exact WL.nil ⟨congrArg Value.bool (and_t hc1), H⟩
 ·
  rintro f w ⟨hf14, H⟩
  obtain ⟨u1, rfl⟩ := up1 hf14
  refine O.assign (v := (.bool ((decide (a1 ≤ a0)) && (decide (a0 ≤ a2))))) rfl rfl rfl ?_
  refine WL.nil ?_
  refine W.ret ?_
  have hq : ((decide (a1 ≤ a0)) && (decide (a0 ≤ a2))) = r0 := Option.some.inj (show some ((decide (a1 ≤ a0)) && (decide (a0 ≤ a2))) = some r0 from hm)
  subst hq
  exact ends1 Try.results47 rfl ⟨_, rfl, H.base, rfl⟩

theorem c_sight_Valid_c1 {w0 : World} (a0 : Int) {r0 : Bool} (hm : sight_Valid_c1 a0 = some r0) :
  Calls Try.prog 76 #[(.int .i64 a0)] w0 (Ret w0 fun _ v => v = (.bool r0)) := by
 unfold sight_Valid_c1 at hm
 refine calls_of_W Try.func76 rfl Try.ntmps76 (Nat.le_of_ble_eq_true rfl) ?_
 have H := Inv.start (w := w0)
 refine W.seq ?_
 refine W.region ?_
 refine O.assign (v := (.bool false)) rfl rfl rfl ?_
 refine WL.nil ?_
 refine W.seq ?_
 refine W.region ?_
 refine O.move (v := (.int .i64 a0)) rfl rfl rfl ?_
 obtain ⟨t1, hy1, hm⟩ := bind_some hm
 refine O.call Try.call47 rfl rfl rfl (c_sight_within _ _ _ hy1) ?_
 rintro _ w1 hb1 rfl
 have H := H.ext hb1
 refine O.not rfl rfl rfl ?_
 refine O.assign (v := (.bool (!t1))) rfl rfl rfl ?_
 refine WL.nil ?_
 refine W.ret ?_
 have hq : (!t1) = r0 := Option.some.inj (show some (!t1) = some r0 from hm)
 subst hq
 exact ends1 Try.results76 rfl ⟨_, rfl, H.base, rfl⟩

theorem c_slices_IndexFunc_int {w0 : World} (va0 : Value) (a0 : (List Int)) (ha0 : SliceR w0 va0 a0) (va1 : Value) (a1 : Int → Option (Bool)) (ha1 : ∀ (w : World), Below w0.heap.size w0 w → ∀ (x0 : Int) (y0 : Bool), a1 x0 = some y0 → CallsV Try.prog va1 #[(.int .i64 x0)] w (Ret w fun _ v => v = (.bool y0))) {r0 : Int} (hm : slices_IndexFunc_int a0 a1 = some r0) :
  Calls Try.prog 80 #[va0, va1] w0 (Ret w0 fun _ v => v = (.int .i64 r0)) := by
 unfold slices_IndexFunc_int at hm
 refine calls_of_W Try.func80 rfl Try.ntmps80 (Nat.le_of_ble_eq_true rfl) ?_
 have H := Inv.start (w := w0)
 refine W.seq ?_
 refine W.region ?_
 refine O.assign (v := (.int .i64 0)) rfl rfl rfl ?_
 refine WL.nil ?_
 refine W.seq ?_
 refine W.seq ?_
 refine W.region ?_
 refine O.move (v := va0) rfl rfl rfl ?_
 refine O.lenS Try.underlying22 (H.arg ha0) rfl rfl rfl ?_
 refine O.move (v := (.int .i64 0)) rfl rfl rfl ?_
 refine WL.nil ?_
 obtain ⟨o1, hm1, hm⟩ := bind_some hm
 refine W.via (fun f w => o1 = .next () ∧ Inv w0 w []) ?_ ?_
 ·
  refine W.block ?_
  have hbdik1 := (H.arg ha0).len_le
  refine W.rangeN (i := 0) hm1 (fun rem ik1 s f w => () = s ∧ (ik1 : Int) + rem = max 0 ((a0.length : Nat) : Int) ∧ f 8 = .int .i64 (ik1 : Int) ∧ f 7 = (.int .i64 ((a0.length : Nat) : Int)) ∧ f 0 = va0 ∧ f 1 = va1 ∧ Inv w0 w []) ?_ ?_ ?_
  ·
   exact ⟨rfl, rangeN_start, rfl, rfl, rfl, rfl, H⟩
  ·
   rintro k ik1 _ st f w ⟨rfl, hdropk1, hf8, hf7, hf0, hf1, H⟩ hm2
   have hltk1 := rangeN_lt hdropk1
   obtain ⟨u1, rfl⟩ := up4 hf8 hf7 hf0 hf1
   have hinck1 := addI_lt hltk1 hbdik1
   refine W.seq ?_
   refine W.region ?_
   refine O.lss rfl rfl rfl rfl ?_
   refine WL.nil ?_
   refine W.seq ?_
   refine W.cond_true (congrArg Value.bool (decide_eq_true hltk1)) ?_
   refine W.skip ?_
   refine W.seq ?_
   refine W.block ?_
   refine W.seq ?_
   refine W.region ?_
   refine O.move (v := (.int .i64 (ik1 : Int))) rfl rfl rfl ?_
   refine O.assign (v := (.int .i64 (ik1 : Int))) rfl rfl rfl ?_
   refine WL.nil ?_
   refine W.seq ?_
   refine W.region ?_
   refine O.move (v := va1) rfl rfl rfl ?_
   refine O.move (v := va0) rfl rfl rfl ?_
   refine O.move (v := (.int .i64 (ik1 : Int))) rfl rfl rfl ?_
   obtain ⟨x1, hx1, hm2⟩ := bind_some hm2
   obtain ⟨p1, hp1, hrp1⟩ := fix_indexAddr Try.underlying22 sz3 ha0 hx1
   refine hrp1 rfl rfl rfl rfl ?_
   refine O.load sc3 rfl rfl rfl ((hp1.mono H.base).flat 0 _ rfl) ?_
   obtain ⟨t1, hy1, hm2⟩ := bind_some hm2
   refine O.callV rfl rfl rfl rfl (ha1 _ H.base _ _ hy1) ?_
   rintro _ w1 hb1 rfl
   have H := H.ext hb1
   refine WL.nil ?_
   rcases ite_some hm2 with ⟨hc1, hm2⟩ | ⟨hc1, hm2⟩
   ·
    refine W.cond_true (congrArg Value.bool hc1) ?_
    refine W.seq ?_
    refine W.region ?_
    refine O.move (v := (.int .i64 (ik1 : Int))) rfl rfl rfl ?_
    refine O.assign (v := (.int .i64 (ik1 : Int))) rfl rfl rfl ?_
    refine WL.nil ?_
    refine W.ret ?_
    obtain rfl := Option.some.inj hm2
    refine ⟨_, rfl, ?_⟩
    rintro rfl
    have hq : (ik1 : Int) = r0 := Option.some.inj (show some (ik1 : Int) = some r0 from hm)
    subst hq
    exact ends1 Try.results80 rfl ⟨_, rfl, H.base, rfl⟩
   ·
    refine W.cond_false (congrArg Value.bool hc1) ?_
    refine W.skip ?_
    refine W.region ?_
    refine O.add rfl rfl rfl rfl hinck1 ?_
    refine O.move (v := .int .i64 ((ik1 : Int) + 1)) rfl rfl rfl ?_
    refine WL.nil ?_
    obtain rfl := Option.some.inj hm2
    exact ⟨_, rfl, rfl, rangeN_next hdropk1, rfl, rfl, rfl, rfl, H⟩
  ·
   rintro ik1 _ f w ⟨rfl, hdropk1, hf8, hf7, hf0, hf1, H⟩ hfin
   have hltk1 := rangeN_end hdropk1
   obtain ⟨u2, rfl⟩ := up4 hf8 hf7 hf0 hf1
   refine W.seq ?_
   refine W.region ?_
   refine O.lss rfl rfl rfl rfl ?_
   refine WL.nil ?_
   refine W.seq ?_
   refine W.cond_false (congrArg Value.bool (decide_eq_false hltk1)) ?_
   refine W.exit ?_
   obtain rfl : Ctl.next () = o1 := hfin
   refine xT rfl ?_
   exact ⟨rfl, H⟩
 ·
  rintro f w ⟨rfl, H⟩
  refine W.seq ?_
  refine W.region ?_
  refine O.assign (v := (.int .i64 (-1))) rfl rfl rfl ?_
  refine WL.nil ?_
  refine W.ret ?_
  have hq : (-1) = r0 := Option.some.inj (show some (-1) = some r0 from hm)
  subst hq
  exact ends1 Try.results80 rfl ⟨_, rfl, H.base, rfl⟩

theorem c_slices_ContainsFunc_int {w0 : World} (va0 : Value) (a0 : (List Int)) (ha0 : SliceR w0 va0 a0) (va1 : Value) (a1 : Int → Option (Bool)) (ha1 : ∀ (w : World), Below w0.heap.size w0 w → ∀ (x0 : Int) (y0 : Bool), a1 x0 = some y0 → CallsV Try.prog va1 #[(.int .i64 x0)] w (Ret w fun _ v => v = (.bool y0))) {r0 : Bool} (hm : slices_ContainsFunc_int a0 a1 = some r0) :
  Calls Try.prog 62 #[va0, va1] w0 (Ret w0 fun _ v => v = (.bool r0)) := by
 unfold slices_ContainsFunc_int at hm
 refine calls_of_W Try.func62 rfl Try.ntmps62 (Nat.le_of_ble_eq_true rfl) ?_
 have H := Inv.start (w := w0)
 refine W.seq ?_
 refine W.region ?_
 refine O.assign (v := (.bool false)) rfl rfl rfl ?_
 refine WL.nil ?_
 refine W.seq ?_
 refine W.region ?_
 refine O.move (v := va0) rfl rfl rfl ?_
 refine O.move (v := va1) rfl rfl rfl ?_
 obtain ⟨t1, hy1, hm⟩ := bind_some hm
 refine O.call Try.call80 rfl rfl rfl (c_slices_IndexFunc_int _ _ (H.arg ha0) va1 a1 (fun w hw => ha1 w (H.base.trans (hw.mono H.base.size))) hy1) ?_
 rintro _ w1 hb1 rfl
 have H := H.ext hb1
 refine O.geq rfl rfl rfl rfl ?_
 refine O.assign (v := (.bool (decide (0 ≤ t1)))) rfl rfl rfl ?_
 refine WL.nil ?_
 refine W.ret ?_
 have hq : (decide (0 ≤ t1)) = r0 := Option.some.inj (show some (decide (0 ≤ t1)) = some r0 from hm)
 subst hq
 exact ends1 Try.results62 rfl ⟨_, rfl, H.base, rfl⟩

set_option maxRecDepth 20000 in
theorem c_sight_validSight {w0 : World} (a0 : GSight) (a1 : Int) {r0 : Bool} (hm : sight_validSight a0 a1 = some r0) :
  Calls Try.prog 79 #[(.agg (Flat.cells a0).toArray), (.int .i64 a1)] w0 (Ret w0 fun _ v => v = (.bool r0)) := by
 unfold sight_validSight at hm
 refine calls_of_W Try.func79 rfl Try.ntmps79 (Nat.le_of_ble_eq_true rfl) ?_
 have H := Inv.start (w := w0)
 refine W.seq ?_
 refine W.region ?_
 refine O.box [(.int .i64 a0.At), (.int .i64 a0.A), (.int .i64 a0.B), (.int .i64 a0.Lo), (.int .i64 a0.Hi)] H rfl rfl rfl rfl ?_
 intro b1 w1 H hb1
 refine O.assign (v := (.bool false)) rfl rfl rfl ?_
 refine WL.nil ?_
 refine W.seq ?_
 refine W.region ?_
 refine O.fieldAddr fd50_0 rfl rfl rfl ?_
 refine O.load sc3 rfl rfl rfl (H.cell 0 rfl 0 _ rfl) ?_
 obtain ⟨t1, hy1, hm⟩ := bind_some hm
 refine O.call Try.call47 rfl rfl rfl (c_sight_within _ _ _ hy1) ?_
 rintro _ w2 hb2 rfl
 have H := H.ext hb2
 refine O.move (v := (.bool t1)) rfl rfl rfl ?_
 obtain ⟨b2, hm1, hm⟩ := bind_some hm
 refine WL.cut 6 (fun f w => f 1 = (.int .i64 a1) ∧ f 2 = (.pointer (some ⟨b1, 0, none⟩)) ∧ f 14 = .bool b2 ∧ Inv w0 w [boxI b1 50 [(.int .i64 a0.At), (.int .i64 a0.A), (.int .i64 a0.B), (.int .i64 a0.Lo), (.int .i64 a0.Hi)]]) ?_ ?_
 ·
  rcases ite_some hm1 with ⟨hc1, hm1⟩ | ⟨hc1, hm1⟩
  ·
   refine WL.reset (i := 8) (v := .bool true) (congrArg Value.bool hc1) ?_
   refine O.fieldAddr fd50_1 rfl rfl rfl ?_
   refine O.load sc3 rfl rfl rfl (H.cell 0 rfl 1 _ rfl) ?_
   refine O.move (v := (.int .i64 a1)) rfl rfl rfl ?_
   obtain ⟨t2, ht2, hm1⟩ := bind_some hm1
   refine O.sub rfl rfl rfl rfl ht2 ?_
   obtain ⟨t3, hy2, hm1⟩ := bind_some hm1
   refine O.call Try.call47 rfl rfl rfl (c_sight_within _ _ _ hy2) ?_
   rintro _ w3 hb3 rfl
   have H := H.ext hb3
   refine O.pick_true (v := (.bool t3)) rfl rfl rfl rfl ?_
   refine WL.nil ?_
   have hq : t3 = b2 := Option.some.inj (show some t3 = some b2 from hm1)
   subst hq
   exact ⟨rfl, rfl, rfl, H⟩
  ·
   refine WL.reset (i := 8) (v := .bool false) (congrArg Value.bool hc1) ?_
   refine O.skip rfl rfl ?_
   refine O.skip rfl rfl ?_
   refine O.skip rfl rfl ?_
   refine O.skip rfl rfl ?_
   refine O.skip rfl rfl ?_
   refine O.pick_false (v := (.bool false)) rfl rfl rfl rfl ?_
   refine WL.nil ?_
   have hq : false = b2 := Option.some.inj (show some false = some b2 from hm1)
   subst hq
   exact ⟨rfl, rfl, rfl, H⟩
 ·
  rintro f w ⟨hf1, hf2, hf14, H⟩
  obtain ⟨u1, rfl⟩ := up3 hf1 hf2 hf14
  refine O.move (v := (.bool b2)) rfl rfl rfl ?_
  obtain ⟨b3, hm2, hm⟩ := bind_some hm
  refine WL.cut 6 (fun f w => f 2 = (.pointer (some ⟨b1, 0, none⟩)) ∧ f 21 = .bool b3 ∧ Inv w0 w [boxI b1 50 [(.int .i64 a0.At), (.int .i64 a0.A), (.int .i64 a0.B), (.int .i64 a0.Lo), (.int .i64 a0.Hi)]]) ?_ ?_
  ·
   rcases ite_some hm2 with ⟨hc2, hm2⟩ | ⟨hc2, hm2⟩
   ·
    refine WL.reset (i := 15) (v := .bool true) (congrArg Value.bool hc2) ?_
    refine O.fieldAddr fd50_2 rfl rfl rfl ?_
    refine O.load sc3 rfl rfl rfl (H.cell 0 rfl 2 _ rfl) ?_
    refine O.move (v := (.int .i64 a1)) rfl rfl rfl ?_
    obtain ⟨t4, ht4, hm2⟩ := bind_some hm2
    refine O.sub rfl rfl rfl rfl ht4 ?_
    obtain ⟨t5, hy3, hm2⟩ := bind_some hm2
    refine O.call Try.call47 rfl rfl rfl (c_sight_within _ _ _ hy3) ?_
    rintro _ w4 hb4 rfl
    have H := H.ext hb4
    refine O.pick_true (v := (.bool t5)) rfl rfl rfl rfl ?_
    refine WL.nil ?_
    have hq : t5 = b3 := Option.some.inj (show some t5 = some b3 from hm2)
    subst hq
    exact ⟨rfl, rfl, H⟩
   ·
    refine WL.reset (i := 15) (v := .bool false) (congrArg Value.bool hc2) ?_
    refine O.skip rfl rfl ?_
    refine O.skip rfl rfl ?_
    refine O.skip rfl rfl ?_
    refine O.skip rfl rfl ?_
    refine O.skip rfl rfl ?_
    refine O.pick_false (v := (.bool false)) rfl rfl rfl rfl ?_
    refine WL.nil ?_
    have hq : false = b3 := Option.some.inj (show some false = some b3 from hm2)
    subst hq
    exact ⟨rfl, rfl, H⟩
  ·
   rintro f w ⟨hf2, hf21, H⟩
   obtain ⟨u2, rfl⟩ := up2 hf2 hf21
   refine O.move (v := (.bool b3)) rfl rfl rfl ?_
   refine WL.cut 6 (fun f w => f 2 = (.pointer (some ⟨b1, 0, none⟩)) ∧ f 28 = .bool (b3 && (a0.A != a0.B)) ∧ Inv w0 w [boxI b1 50 [(.int .i64 a0.At), (.int .i64 a0.A), (.int .i64 a0.B), (.int .i64 a0.Lo), (.int .i64 a0.Hi)]]) ?_ ?_
   ·
    rcases bool_ft b3 with hc3 | hc3
    ·
     refine WL.reset (i := 22) (v := .bool false) (congrArg Value.bool hc3) ?_
     refine O.skip rfl rfl ?_
     refine O.skip rfl rfl ?_
     refine O.skip rfl rfl ?_
     refine O.skip rfl rfl ?_
     refine O.skip rfl rfl ?_
     refine O.pick_false (v := (.bool false)) rfl rfl rfl rfl ?_
     exact WL.nil ⟨rfl, congrArg Value.bool (and_f hc3), H⟩
    ·
     refine WL.reset (i := 22) (v := .bool true) (congrArg Value.bool hc3) ?_
     refine O.fieldAddr fd50_1 rfl rfl rfl ?_
     refine O.load sc3 rfl rfl rfl (H.cell 0 rfl 1 _ rfl) ?_
     refine O.fieldAddr fd50_2 rfl rfl rfl ?_
     refine O.load sc3 rfl rfl rfl (H.cell 0 rfl 2 _ rfl) ?_
     refine O.neq rfl rfl rfl rfl ?_
     refine O.pick_true (v := (.bool (a0.A != a0.B))) rfl rfl rfl rfl ?_
     exact WL.nil ⟨rfl, congrArg Value.bool (and_t hc3), H⟩
   ·
    rintro f w ⟨hf2, hf28, H⟩
    obtain ⟨u3, rfl⟩ := up2 hf2 hf28
    refine O.move (v := (.bool (b3 && (a0.A != a0.B)))) rfl rfl rfl ?_
    obtain ⟨b4, hm3, hm⟩ := bind_some hm
    refine WL.cut 6 (fun f w => f 2 = (.pointer (some ⟨b1, 0, none⟩)) ∧ f 35 = .bool b4 ∧ Inv w0 w [boxI b1 50 [(.int .i64 a0.At), (.int .i64 a0.A), (.int .i64 a0.B), (.int .i64 a0.Lo), (.int .i64 a0.Hi)]]) ?_ ?_
    ·
     rcases ite_some hm3 with ⟨hc4, hm3⟩ | ⟨hc4, hm3⟩
     ·
      refine WL.reset (i := 29) (v := .bool true) (congrArg Value.bool hc4) ?_
      refine O.fieldAddr fd50_3 rfl rfl rfl ?_
      refine O.load sc3 rfl rfl rfl (H.cell 0 rfl 3 _ rfl) ?_
      refine O.fieldAddr fd50_4 rfl rfl rfl ?_
      refine O.load sc3 rfl rfl rfl (H.cell 0 rfl 4 _ rfl) ?_
      obtain ⟨t6, hy4, hm3⟩ := bind_some hm3
      refine O.call Try.call47 rfl rfl rfl (c_sight_within _ _ _ hy4) ?_
      rintro _ w5 hb5 rfl
      have H := H.ext hb5
      refine O.pick_true (v := (.bool t6)) rfl rfl rfl rfl ?_
      refine WL.nil ?_
      have hq : t6 = b4 := Option.some.inj (show some t6 = some b4 from hm3)
      subst hq
      exact ⟨rfl, rfl, H⟩
     ·
      refine WL.reset (i := 29) (v := .bool false) (congrArg Value.bool hc4) ?_
      refine O.skip rfl rfl ?_
      refine O.skip rfl rfl ?_
      refine O.skip rfl rfl ?_
      refine O.skip rfl rfl ?_
      refine O.skip rfl rfl ?_
      refine O.pick_false (v := (.bool false)) rfl rfl rfl rfl ?_
      refine WL.nil ?_
      have hq : false = b4 := Option.some.inj (show some false = some b4 from hm3)
      subst hq
      exact ⟨rfl, rfl, H⟩
    ·
     rintro f w ⟨hf2, hf35, H⟩
     obtain ⟨u4, rfl⟩ := up2 hf2 hf35
     refine O.move (v := (.bool b4)) rfl rfl rfl ?_
     refine WL.cut 4 (fun f w => f 40 = .bool (b4 && (decide (a0.Hi ≤ 86400000))) ∧ Inv w0 w [boxI b1 50 [(.int .i64 a0.At), (.int .i64 a0.A), (.int .i64 a0.B), (.int .i64 a0.Lo), (.int .i64 a0.Hi)]]) ?_ ?_
     ·
      rcases bool_ft b4 with hc5 | hc5
      ·
       refine WL.reset (i := 36) (v := .bool false) (congrArg Value.bool hc5) ?_
       refine O.skip rfl rfl ?_
       refine O.skip rfl rfl ?_
       refine O.skip rfl rfl ?_
       refine O.pick_false (v := (.bool false)) rfl rfl rfl rfl ?_
       exact WL.nil ⟨congrArg Value.bool (and_f hc5), H⟩
      ·
       refine WL.reset (i := 36) (v := .bool true) (congrArg Value.bool hc5) ?_
       refine O.fieldAddr fd50_4 rfl rfl rfl ?_
       refine O.load sc3 rfl rfl rfl (H.cell 0 rfl 4 _ rfl) ?_
       refine O.leq rfl rfl rfl rfl ?_
       refine O.pick_true (v := (.bool (decide (a0.Hi ≤ 86400000)))) rfl rfl rfl rfl ?_
       exact WL.nil ⟨congrArg Value.bool (and_t hc5), H⟩
     ·
      rintro f w ⟨hf40, H⟩
      obtain ⟨u5, rfl⟩ := up1 hf40
      refine O.assign (v := (.bool (b4 && (decide (a0.Hi ≤ 86400000))))) rfl rfl rfl ?_
      refine WL.nil ?_
      refine W.ret ?_
      have hq : (b4 && (decide (a0.Hi ≤ 86400000))) = r0 := Option.some.inj (show some (b4 && (decide (a0.Hi ≤ 86400000))) = some r0 from hm)
      subst hq
      exact ends1 Try.results79 rfl ⟨_, rfl, H.base, rfl⟩

theorem c_sight_Valid_c2 {w0 : World} (a0 : GSight) (pc0 : Addr) (c0 : Int) (hc0 : ∀ j c, (Flat.cells c0)[j]? = some c → w0.cell? (pc0.add j) = some c) {r0 : Bool} (hm : sight_Valid_c2 a0 c0 = some r0) :
  Calls Try.prog 78 #[(.agg (Flat.cells a0).toArray), (.pointer (some pc0))] w0 (Ret w0 fun _ v => v = (.bool r0)) := by
 unfold sight_Valid_c2 at hm
 refine calls_of_W Try.func78 rfl Try.ntmps78 (Nat.le_of_ble_eq_true rfl) ?_
 have H := Inv.start (w := w0)
 refine W.seq ?_
 refine W.region ?_
 refine O.box [(.int .i64 a0.At), (.int .i64 a0.A), (.int .i64 a0.B), (.int .i64 a0.Lo), (.int .i64 a0.Hi)] H rfl rfl rfl rfl ?_
 intro b1 w1 H hb1
 refine O.assign (v := (.bool false)) rfl rfl rfl ?_
 refine WL.nil ?_
 refine W.seq ?_
 refine W.region ?_
 refine O.loadA [(.int .i64 a0.At), (.int .i64 a0.A), (.int .i64 a0.B), (.int .i64 a0.Lo), (.int .i64 a0.Hi)] ag50 rfl rfl rfl rfl (H.cell 0 rfl) ?_
 refine O.load sc3 rfl rfl rfl (cells_mono hc0 H.base 0 _ rfl) ?_
 obtain ⟨t1, hy1, hm⟩ := bind_some hm
 refine O.call Try.call79 rfl rfl rfl (c_sight_validSight a0 _ hy1) ?_
 rintro _ w2 hb2 rfl
 have H := H.ext hb2
 refine O.not rfl rfl rfl ?_
 refine O.assign (v := (.bool (!t1))) rfl rfl rfl ?_
 refine WL.nil ?_
 refine W.ret ?_
 have hq : (!t1) = r0 := Option.some.inj (show some (!t1) = some r0 from hm)
 subst hq
 exact ends1 Try.results78 rfl ⟨_, rfl, H.base, rfl⟩

theorem c_slices_IndexFunc_Sight {w0 : World} (va0 : Value) (a0 : (List GSight)) (ha0 : SliceR w0 va0 a0) (va1 : Value) (a1 : GSight → Option (Bool)) (ha1 : ∀ (w : World), Below w0.heap.size w0 w → ∀ (x0 : GSight) (y0 : Bool), a1 x0 = some y0 → CallsV Try.prog va1 #[(.agg (Flat.cells x0).toArray)] w (Ret w fun _ v => v = (.bool y0))) {r0 : Int} (hm : slices_IndexFunc_Sight a0 a1 = some r0) :
  Calls Try.prog 89 #[va0, va1] w0 (Ret w0 fun _ v => v = (.int .i64 r0)) := by
 unfold slices_IndexFunc_Sight at hm
 refine calls_of_W Try.func89 rfl Try.ntmps89 (Nat.le_of_ble_eq_true rfl) ?_
 have H := Inv.start (w := w0)
 refine W.seq ?_
 refine W.region ?_
 refine O.assign (v := (.int .i64 0)) rfl rfl rfl ?_
 refine WL.nil ?_
 refine W.seq ?_
 refine W.seq ?_
 refine W.region ?_
 refine O.move (v := va0) rfl rfl rfl ?_
 refine O.lenS Try.underlying51 (H.arg ha0) rfl rfl rfl ?_
 refine O.move (v := (.int .i64 0)) rfl rfl rfl ?_
 refine WL.nil ?_
 obtain ⟨o1, hm1, hm⟩ := bind_some hm
 refine W.via (fun f w => o1 = .next () ∧ Inv w0 w []) ?_ ?_
 ·
  refine W.block ?_
  have hbdik1 := (H.arg ha0).len_le
  refine W.rangeN (i := 0) hm1 (fun rem ik1 s f w => () = s ∧ (ik1 : Int) + rem = max 0 ((a0.length : Nat) : Int) ∧ f 8 = .int .i64 (ik1 : Int) ∧ f 7 = (.int .i64 ((a0.length : Nat) : Int)) ∧ f 0 = va0 ∧ f 1 = va1 ∧ Inv w0 w []) ?_ ?_ ?_
  ·
   exact ⟨rfl, rangeN_start, rfl, rfl, rfl, rfl, H⟩
  ·
   rintro k ik1 _ st f w ⟨rfl, hdropk1, hf8, hf7, hf0, hf1, H⟩ hm2
   have hltk1 := rangeN_lt hdropk1
   obtain ⟨u1, rfl⟩ := up4 hf8 hf7 hf0 hf1
   have hinck1 := addI_lt hltk1 hbdik1
   refine W.seq ?_
   refine W.region ?_
   refine O.lss rfl rfl rfl rfl ?_
   refine WL.nil ?_
   refine W.seq ?_
   refine W.cond_true (congrArg Value.bool (decide_eq_true hltk1)) ?_
   refine W.skip ?_
   refine W.seq ?_
   refine W.block ?_
   refine W.seq ?_
   refine W.region ?_
   refine O.move (v := (.int .i64 (ik1 : Int))) rfl rfl rfl ?_
   refine O.assign (v := (.int .i64 (ik1 : Int))) rfl rfl rfl ?_
   refine WL.nil ?_
   refine W.seq ?_
   refine W.region ?_
   refine O.move (v := va1) rfl rfl rfl ?_
   refine O.move (v := va0) rfl rfl rfl ?_
   refine O.move (v := (.int .i64 (ik1 : Int))) rfl rfl rfl ?_
   obtain ⟨x1, hx1, hm2⟩ := bind_some hm2
   obtain ⟨p1, hp1, hrp1⟩ := fix_indexAddr Try.underlying51 sz50 ha0 hx1
   refine hrp1 rfl rfl rfl rfl ?_
   refine O.loadA [(.int .i64 x1.At), (.int .i64 x1.A), (.int .i64 x1.B), (.int .i64 x1.Lo), (.int .i64 x1.Hi)] ag50 rfl rfl rfl rfl ((hp1.mono H.base).flat) ?_
   obtain ⟨t1, hy1, hm2⟩ := bind_some hm2
   refine O.callV rfl rfl rfl rfl (ha1 _ H.base x1 _ hy1) ?_
   rintro _ w1 hb1 rfl
   have H := H.ext hb1
   refine WL.nil ?_
   rcases ite_some hm2 with ⟨hc1, hm2⟩ | ⟨hc1, hm2⟩
   ·
    refine W.cond_true (congrArg Value.bool hc1) ?_
    refine W.seq ?_
    refine W.region ?_
    refine O.move (v := (.int .i64 (ik1 : Int))) rfl rfl rfl ?_
    refine O.assign (v := (.int .i64 (ik1 : Int))) rfl rfl rfl ?_
    refine WL.nil ?_
    refine W.ret ?_
    obtain rfl := Option.some.inj hm2
    refine ⟨_, rfl, ?_⟩
    rintro rfl
    have hq : (ik1 : Int) = r0 := Option.some.inj (show some (ik1 : Int) = some r0 from hm)
    subst hq
    exact ends1 Try.results89 rfl ⟨_, rfl, H.base, rfl⟩
   ·
    refine W.cond_false (congrArg Value.bool hc1) ?_
    refine W.skip ?_
    refine W.region ?_
    refine O.add rfl rfl rfl rfl hinck1 ?_
    refine O.move (v := .int .i64 ((ik1 : Int) + 1)) rfl rfl rfl ?_
    refine WL.nil ?_
    obtain rfl := Option.some.inj hm2
    exact ⟨_, rfl, rfl, rangeN_next hdropk1, rfl, rfl, rfl, rfl, H⟩
  ·
   rintro ik1 _ f w ⟨rfl, hdropk1, hf8, hf7, hf0, hf1, H⟩ hfin
   have hltk1 := rangeN_end hdropk1
   obtain ⟨u2, rfl⟩ := up4 hf8 hf7 hf0 hf1
   refine W.seq ?_
   refine W.region ?_
   refine O.lss rfl rfl rfl rfl ?_
   refine WL.nil ?_
   refine W.seq ?_
   refine W.cond_false (congrArg Value.bool (decide_eq_false hltk1)) ?_
   refine W.exit ?_
   obtain rfl : Ctl.next () = o1 := hfin
   refine xT rfl ?_
   exact ⟨rfl, H⟩
 ·
  rintro f w ⟨rfl, H⟩
  refine W.seq ?_
  refine W.region ?_
  refine O.assign (v := (.int .i64 (-1))) rfl rfl rfl ?_
  refine WL.nil ?_
  refine W.ret ?_
  have hq : (-1) = r0 := Option.some.inj (show some (-1) = some r0 from hm)
  subst hq
  exact ends1 Try.results89 rfl ⟨_, rfl, H.base, rfl⟩

theorem c_slices_ContainsFunc_Sight {w0 : World} (va0 : Value) (a0 : (List GSight)) (ha0 : SliceR w0 va0 a0) (va1 : Value) (a1 : GSight → Option (Bool)) (ha1 : ∀ (w : World), Below w0.heap.size w0 w → ∀ (x0 : GSight) (y0 : Bool), a1 x0 = some y0 → CallsV Try.prog va1 #[(.agg (Flat.cells x0).toArray)] w (Ret w fun _ v => v = (.bool y0))) {r0 : Bool} (hm : slices_ContainsFunc_Sight a0 a1 = some r0) :
  Calls Try.prog 77 #[va0, va1] w0 (Ret w0 fun _ v => v = (.bool r0)) := by
 unfold slices_ContainsFunc_Sight at hm
 refine calls_of_W Try.func77 rfl Try.ntmps77 (Nat.le_of_ble_eq_true rfl) ?_
 have H := Inv.start (w := w0)
 refine W.seq ?_
 refine W.region ?_
 refine O.assign (v := (.bool false)) rfl rfl rfl ?_
 refine WL.nil ?_
 refine W.seq ?_
 refine W.region ?_
 refine O.move (v := va0) rfl rfl rfl ?_
 refine O.move (v := va1) rfl rfl rfl ?_
 obtain ⟨t1, hy1, hm⟩ := bind_some hm
 refine O.call Try.call89 rfl rfl rfl (c_slices_IndexFunc_Sight _ _ (H.arg ha0) va1 a1 (fun w hw => ha1 w (H.base.trans (hw.mono H.base.size))) hy1) ?_
 rintro _ w1 hb1 rfl
 have H := H.ext hb1
 refine O.geq rfl rfl rfl rfl ?_
 refine O.assign (v := (.bool (decide (0 ≤ t1)))) rfl rfl rfl ?_
 refine WL.nil ?_
 refine W.ret ?_
 have hq : (decide (0 ≤ t1)) = r0 := Option.some.inj (show some (decide (0 ≤ t1)) = some r0 from hm)
 subst hq
 exact ends1 Try.results77 rfl ⟨_, rfl, H.base, rfl⟩

set_option maxRecDepth 20000 in
theorem c_sight_Valid {w0 : World} (va0_0 : Value) (va0_1 : Value) (a0 : GNet) (ha0_0 : SliceR w0 va0_0 a0.Rates) (ha0_1 : SliceR w0 va0_1 a0.Sights) {r0 : Bool} (hm : sight_Valid a0 = some r0) :
  Calls Try.prog 61 #[(.agg #[va0_0, va0_1])] w0 (Ret w0 fun _ v => v = (.bool r0)) := by
 unfold sight_Valid at hm
 refine calls_of_W Try.func61 rfl Try.ntmps61 (Nat.le_of_ble_eq_true rfl) ?_
 have H := Inv.start (w := w0)
 refine W.seq ?_
 refine W.region ?_
 refine O.box [va0_0, va0_1] H rfl rfl rfl rfl ?_
 intro b1 w1 H hb1
 refine O.assign (v := (.bool false)) rfl rfl rfl ?_
 refine WL.nil ?_
 refine W.seq ?_
 refine W.region ?_
 refine O.fieldAddr fd53_0 rfl rfl rfl ?_
 refine O.load sc22 rfl rfl rfl (H.cell 0 rfl 0 _ rfl) ?_
 refine O.lenS Try.underlying22 (H.arg ha0_0) rfl rfl rfl ?_
 refine O.alloc [(.int .i64 0)] ze3 H rfl rfl rfl ?_
 intro b2 w2 H hb2
 refine O.store 1 0 [(.int .i64 ((a0.Rates.length : Nat) : Int))] [(.int .i64 ((a0.Rates.length : Nat) : Int))] sz3 H rfl rfl rfl rfl rfl rfl ⟨⟨rfl, rfl⟩, rfl⟩ (one_cons rfl one_nil) ?_
 intro w3 H
 refine WL.nil ?_
 refine W.seq ?_
 refine W.region ?_
 refine O.assign (v := (.func (.func 76) #[] #[])) rfl rfl rfl ?_
 refine WL.nil ?_
 refine W.seq ?_
 refine W.seq ?_
 refine W.region ?_
 refine O.load sc3 rfl rfl rfl (H.cell 1 rfl 0 _ rfl) ?_
 obtain ⟨t1, hy1, hm⟩ := bind_some hm
 refine O.call Try.call47 rfl rfl rfl (c_sight_within _ _ _ hy1) ?_
 rintro _ w4 hb3 rfl
 have H := H.ext hb3
 refine O.not rfl rfl rfl ?_
 refine O.move (v := (.bool (!t1))) rfl rfl rfl ?_
 obtain ⟨b3, hm1, hm⟩ := bind_some hm
 refine WL.cut 6 (fun f w => f 1 = (.pointer (some ⟨b1, 0, none⟩)) ∧ f 3 = (.pointer (some ⟨b2, 0, none⟩)) ∧ f 4 = (.func (.func 76) #[] #[]) ∧ f 17 = .bool b3 ∧ Inv w0 w [boxI b1 53 [va0_0, va0_1], boxI b2 3 [(.int .i64 ((a0.Rates.length : Nat) : Int))]]) ?_ ?_
 ·
  rcases ite_some hm1 with ⟨hc1, hm1⟩ | ⟨hc1, hm1⟩
  ·
   refine WL.reset (i := 11) (v := .bool true) (congrArg Value.bool hc1) ?_
   refine O.skip rfl rfl ?_
   refine O.skip rfl rfl ?_
   refine O.skip rfl rfl ?_
   refine O.skip rfl rfl ?_
   refine O.skip rfl rfl ?_
   refine O.pick_true (v := (.bool true)) rfl rfl rfl rfl ?_
   refine WL.nil ?_
   have hq : true = b3 := Option.some.inj (show some true = some b3 from hm1)
   subst hq
   exact ⟨rfl, rfl, rfl, rfl, H⟩
  ·
   refine WL.reset (i := 11) (v := .bool false) (congrArg Value.bool hc1) ?_
   refine O.fieldAddr fd53_0 rfl rfl rfl ?_
   refine O.load sc22 rfl rfl rfl (H.cell 0 rfl 0 _ rfl) ?_
   obtain ⟨x1, hx1, hm1⟩ := bind_some hm1
   obtain ⟨p1, hp1, hrp1⟩ := fix_indexAddr Try.underlying22 sz3 ha0_0 hx1
   refine hrp1 rfl rfl rfl rfl ?_
   refine O.load sc3 rfl rfl rfl ((hp1.mono H.base).flat 0 _ rfl) ?_
   refine O.neq rfl rfl rfl rfl ?_
   refine O.pick_false (v := (.bool (x1 != 0))) rfl rfl rfl rfl ?_
   refine WL.nil ?_
   have hq : (x1 != 0) = b3 := Option.some.inj (show some (x1 != 0) = some b3 from hm1)
   subst hq
   exact ⟨rfl, rfl, rfl, rfl, H⟩
 ·
  rintro f w ⟨hf1, hf3, hf4, hf17, H⟩
  obtain ⟨u1, rfl⟩ := up4 hf1 hf3 hf4 hf17
  refine O.move (v := (.bool b3)) rfl rfl rfl ?_
  obtain ⟨b4, hm2, hm⟩ := bind_some hm
  refine WL.cut 5 (fun f w => f 1 = (.pointer (some ⟨b1, 0, none⟩)) ∧ f 3 = (.pointer (some ⟨b2, 0, none⟩)) ∧ f 23 = .bool b4 ∧ Inv w0 w [boxI b1 53 [va0_0, va0_1], boxI b2 3 [(.int .i64 ((a0.Rates.length : Nat) : Int))]]) ?_ ?_
  ·
   rcases ite_some hm2 with ⟨hc2, hm2⟩ | ⟨hc2, hm2⟩
   ·
    refine WL.reset (i := 18) (v := .bool true) (congrArg Value.bool hc2) ?_
    refine O.skip rfl rfl ?_
    refine O.skip rfl rfl ?_
    refine O.skip rfl rfl ?_
    refine O.skip rfl rfl ?_
    refine O.pick_true (v := (.bool true)) rfl rfl rfl rfl ?_
    refine WL.nil ?_
    have hq : true = b4 := Option.some.inj (show some true = some b4 from hm2)
    subst hq
    exact ⟨rfl, rfl, rfl, H⟩
   ·
    refine WL.reset (i := 18) (v := .bool false) (congrArg Value.bool hc2) ?_
    refine O.fieldAddr fd53_0 rfl rfl rfl ?_
    refine O.load sc22 rfl rfl rfl (H.cell 0 rfl 0 _ rfl) ?_
    refine O.move (v := (.func (.func 76) #[] #[])) rfl rfl rfl ?_
    obtain ⟨t2, hy2, hm2⟩ := bind_some hm2
    refine O.call Try.call62 rfl rfl rfl (c_slices_ContainsFunc_int _ _ (H.arg ha0_0) _ (fun x0 => sight_Valid_c1 x0) (fun w hw x0 _ hy => callsV_mk Try.call76 (c_sight_Valid_c1 x0 hy)) hy2) ?_
    rintro _ w5 hb4 rfl
    have H := H.ext hb4
    refine O.pick_false (v := (.bool t2)) rfl rfl rfl rfl ?_
    refine WL.nil ?_
    have hq : t2 = b4 := Option.some.inj (show some t2 = some b4 from hm2)
    subst hq
    exact ⟨rfl, rfl, rfl, H⟩
  ·
   rintro f w ⟨hf1, hf3, hf23, H⟩
   obtain ⟨u2, rfl⟩ := up3 hf1 hf3 hf23
   refine WL.nil ?_
   rcases ite_some hm with ⟨hc3, hm⟩ | ⟨hc3, hm⟩
   ·
    refine W.cond_true (congrArg Value.bool hc3) ?_
    refine W.seq ?_
    refine W.region ?_
    refine O.assign (v := (.bool false)) rfl rfl rfl ?_
    refine WL.nil ?_
    refine W.ret ?_
    have hq : false = r0 := Option.some.inj (show some false = some r0 from hm)
    subst hq
    exact ends1 Try.results61 rfl ⟨_, rfl, H.base, rfl⟩
   ·
    refine W.cond_false (congrArg Value.bool hc3) ?_
    refine W.skip ?_
    refine W.seq ?_
    refine W.region ?_
    refine O.fieldAddr fd53_1 rfl rfl rfl ?_
    refine O.load sc51 rfl rfl rfl (H.cell 0 rfl 1 _ rfl) ?_
    refine O.lenS Try.underlying51 (H.arg ha0_1) rfl rfl rfl ?_
    refine O.leq rfl rfl rfl rfl ?_
    refine O.move (v := (.bool (decide (((a0.Sights.length : Nat) : Int) ≤ 30)))) rfl rfl rfl ?_
    obtain ⟨b5, hm3, hm⟩ := bind_some hm
    refine WL.cut 6 (fun f w => f 34 = .bool b5 ∧ Inv w0 w [boxI b1 53 [va0_0, va0_1], boxI b2 3 [(.int .i64 ((a0.Rates.length : Nat) : Int))]]) ?_ ?_
    ·
     rcases ite_some hm3 with ⟨hc4, hm3⟩ | ⟨hc4, hm3⟩
     ·
      refine WL.reset (i := 28) (v := .bool true) (congrArg Value.bool hc4) ?_
      refine O.fieldAddr fd53_1 rfl rfl rfl ?_
      refine O.load sc51 rfl rfl rfl (H.cell 0 rfl 1 _ rfl) ?_
      refine O.makeFunc rfl rfl rfl rfl ?_
      obtain ⟨t3, hy3, hm3⟩ := bind_some hm3
      refine O.call Try.call77 rfl rfl rfl (c_slices_ContainsFunc_Sight _ _ (H.arg ha0_1) _ (fun x0 => sight_Valid_c2 x0 ((a0.Rates.length : Nat) : Int)) (fun w hw x0 _ hy => callsV_mk Try.call78 (c_sight_Valid_c2 x0 _ ((a0.Rates.length : Nat) : Int) (cells_mono (H.cell 1 rfl) hw) hy)) hy3) ?_
      rintro _ w6 hb5 rfl
      have H := H.ext hb5
      refine O.not rfl rfl rfl ?_
      refine O.pick_true (v := (.bool (!t3))) rfl rfl rfl rfl ?_
      refine WL.nil ?_
      have hq : (!t3) = b5 := Option.some.inj (show some (!t3) = some b5 from hm3)
      subst hq
      exact ⟨rfl, H⟩
     ·
      refine WL.reset (i := 28) (v := .bool false) (congrArg Value.bool hc4) ?_
      refine O.skip rfl rfl ?_
      refine O.skip rfl rfl ?_
      refine O.skip rfl rfl ?_
      refine O.skip rfl rfl ?_
      refine O.skip rfl rfl ?_
      refine O.pick_false (v := (.bool false)) rfl rfl rfl rfl ?_
      refine WL.nil ?_
      have hq : false = b5 := Option.some.inj (show some false = some b5 from hm3)
      subst hq
      exact ⟨rfl, H⟩
    ·
     rintro f w ⟨hf34, H⟩
     obtain ⟨u3, rfl⟩ := up1 hf34
     refine O.assign (v := (.bool b5)) rfl rfl rfl ?_
     refine WL.nil ?_
     refine W.ret ?_
     have hq : b5 = r0 := Option.some.inj (show some b5 = some r0 from hm)
     subst hq
     exact ends1 Try.results61 rfl ⟨_, rfl, H.base, rfl⟩

theorem c_sight_clock_c1 {w0 : World} (a0 : Int) (pc0 : Addr) (vc0_0 : Value) (vc0_1 : Value) (c0 : GNet) (hc0 : ∀ j c, ([vc0_0, vc0_1] : List Value)[j]? = some c → w0.cell? (pc0.add j) = some c) (rc0_0 : SliceR w0 vc0_0 c0.Rates) (rc0_1 : SliceR w0 vc0_1 c0.Sights) {r0 : Bool} (hm : sight_clock_c1 a0 c0 = some r0) :
  Calls Try.prog 63 #[(.int .i64 a0), (.pointer (some pc0))] w0 (Ret w0 fun _ v => v = (.bool r0)) := by
 unfold sight_clock_c1 at hm
 refine calls_of_W Try.func63 rfl Try.ntmps63 (Nat.le_of_ble_eq_true rfl) ?_
 have H := Inv.start (w := w0)
 refine W.seq ?_
 refine W.region ?_
 refine O.assign (v := (.bool false)) rfl rfl rfl ?_
 refine WL.nil ?_
 refine W.seq ?_
 refine W.region ?_
 refine O.move (v := (.int .i64 a0)) rfl rfl rfl ?_
 refine O.fieldAddr fd53_0 rfl rfl rfl ?_
 refine O.load sc22 rfl rfl rfl (cells_mono hc0 H.base 0 _ rfl) ?_
 refine O.lenS Try.underlying22 (H.arg rc0_0) rfl rfl rfl ?_
 obtain ⟨t1, ht1, hm⟩ := bind_some hm
 refine O.sub rfl rfl rfl rfl ht1 ?_
 obtain ⟨t2, hy1, hm⟩ := bind_some hm
 refine O.call Try.call47 rfl rfl rfl (c_sight_within _ _ _ hy1) ?_
 rintro _ w1 hb1 rfl
 have H := H.ext hb1
 refine O.not rfl rfl rfl ?_
 refine O.assign (v := (.bool (!t2))) rfl rfl rfl ?_
 refine WL.nil ?_
 refine W.ret ?_
 have hq : (!t2) = r0 := Option.some.inj (show some (!t2) = some r0 from hm)
 subst hq
 exact ends1 Try.results63 rfl ⟨_, rfl, H.base, rfl⟩

theorem c_sight_clock {w0 : World} (va0_0 : Value) (va0_1 : Value) (a0 : GNet) (ha0_0 : SliceR w0 va0_0 a0.Rates) (ha0_1 : SliceR w0 va0_1 a0.Sights) (va1 : Value) (a1 : (List Int)) (ha1 : SliceR w0 va1 a1) {r0 : Int} (hm : sight_clock a0 a1 = some r0) :
  Calls Try.prog 46 #[(.agg #[va0_0, va0_1]), va1] w0 (Ret w0 fun _ v => v = (.int .i64 r0)) := by
 unfold sight_clock at hm
 refine calls_of_W Try.func46 rfl Try.ntmps46 (Nat.le_of_ble_eq_true rfl) ?_
 have H := Inv.start (w := w0)
 refine W.seq ?_
 refine W.region ?_
 refine O.box [va0_0, va0_1] H rfl rfl rfl rfl ?_
 intro b1 w1 H hb1
 refine O.assign (v := (.int .i64 0)) rfl rfl rfl ?_
 refine WL.nil ?_
 refine W.seq ?_
 refine W.block ?_
 refine W.seq ?_
 refine W.region ?_
 refine O.loadA [va0_0, va0_1] ag53 rfl rfl rfl rfl (H.cell 0 rfl) ?_
 obtain ⟨t1, hy1, hm⟩ := bind_some hm
 refine O.call Try.call61 rfl rfl rfl (c_sight_Valid _ _ (GNet.mk a0.Rates a0.Sights) (H.arg ha0_0) (H.arg ha0_1) hy1) ?_
 rintro _ w2 hb2 rfl
 have H := H.ext hb2
 refine O.not rfl rfl rfl ?_
 refine O.assign (v := (.bool (!t1))) rfl rfl rfl ?_
 refine WL.nil ?_
 rcases ite_some hm with ⟨hc1, hm⟩ | ⟨hc1, hm⟩
 ·
  refine W.cond_true (congrArg Value.bool hc1) ?_
  refine W.seq ?_
  refine W.region ?_
  refine O.assign (v := (.int .i64 1)) rfl rfl rfl ?_
  refine WL.nil ?_
  refine W.ret ?_
  have hq : 1 = r0 := Option.some.inj (show some 1 = some r0 from hm)
  subst hq
  exact ends1 Try.results46 rfl ⟨_, rfl, H.base, rfl⟩
 ·
  refine W.cond_false (congrArg Value.bool hc1) ?_
  refine W.seq ?_
  refine W.region ?_
  refine O.move (v := va1) rfl rfl rfl ?_
  refine O.makeFunc rfl rfl rfl rfl ?_
  obtain ⟨t2, hy2, hm⟩ := bind_some hm
  refine O.call Try.call62 rfl rfl rfl (c_slices_ContainsFunc_int _ _ (H.arg ha1) _ (fun x0 => sight_clock_c1 x0 (GNet.mk a0.Rates a0.Sights)) (fun w hw x0 _ hy => callsV_mk Try.call63 (c_sight_clock_c1 x0 _ _ _ (GNet.mk a0.Rates a0.Sights) (cells_mono (H.cell 0 rfl) hw) ((H.arg ha0_0).mono hw) ((H.arg ha0_1).mono hw) hy)) hy2) ?_
  rintro _ w3 hb3 rfl
  have H := H.ext hb3
  refine O.assign (v := (.bool t2)) rfl rfl rfl ?_
  refine WL.nil ?_
  rcases ite_some hm with ⟨hc2, hm⟩ | ⟨hc2, hm⟩
  ·
   refine W.cond_true (congrArg Value.bool hc2) ?_
   refine W.seq ?_
   refine W.region ?_
   refine O.assign (v := (.int .i64 5)) rfl rfl rfl ?_
   refine WL.nil ?_
   refine W.ret ?_
   have hq : 5 = r0 := Option.some.inj (show some 5 = some r0 from hm)
   subst hq
   exact ends1 Try.results46 rfl ⟨_, rfl, H.base, rfl⟩
  ·
   refine W.cond_false (congrArg Value.bool hc2) ?_
   refine W.skip ?_
   refine W.seq ?_
   refine W.region ?_
   refine O.assign (v := (.int .i64 0)) rfl rfl rfl ?_
   refine WL.nil ?_
   refine W.ret ?_
   have hq : 0 = r0 := Option.some.inj (show some 0 = some r0 from hm)
   subst hq
   exact ends1 Try.results46 rfl ⟨_, rfl, H.base, rfl⟩

set_option maxRecDepth 20000 in
theorem c_sight_between {w0 : World} (va0_0 : Value) (va0_1 : Value) (a0 : GNet) (ha0_0 : SliceR w0 va0_0 a0.Rates) (ha0_1 : SliceR w0 va0_1 a0.Sights) (a1 : Int) (a2 : Int) (a3 : Int) {r0 : GSpan} {r1 : Bool} (hm : sight_between a0 a1 a2 a3 = some (r0, r1)) :
  Calls Try.prog 50 #[(.agg #[va0_0, va0_1]), (.int .i64 a1), (.int .i64 a2), (.int .i64 a3)] w0 (Ret w0 fun _ v => v = .tuple #[(.agg (Flat.cells r0).toArray), (.bool r1)]) := by
 unfold sight_between at hm
 refine calls_of_W Try.func50 rfl Try.ntmps50 (Nat.le_of_ble_eq_true rfl) ?_
 have H := Inv.start (w := w0)
 refine W.seq ?_
 refine W.region ?_
 refine O.box [va0_0, va0_1] H rfl rfl rfl rfl ?_
 intro b1 w1 H hb1
 refine O.alloc [(.int .i64 0), (.int .i64 0)] ze56 H rfl rfl rfl ?_
 intro b2 w2 H hb2
 refine O.assign (v := (.bool false)) rfl rfl rfl ?_
 refine WL.nil ?_
 refine W.seq ?_
 refine W.seq ?_
 refine W.region ?_
 refine O.move (v := (.int .i64 a1)) rfl rfl rfl ?_
 refine O.move (v := (.int .i64 a2)) rfl rfl rfl ?_
 refine O.eql rfl rfl rfl rfl ?_
 refine WL.nil ?_
 rcases ite_some hm with ⟨hc1, hm⟩ | ⟨hc1, hm⟩
 ·
  refine W.cond_true (congrArg Value.bool hc1) ?_
  refine W.seq ?_
  refine W.region ?_
  refine O.build (v := (.agg (Flat.cells (GSpan.mk 0 0)).toArray)) (fun w => bd56_  w) rfl rfl rfl ?_
  refine O.store 1 0 [(.int .i64 0), (.int .i64 0)] [(.int .i64 0), (.int .i64 0)] sz56 H rfl rfl rfl rfl rfl rfl ⟨⟨rfl, rfl⟩, rfl⟩ (one_cons rfl (one_cons rfl one_nil)) ?_
  intro w3 H
  refine O.assign (v := (.bool true)) rfl rfl rfl ?_
  refine WL.nil ?_
  refine W.ret ?_
  have hq : ((GSpan.mk 0 0), true) = (r0, r1) := Option.some.inj (show some ((GSpan.mk 0 0), true) = some (r0, r1) from hm)
  obtain ⟨he0, hq0⟩ := Prod.mk.inj hq; clear hq; subst he0
  subst hq0
  exact ends2 Try.results50 ⟨_, rfl, run_loadVar_agg ag56 rfl (H.cell 1 rfl)⟩ rfl ⟨_, rfl, H.base, rfl⟩
 ·
  refine W.cond_false (congrArg Value.bool hc1) ?_
  refine W.skip ?_
  refine W.seq ?_
  refine W.region ?_
  refine O.move (v := (.int .i64 a1)) rfl rfl rfl ?_
  refine O.move (v := (.int .i64 a3)) rfl rfl rfl ?_
  obtain ⟨t1, hy1, hm⟩ := bind_some hm
  refine O.call Try.call70 rfl rfl rfl (c_sight_pointOf _ _ hy1) ?_
  rintro _ w4 hb3 rfl
  have H := H.ext hb3
  refine O.move (v := (.int .i64 a2)) rfl rfl rfl ?_
  refine O.move (v := (.int .i64 a3)) rfl rfl rfl ?_
  obtain ⟨t2, hy2, hm⟩ := bind_some hm
  refine O.call Try.call70 rfl rfl rfl (c_sight_pointOf _ _ hy2) ?_
  rintro _ w5 hb4 rfl
  have H := H.ext hb4
  refine O.alloc [(.int .i64 0), (.int .i64 0)] ze131 H rfl rfl rfl ?_
  intro b3 w6 H hb5
  refine O.alloc [(.int .i64 0), (.int .i64 0)] ze131 H rfl rfl rfl ?_
  intro b4 w7 H hb6
  refine O.store 2 0 [(.int .i64 t1.clock), (.int .i64 t1.at_)] [(.int .i64 t1.clock), (.int .i64 t1.at_)] sz131 H rfl rfl rfl rfl rfl rfl ⟨⟨rfl, rfl⟩, rfl⟩ (one_cons rfl (one_cons rfl one_nil)) ?_
  intro w8 H
  refine O.store 3 0 [(.int .i64 t2.clock), (.int .i64 t2.at_)] [(.int .i64 t2.clock), (.int .i64 t2.at_)] sz131 H rfl rfl rfl rfl rfl rfl ⟨⟨rfl, rfl⟩, rfl⟩ (one_cons rfl (one_cons rfl one_nil)) ?_
  intro w9 H
  refine WL.nil ?_
  refine W.seq ?_
  refine W.region ?_
  refine O.loadA [va0_0, va0_1] ag53 rfl rfl rfl rfl (H.cell 0 rfl) ?_
  refine O.loadA [(.int .i64 t1.clock), (.int .i64 t1.at_)] ag131 rfl rfl rfl rfl (H.cell 2 rfl) ?_
  refine O.loadA [(.int .i64 t2.clock), (.int .i64 t2.at_)] ag131 rfl rfl rfl rfl (H.cell 3 rfl) ?_
  refine O.buildSlice (α := GPoint) [(.agg (Flat.cells t1).toArray), (.agg (Flat.cells t2).toArray)] [t1, t2] Try.underlying125 el131 H rfl rfl rfl rfl rfl rfl rfl ?_
  intro v1 w10 H hb7
  obtain ⟨⟨t3, t4⟩, hy3, hm⟩ := bind_some hm
  refine O.call Try.call48 rfl rfl rfl (c_sight_graphOf _ _ (GNet.mk a0.Rates a0.Sights) (H.arg ha0_0) (H.arg ha0_1) _ _ (H.own 4 rfl) hy3) ?_
  rintro _ w11 hb8 ⟨b5, m1, v2, sg1, rfl, hq1, hM1⟩
  have H := H.addAll hb8 hM1
  refine O.assign (v := (.pointer (some ⟨b5, 0, none⟩))) rfl rfl rfl ?_
  refine WL.nil ?_
  refine W.seq ?_
  refine W.region ?_
  refine O.move (v := (.pointer (some ⟨b5, 0, none⟩))) rfl rfl rfl ?_
  refine O.loadA [(.int .i64 t2.clock), (.int .i64 t2.at_)] ag131 rfl rfl rfl rfl (H.cell 3 rfl) ?_
  refine O.loadA [(.int .i64 t1.clock), (.int .i64 t1.at_)] ag131 rfl rfl rfl rfl (H.cell 2 rfl) ?_
  obtain ⟨⟨t5, t6⟩, hy4, hm⟩ := bind_some hm
  refine O.call Try.call71 rfl rfl rfl (c_sight_graph_least _ _ _ t3 sg1 (H.cell 5 rfl) (H.map 6 rfl) (H.own 7 rfl) t2 t1 (least_perm hq1 hy4)) ?_
  rintro _ w12 hb9 rfl
  have H := H.ext hb9
  refine O.move (v := (.tuple #[(.int .i64 t5), (.bool t6)])) rfl rfl rfl ?_
  refine O.extract (v := (.int .i64 t5)) rfl rfl rfl rfl ?_
  refine O.extract (v := (.bool t6)) rfl rfl rfl rfl ?_
  refine O.assign (v := (.int .i64 t5)) rfl rfl rfl ?_
  refine O.assign (v := (.bool t6)) rfl rfl rfl ?_
  refine WL.nil ?_
  refine W.seq ?_
  refine W.region ?_
  refine O.move (v := (.pointer (some ⟨b5, 0, none⟩))) rfl rfl rfl ?_
  refine O.loadA [(.int .i64 t1.clock), (.int .i64 t1.at_)] ag131 rfl rfl rfl rfl (H.cell 2 rfl) ?_
  refine O.loadA [(.int .i64 t2.clock), (.int .i64 t2.at_)] ag131 rfl rfl rfl rfl (H.cell 3 rfl) ?_
  obtain ⟨⟨t7, t8⟩, hy5, hm⟩ := bind_some hm
  refine O.call Try.call71 rfl rfl rfl (c_sight_graph_least _ _ _ t3 sg1 (H.cell 5 rfl) (H.map 6 rfl) (H.own 7 rfl) t1 t2 (least_perm hq1 hy5)) ?_
  rintro _ w13 hb10 rfl
  have H := H.ext hb10
  refine O.move (v := (.tuple #[(.int .i64 t7), (.bool t8)])) rfl rfl rfl ?_
  refine O.extract (v := (.int .i64 t7)) rfl rfl rfl rfl ?_
  refine O.extract (v := (.bool t8)) rfl rfl rfl rfl ?_
  refine O.assign (v := (.int .i64 t7)) rfl rfl rfl ?_
  refine O.assign (v := (.bool t8)) rfl rfl rfl ?_
  refine WL.nil ?_
  refine W.seq ?_
  refine W.region ?_
  refine O.move (v := (.int .i64 t7)) rfl rfl rfl ?_
  obtain ⟨t9, ht9, hm⟩ := bind_some hm
  refine O.neg rfl rfl rfl ht9 ?_
  refine O.move (v := (.int .i64 t5)) rfl rfl rfl ?_
  refine O.build (v := (.agg (Flat.cells (GSpan.mk t9 t5)).toArray)) (fun w => bd56_0_1 _ _ w) rfl rfl rfl ?_
  refine O.move (v := (.bool t6)) rfl rfl rfl ?_
  refine O.move (v := (.bool t6)) rfl rfl rfl ?_
  refine WL.cut 2 (fun f w => f 8 = (.pointer (some ⟨b2, 0, none⟩)) ∧ f 49 = (.agg (Flat.cells (GSpan.mk t9 t5)).toArray) ∧ f 53 = .bool (t6 && t8) ∧ Inv w0 w [boxI b1 53 [va0_0, va0_1], boxI b2 56 [(.int .i64 0), (.int .i64 0)], boxI b3 131 [(.int .i64 t1.clock), (.int .i64 t1.at_)], boxI b4 131 [(.int .i64 t2.clock), (.int .i64 t2.at_)], ownI (α := GPoint) v1 131 ([t1, t2] : List GPoint), boxI b5 129 [(.map (some m1)), v2], mapI (K := GPoint) (V := Int) m1 t3, ownI (α := GEdge) v2 137 sg1]) ?_ ?_
  ·
   rcases bool_ft t6 with hc2 | hc2
   ·
    refine WL.reset (i := 51) (v := .bool false) (congrArg Value.bool hc2) ?_
    refine O.skip rfl rfl ?_
    refine O.pick_false (v := (.bool false)) rfl rfl rfl rfl ?_
    exact WL.nil ⟨rfl, rfl, congrArg Value.bool (and_f hc2), H⟩
   ·
    refine WL.reset (i := 51) (v := .bool true) (congrArg Value.bool hc2) ?_
    refine O.move (v := (.bool t8)) rfl rfl rfl ?_
    refine O.pick_true (v := (.bool t8)) rfl rfl rfl rfl ?_
    exact WL.nil ⟨rfl, rfl, congrArg Value.bool (and_t hc2), H⟩
  ·
   rintro f w ⟨hf8, hf49, hf53, H⟩
   obtain ⟨u1, rfl⟩ := up3 hf8 hf49 hf53
   refine O.store 1 0 [(.int .i64 t9), (.int .i64 t5)] [(.int .i64 t9), (.int .i64 t5)] sz56 H rfl rfl rfl rfl rfl rfl ⟨⟨rfl, rfl⟩, rfl⟩ (one_cons rfl (one_cons rfl one_nil)) ?_
   intro w14 H
   refine O.assign (v := (.bool (t6 && t8))) rfl rfl rfl ?_
   refine WL.nil ?_
   refine W.ret ?_
   have hq : ((GSpan.mk t9 t5), (t6 && t8)) = (r0, r1) := Option.some.inj (show some ((GSpan.mk t9 t5), (t6 && t8)) = some (r0, r1) from hm)
   obtain ⟨he0, hq0⟩ := Prod.mk.inj hq; clear hq; subst he0
   subst hq0
   exact ends2 Try.results50 ⟨_, rfl, run_loadVar_agg ag56 rfl (H.cell 1 rfl)⟩ rfl ⟨_, rfl, H.base, rfl⟩

set_option maxRecDepth 20000 in
theorem c_sight_Between {w0 : World} (va0_0 : Value) (va0_1 : Value) (a0 : GNet) (ha0_0 : SliceR w0 va0_0 a0.Rates) (ha0_1 : SliceR w0 va0_1 a0.Sights) (a1 : Int) (a2 : Int) (a3 : Int) {r0 : GSpan} {r1 : Int} (hm : sight_Between a0 a1 a2 a3 = some (r0, r1)) :
  Calls Try.prog 31 #[(.agg #[va0_0, va0_1]), (.int .i64 a1), (.int .i64 a2), (.int .i64 a3)] w0 (Ret w0 fun _ v => v = .tuple #[(.agg (Flat.cells r0).toArray), (.int .i64 r1)]) := by
 unfold sight_Between at hm
 refine calls_of_W Try.func31 rfl Try.ntmps31 (Nat.le_of_ble_eq_true rfl) ?_
 have H := Inv.start (w := w0)
 refine W.seq ?_
 refine W.region ?_
 refine O.box [va0_0, va0_1] H rfl rfl rfl rfl ?_
 intro b1 w1 H hb1
 refine O.alloc [(.int .i64 0), (.int .i64 0)] ze56 H rfl rfl rfl ?_
 intro b2 w2 H hb2
 refine O.assign (v := (.int .i64 0)) rfl rfl rfl ?_
 refine WL.nil ?_
 refine W.seq ?_
 refine W.seq ?_
 refine W.region ?_
 refine O.loadA [va0_0, va0_1] ag53 rfl rfl rfl rfl (H.cell 0 rfl) ?_
 refine O.move (v := (.int .i64 a1)) rfl rfl rfl ?_
 refine O.move (v := (.int .i64 a2)) rfl rfl rfl ?_
 refine O.buildSlice (α := Int) [(.int .i64 a1), (.int .i64 a2)] [a1, a2] Try.underlying22 el3 H rfl rfl rfl rfl rfl rfl rfl ?_
 intro v1 w3 H hb3
 obtain ⟨t1, hy1, hm⟩ := bind_some hm
 refine O.call Try.call46 rfl rfl rfl (c_sight_clock _ _ (GNet.mk a0.Rates a0.Sights) (H.arg ha0_0) (H.arg ha0_1) _ _ (H.own 2 rfl) hy1) ?_
 rintro _ w4 hb4 rfl
 have H := H.ext hb4
 refine O.assign (v := (.int .i64 t1)) rfl rfl rfl ?_
 refine WL.nil ?_
 refine W.seq ?_
 refine W.region ?_
 refine O.move (v := (.int .i64 t1)) rfl rfl rfl ?_
 refine O.neq rfl rfl rfl rfl ?_
 refine WL.nil ?_
 rcases ite_some hm with ⟨hc1, hm⟩ | ⟨hc1, hm⟩
 ·
  refine W.cond_true (congrArg Value.bool hc1) ?_
  refine W.seq ?_
  refine W.region ?_
  refine O.build (v := (.agg (Flat.cells (GSpan.mk 0 0)).toArray)) (fun w => bd56_  w) rfl rfl rfl ?_
  refine O.move (v := (.int .i64 t1)) rfl rfl rfl ?_
  refine O.store 1 0 [(.int .i64 0), (.int .i64 0)] [(.int .i64 0), (.int .i64 0)] sz56 H rfl rfl rfl rfl rfl rfl ⟨⟨rfl, rfl⟩, rfl⟩ (one_cons rfl (one_cons rfl one_nil)) ?_
  intro w5 H
  refine O.assign (v := (.int .i64 t1)) rfl rfl rfl ?_
  refine WL.nil ?_
  refine W.ret ?_
  have hq : ((GSpan.mk 0 0), t1) = (r0, r1) := Option.some.inj (show some ((GSpan.mk 0 0), t1) = some (r0, r1) from hm)
  obtain ⟨he0, hq0⟩ := Prod.mk.inj hq; clear hq; subst he0
  subst hq0
  exact ends2 Try.results31 ⟨_, rfl, run_loadVar_agg ag56 rfl (H.cell 1 rfl)⟩ rfl ⟨_, rfl, H.base, rfl⟩
 ·
  refine W.cond_false (congrArg Value.bool hc1) ?_
  refine W.skip ?_
  refine W.seq ?_
  refine W.seq ?_
  refine W.region ?_
  refine O.move (v := (.int .i64 a3)) rfl rfl rfl ?_
  obtain ⟨t2, hy2, hm⟩ := bind_some hm
  refine O.call Try.call47 rfl rfl rfl (c_sight_within _ _ _ hy2) ?_
  rintro _ w6 hb5 rfl
  have H := H.ext hb5
  refine O.not rfl rfl rfl ?_
  refine WL.nil ?_
  rcases ite_some hm with ⟨hc2, hm⟩ | ⟨hc2, hm⟩
  ·
   refine W.cond_true (congrArg Value.bool hc2) ?_
   refine W.seq ?_
   refine W.region ?_
   refine O.build (v := (.agg (Flat.cells (GSpan.mk 0 0)).toArray)) (fun w => bd56_  w) rfl rfl rfl ?_
   refine O.store 1 0 [(.int .i64 0), (.int .i64 0)] [(.int .i64 0), (.int .i64 0)] sz56 H rfl rfl rfl rfl rfl rfl ⟨⟨rfl, rfl⟩, rfl⟩ (one_cons rfl (one_cons rfl one_nil)) ?_
   intro w7 H
   refine O.assign (v := (.int .i64 7)) rfl rfl rfl ?_
   refine WL.nil ?_
   refine W.ret ?_
   have hq : ((GSpan.mk 0 0), 7) = (r0, r1) := Option.some.inj (show some ((GSpan.mk 0 0), 7) = some (r0, r1) from hm)
   obtain ⟨he0, hq0⟩ := Prod.mk.inj hq; clear hq; subst he0
   subst hq0
   exact ends2 Try.results31 ⟨_, rfl, run_loadVar_agg ag56 rfl (H.cell 1 rfl)⟩ rfl ⟨_, rfl, H.base, rfl⟩
  ·
   refine W.cond_false (congrArg Value.bool hc2) ?_
   refine W.skip ?_
   refine W.seq ?_
   refine W.seq ?_
   refine W.region ?_
   refine O.loadA [va0_0, va0_1] ag53 rfl rfl rfl rfl (H.cell 0 rfl) ?_
   obtain ⟨⟨t3, t4⟩, hy3, hm⟩ := bind_some hm
   refine O.call Try.call48 rfl rfl rfl (c_sight_graphOf _ _ (GNet.mk a0.Rates a0.Sights) (H.arg ha0_0) (H.arg ha0_1) _ _ (SliceR.nil (α := GPoint)) hy3) ?_
   rintro _ w8 hb6 ⟨b3, m1, v2, sg1, rfl, hq1, hM1⟩
   have H := H.addAll hb6 hM1
   obtain ⟨⟨t5, t6⟩, hy4, hm⟩ := bind_some hm
   refine O.call Try.call49 rfl rfl rfl (c_sight_graph_circle _ _ _ t3 sg1 (H.cell 3 rfl) (H.map 4 rfl) (H.own 5 rfl) (circle_perm hq1 hy4)) ?_
   rintro v3 w9 hb7 ⟨ho1, hq2⟩
   have H := H.addOwn hb7 ho1
   refine O.neqNilB Try.underlying22 hq2 rfl rfl rfl rfl ?_
   refine WL.nil ?_
   rcases ite_some hm with ⟨hc3, hm⟩ | ⟨hc3, hm⟩
   ·
    refine W.cond_true (congrArg Value.bool hc3) ?_
    refine W.seq ?_
    refine W.region ?_
    refine O.build (v := (.agg (Flat.cells (GSpan.mk 0 0)).toArray)) (fun w => bd56_  w) rfl rfl rfl ?_
    refine O.store 1 0 [(.int .i64 0), (.int .i64 0)] [(.int .i64 0), (.int .i64 0)] sz56 H rfl rfl rfl rfl rfl rfl ⟨⟨rfl, rfl⟩, rfl⟩ (one_cons rfl (one_cons rfl one_nil)) ?_
    intro w10 H
    refine O.assign (v := (.int .i64 9)) rfl rfl rfl ?_
    refine WL.nil ?_
    refine W.ret ?_
    have hq : ((GSpan.mk 0 0), 9) = (r0, r1) := Option.some.inj (show some ((GSpan.mk 0 0), 9) = some (r0, r1) from hm)
    obtain ⟨he0, hq0⟩ := Prod.mk.inj hq; clear hq; subst he0
    subst hq0
    exact ends2 Try.results31 ⟨_, rfl, run_loadVar_agg ag56 rfl (H.cell 1 rfl)⟩ rfl ⟨_, rfl, H.base, rfl⟩
   ·
    refine W.cond_false (congrArg Value.bool hc3) ?_
    refine W.skip ?_
    refine W.seq ?_
    refine W.region ?_
    refine O.loadA [va0_0, va0_1] ag53 rfl rfl rfl rfl (H.cell 0 rfl) ?_
    refine O.move (v := (.int .i64 a1)) rfl rfl rfl ?_
    refine O.move (v := (.int .i64 a2)) rfl rfl rfl ?_
    refine O.move (v := (.int .i64 a3)) rfl rfl rfl ?_
    obtain ⟨⟨t7, t8⟩, hy5, hm⟩ := bind_some hm
    refine O.call Try.call50 rfl rfl rfl (c_sight_between _ _ (GNet.mk a0.Rates a0.Sights) (H.arg ha0_0) (H.arg ha0_1) _ _ _ hy5) ?_
    rintro _ w11 hb8 rfl
    have H := H.ext hb8
    refine O.move (v := (.tuple #[(.agg (Flat.cells t7).toArray), (.bool t8)])) rfl rfl rfl ?_
    refine O.extract (v := (.agg (Flat.cells t7).toArray)) rfl rfl rfl rfl ?_
    refine O.extract (v := (.bool t8)) rfl rfl rfl rfl ?_
    refine O.alloc [(.int .i64 0), (.int .i64 0)] ze56 H rfl rfl rfl ?_
    intro b4 w12 H hb9
    refine O.store 7 0 [(.int .i64 t7.Lo), (.int .i64 t7.Hi)] [(.int .i64 t7.Lo), (.int .i64 t7.Hi)] sz56 H rfl rfl rfl rfl rfl rfl ⟨⟨rfl, rfl⟩, rfl⟩ (one_cons rfl (one_cons rfl one_nil)) ?_
    intro w13 H
    refine O.assign (v := (.bool t8)) rfl rfl rfl ?_
    refine WL.nil ?_
    refine W.seq ?_
    refine W.seq ?_
    refine W.region ?_
    refine O.move (v := (.bool t8)) rfl rfl rfl ?_
    refine O.not rfl rfl rfl ?_
    refine WL.nil ?_
    rcases ite_some hm with ⟨hc4, hm⟩ | ⟨hc4, hm⟩
    ·
     refine W.cond_true (congrArg Value.bool hc4) ?_
     refine W.seq ?_
     refine W.region ?_
     refine O.build (v := (.agg (Flat.cells (GSpan.mk 0 0)).toArray)) (fun w => bd56_  w) rfl rfl rfl ?_
     refine O.store 1 0 [(.int .i64 0), (.int .i64 0)] [(.int .i64 0), (.int .i64 0)] sz56 H rfl rfl rfl rfl rfl rfl ⟨⟨rfl, rfl⟩, rfl⟩ (one_cons rfl (one_cons rfl one_nil)) ?_
     intro w14 H
     refine O.assign (v := (.int .i64 8)) rfl rfl rfl ?_
     refine WL.nil ?_
     refine W.ret ?_
     have hq : ((GSpan.mk 0 0), 8) = (r0, r1) := Option.some.inj (show some ((GSpan.mk 0 0), 8) = some (r0, r1) from hm)
     obtain ⟨he0, hq0⟩ := Prod.mk.inj hq; clear hq; subst he0
     subst hq0
     exact ends2 Try.results31 ⟨_, rfl, run_loadVar_agg ag56 rfl (H.cell 1 rfl)⟩ rfl ⟨_, rfl, H.base, rfl⟩
    ·
     refine W.cond_false (congrArg Value.bool hc4) ?_
     refine W.skip ?_
     refine W.seq ?_
     refine W.region ?_
     refine O.loadA [(.int .i64 t7.Lo), (.int .i64 t7.Hi)] ag56 rfl rfl rfl rfl (H.cell 7 rfl) ?_
     refine O.store 1 0 [(.int .i64 t7.Lo), (.int .i64 t7.Hi)] [(.int .i64 t7.Lo), (.int .i64 t7.Hi)] sz56 H rfl rfl rfl rfl rfl rfl ⟨⟨rfl, rfl⟩, rfl⟩ (one_cons rfl (one_cons rfl one_nil)) ?_
     intro w15 H
     refine O.assign (v := (.int .i64 0)) rfl rfl rfl ?_
     refine WL.nil ?_
     refine W.ret ?_
     have hq : (t7, 0) = (r0, r1) := Option.some.inj (show some (t7, 0) = some (r0, r1) from hm)
     obtain ⟨he0, hq0⟩ := Prod.mk.inj hq; clear hq; subst he0
     subst hq0
     exact ends2 Try.results31 ⟨_, rfl, run_loadVar_agg ag56 rfl (H.cell 1 rfl)⟩ rfl ⟨_, rfl, H.base, rfl⟩

theorem c_sight_Error {w0 : World} (va0_0 : Value) (va0_1 : Value) (a0 : GNet) (ha0_0 : SliceR w0 va0_0 a0.Rates) (ha0_1 : SliceR w0 va0_1 a0.Sights) (a1 : Int) (a2 : Int) {r0 : GSpan} {r1 : Int} (hm : sight_Error a0 a1 a2 = some (r0, r1)) :
  Calls Try.prog 13 #[(.agg #[va0_0, va0_1]), (.int .i64 a1), (.int .i64 a2)] w0 (Ret w0 fun _ v => v = .tuple #[(.agg (Flat.cells r0).toArray), (.int .i64 r1)]) := by
 unfold sight_Error at hm
 refine calls_of_W Try.func13 rfl Try.ntmps13 (Nat.le_of_ble_eq_true rfl) ?_
 have H := Inv.start (w := w0)
 refine W.seq ?_
 refine W.region ?_
 refine O.box [va0_0, va0_1] H rfl rfl rfl rfl ?_
 intro b1 w1 H hb1
 refine O.alloc [(.int .i64 0), (.int .i64 0)] ze56 H rfl rfl rfl ?_
 intro b2 w2 H hb2
 refine O.assign (v := (.int .i64 0)) rfl rfl rfl ?_
 refine WL.nil ?_
 refine W.seq ?_
 refine W.region ?_
 refine O.loadA [va0_0, va0_1] ag53 rfl rfl rfl rfl (H.cell 0 rfl) ?_
 refine O.move (v := (.int .i64 a1)) rfl rfl rfl ?_
 refine O.move (v := (.int .i64 a2)) rfl rfl rfl ?_
 obtain ⟨⟨t1, t2⟩, hy1, hm⟩ := bind_some hm
 refine O.call Try.call31 rfl rfl rfl (c_sight_Between _ _ (GNet.mk a0.Rates a0.Sights) (H.arg ha0_0) (H.arg ha0_1) _ _ _ hy1) ?_
 rintro _ w3 hb3 rfl
 have H := H.ext hb3
 refine O.extract (v := (.agg (Flat.cells t1).toArray)) rfl rfl rfl rfl ?_
 refine O.extract (v := (.int .i64 t2)) rfl rfl rfl rfl ?_
 refine O.store 1 0 [(.int .i64 t1.Lo), (.int .i64 t1.Hi)] [(.int .i64 t1.Lo), (.int .i64 t1.Hi)] sz56 H rfl rfl rfl rfl rfl rfl ⟨⟨rfl, rfl⟩, rfl⟩ (one_cons rfl (one_cons rfl one_nil)) ?_
 intro w4 H
 refine O.assign (v := (.int .i64 t2)) rfl rfl rfl ?_
 refine WL.nil ?_
 refine W.ret ?_
 have hq : (t1, t2) = (r0, r1) := Option.some.inj (show some (t1, t2) = some (r0, r1) from hm)
 obtain ⟨he0, hq0⟩ := Prod.mk.inj hq; clear hq; subst he0
 subst hq0
 exact ends2 Try.results13 ⟨_, rfl, run_loadVar_agg ag56 rfl (H.cell 1 rfl)⟩ rfl ⟨_, rfl, H.base, rfl⟩

theorem c_span_divisor {w0 : World} (a0 : Int) (a1 : Int) {r0 : Int} (hm : span_divisor a0 a1 = some r0) :
  Calls Try.prog 37 #[(.int .i64 a0), (.int .i64 a1)] w0 (Ret w0 fun _ v => v = (.int .i64 r0)) := by
 unfold span_divisor at hm
 refine calls_of_W Try.func37 rfl Try.ntmps37 (Nat.le_of_ble_eq_true rfl) ?_
 have H := Inv.start (w := w0)
 refine W.seq ?_
 refine W.region ?_
 refine O.assign (v := (.int .i64 0)) rfl rfl rfl ?_
 refine WL.nil ?_
 refine W.seq ?_
 obtain ⟨s1, hm1, hm⟩ := bind_some hm
 refine W.via (fun f w => f 0 = (.int .i64 s1) ∧ Inv w0 w []) ?_ ?_
 ·
  refine W.block ?_
  refine W.loopR hm1 (fun s f w => ∃ z3 : Int, ∃ z4 : Int, (z3, z4) = s ∧ f 0 = (.int .i64 z3) ∧ f 1 = (.int .i64 z4) ∧ Inv w0 w []) ?_ ?_
  ·
   exact ⟨_, _, rfl, rfl, rfl, H⟩
  ·
   rintro _ st f w ⟨z3, z4, rfl, hf0, hf1, H⟩ hm2
   obtain ⟨u1, rfl⟩ := up2 hf0 hf1
   refine W.seq ?_
   refine W.seq ?_
   refine W.region ?_
   refine O.move (v := (.int .i64 z4)) rfl rfl rfl ?_
   refine O.neq rfl rfl rfl rfl ?_
   refine WL.nil ?_
   rcases ite_some hm2 with ⟨hc1, hm2⟩ | ⟨hc1, hm2⟩
   ·
    refine W.cond_true (congrArg Value.bool hc1) ?_
    refine W.skip ?_
    refine W.block ?_
    obtain ⟨t1, ht1, hm2⟩ := bind_some hm2
    refine W.drawN 5 (fun f => f 0 = (.int .i64 z4) ∧ f 10 = (.int .i64 t1)) fol (by kernel_rfl) ?_ ?_
    ·
     refine PL.of (fun _ w8 _ hx => O.move (v := (.int .i64 z4)) rfl rfl rfl (WL.nil ⟨rfl, hx⟩)) ?_
     refine PL.of (fun _ w8 _ hx => O.move (v := (.int .i64 z3)) rfl rfl rfl (WL.nil ⟨rfl, hx⟩)) ?_
     refine PL.of (fun _ w8 _ hx => O.move (v := (.int .i64 z4)) rfl rfl rfl (WL.nil ⟨rfl, hx⟩)) ?_
     refine PL.of (fun _ w8 _ hx => O.rem rfl rfl rfl rfl ht1 (WL.nil ⟨rfl, hx⟩)) ?_
     refine PL.of (fun _ w8 _ hx => O.assign (v := (.int .i64 z4)) rfl rfl rfl (WL.nil ⟨rfl, hx⟩)) ?_
     refine PL.nil ?_
     exact ⟨rfl, rfl⟩
    ·
     rintro f w ⟨hf0, hf10⟩ hmd hx
     have H := H.ext hx
     obtain ⟨u2, rfl⟩ := up2 hf0 hf10
     refine O.assign (v := (.int .i64 t1)) rfl rfl rfl ?_
     refine WL.nil ?_
     obtain rfl := Option.some.inj hm2
     exact ⟨_, rfl, _, _, rfl, rfl, rfl, H⟩
   ·
    refine W.cond_false (congrArg Value.bool hc1) ?_
    refine W.exit ?_
    obtain rfl := Option.some.inj hm2
    refine ⟨_, rfl, ?_⟩
    intro hy
    have hq : z3 = s1 := hy
    subst hq
    refine xT rfl ?_
    exact ⟨rfl, H⟩
 ·
  rintro f w ⟨hf0, H⟩
  obtain ⟨u3, rfl⟩ := up1 hf0
  refine W.seq ?_
  refine W.region ?_
  refine O.move (v := (.int .i64 s1)) rfl rfl rfl ?_
  refine O.move (v := (.int .i64 s1)) rfl rfl rfl ?_
  obtain ⟨t2, ht2, hm⟩ := bind_some hm
  refine O.neg rfl rfl rfl ht2 ?_
  refine O.max2 rfl rfl rfl rfl ?_
  refine O.assign (v := (.int .i64 (max s1 t2))) rfl rfl rfl ?_
  refine WL.nil ?_
  refine W.ret ?_
  have hq : (max s1 t2) = r0 := Option.some.inj (show some (max s1 t2) = some r0 from hm)
  subst hq
  exact ends1 Try.results37 rfl ⟨_, rfl, H.base, rfl⟩

theorem c_span_quotient_reduce {w0 : World} (b0 : Nat) (a0 : GQuotient) (hb0 : w0.heap[b0]? = some (.cells (Flat.cells a0).toArray 102 (0, 0))) {r0 : GQuotient} (hm : span_quotient_reduce a0 = some r0) :
  Calls Try.prog 45 #[(.pointer (some ⟨b0, 0, none⟩))] w0 (fun e w => ∃ v, e = .returned v ∧ InvD (fun x => x = b0) w0 w [boxI b0 102 (Flat.cells r0)] ∧ v = .tuple #[]) := by
 unfold span_quotient_reduce at hm
 refine calls_of_W Try.func45 rfl Try.ntmps45 (Nat.le_of_ble_eq_true rfl) ?_
 have H : InvD (fun x => x = b0) w0 w0 [boxI b0 102 [(.int .i64 a0.n), (.int .i64 a0.d)]] := InvD.startX hb0
 refine W.seq ?_
 refine W.drawN 8 (fun f => f 0 = (.pointer (some ⟨b0, 0, none⟩)) ∧ f 6 = (.int .i64 a0.n) ∧ f 10 = (.int .i64 a0.d)) fol (by kernel_rfl) ?_ ?_
 ·
  refine PL.of (fun _ w8 _ hx => O.move (v := (.pointer (some ⟨b0, 0, none⟩))) rfl rfl rfl (WL.nil ⟨rfl, hx⟩)) ?_
  refine PL.of (fun _ w8 _ hx => O.nilCheck rfl rfl rfl (WL.nil ⟨rfl, hx⟩)) ?_
  refine PL.of (fun _ w8 _ hx => O.fieldAddr fd102_0 rfl rfl rfl (WL.nil ⟨rfl, hx⟩)) ?_
  refine PL.of (fun _ w8 _ hx => by have H := H.ext hx; exact O.load sc3 rfl rfl rfl (H.cell 0 rfl 0 _ rfl) (WL.nil ⟨rfl, hx⟩)) ?_
  refine PL.of (fun _ w8 _ hx => O.move (v := (.pointer (some ⟨b0, 0, none⟩))) rfl rfl rfl (WL.nil ⟨rfl, hx⟩)) ?_
  refine PL.of (fun _ w8 _ hx => O.nilCheck rfl rfl rfl (WL.nil ⟨rfl, hx⟩)) ?_
  refine PL.of (fun _ w8 _ hx => O.fieldAddr fd102_1 rfl rfl rfl (WL.nil ⟨rfl, hx⟩)) ?_
  refine PL.of (fun _ w8 _ hx => by have H := H.ext hx; exact O.load sc3 rfl rfl rfl (H.cell 0 rfl 1 _ rfl) (WL.nil ⟨rfl, hx⟩)) ?_
  refine PL.nil ?_
  exact ⟨rfl, rfl, rfl⟩
 ·
  rintro f w ⟨hf0, hf6, hf10⟩ hmd hx
  have H := H.ext hx
  obtain ⟨u1, rfl⟩ := up3 hf0 hf6 hf10
  obtain ⟨t1, hy1, hm⟩ := bind_some hm
  refine O.call Try.call37 rfl rfl rfl (c_span_divisor _ _ hy1) ?_
  rintro _ w1 hb1 rfl
  have H := H.ext hb1
  refine O.assign (v := (.int .i64 t1)) rfl rfl rfl ?_
  refine WL.nil ?_
  refine W.seq ?_
  refine W.seq ?_
  refine W.region ?_
  refine O.move (v := (.pointer (some ⟨b0, 0, none⟩))) rfl rfl rfl ?_
  refine O.nilCheck rfl rfl rfl ?_
  refine O.fieldAddr fd102_1 rfl rfl rfl ?_
  refine O.load sc3 rfl rfl rfl (H.cell 0 rfl 1 _ rfl) ?_
  refine O.lss rfl rfl rfl rfl ?_
  refine WL.nil ?_
  obtain ⟨s1, hm1, hm⟩ := bind_some hm
  refine W.via (fun f w => f 0 = (.pointer (some ⟨b0, 0, none⟩)) ∧ f 2 = (.int .i64 s1) ∧ InvD (fun x => x = b0) w0 w [boxI b0 102 [(.int .i64 a0.n), (.int .i64 a0.d)]]) ?_ ?_
  ·
   rcases ite_some hm1 with ⟨hc1, hm1⟩ | ⟨hc1, hm1⟩
   ·
    refine W.cond_true (congrArg Value.bool hc1) ?_
    refine W.region ?_
    refine O.move (v := (.int .i64 t1)) rfl rfl rfl ?_
    obtain ⟨t2, ht2, hm1⟩ := bind_some hm1
    refine O.neg rfl rfl rfl ht2 ?_
    refine O.assign (v := (.int .i64 t2)) rfl rfl rfl ?_
    refine WL.nil ?_
    have hq : t2 = s1 := Option.some.inj (show some t2 = some s1 from hm1)
    subst hq
    exact ⟨rfl, rfl, H⟩
   ·
    refine W.cond_false (congrArg Value.bool hc1) ?_
    refine W.skip ?_
    have hq : t1 = s1 := Option.some.inj (show some t1 = some s1 from hm1)
    subst hq
    exact ⟨rfl, rfl, H⟩
  ·
   rintro f w ⟨hf0, hf2, H⟩
   obtain ⟨u2, rfl⟩ := up2 hf0 hf2
   obtain ⟨t3, ht3, hm⟩ := bind_some hm
   obtain ⟨t4, ht4, hm⟩ := bind_some hm
   refine W.drawS 16 [1, 12, 13] (fun w9 => InvD (fun x => x = b0) w0 w9 [boxI b0 102 [(.int .i64 t3), (.int .i64 a0.d)]]) (fun f => f 0 = (.pointer (some ⟨b0, 0, none⟩)) ∧ f 20 = (.pointer (some ⟨b0, 0, none⟩)) ∧ f 26 = (.int .i64 t3) ∧ f 32 = (.int .i64 t4) ∧ f 34 = (.pointer (some (Addr.add (Addr.mk b0 0 none) 0)))) fol (by kernel_rfl) rfl ?_ ?_ ?_
   ·
    refine PL.of (fun b w8 hb hx => match b, hb, hx with | none, _, hx => by exact O.move (v := (.pointer (some ⟨b0, 0, none⟩))) rfl rfl rfl (WL.nil ⟨rfl, hx⟩) | some _, hb, _ => absurd (hb rfl) (by decide)) ?_
    refine PL.of (fun b w8 _ hx => match b, hx with | none, hx => by exact O.move (v := (.pointer (some ⟨b0, 0, none⟩))) rfl rfl rfl (WL.nil ⟨rfl, hx⟩) | some _, H => O.move (v := (.pointer (some ⟨b0, 0, none⟩))) rfl rfl rfl (WL.nil ⟨rfl, H⟩)) ?_
    refine PL.of (fun b w8 hb hx => match b, hb, hx with | none, _, hx => by exact O.move (v := (.pointer (some ⟨b0, 0, none⟩))) rfl rfl rfl (WL.nil ⟨rfl, hx⟩) | some _, hb, _ => absurd (hb rfl) (by decide)) ?_
    refine PL.of (fun b w8 hb hx => match b, hb, hx with | none, _, hx => by exact O.nilCheck rfl rfl rfl (WL.nil ⟨rfl, hx⟩) | some _, hb, _ => absurd (hb rfl) (by decide)) ?_
    refine PL.of (fun b w8 hb hx => match b, hb, hx with | none, _, hx => by exact O.fieldAddr fd102_0 rfl rfl rfl (WL.nil ⟨rfl, hx⟩) | some _, hb, _ => absurd (hb rfl) (by decide)) ?_
    refine PL.of (fun b w8 hb hx => match b, hb, hx with | none, _, hx => by have H := H.ext hx; exact O.load sc3 rfl rfl rfl (H.cell 0 rfl 0 _ rfl) (WL.nil ⟨rfl, hx⟩) | some _, hb, _ => absurd (hb rfl) (by decide)) ?_
    refine PL.of (fun b w8 hb hx => match b, hb, hx with | none, _, hx => by exact O.move (v := (.int .i64 s1)) rfl rfl rfl (WL.nil ⟨rfl, hx⟩) | some _, hb, _ => absurd (hb rfl) (by decide)) ?_
    refine PL.of (fun b w8 hb hx => match b, hb, hx with | none, _, hx => by exact O.quo rfl rfl rfl rfl ht3 (WL.nil ⟨rfl, hx⟩) | some _, hb, _ => absurd (hb rfl) (by decide)) ?_
    refine PL.of (fun b w8 hb hx => match b, hb, hx with | none, _, hx => by exact O.move (v := (.pointer (some ⟨b0, 0, none⟩))) rfl rfl rfl (WL.nil ⟨rfl, hx⟩) | some _, hb, _ => absurd (hb rfl) (by decide)) ?_
    refine PL.of (fun b w8 hb hx => match b, hb, hx with | none, _, hx => by exact O.nilCheck rfl rfl rfl (WL.nil ⟨rfl, hx⟩) | some _, hb, _ => absurd (hb rfl) (by decide)) ?_
    refine PL.of (fun b w8 hb hx => match b, hb, hx with | none, _, hx => by exact O.fieldAddr fd102_1 rfl rfl rfl (WL.nil ⟨rfl, hx⟩) | some _, hb, _ => absurd (hb rfl) (by decide)) ?_
    refine PL.of (fun b w8 hb hx => match b, hb, hx with | none, _, hx => by have H := H.ext hx; exact O.load sc3 rfl rfl rfl (H.cell 0 rfl 1 _ rfl) (WL.nil ⟨rfl, hx⟩) | some _, hb, _ => absurd (hb rfl) (by decide)) ?_
    refine PL.of (fun b w8 _ hx => match b, hx with | none, hx => by exact O.move (v := (.int .i64 s1)) rfl rfl rfl (WL.nil ⟨rfl, hx⟩) | some _, H => O.move (v := (.int .i64 s1)) rfl rfl rfl (WL.nil ⟨rfl, H⟩)) ?_
    refine PL.of (fun b w8 _ hx => match b, hx with | none, hx => by exact O.quo rfl rfl rfl rfl ht4 (WL.nil ⟨rfl, hx⟩) | some _, H => O.quo rfl rfl rfl rfl ht4 (WL.nil ⟨rfl, H⟩)) ?_
    refine PL.of (fun b w8 hb hx => match b, hb, hx with | none, _, hx => by exact O.nilCheck rfl rfl rfl (WL.nil ⟨rfl, hx⟩) | some _, hb, _ => absurd (hb rfl) (by decide)) ?_
    refine PL.of (fun b w8 hb hx => match b, hb, hx with | none, _, hx => by exact O.fieldAddr fd102_0 rfl rfl rfl (WL.nil ⟨rfl, hx⟩) | some _, hb, _ => absurd (hb rfl) (by decide)) ?_
    refine PL.nil ?_
    exact ⟨rfl, rfl, rfl, rfl, rfl⟩
   ·
    rintro f ⟨hf0, hf20, hf26, hf32, hf34⟩ w hx
    obtain ⟨u3, rfl⟩ := up5 hf0 hf20 hf26 hf32 hf34
    have H := H.ext hx
    exact O.store 0 0 [(.int .i64 t3)] [(.int .i64 t3), (.int .i64 a0.d)] sz3 H rfl rfl rfl rfl rfl rfl ⟨⟨rfl, rfl⟩, rfl⟩ (one_cons rfl one_nil) (fun _ H => WL.nil ⟨rfl, H⟩)
   ·
    rintro f w ⟨hf0, hf20, hf26, hf32, hf34⟩ hmd H
    obtain ⟨u4, rfl⟩ := up5 hf0 hf20 hf26 hf32 hf34
    refine O.nilCheck rfl rfl rfl ?_
    refine O.fieldAddr fd102_1 rfl rfl rfl ?_
    refine O.store 0 1 [(.int .i64 t4)] [(.int .i64 t3), (.int .i64 t4)] sz3 H rfl rfl rfl rfl rfl rfl ⟨⟨rfl, rfl⟩, rfl⟩ (one_cons rfl one_nil) ?_
    intro w2 H
    refine WL.nil ?_
    have hq : (GQuotient.mk t3 t4) = r0 := Option.some.inj (show some (GQuotient.mk t3 t4) = some r0 from hm)
    subst hq
    exact ends0 Try.results45  ⟨_, rfl, H.pick [0] [boxI b0 102 [(.int .i64 t3), (.int .i64 t4)]] rfl (by decide), rfl⟩

set_option maxRecDepth 20000 in
theorem c_span_ValidRatio {w0 : World} (a0 : GRatio) {r0 : Bool} (hm : span_ValidRatio a0 = some r0) :
  Calls Try.prog 21 #[(.agg (Flat.cells a0).toArray)] w0 (Ret w0 fun _ v => v = (.bool r0)) := by
 unfold span_ValidRatio at hm
 refine calls_of_W Try.func21 rfl Try.ntmps21 (Nat.le_of_ble_eq_true rfl) ?_
 have H := Inv.start (w := w0)
 refine W.seq ?_
 refine W.region ?_
 refine O.box [(.int .i64 a0.N), (.int .i64 a0.D)] H rfl rfl rfl rfl ?_
 intro b1 w1 H hb1
 refine O.assign (v := (.bool false)) rfl rfl rfl ?_
 refine WL.nil ?_
 refine W.seq ?_
 refine W.region ?_
 refine O.fieldAddr fd39_1 rfl rfl rfl ?_
 refine O.load sc3 rfl rfl rfl (H.cell 0 rfl 1 _ rfl) ?_
 refine O.geq rfl rfl rfl rfl ?_
 refine O.move (v := (.bool (decide (1 ≤ a0.D)))) rfl rfl rfl ?_
 refine WL.cut 4 (fun f w => f 1 = (.pointer (some ⟨b1, 0, none⟩)) ∧ f 10 = .bool ((decide (1 ≤ a0.D)) && (decide (a0.D ≤ 1000000000))) ∧ Inv w0 w [boxI b1 39 [(.int .i64 a0.N), (.int .i64 a0.D)]]) ?_ ?_
 ·
  rcases bool_ft (decide (1 ≤ a0.D)) with hc1 | hc1
  ·
   refine WL.reset (i := 6) (v := .bool false) (congrArg Value.bool hc1) ?_
   refine O.skip rfl rfl ?_
   refine O.skip rfl rfl ?_
   refine O.skip rfl rfl ?_
   refine O.pick_false (v := (.bool false)) rfl rfl rfl rfl ?_
   exact WL.nil ⟨rfl, congrArg Value.bool (and_f hc1), H⟩
  ·
   refine WL.reset (i := 6) (v := .bool true) (congrArg Value.bool hc1) ?_
   refine O.fieldAddr fd39_1 rfl rfl rfl ?_
   refine O.load sc3 rfl rfl rfl (H.cell 0 rfl 1 _ rfl) ?_
   refine O.leq rfl rfl rfl rfl ?_
   refine O.pick_true (v := (.bool (decide (a0.D ≤ 1000000000)))) rfl rfl rfl rfl ?_
   exact WL.nil ⟨rfl, congrArg Value.bool (and_t hc1), H⟩
 ·
  rintro f w ⟨hf1, hf10, H⟩
  obtain ⟨u1, rfl⟩ := up2 hf1 hf10
  refine O.move (v := (.bool ((decide (1 ≤ a0.D)) && (decide (a0.D ≤ 1000000000))))) rfl rfl rfl ?_
  refine WL.cut 4 (fun f w => f 1 = (.pointer (some ⟨b1, 0, none⟩)) ∧ f 15 = .bool (((decide (1 ≤ a0.D)) && (decide (a0.D ≤ 1000000000))) && (decide ((-1000000000) ≤ a0.N))) ∧ Inv w0 w [boxI b1 39 [(.int .i64 a0.N), (.int .i64 a0.D)]]) ?_ ?_
  ·
   rcases bool_ft ((decide (1 ≤ a0.D)) && (decide (a0.D ≤ 1000000000))) with hc2 | hc2
   ·
    refine WL.reset (i := 11) (v := .bool false) (congrArg Value.bool hc2) ?_
    refine O.skip rfl rfl ?_
    refine O.skip rfl rfl ?_
    refine O.skip rfl rfl ?_
    refine O.pick_false (v := (.bool false)) rfl rfl rfl rfl ?_
    exact WL.nil ⟨rfl, congrArg Value.bool (and_f hc2), H⟩
   ·
    refine WL.reset (i := 11) (v := .bool true) (congrArg Value.bool hc2) ?_
    refine O.fieldAddr fd39_0 rfl rfl rfl ?_
    refine O.load sc3 rfl rfl rfl (H.cell 0 rfl 0 _ rfl) ?_
    refine O.geq rfl rfl rfl rfl ?_
    refine O.pick_true (v := (.bool (decide ((-1000000000) ≤ a0.N)))) rfl rfl rfl rfl ?_
    exact WL.nil ⟨rfl, congrArg Value.bool (and_t hc2), H⟩
  ·
   rintro f w ⟨hf1, hf15, H⟩
   obtain ⟨u2, rfl⟩ := up2 hf1 hf15
   refine O.move (v := (.bool (((decide (1 ≤ a0.D)) && (decide (a0.D ≤ 1000000000))) && (decide ((-1000000000) ≤ a0.N))))) rfl rfl rfl ?_
   refine WL.cut 4 (fun f w => f 1 = (.pointer (some ⟨b1, 0, none⟩)) ∧ f 20 = .bool ((((decide (1 ≤ a0.D)) && (decide (a0.D ≤ 1000000000))) && (decide ((-1000000000) ≤ a0.N))) && (decide (a0.N ≤ 1000000000))) ∧ Inv w0 w [boxI b1 39 [(.int .i64 a0.N), (.int .i64 a0.D)]]) ?_ ?_
   ·
    rcases bool_ft (((decide (1 ≤ a0.D)) && (decide (a0.D ≤ 1000000000))) && (decide ((-1000000000) ≤ a0.N))) with hc3 | hc3
    ·
     refine WL.reset (i := 16) (v := .bool false) (congrArg Value.bool hc3) ?_
     refine O.skip rfl rfl ?_
     refine O.skip rfl rfl ?_
     refine O.skip rfl rfl ?_
     refine O.pick_false (v := (.bool false)) rfl rfl rfl rfl ?_
     exact WL.nil ⟨rfl, congrArg Value.bool (and_f hc3), H⟩
    ·
     refine WL.reset (i := 16) (v := .bool true) (congrArg Value.bool hc3) ?_
     refine O.fieldAddr fd39_0 rfl rfl rfl ?_
     refine O.load sc3 rfl rfl rfl (H.cell 0 rfl 0 _ rfl) ?_
     refine O.leq rfl rfl rfl rfl ?_
     refine O.pick_true (v := (.bool (decide (a0.N ≤ 1000000000)))) rfl rfl rfl rfl ?_
     exact WL.nil ⟨rfl, congrArg Value.bool (and_t hc3), H⟩
   ·
    rintro f w ⟨hf1, hf20, H⟩
    obtain ⟨u3, rfl⟩ := up2 hf1 hf20
    refine O.move (v := (.bool ((((decide (1 ≤ a0.D)) && (decide (a0.D ≤ 1000000000))) && (decide ((-1000000000) ≤ a0.N))) && (decide (a0.N ≤ 1000000000))))) rfl rfl rfl ?_
    obtain ⟨b2, hm1, hm⟩ := bind_some hm
    refine WL.cut 7 (fun f w => f 28 = .bool b2 ∧ Inv w0 w [boxI b1 39 [(.int .i64 a0.N), (.int .i64 a0.D)]]) ?_ ?_
    ·
     rcases ite_some hm1 with ⟨hc4, hm1⟩ | ⟨hc4, hm1⟩
     ·
      refine WL.reset (i := 21) (v := .bool true) (congrArg Value.bool hc4) ?_
      refine O.fieldAddr fd39_0 rfl rfl rfl ?_
      refine O.load sc3 rfl rfl rfl (H.cell 0 rfl 0 _ rfl) ?_
      refine O.fieldAddr fd39_1 rfl rfl rfl ?_
      refine O.load sc3 rfl rfl rfl (H.cell 0 rfl 1 _ rfl) ?_
      obtain ⟨t1, hy1, hm1⟩ := bind_some hm1
      refine O.call Try.call37 rfl rfl rfl (c_span_divisor _ _ hy1) ?_
      rintro _ w2 hb2 rfl
      have H := H.ext hb2
      refine O.eql rfl rfl rfl rfl ?_
      refine O.pick_true (v := (.bool (t1 == 1))) rfl rfl rfl rfl ?_
      refine WL.nil ?_
      have hq : (t1 == 1) = b2 := Option.some.inj (show some (t1 == 1) = some b2 from hm1)
      subst hq
      exact ⟨rfl, H⟩
     ·
      refine WL.reset (i := 21) (v := .bool false) (congrArg Value.bool hc4) ?_
      refine O.skip rfl rfl ?_
      refine O.skip rfl rfl ?_
      refine O.skip rfl rfl ?_
      refine O.skip rfl rfl ?_
      refine O.skip rfl rfl ?_
      refine O.skip rfl rfl ?_
      refine O.pick_false (v := (.bool false)) rfl rfl rfl rfl ?_
      refine WL.nil ?_
      have hq : false = b2 := Option.some.inj (show some false = some b2 from hm1)
      subst hq
      exact ⟨rfl, H⟩
    ·
     rintro f w ⟨hf28, H⟩
     obtain ⟨u4, rfl⟩ := up1 hf28
     refine O.assign (v := (.bool b2)) rfl rfl rfl ?_
     refine WL.nil ?_
     refine W.ret ?_
     have hq : b2 = r0 := Option.some.inj (show some b2 = some r0 from hm)
     subst hq
     exact ends1 Try.results21 rfl ⟨_, rfl, H.base, rfl⟩

theorem c_span_lowest {w0 : World} (a0 : Int) (a1 : Int) {r0 : GRatio} {r1 : Int} (hm : span_lowest a0 a1 = some (r0, r1)) :
  Calls Try.prog 28 #[(.int .i64 a0), (.int .i64 a1)] w0 (Ret w0 fun _ v => v = .tuple #[(.agg (Flat.cells r0).toArray), (.int .i64 r1)]) := by
 unfold span_lowest at hm
 refine calls_of_W Try.func28 rfl Try.ntmps28 (Nat.le_of_ble_eq_true rfl) ?_
 have H := Inv.start (w := w0)
 refine W.seq ?_
 refine W.region ?_
 refine O.alloc [(.int .i64 0), (.int .i64 0)] ze39 H rfl rfl rfl ?_
 intro b1 w1 H hb1
 refine O.assign (v := (.int .i64 0)) rfl rfl rfl ?_
 refine WL.nil ?_
 refine W.seq ?_
 refine W.region ?_
 refine O.move (v := (.int .i64 a0)) rfl rfl rfl ?_
 refine O.move (v := (.int .i64 a1)) rfl rfl rfl ?_
 refine O.build (v := (.agg (Flat.cells (GQuotient.mk a0 a1)).toArray)) (fun w => bd102_0_1 _ _ w) rfl rfl rfl ?_
 refine O.alloc [(.int .i64 0), (.int .i64 0)] ze102 H rfl rfl rfl ?_
 intro b2 w2 H hb2
 refine O.store 1 0 [(.int .i64 a0), (.int .i64 a1)] [(.int .i64 a0), (.int .i64 a1)] sz102 H rfl rfl rfl rfl rfl rfl ⟨⟨rfl, rfl⟩, rfl⟩ (one_cons rfl (one_cons rfl one_nil)) ?_
 intro w3 H
 refine WL.nil ?_
 refine W.seq ?_
 refine W.region ?_
 refine O.makeFunc rfl rfl rfl rfl ?_
 refine O.assign (v := (.func (.func 45) #[(.pointer (some ⟨b2, 0, none⟩))] #[])) rfl rfl rfl ?_
 refine WL.nil ?_
 refine W.seq ?_
 refine W.region ?_
 refine O.move (v := (.func (.func 45) #[(.pointer (some ⟨b2, 0, none⟩))] #[])) rfl rfl rfl ?_
 obtain ⟨t1, hy1, hm⟩ := bind_some hm
 refine O.callXV 1 H rfl Try.call45 rfl rfl rfl rfl (c_span_quotient_reduce _ (GQuotient.mk a0 a1) (H.boxAt 1 rfl) hy1) ?_
 rintro _ w4 H rfl
 refine WL.nil ?_
 refine W.seq ?_
 refine W.seq ?_
 refine W.region ?_
 refine O.fieldAddr fd102_0 rfl rfl rfl ?_
 refine O.load sc3 rfl rfl rfl (H.cell 1 rfl 0 _ rfl) ?_
 refine O.fieldAddr fd102_1 rfl rfl rfl ?_
 refine O.load sc3 rfl rfl rfl (H.cell 1 rfl 1 _ rfl) ?_
 refine O.build (v := (.agg (Flat.cells (GRatio.mk t1.n t1.d)).toArray)) (fun w => bd39_0_1 _ _ w) rfl rfl rfl ?_
 refine O.alloc [(.int .i64 0), (.int .i64 0)] ze39 H rfl rfl rfl ?_
 intro b3 w5 H hb3
 refine O.store 2 0 [(.int .i64 t1.n), (.int .i64 t1.d)] [(.int .i64 t1.n), (.int .i64 t1.d)] sz39 H rfl rfl rfl rfl rfl rfl ⟨⟨rfl, rfl⟩, rfl⟩ (one_cons rfl (one_cons rfl one_nil)) ?_
 intro w6 H
 refine WL.nil ?_
 refine W.seq ?_
 refine W.region ?_
 refine O.loadA [(.int .i64 t1.n), (.int .i64 t1.d)] ag39 rfl rfl rfl rfl (H.cell 2 rfl) ?_
 obtain ⟨t2, hy2, hm⟩ := bind_some hm
 refine O.call Try.call21 rfl rfl rfl (c_span_ValidRatio (GRatio.mk t1.n t1.d) hy2) ?_
 rintro _ w7 hb4 rfl
 have H := H.ext hb4
 refine WL.nil ?_
 rcases ite_some hm with ⟨hc1, hm⟩ | ⟨hc1, hm⟩
 ·
  refine W.cond_true (congrArg Value.bool hc1) ?_
  refine W.seq ?_
  refine W.region ?_
  refine O.loadA [(.int .i64 t1.n), (.int .i64 t1.d)] ag39 rfl rfl rfl rfl (H.cell 2 rfl) ?_
  refine O.store 0 0 [(.int .i64 t1.n), (.int .i64 t1.d)] [(.int .i64 t1.n), (.int .i64 t1.d)] sz39 H rfl rfl rfl rfl rfl rfl ⟨⟨rfl, rfl⟩, rfl⟩ (one_cons rfl (one_cons rfl one_nil)) ?_
  intro w8 H
  refine O.assign (v := (.int .i64 0)) rfl rfl rfl ?_
  refine WL.nil ?_
  refine W.ret ?_
  have hq : ((GRatio.mk t1.n t1.d), 0) = (r0, r1) := Option.some.inj (show some ((GRatio.mk t1.n t1.d), 0) = some (r0, r1) from hm)
  obtain ⟨he0, hq0⟩ := Prod.mk.inj hq; clear hq; subst he0
  subst hq0
  exact ends2 Try.results28 ⟨_, rfl, run_loadVar_agg ag39 rfl (H.cell 0 rfl)⟩ rfl ⟨_, rfl, H.base, rfl⟩
 ·
  refine W.cond_false (congrArg Value.bool hc1) ?_
  refine W.skip ?_
  refine W.seq ?_
  refine W.region ?_
  refine O.build (v := (.agg (Flat.cells (GRatio.mk 0 0)).toArray)) (fun w => bd39_  w) rfl rfl rfl ?_
  refine O.store 0 0 [(.int .i64 0), (.int .i64 0)] [(.int .i64 0), (.int .i64 0)] sz39 H rfl rfl rfl rfl rfl rfl ⟨⟨rfl, rfl⟩, rfl⟩ (one_cons rfl (one_cons rfl one_nil)) ?_
  intro w9 H
  refine O.assign (v := (.int .i64 4)) rfl rfl rfl ?_
  refine WL.nil ?_
  refine W.ret ?_
  have hq : ((GRatio.mk 0 0), 4) = (r0, r1) := Option.some.inj (show some ((GRatio.mk 0 0), 4) = some (r0, r1) from hm)
  obtain ⟨he0, hq0⟩ := Prod.mk.inj hq; clear hq; subst he0
  subst hq0
  exact ends2 Try.results28 ⟨_, rfl, run_loadVar_agg ag39 rfl (H.cell 0 rfl)⟩ rfl ⟨_, rfl, H.base, rfl⟩

set_option maxRecDepth 20000 in
theorem c_span_Make {w0 : World} (a0 : Int) (a1 : Int) {r0 : GRatio} {r1 : Int} (hm : span_Make a0 a1 = some (r0, r1)) :
  Calls Try.prog 14 #[(.int .i64 a0), (.int .i64 a1)] w0 (Ret w0 fun _ v => v = .tuple #[(.agg (Flat.cells r0).toArray), (.int .i64 r1)]) := by
 unfold span_Make at hm
 refine calls_of_W Try.func14 rfl Try.ntmps14 (Nat.le_of_ble_eq_true rfl) ?_
 have H := Inv.start (w := w0)
 refine W.seq ?_
 refine W.region ?_
 refine O.alloc [(.int .i64 0), (.int .i64 0)] ze39 H rfl rfl rfl ?_
 intro b1 w1 H hb1
 refine O.assign (v := (.int .i64 0)) rfl rfl rfl ?_
 refine WL.nil ?_
 refine W.seq ?_
 refine W.seq ?_
 refine W.region ?_
 refine O.move (v := (.int .i64 a0)) rfl rfl rfl ?_
 refine O.lss rfl rfl rfl rfl ?_
 refine O.move (v := (.bool (decide (a0 < (-1000000000000000000))))) rfl rfl rfl ?_
 refine WL.cut 3 (fun f w => f 0 = (.int .i64 a0) ∧ f 1 = (.int .i64 a1) ∧ f 4 = (.pointer (some ⟨b1, 0, none⟩)) ∧ f 11 = .bool ((decide (a0 < (-1000000000000000000))) || (decide (1000000000000000000 < a0))) ∧ Inv w0 w [boxI b1 39 [(.int .i64 0), (.int .i64 0)]]) ?_ ?_
 ·
  rcases bool_ft (decide (a0 < (-1000000000000000000))) with hc1 | hc1
  ·
   refine WL.reset (i := 8) (v := .bool false) (congrArg Value.bool hc1) ?_
   refine O.move (v := (.int .i64 a0)) rfl rfl rfl ?_
   refine O.gtr rfl rfl rfl rfl ?_
   refine O.pick_false (v := (.bool (decide (1000000000000000000 < a0)))) rfl rfl rfl rfl ?_
   exact WL.nil ⟨rfl, rfl, rfl, congrArg Value.bool (or_f hc1), H⟩
  ·
   refine WL.reset (i := 8) (v := .bool true) (congrArg Value.bool hc1) ?_
   refine O.skip rfl rfl ?_
   refine O.skip rfl rfl ?_
   refine O.pick_true (v := (.bool true)) rfl rfl rfl rfl ?_
   exact WL.nil ⟨rfl, rfl, rfl, congrArg Value.bool (or_t hc1), H⟩
 ·
  rintro f w ⟨hf0, hf1, hf4, hf11, H⟩
  obtain ⟨u1, rfl⟩ := up4 hf0 hf1 hf4 hf11
  refine O.move (v := (.bool ((decide (a0 < (-1000000000000000000))) || (decide (1000000000000000000 < a0))))) rfl rfl rfl ?_
  refine WL.cut 3 (fun f w => f 0 = (.int .i64 a0) ∧ f 1 = (.int .i64 a1) ∧ f 4 = (.pointer (some ⟨b1, 0, none⟩)) ∧ f 15 = .bool (((decide (a0 < (-1000000000000000000))) || (decide (1000000000000000000 < a0))) || (decide (a1 < (-1000000000000000000)))) ∧ Inv w0 w [boxI b1 39 [(.int .i64 0), (.int .i64 0)]]) ?_ ?_
  ·
   rcases bool_ft ((decide (a0 < (-1000000000000000000))) || (decide (1000000000000000000 < a0))) with hc2 | hc2
   ·
    refine WL.reset (i := 12) (v := .bool false) (congrArg Value.bool hc2) ?_
    refine O.move (v := (.int .i64 a1)) rfl rfl rfl ?_
    refine O.lss rfl rfl rfl rfl ?_
    refine O.pick_false (v := (.bool (decide (a1 < (-1000000000000000000))))) rfl rfl rfl rfl ?_
    exact WL.nil ⟨rfl, rfl, rfl, congrArg Value.bool (or_f hc2), H⟩
   ·
    refine WL.reset (i := 12) (v := .bool true) (congrArg Value.bool hc2) ?_
    refine O.skip rfl rfl ?_
    refine O.skip rfl rfl ?_
    refine O.pick_true (v := (.bool true)) rfl rfl rfl rfl ?_
    exact WL.nil ⟨rfl, rfl, rfl, congrArg Value.bool (or_t hc2), H⟩
  ·
   rintro f w ⟨hf0, hf1, hf4, hf15, H⟩
   obtain ⟨u2, rfl⟩ := up4 hf0 hf1 hf4 hf15
   refine O.move (v := (.bool (((decide (a0 < (-1000000000000000000))) || (decide (1000000000000000000 < a0))) || (decide (a1 < (-1000000000000000000)))))) rfl rfl rfl ?_
   refine WL.cut 3 (fun f w => f 0 = (.int .i64 a0) ∧ f 1 = (.int .i64 a1) ∧ f 4 = (.pointer (some ⟨b1, 0, none⟩)) ∧ f 19 = .bool ((((decide (a0 < (-1000000000000000000))) || (decide (1000000000000000000 < a0))) || (decide (a1 < (-1000000000000000000)))) || (decide (1000000000000000000 < a1))) ∧ Inv w0 w [boxI b1 39 [(.int .i64 0), (.int .i64 0)]]) ?_ ?_
   ·
    rcases bool_ft (((decide (a0 < (-1000000000000000000))) || (decide (1000000000000000000 < a0))) || (decide (a1 < (-1000000000000000000)))) with hc3 | hc3
    ·
     refine WL.reset (i := 16) (v := .bool false) (congrArg Value.bool hc3) ?_
     refine O.move (v := (.int .i64 a1)) rfl rfl rfl ?_
     refine O.gtr rfl rfl rfl rfl ?_
     refine O.pick_false (v := (.bool (decide (1000000000000000000 < a1)))) rfl rfl rfl rfl ?_
     exact WL.nil ⟨rfl, rfl, rfl, congrArg Value.bool (or_f hc3), H⟩
    ·
     refine WL.reset (i := 16) (v := .bool true) (congrArg Value.bool hc3) ?_
     refine O.skip rfl rfl ?_
     refine O.skip rfl rfl ?_
     refine O.pick_true (v := (.bool true)) rfl rfl rfl rfl ?_
     exact WL.nil ⟨rfl, rfl, rfl, congrArg Value.bool (or_t hc3), H⟩
   ·
    rintro f w ⟨hf0, hf1, hf4, hf19, H⟩
    obtain ⟨u3, rfl⟩ := up4 hf0 hf1 hf4 hf19
    refine O.move (v := (.bool ((((decide (a0 < (-1000000000000000000))) || (decide (1000000000000000000 < a0))) || (decide (a1 < (-1000000000000000000)))) || (decide (1000000000000000000 < a1))))) rfl rfl rfl ?_
    refine WL.cut 3 (fun f w => f 0 = (.int .i64 a0) ∧ f 1 = (.int .i64 a1) ∧ f 4 = (.pointer (some ⟨b1, 0, none⟩)) ∧ f 23 = .bool (((((decide (a0 < (-1000000000000000000))) || (decide (1000000000000000000 < a0))) || (decide (a1 < (-1000000000000000000)))) || (decide (1000000000000000000 < a1))) || (a1 == 0)) ∧ Inv w0 w [boxI b1 39 [(.int .i64 0), (.int .i64 0)]]) ?_ ?_
    ·
     rcases bool_ft ((((decide (a0 < (-1000000000000000000))) || (decide (1000000000000000000 < a0))) || (decide (a1 < (-1000000000000000000)))) || (decide (1000000000000000000 < a1))) with hc4 | hc4
     ·
      refine WL.reset (i := 20) (v := .bool false) (congrArg Value.bool hc4) ?_
      refine O.move (v := (.int .i64 a1)) rfl rfl rfl ?_
      refine O.eql rfl rfl rfl rfl ?_
      refine O.pick_false (v := (.bool (a1 == 0))) rfl rfl rfl rfl ?_
      exact WL.nil ⟨rfl, rfl, rfl, congrArg Value.bool (or_f hc4), H⟩
     ·
      refine WL.reset (i := 20) (v := .bool true) (congrArg Value.bool hc4) ?_
      refine O.skip rfl rfl ?_
      refine O.skip rfl rfl ?_
      refine O.pick_true (v := (.bool true)) rfl rfl rfl rfl ?_
      exact WL.nil ⟨rfl, rfl, rfl, congrArg Value.bool (or_t hc4), H⟩
    ·
     rintro f w ⟨hf0, hf1, hf4, hf23, H⟩
     obtain ⟨u4, rfl⟩ := up4 hf0 hf1 hf4 hf23
     refine WL.nil ?_
     rcases ite_some hm with ⟨hc5, hm⟩ | ⟨hc5, hm⟩
     ·
      refine W.cond_true (congrArg Value.bool hc5) ?_
      refine W.seq ?_
      refine W.region ?_
      refine O.build (v := (.agg (Flat.cells (GRatio.mk 0 0)).toArray)) (fun w => bd39_  w) rfl rfl rfl ?_
      refine O.store 0 0 [(.int .i64 0), (.int .i64 0)] [(.int .i64 0), (.int .i64 0)] sz39 H rfl rfl rfl rfl rfl rfl ⟨⟨rfl, rfl⟩, rfl⟩ (one_cons rfl (one_cons rfl one_nil)) ?_
      intro w2 H
      refine O.assign (v := (.int .i64 7)) rfl rfl rfl ?_
      refine WL.nil ?_
      refine W.ret ?_
      have hq : ((GRatio.mk 0 0), 7) = (r0, r1) := Option.some.inj (show some ((GRatio.mk 0 0), 7) = some (r0, r1) from hm)
      obtain ⟨he0, hq0⟩ := Prod.mk.inj hq; clear hq; subst he0
      subst hq0
      exact ends2 Try.results14 ⟨_, rfl, run_loadVar_agg ag39 rfl (H.cell 0 rfl)⟩ rfl ⟨_, rfl, H.base, rfl⟩
     ·
      refine W.cond_false (congrArg Value.bool hc5) ?_
      refine W.skip ?_
      refine W.seq ?_
      refine W.region ?_
      refine O.move (v := (.int .i64 a0)) rfl rfl rfl ?_
      refine O.move (v := (.int .i64 a1)) rfl rfl rfl ?_
      obtain ⟨⟨t1, t2⟩, hy1, hm⟩ := bind_some hm
      refine O.call Try.call28 rfl rfl rfl (c_span_lowest _ _ hy1) ?_
      rintro _ w3 hb2 rfl
      have H := H.ext hb2
      refine O.extract (v := (.agg (Flat.cells t1).toArray)) rfl rfl rfl rfl ?_
      refine O.extract (v := (.int .i64 t2)) rfl rfl rfl rfl ?_
      refine O.store 0 0 [(.int .i64 t1.N), (.int .i64 t1.D)] [(.int .i64 t1.N), (.int .i64 t1.D)] sz39 H rfl rfl rfl rfl rfl rfl ⟨⟨rfl, rfl⟩, rfl⟩ (one_cons rfl (one_cons rfl one_nil)) ?_
      intro w4 H
      refine O.assign (v := (.int .i64 t2)) rfl rfl rfl ?_
      refine WL.nil ?_
      refine W.ret ?_
      have hq : (t1, t2) = (r0, r1) := Option.some.inj (show some (t1, t2) = some (r0, r1) from hm)
      obtain ⟨he0, hq0⟩ := Prod.mk.inj hq; clear hq; subst he0
      subst hq0
      exact ends2 Try.results14 ⟨_, rfl, run_loadVar_agg ag39 rfl (H.cell 0 rfl)⟩ rfl ⟨_, rfl, H.base, rfl⟩

set_option maxRecDepth 20000 in
theorem c_noonguntop_awake5 {w0 : World}  {r0 : Bool} (hm : noonguntop_awake5  = some r0) :
  Calls Try.prog 5 #[] w0 (Ret w0 fun _ v => v = (.bool r0)) := by
 unfold noonguntop_awake5 at hm
 refine calls_of_W Try.func5 rfl Try.ntmps5 (Nat.le_of_ble_eq_true rfl) ?_
 have H := Inv.start (w := w0)
 refine W.seq ?_
 refine W.region ?_
 refine O.assign (v := (.bool false)) rfl rfl rfl ?_
 refine WL.nil ?_
 refine W.seq ?_
 refine W.region ?_
 refine O.buildSlice (α := Int) [(.int .i64 0), (.int .i64 1000)] [0, 1000] Try.underlying22 el3 H rfl rfl rfl rfl rfl rfl rfl ?_
 intro v1 w1 H hb1
 refine O.build (v := (.agg (Flat.cells (GSight.mk 5 1 0 (-3) 4)).toArray)) (fun w => bd50_0_1_3_4 _ _ _ _ w) rfl rfl rfl ?_
 refine O.buildSlice (α := GSight) [(.agg (Flat.cells (GSight.mk 5 1 0 (-3) 4)).toArray)] [(GSight.mk 5 1 0 (-3) 4)] Try.underlying51 el50 H rfl rfl rfl rfl rfl rfl rfl ?_
 intro v2 w2 H hb2
 obtain ⟨ad1, cap1, hvad1, _⟩ := (H.own 0 rfl).shape
 obtain ⟨ad2, cap2, hvad2, _⟩ := (H.own 1 rfl).shape
 refine O.build (v := (.agg #[v1, v2])) (fun w => by rw [hvad1, hvad2]; exact bd53_0_1 _ _ _ _ _ _ w) rfl rfl rfl ?_
 refine O.alloc [(.slice none 0 0), (.slice none 0 0)] ze53 H rfl rfl rfl ?_
 intro b1 w3 H hb3
 have H := H.addNil (α := Int) (E := 3)
 have H := H.addNil (α := GSight) (E := 50)
 refine O.store 2 0 [v1, v2] [v1, v2] sz53 H rfl rfl rfl rfl rfl rfl ⟨⟨rfl, rfl⟩, rfl⟩ (one_cons (SliceR.one (H.own 0 rfl)) (one_cons (SliceR.one (H.own 1 rfl)) one_nil)) ?_
 intro w4 H
 refine WL.nil ?_
 refine W.seq ?_
 refine W.region ?_
 refine O.loadA [v1, v2] ag53 rfl rfl rfl rfl (H.cell 2 rfl) ?_
 obtain ⟨⟨t1, t2⟩, hy1, hm⟩ := bind_some hm
 refine O.call Try.call13 rfl rfl rfl (c_sight_Error _ _ (GNet.mk ([0, 1000] : List Int) ([(GSight.mk 5 1 0 (-3) 4)] : List GSight)) (H.own 0 rfl) (H.own 1 rfl) _ _ hy1) ?_
 rintro _ w5 hb4 rfl
 have H := H.ext hb4
 refine O.move (v := (.tuple #[(.agg (Flat.cells t1).toArray), (.int .i64 t2)])) rfl rfl rfl ?_
 refine O.extract (v := (.agg (Flat.cells t1).toArray)) rfl rfl rfl rfl ?_
 refine O.extract (v := (.int .i64 t2)) rfl rfl rfl rfl ?_
 refine O.alloc [(.int .i64 0), (.int .i64 0)] ze56 H rfl rfl rfl ?_
 intro b2 w6 H hb5
 refine O.store 5 0 [(.int .i64 t1.Lo), (.int .i64 t1.Hi)] [(.int .i64 t1.Lo), (.int .i64 t1.Hi)] sz56 H rfl rfl rfl rfl rfl rfl ⟨⟨rfl, rfl⟩, rfl⟩ (one_cons rfl (one_cons rfl one_nil)) ?_
 intro w7 H
 refine O.assign (v := (.int .i64 t2)) rfl rfl rfl ?_
 refine WL.nil ?_
 refine W.seq ?_
 refine W.region ?_
 obtain ⟨⟨t3, t4⟩, hy2, hm⟩ := bind_some hm
 refine O.call Try.call14 rfl rfl rfl (c_span_Make _ _ hy2) ?_
 rintro _ w8 hb6 rfl
 have H := H.ext hb6
 refine O.move (v := (.tuple #[(.agg (Flat.cells t3).toArray), (.int .i64 t4)])) rfl rfl rfl ?_
 refine O.extract (v := (.agg (Flat.cells t3).toArray)) rfl rfl rfl rfl ?_
 refine O.extract (v := (.int .i64 t4)) rfl rfl rfl rfl ?_
 refine O.alloc [(.int .i64 0), (.int .i64 0)] ze39 H rfl rfl rfl ?_
 intro b3 w9 H hb7
 refine O.store 6 0 [(.int .i64 t3.N), (.int .i64 t3.D)] [(.int .i64 t3.N), (.int .i64 t3.D)] sz39 H rfl rfl rfl rfl rfl rfl ⟨⟨rfl, rfl⟩, rfl⟩ (one_cons rfl (one_cons rfl one_nil)) ?_
 intro w10 H
 refine O.assign (v := (.int .i64 t4)) rfl rfl rfl ?_
 refine WL.nil ?_
 refine W.seq ?_
 refine W.region ?_
 refine O.move (v := (.int .i64 t2)) rfl rfl rfl ?_
 refine O.eql rfl rfl rfl rfl ?_
 refine O.move (v := (.bool (t2 == 0))) rfl rfl rfl ?_
 refine WL.cut 4 (fun f w => f 4 = (.pointer (some ⟨b3, 0, none⟩)) ∧ f 5 = (.int .i64 t4) ∧ f 25 = .bool ((t2 == 0) && (t1 == (GSpan.mk (-3) 4))) ∧ Inv w0 w [ownI (α := Int) v1 3 ([0, 1000] : List Int), ownI (α := GSight) v2 50 ([(GSight.mk 5 1 0 (-3) 4)] : List GSight), boxI b1 53 [v1, v2], ownI (α := Int) (.slice none 0 0) 3 ([] : List Int), ownI (α := GSight) (.slice none 0 0) 50 ([] : List GSight), boxI b2 56 [(.int .i64 t1.Lo), (.int .i64 t1.Hi)], boxI b3 39 [(.int .i64 t3.N), (.int .i64 t3.D)]]) ?_ ?_
 ·
  rcases bool_ft (t2 == 0) with hc1 | hc1
  ·
   refine WL.reset (i := 21) (v := .bool false) (congrArg Value.bool hc1) ?_
   refine O.skip rfl rfl ?_
   refine O.skip rfl rfl ?_
   refine O.skip rfl rfl ?_
   refine O.pick_false (v := (.bool false)) rfl rfl rfl rfl ?_
   exact WL.nil ⟨rfl, rfl, congrArg Value.bool (and_f hc1), H⟩
  ·
   refine WL.reset (i := 21) (v := .bool true) (congrArg Value.bool hc1) ?_
   refine O.loadA [(.int .i64 t1.Lo), (.int .i64 t1.Hi)] ag56 rfl rfl rfl rfl (H.cell 5 rfl) ?_
   refine O.build (v := (.agg (Flat.cells (GSpan.mk (-3) 4)).toArray)) (fun w => bd56_0_1 _ _ w) rfl rfl rfl ?_
   refine O.eqlSt t1 (GSpan.mk (-3) 4) eq56 rfl rfl rfl rfl ?_
   refine O.pick_true (v := (.bool (t1 == (GSpan.mk (-3) 4)))) rfl rfl rfl rfl ?_
   exact WL.nil ⟨rfl, rfl, congrArg Value.bool (and_t hc1), H⟩
 ·
  rintro f w ⟨hf4, hf5, hf25, H⟩
  obtain ⟨u1, rfl⟩ := up3 hf4 hf5 hf25
  refine O.move (v := (.bool ((t2 == 0) && (t1 == (GSpan.mk (-3) 4))))) rfl rfl rfl ?_
  refine WL.cut 3 (fun f w => f 4 = (.pointer (some ⟨b3, 0, none⟩)) ∧ f 29 = .bool (((t2 == 0) && (t1 == (GSpan.mk (-3) 4))) && (t4 == 0)) ∧ Inv w0 w [ownI (α := Int) v1 3 ([0, 1000] : List Int), ownI (α := GSight) v2 50 ([(GSight.mk 5 1 0 (-3) 4)] : List GSight), boxI b1 53 [v1, v2], ownI (α := Int) (.slice none 0 0) 3 ([] : List Int), ownI (α := GSight) (.slice none 0 0) 50 ([] : List GSight), boxI b2 56 [(.int .i64 t1.Lo), (.int .i64 t1.Hi)], boxI b3 39 [(.int .i64 t3.N), (.int .i64 t3.D)]]) ?_ ?_
  ·
   rcases bool_ft ((t2 == 0) && (t1 == (GSpan.mk (-3) 4))) with hc2 | hc2
   ·
    refine WL.reset (i := 26) (v := .bool false) (congrArg Value.bool hc2) ?_
    refine O.skip rfl rfl ?_
    refine O.skip rfl rfl ?_
    refine O.pick_false (v := (.bool false)) rfl rfl rfl rfl ?_
    exact WL.nil ⟨rfl, congrArg Value.bool (and_f hc2), H⟩
   ·
    refine WL.reset (i := 26) (v := .bool true) (congrArg Value.bool hc2) ?_
    refine O.move (v := (.int .i64 t4)) rfl rfl rfl ?_
    refine O.eql rfl rfl rfl rfl ?_
    refine O.pick_true (v := (.bool (t4 == 0))) rfl rfl rfl rfl ?_
    exact WL.nil ⟨rfl, congrArg Value.bool (and_t hc2), H⟩
  ·
   rintro f w ⟨hf4, hf29, H⟩
   obtain ⟨u2, rfl⟩ := up2 hf4 hf29
   refine O.move (v := (.bool (((t2 == 0) && (t1 == (GSpan.mk (-3) 4))) && (t4 == 0)))) rfl rfl rfl ?_
   refine WL.cut 4 (fun f w => f 34 = .bool ((((t2 == 0) && (t1 == (GSpan.mk (-3) 4))) && (t4 == 0)) && (t3 == (GRatio.mk (-3) 2))) ∧ Inv w0 w [ownI (α := Int) v1 3 ([0, 1000] : List Int), ownI (α := GSight) v2 50 ([(GSight.mk 5 1 0 (-3) 4)] : List GSight), boxI b1 53 [v1, v2], ownI (α := Int) (.slice none 0 0) 3 ([] : List Int), ownI (α := GSight) (.slice none 0 0) 50 ([] : List GSight), boxI b2 56 [(.int .i64 t1.Lo), (.int .i64 t1.Hi)], boxI b3 39 [(.int .i64 t3.N), (.int .i64 t3.D)]]) ?_ ?_
   ·
    rcases bool_ft (((t2 == 0) && (t1 == (GSpan.mk (-3) 4))) && (t4 == 0)) with hc3 | hc3
    ·
     refine WL.reset (i := 30) (v := .bool false) (congrArg Value.bool hc3) ?_
     refine O.skip rfl rfl ?_
     refine O.skip rfl rfl ?_
     refine O.skip rfl rfl ?_
     refine O.pick_false (v := (.bool false)) rfl rfl rfl rfl ?_
     exact WL.nil ⟨congrArg Value.bool (and_f hc3), H⟩
    ·
     refine WL.reset (i := 30) (v := .bool true) (congrArg Value.bool hc3) ?_
     refine O.loadA [(.int .i64 t3.N), (.int .i64 t3.D)] ag39 rfl rfl rfl rfl (H.cell 6 rfl) ?_
     refine O.build (v := (.agg (Flat.cells (GRatio.mk (-3) 2)).toArray)) (fun w => bd39_0_1 _ _ w) rfl rfl rfl ?_
     refine O.eqlSt t3 (GRatio.mk (-3) 2) eq39 rfl rfl rfl rfl ?_
     refine O.pick_true (v := (.bool (t3 == (GRatio.mk (-3) 2)))) rfl rfl rfl rfl ?_
     exact WL.nil ⟨congrArg Value.bool (and_t hc3), H⟩
   ·
    rintro f w ⟨hf34, H⟩
    obtain ⟨u3, rfl⟩ := up1 hf34
    refine O.assign (v := (.bool ((((t2 == 0) && (t1 == (GSpan.mk (-3) 4))) && (t4 == 0)) && (t3 == (GRatio.mk (-3) 2))))) rfl rfl rfl ?_
    refine WL.nil ?_
    refine W.ret ?_
    have hq : ((((t2 == 0) && (t1 == (GSpan.mk (-3) 4))) && (t4 == 0)) && (t3 == (GRatio.mk (-3) 2))) = r0 := Option.some.inj (show some ((((t2 == 0) && (t1 == (GSpan.mk (-3) 4))) && (t4 == 0)) && (t3 == (GRatio.mk (-3) 2))) = some r0 from hm)
    subst hq
    exact ends1 Try.results5 rfl ⟨_, rfl, H.base, rfl⟩

theorem c_transit_within {w0 : World} (a0 : Int) (a1 : Int) (a2 : Int) {r0 : Bool} (hm : transit_within a0 a1 a2 = some r0) :
  Calls Try.prog 17 #[(.int .i64 a0), (.int .i64 a1), (.int .i64 a2)] w0 (Ret w0 fun _ v => v = (.bool r0)) := by
 unfold transit_within at hm
 refine calls_of_W Try.func17 rfl Try.ntmps17 (Nat.le_of_ble_eq_true rfl) ?_
 have H := Inv.start (w := w0)
 refine W.seq ?_
 refine W.region ?_
 refine O.assign (v := (.bool false)) rfl rfl rfl ?_
 refine WL.nil ?_
 refine W.seq ?_
 refine W.region ?_
 refine O.move (v := (.int .i64 a0)) rfl rfl rfl ?_
 refine O.move (v := (.int .i64 a1)) rfl rfl rfl ?_
 refine O.geq rfl rfl rfl rfl ?_
 refine O.move (v := (.bool (decide (a1 ≤ a0)))) rfl rfl rfl ?_
 refine WL.cut 4 (fun f w => f 14 = .bool ((decide (a1 ≤ a0)) && (decide (a0 ≤ a2))) ∧ Inv w0 w []) ?_ ?_
 ·
  rcases bool_ft (decide (a1 ≤ a0)) with hc1 | hc1
  ·
   refine WL.reset (i := 10) (v := .bool false) (congrArg Value.bool hc1) ?_
   refine O.skip rfl rfl ?_
   refine O.skip rfl rfl ?_
   refine O.skip rfl rfl ?_
   refine O.pick_false (v := (.bool false)) rfl rfl rfl rfl ?_
   exact WL.nil ⟨congrArg Value.bool (and_f hc1), H⟩
  ·
   refine WL.reset (i := 10) (v := .bool true) (congrArg Value.bool hc1) ?_
   refine O.move (v := (.int .i64 a0)) rfl rfl rfl ?_
   refine O.move (v := (.int .i64 a2)) rfl rfl rfl ?_
   refine O.leq rfl rfl rfl rfl ?_
   refine O.pick_true (v := (.bool (decide (a0 ≤ a2)))) rfl rfl rfl rfl ?_
   exact WL.nil ⟨congrArg Value.bool (and_t hc1), H⟩
 ·
  rintro f w ⟨hf14, H⟩
  obtain ⟨u1, rfl⟩ := up1 hf14
  refine O.assign (v := (.bool ((decide (a1 ≤ a0)) && (decide (a0 ≤ a2))))) rfl rfl rfl ?_
  refine WL.nil ?_
  refine W.ret ?_
  have hq : ((decide (a1 ≤ a0)) && (decide (a0 ≤ a2))) = r0 := Option.some.inj (show some ((decide (a1 ≤ a0)) && (decide (a0 ≤ a2))) = some r0 from hm)
  subst hq
  exact ends1 Try.results17 rfl ⟨_, rfl, H.base, rfl⟩

end Go.Proofs
