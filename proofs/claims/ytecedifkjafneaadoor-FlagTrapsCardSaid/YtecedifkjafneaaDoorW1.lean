/-
  The walks: each function does what its model says, where the model has a value. No other condition.
-/
import Derived.Test.YtecedifkjafneaaDoorW0
namespace Go.Proofs
open Go.Fw Go.RowKit Go.Shelf
theorem c_flag_build {wi : World} {Kp : World → Prop} {pc0 : Addr} {vc0 : Value} {c0 : List Int} {l : Nat} {J : List (List Int) → (Nat → Prop) → World → Prop} {Jx : (Nat → Prop) → World → Prop} {r : List (List Int)}
    (hc : Client Tryd.prog wi.heap.size l repS (fun ys => ys = r) Kp J Jx)
    (hk : ∀ w, Kp w → (∀ j c, [vc0][j]? = some c → w.cell? (pc0.add j) = some c) ∧ SliceR w vc0 c0) (hlen : c0.length ≤ 1000) {bh bY bb : Nat} :
    ∀ (n : Nat) (pre : List (List Int)) (C : Nat → Prop) (w : World) (vh : Value) (hs : List Int) (left : Int),
      InvI wi w [consI hc pre C, boxI bY 55 [Value.func (.yield l) #[] #[]], boxI bh 22 [vh], boxI bb 53 [Value.func (.func 105) #[] #[.pointer (some ⟨bh, 0, none⟩), .pointer (some pc0), .pointer (some ⟨bY, 0, none⟩), .pointer (some ⟨bb, 0, none⟩)]], ownI vh 3 hs] →
      hs.length + n = c0.length → (∃ rest, pre ++ hoistsG c0 n hs left ++ rest = r) →
      Calls Tryd.prog 105 #[.int .i64 left, .pointer (some ⟨bh, 0, none⟩), .pointer (some pc0), .pointer (some ⟨bY, 0, none⟩), .pointer (some ⟨bb, 0, none⟩)] w fun e w' => ∃ u, e = .returned u ∧
        ((u = .bool true ∧ ∃ C' vh', InvI wi w' [consI hc (pre ++ hoistsG c0 n hs left) C', boxI bY 55 [Value.func (.yield l) #[] #[]], boxI bh 22 [vh'], boxI bb 53 [Value.func (.func 105) #[] #[.pointer (some ⟨bh, 0, none⟩), .pointer (some pc0), .pointer (some ⟨bY, 0, none⟩), .pointer (some ⟨bb, 0, none⟩)]], ownI vh' 3 hs]) ∨
         (u = .bool false ∧ ∃ C', InvI wi w' [consX hc C'])) := by
  intro n
  induction n with
  | zero =>
    intro pre C w vh hs left H hn hr
    refine calls_of_W Tryd.func105 rfl Tryd.ntmps105 (Nat.le_of_ble_eq_true rfl) ?_
    have hK := hk _ (InvI.kp H)
    have hlenH := (H.own 4 rfl).len_le
    refine W.seq ?_
    refine W.region ?_
    refine O.assign (v := .bool false) rfl rfl rfl ?_
    refine WL.nil ?_
    refine W.seq ?_
    refine W.region ?_
    refine O.load (q := ⟨bh, 0, none⟩) (v := vh) sc22 rfl rfl rfl (H.cell 2 rfl 0 _ rfl) ?_
    refine O.lenS Tryd.underlying22 (H.own 4 rfl) rfl rfl rfl ?_
    refine O.assign (v := .int .i64 (hs.length : Int)) rfl rfl rfl ?_
    refine WL.nil ?_
    refine W.seq ?_
    refine W.seq ?_
    refine W.region ?_
    refine O.move (v := .int .i64 (hs.length : Int)) rfl rfl rfl ?_
    refine O.load (q := pc0) (v := vc0) sc22 rfl rfl rfl (hK.1 0 _ rfl) ?_
    refine O.lenS Tryd.underlying22 hK.2 rfl rfl rfl ?_
    refine O.eql rfl rfl rfl rfl ?_
    refine WL.nil ?_
    refine W.cond_true (congrArg Value.bool (by rw [beq_iff_eq]; omega)) ?_
    refine W.seq ?_
    refine W.region ?_
    refine O.load (q := ⟨bY, 0, none⟩) (v := .func (.yield l) #[] #[]) sc55 rfl rfl rfl (H.cell 1 rfl 0 _ rfl) ?_
    refine O.load (q := ⟨bh, 0, none⟩) (v := vh) sc22 rfl rfl rfl (H.cell 2 rfl 0 _ rfl) ?_
    refine O.yield hs [vh] H (by obtain ⟨rest, hr⟩ := hr; exact ⟨rest, by rw [hoistsG, List.append_assoc] at hr; exact hr⟩) ⟨vh, rfl, H.own 4 rfl⟩ rfl rfl rfl rfl ?_ ?_
    · intro w' C' H
      refine O.assign (v := .bool true) rfl rfl rfl ?_
      refine WL.nil ?_
      refine W.ret ?_
      exact ends1 Tryd.results105 rfl ⟨_, rfl, .inl ⟨rfl, C', vh, H⟩⟩
    · intro w' C' H
      refine O.assign (v := .bool false) rfl rfl rfl ?_
      refine WL.nil ?_
      refine W.ret ?_
      exact ends1 Tryd.results105 rfl ⟨_, rfl, .inr ⟨rfl, C', H.pick [0] [consX hc C'] rfl (by decide)⟩⟩
  | succ n ih =>
    intro pre C w vh hs left H hn hr
    refine calls_of_W Tryd.func105 rfl Tryd.ntmps105 (Nat.le_of_ble_eq_true rfl) ?_
    have hK := hk _ (InvI.kp H)
    have hlt0 : hs.length < c0.length := by omega
    obtain ⟨dg, hdg⟩ : ∃ dg, idx c0 (hs.length : Int) = some dg := ⟨_, idx_at (List.getElem?_eq_getElem hlt0)⟩
    refine W.seq ?_
    refine W.region ?_
    refine O.assign (v := .bool false) rfl rfl rfl ?_
    refine WL.nil ?_
    refine W.seq ?_
    refine W.region ?_
    refine O.load (q := ⟨bh, 0, none⟩) (v := vh) sc22 rfl rfl rfl (H.cell 2 rfl 0 _ rfl) ?_
    refine O.lenS Tryd.underlying22 (H.own 4 rfl) rfl rfl rfl ?_
    refine O.assign (v := .int .i64 (hs.length : Int)) rfl rfl rfl ?_
    refine WL.nil ?_
    refine W.seq ?_
    refine W.seq ?_
    refine W.region ?_
    refine O.move (v := .int .i64 (hs.length : Int)) rfl rfl rfl ?_
    refine O.load (q := pc0) (v := vc0) sc22 rfl rfl rfl (hK.1 0 _ rfl) ?_
    refine O.lenS Tryd.underlying22 hK.2 rfl rfl rfl ?_
    refine O.eql rfl rfl rfl rfl ?_
    refine WL.nil ?_
    refine W.cond_false (congrArg Value.bool (by rw [beq_eq_false_iff_ne]; omega)) ?_
    refine W.skip ?_
    refine W.seq ?_
    refine W.seq ?_
    refine W.region ?_
    refine O.move (v := .int .i64 0) rfl rfl rfl ?_
    refine WL.nil ?_
    refine W.via (fun f w => f 7 = .int .i64 (hs.length : Int) ∧ ∃ C' vh', InvI wi w [consI hc (pre ++ hoistsG c0 (n + 1) hs left) C', boxI bY 55 [Value.func (.yield l) #[] #[]], boxI bh 22 [vh'], boxI bb 53 [Value.func (.func 105) #[] #[.pointer (some ⟨bh, 0, none⟩), .pointer (some pc0), .pointer (some ⟨bY, 0, none⟩), .pointer (some ⟨bb, 0, none⟩)]], ownI vh' 3 hs]) ?_ ?_
    · refine W.block ?_
      refine W.loopL (l := List.range 13) (fun rem f w => ∃ ik : Nat, (List.range 13).drop ik = rem ∧ f 19 = .int .i64 (ik : Int) ∧ f 0 = .int .i64 left ∧ f 1 = .pointer (some ⟨bh, 0, none⟩) ∧ f 2 = .pointer (some pc0) ∧ f 3 = .pointer (some ⟨bY, 0, none⟩) ∧ f 4 = .pointer (some ⟨bb, 0, none⟩) ∧ f 7 = .int .i64 (hs.length : Int) ∧
        ∃ C' vh', InvI wi w [consI hc (pre ++ ((List.range 13).take ik).flatMap fun f => if hoistsOk c0 hs left f then hoistsG c0 n (hs ++ [(f : Int)]) (bits .andNot .i64 left (2 ^ f)) else []) C', boxI bY 55 [Value.func (.yield l) #[] #[]], boxI bh 22 [vh'], boxI bb 53 [Value.func (.func 105) #[] #[.pointer (some ⟨bh, 0, none⟩), .pointer (some pc0), .pointer (some ⟨bY, 0, none⟩), .pointer (some ⟨bb, 0, none⟩)]], ownI vh' 3 hs]) ?_ ?_ ?_
      · exact ⟨0, rfl, rfl, rfl, rfl, rfl, rfl, rfl, rfl, C, vh, by simpa using H⟩
      · rintro y xs f w ⟨ik, hd, hf19, hf0, hf1, hf2, hf3, hf4, hf7, C, vh, H⟩
        have hy : y = ik ∧ ik < 13 := by
          have h := congrArg (fun m => m[0]?) hd
          simp only [List.getElem?_drop, Nat.add_zero, List.getElem?_cons_zero] at h
          have h13 := (List.getElem?_eq_some_iff.1 h).1
          rw [List.length_range] at h13
          rw [List.getElem?_range h13] at h
          exact ⟨(Option.some.inj h).symm, h13⟩
        obtain ⟨rfl, h13⟩ := hy
        obtain ⟨u1, rfl⟩ : ∃ u1, f = (upd (upd (upd (upd (upd (upd (upd u1 19 (.int .i64 (y : Int))) 0 (.int .i64 left)) 1 (.pointer (some ⟨bh, 0, none⟩))) 2 (.pointer (some pc0))) 3 (.pointer (some ⟨bY, 0, none⟩))) 4 (.pointer (some ⟨bb, 0, none⟩))) 7 (.int .i64 (hs.length : Int))) :=
          ⟨f, by rw [upd_self hf19, upd_self hf0, upd_self hf1, upd_self hf2, upd_self hf3, upd_self hf4, upd_self hf7]⟩
        have hK := hk _ (InvI.kp H)
        have hinc : addI (y : Int) 1 = some ((y : Int) + 1) := addI_ok (by omega)
        have htake : (List.range 13).take (y + 1) = (List.range 13).take y ++ [y] := by
          rw [List.take_add_one, List.getElem?_range h13]; rfl
        obtain ⟨p1, hp1, hr1⟩ := fix_indexAddr Tryd.underlying22 sz3 hK.2 hdg
        refine W.seq ?_
        refine W.region ?_
        refine O.lss rfl rfl rfl rfl ?_
        refine WL.nil ?_
        refine W.seq ?_
        refine W.cond_true (congrArg Value.bool (decide_eq_true (by omega))) ?_
        refine W.skip ?_
        refine W.seq ?_
        -- the round
        refine W.via (fun f w => f 19 = .int .i64 (y : Int) ∧ f 0 = .int .i64 left ∧ f 1 = .pointer (some ⟨bh, 0, none⟩) ∧ f 2 = .pointer (some pc0) ∧ f 3 = .pointer (some ⟨bY, 0, none⟩) ∧ f 4 = .pointer (some ⟨bb, 0, none⟩) ∧ f 7 = .int .i64 (hs.length : Int) ∧
          ∃ C' vh', InvI wi w [consI hc (pre ++ ((List.range 13).take (y + 1)).flatMap fun f => if hoistsOk c0 hs left f then hoistsG c0 n (hs ++ [(f : Int)]) (bits .andNot .i64 left (2 ^ f)) else []) C', boxI bY 55 [Value.func (.yield l) #[] #[]], boxI bh 22 [vh'], boxI bb 53 [Value.func (.func 105) #[] #[.pointer (some ⟨bh, 0, none⟩), .pointer (some pc0), .pointer (some ⟨bY, 0, none⟩), .pointer (some ⟨bb, 0, none⟩)]], ownI vh' 3 hs]) ?_ ?_
        · refine W.block ?_
          refine W.seq ?_
          refine W.region ?_
          refine O.move (v := .int .i64 (y : Int)) rfl rfl rfl ?_
          refine O.assign (v := .int .i64 (y : Int)) rfl rfl rfl ?_
          refine WL.nil ?_
          refine W.seq ?_
          refine W.region ?_
          refine O.move (v := .int .i64 (y : Int)) rfl rfl rfl ?_
          refine O.load (q := pc0) (v := vc0) sc22 rfl rfl rfl (hK.1 0 _ rfl) ?_
          refine O.move (v := .int .i64 (hs.length : Int)) rfl rfl rfl ?_
          refine hr1 rfl rfl rfl rfl ?_
          refine O.load sc3 rfl rfl rfl (hp1.flat 0 _ rfl) ?_
          refine O.eql rfl rfl rfl rfl ?_
          refine O.assign (v := .bool ((y : Int) == dg)) rfl rfl rfl ?_
          refine WL.nil ?_
          refine W.seq ?_
          -- does the flag fit?
          refine W.via (fun f w' => w'.heap.size = w'.heap.size ∧ f 9 = .bool (hoistsFit c0 hs (y : Int)) ∧ f 8 = .int .i64 (y : Int) ∧ f 19 = .int .i64 (y : Int) ∧ f 0 = .int .i64 left ∧ f 1 = .pointer (some ⟨bh, 0, none⟩) ∧ f 2 = .pointer (some pc0) ∧ f 3 = .pointer (some ⟨bY, 0, none⟩) ∧ f 4 = .pointer (some ⟨bb, 0, none⟩) ∧ f 7 = .int .i64 (hs.length : Int) ∧
            InvI wi w' [consI hc (pre ++ ((List.range 13).take y).flatMap fun f => if hoistsOk c0 hs left f then hoistsG c0 n (hs ++ [(f : Int)]) (bits .andNot .i64 left (2 ^ f)) else []) C, boxI bY 55 [Value.func (.yield l) #[] #[]], boxI bh 22 [vh], boxI bb 53 [Value.func (.func 105) #[] #[.pointer (some ⟨bh, 0, none⟩), .pointer (some pc0), .pointer (some ⟨bY, 0, none⟩), .pointer (some ⟨bb, 0, none⟩)]], ownI vh 3 hs]) ?_ ?_
          · refine W.seq ?_
            refine W.region ?_
            refine O.move (v := .int .i64 (y : Int)) rfl rfl rfl ?_
            refine O.geq rfl rfl rfl rfl ?_
            refine WL.nil ?_
            by_cases h10 : (10 : Int) ≤ (y : Int)
            · refine W.cond_true (congrArg Value.bool (decide_eq_true h10)) ?_
              have hpl : flag_place (y : Int) = some ((y : Int) - 10) := by unfold flag_place; rw [subI_ok (by omega)]; rfl
              by_cases hb : (y : Int) - 10 < (hs.length : Int)
              · obtain ⟨e1, he1⟩ : ∃ e1, idx c0 ((y : Int) - 10) = some e1 := ⟨_, idx_int (by omega) (by omega)⟩
                obtain ⟨p2, hp2, hr2⟩ := fix_indexAddr Tryd.underlying22 sz3 hK.2 he1
                have hfit : (e1 == dg) = hoistsFit c0 hs (y : Int) := by
                  unfold hoistsFit
                  rw [if_pos h10, decide_eq_true hb, he1, hdg, Bool.true_and]; rfl
                refine W.drawN 16 (fun f => f 45 = .bool (e1 == dg) ∧ f 8 = .int .i64 (y : Int) ∧ f 19 = .int .i64 (y : Int) ∧ f 0 = .int .i64 left ∧ f 1 = .pointer (some ⟨bh, 0, none⟩) ∧ f 2 = .pointer (some pc0) ∧ f 3 = .pointer (some ⟨bY, 0, none⟩) ∧ f 4 = .pointer (some ⟨bb, 0, none⟩) ∧ f 7 = .int .i64 (hs.length : Int)) fol (by kernel_rfl) ?_ ?_
                · refine PL.of (fun _ wk _ hx => O.move (v := .int .i64 (y : Int)) rfl rfl rfl (WL.nil ⟨rfl, hx⟩)) ?_
                  refine PL.of (fun _ wk _ hx => O.call Tryd.call62 rfl rfl rfl (c_flag_place _ hpl) (by rintro _ _ hb rfl; exact WL.nil ⟨rfl, hx.trans (hb.mono hx.size)⟩)) ?_
                  refine PL.of (fun _ wk _ hx => O.move (v := .int .i64 (hs.length : Int)) rfl rfl rfl (WL.nil ⟨rfl, hx⟩)) ?_
                  refine PL.of (fun _ wk _ hx => O.lss rfl rfl rfl rfl (WL.nil ⟨rfl, hx⟩)) ?_
                  refine PL.of (fun _ wk _ hx => O.move (v := .bool (decide ((y : Int) - 10 < (hs.length : Int)))) rfl rfl rfl (WL.nil ⟨rfl, hx⟩)) ?_
                  refine PL.reset (i := 34) (v := .bool true) (congrArg Value.bool (decide_eq_true hb)) ?_
                  refine PL.of (fun _ wk _ hx => O.load (q := pc0) (v := vc0) sc22 rfl rfl rfl ((hk _ (InvI.kp (H.ext hx))).1 0 _ rfl) (WL.nil ⟨rfl, hx⟩)) ?_
                  refine PL.of (fun _ wk _ hx => O.move (v := .int .i64 (y : Int)) rfl rfl rfl (WL.nil ⟨rfl, hx⟩)) ?_
                  refine PL.of (fun _ wk _ hx => O.call Tryd.call62 rfl rfl rfl (c_flag_place _ hpl) (by rintro _ _ hb rfl; exact WL.nil ⟨rfl, hx.trans (hb.mono hx.size)⟩)) ?_
                  refine PL.of (fun _ wk _ hx => hr2 rfl rfl rfl rfl (WL.nil ⟨rfl, hx⟩)) ?_
                  refine PL.of (fun _ wk _ hx => O.load sc3 rfl rfl rfl ((hp2.mono hx).flat 0 _ rfl) (WL.nil ⟨rfl, hx⟩)) ?_
                  refine PL.of (fun _ wk _ hx => O.load (q := pc0) (v := vc0) sc22 rfl rfl rfl ((hk _ (InvI.kp (H.ext hx))).1 0 _ rfl) (WL.nil ⟨rfl, hx⟩)) ?_
                  refine PL.of (fun _ wk _ hx => O.move (v := .int .i64 (hs.length : Int)) rfl rfl rfl (WL.nil ⟨rfl, hx⟩)) ?_
                  refine PL.of (fun _ wk _ hx => hr1 rfl rfl rfl rfl (WL.nil ⟨rfl, hx⟩)) ?_
                  refine PL.of (fun _ wk _ hx => O.load sc3 rfl rfl rfl ((hp1.mono hx).flat 0 _ rfl) (WL.nil ⟨rfl, hx⟩)) ?_
                  refine PL.of (fun _ wk _ hx => O.eql rfl rfl rfl rfl (WL.nil ⟨rfl, hx⟩)) ?_
                  refine PL.of (fun _ wk _ hx => O.pick_true (v := .bool (e1 == dg)) rfl rfl rfl rfl (WL.nil ⟨rfl, hx⟩)) ?_
                  exact ⟨rfl, rfl, rfl, rfl, rfl, rfl, rfl, rfl, rfl⟩
                · rintro f wk ⟨hf45, hf8, hf19, hf0, hf1, hf2, hf3, hf4, hf7⟩ _ hx
                  refine O.assign (v := .bool (e1 == dg)) rfl rfl hf45 ?_
                  refine WL.nil ?_
                  exact ⟨rfl, congrArg Value.bool hfit, hf8, hf19, hf0, hf1, hf2, hf3, hf4, hf7, H.ext hx⟩
              · have hfit : false = hoistsFit c0 hs (y : Int) := by
                  unfold hoistsFit
                  rw [if_pos h10, decide_eq_false hb, Bool.false_and]
                refine W.drawN 16 (fun f => f 45 = .bool false ∧ f 8 = .int .i64 (y : Int) ∧ f 19 = .int .i64 (y : Int) ∧ f 0 = .int .i64 left ∧ f 1 = .pointer (some ⟨bh, 0, none⟩) ∧ f 2 = .pointer (some pc0) ∧ f 3 = .pointer (some ⟨bY, 0, none⟩) ∧ f 4 = .pointer (some ⟨bb, 0, none⟩) ∧ f 7 = .int .i64 (hs.length : Int)) fol (by kernel_rfl) ?_ ?_
                · refine PL.of (fun _ wk _ hx => O.move (v := .int .i64 (y : Int)) rfl rfl rfl (WL.nil ⟨rfl, hx⟩)) ?_
                  refine PL.of (fun _ wk _ hx => O.call Tryd.call62 rfl rfl rfl (c_flag_place _ hpl) (by rintro _ _ hb rfl; exact WL.nil ⟨rfl, hx.trans (hb.mono hx.size)⟩)) ?_
                  refine PL.of (fun _ wk _ hx => O.move (v := .int .i64 (hs.length : Int)) rfl rfl rfl (WL.nil ⟨rfl, hx⟩)) ?_
                  refine PL.of (fun _ wk _ hx => O.lss rfl rfl rfl rfl (WL.nil ⟨rfl, hx⟩)) ?_
                  refine PL.of (fun _ wk _ hx => O.move (v := .bool (decide ((y : Int) - 10 < (hs.length : Int)))) rfl rfl rfl (WL.nil ⟨rfl, hx⟩)) ?_
                  refine PL.reset (i := 34) (v := .bool false) (congrArg Value.bool (decide_eq_false hb)) ?_
                  refine PL.of (fun _ wk _ hx => O.skip rfl rfl (WL.nil ⟨rfl, hx⟩)) ?_
                  refine PL.of (fun _ wk _ hx => O.skip rfl rfl (WL.nil ⟨rfl, hx⟩)) ?_
                  refine PL.of (fun _ wk _ hx => O.skip rfl rfl (WL.nil ⟨rfl, hx⟩)) ?_
                  refine PL.of (fun _ wk _ hx => O.skip rfl rfl (WL.nil ⟨rfl, hx⟩)) ?_
                  refine PL.of (fun _ wk _ hx => O.skip rfl rfl (WL.nil ⟨rfl, hx⟩)) ?_
                  refine PL.of (fun _ wk _ hx => O.skip rfl rfl (WL.nil ⟨rfl, hx⟩)) ?_
                  refine PL.of (fun _ wk _ hx => O.skip rfl rfl (WL.nil ⟨rfl, hx⟩)) ?_
                  refine PL.of (fun _ wk _ hx => O.skip rfl rfl (WL.nil ⟨rfl, hx⟩)) ?_
                  refine PL.of (fun _ wk _ hx => O.skip rfl rfl (WL.nil ⟨rfl, hx⟩)) ?_
                  refine PL.of (fun _ wk _ hx => O.skip rfl rfl (WL.nil ⟨rfl, hx⟩)) ?_
                  refine PL.of (fun _ wk _ hx => O.pick_false (v := .bool false) rfl rfl rfl rfl (WL.nil ⟨rfl, hx⟩)) ?_
                  exact ⟨rfl, rfl, rfl, rfl, rfl, rfl, rfl, rfl, rfl⟩
                · rintro f wk ⟨hf45, hf8, hf19, hf0, hf1, hf2, hf3, hf4, hf7⟩ _ hx
                  refine O.assign (v := .bool false) rfl rfl hf45 ?_
                  refine WL.nil ?_
                  exact ⟨rfl, congrArg Value.bool hfit, hf8, hf19, hf0, hf1, hf2, hf3, hf4, hf7, H.ext hx⟩
            · refine W.cond_false (congrArg Value.bool (decide_eq_false h10)) ?_
              refine W.skip ?_
              have hfit : ((y : Int) == dg) = hoistsFit c0 hs (y : Int) := by
                unfold hoistsFit
                rw [if_neg h10, hdg, Bool.eq_iff_iff, beq_iff_eq, beq_iff_eq, Option.some.injEq]
                exact ⟨Eq.symm, Eq.symm⟩
              exact ⟨rfl, congrArg Value.bool hfit, rfl, rfl, rfl, rfl, rfl, rfl, rfl, rfl, H⟩
          · rintro f w ⟨_, hf9, hf8, hf19, hf0, hf1, hf2, hf3, hf4, hf7, H⟩
            obtain ⟨u1, rfl⟩ : ∃ u1, f = (upd (upd (upd (upd (upd (upd (upd (upd (upd u1 9 (.bool (hoistsFit c0 hs (y : Int)))) 8 (.int .i64 (y : Int))) 19 (.int .i64 (y : Int))) 0 (.int .i64 left)) 1 (.pointer (some ⟨bh, 0, none⟩))) 2 (.pointer (some pc0))) 3 (.pointer (some ⟨bY, 0, none⟩))) 4 (.pointer (some ⟨bb, 0, none⟩))) 7 (.int .i64 (hs.length : Int))) :=
              ⟨f, by rw [upd_self hf9, upd_self hf8, upd_self hf19, upd_self hf0, upd_self hf1, upd_self hf2, upd_self hf3, upd_self hf4, upd_self hf7]⟩
            refine W.seq ?_
            refine W.via (fun f w' => f 8 = .int .i64 (y : Int) ∧ hoistsOk c0 hs left y = true ∧ f 19 = .int .i64 (y : Int) ∧ f 0 = .int .i64 left ∧ f 1 = .pointer (some ⟨bh, 0, none⟩) ∧ f 2 = .pointer (some pc0) ∧ f 3 = .pointer (some ⟨bY, 0, none⟩) ∧ f 4 = .pointer (some ⟨bb, 0, none⟩) ∧ f 7 = .int .i64 (hs.length : Int) ∧ w' = w) ?_ ?_
            · have hno : hoistsOk c0 hs left y = false → (pre ++ ((List.range 13).take (y + 1)).flatMap fun f => if hoistsOk c0 hs left f then hoistsG c0 n (hs ++ [(f : Int)]) (bits .andNot .i64 left (2 ^ f)) else []) = (pre ++ ((List.range 13).take y).flatMap fun f => if hoistsOk c0 hs left f then hoistsG c0 n (hs ++ [(f : Int)]) (bits .andNot .i64 left (2 ^ f)) else []) := by
                intro h
                rw [htake, List.flatMap_append]
                simp [h]
              refine W.seq ?_
              refine W.region ?_
              refine O.move (v := .bool (hoistsFit c0 hs (y : Int))) rfl rfl rfl ?_
              refine O.not rfl rfl rfl ?_
              refine O.move (v := .bool (!hoistsFit c0 hs (y : Int))) rfl rfl rfl ?_
              cases hfit : hoistsFit c0 hs (y : Int) with
              | false =>
                refine WL.reset (i := 48) (v := .bool true) rfl ?_
                refine O.skip rfl rfl ?_
                refine O.skip rfl rfl ?_
                refine O.skip rfl rfl ?_
                refine O.skip rfl rfl ?_
                refine O.skip rfl rfl ?_
                refine O.pick_true (v := .bool true) rfl rfl rfl rfl ?_
                refine WL.nil ?_
                refine W.cond_true rfl ?_
                refine W.exit ?_
                refine xT rfl ?_
                have hn : hoistsOk c0 hs left y = false := by unfold hoistsOk; rw [hfit]; rfl
                exact ⟨rfl, rfl, rfl, rfl, rfl, rfl, rfl, C, vh, by rw [hno hn]; exact H⟩
              | true =>
                refine WL.reset (i := 48) (v := .bool false) rfl ?_
                refine O.move (v := .int .i64 left) rfl rfl rfl ?_
                refine O.move (v := .int .i64 (y : Int)) rfl rfl rfl ?_
                refine O.shr (c := left / 2 ^ y) rfl rfl rfl rfl (by unfold shrI; rw [if_pos (by omega), Int.toNat_natCast]) ?_
                refine O.and rfl rfl rfl rfl ?_
                refine O.eql rfl rfl rfl rfl ?_
                refine O.pick_false (v := .bool (bits .and .i64 (left / 2 ^ y) 1 == 0)) rfl rfl rfl rfl ?_
                refine WL.nil ?_
                cases hbit : bits .and .i64 (left / 2 ^ y) 1 == 0 with
                | true =>
                  refine W.cond_true rfl ?_
                  refine W.exit ?_
                  refine xT rfl ?_
                  have hn : hoistsOk c0 hs left y = false := by unfold hoistsOk; rw [hbit]; simp
                  exact ⟨rfl, rfl, rfl, rfl, rfl, rfl, rfl, C, vh, by rw [hno hn]; exact H⟩
                | false =>
                  refine W.cond_false rfl ?_
                  refine W.skip ?_
                  have hn : hoistsOk c0 hs left y = true := by unfold hoistsOk; rw [hbit, hfit]; rfl
                  exact ⟨rfl, hn, rfl, rfl, rfl, rfl, rfl, rfl, rfl, rfl⟩
            · rintro f w' ⟨hf8, hok, hf19, hf0, hf1, hf2, hf3, hf4, hf7, rfl⟩
              obtain ⟨u1, rfl⟩ : ∃ u1, f = (upd (upd (upd (upd (upd (upd (upd (upd u1 8 (.int .i64 (y : Int))) 19 (.int .i64 (y : Int))) 0 (.int .i64 left)) 1 (.pointer (some ⟨bh, 0, none⟩))) 2 (.pointer (some pc0))) 3 (.pointer (some ⟨bY, 0, none⟩))) 4 (.pointer (some ⟨bb, 0, none⟩))) 7 (.int .i64 (hs.length : Int))) :=
                ⟨f, by rw [upd_self hf8, upd_self hf19, upd_self hf0, upd_self hf1, upd_self hf2, upd_self hf3, upd_self hf4, upd_self hf7]⟩
              have hyes : (pre ++ ((List.range 13).take (y + 1)).flatMap fun f => if hoistsOk c0 hs left f then hoistsG c0 n (hs ++ [(f : Int)]) (bits .andNot .i64 left (2 ^ f)) else []) = (pre ++ ((List.range 13).take y).flatMap fun f => if hoistsOk c0 hs left f then hoistsG c0 n (hs ++ [(f : Int)]) (bits .andNot .i64 left (2 ^ f)) else []) ++ hoistsG c0 n (hs ++ [(y : Int)]) (bits .andNot .i64 left (2 ^ y)) := by
                rw [htake, List.flatMap_append, List.append_assoc]
                simp [hok]
              refine W.seq ?_
              refine W.region ?_
              refine O.load (q := ⟨bh, 0, none⟩) (v := vh) sc22 rfl rfl rfl (H.cell 2 rfl 0 _ rfl) ?_
              refine O.move (v := .int .i64 (y : Int)) rfl rfl rfl ?_
              refine O.buildSlice (α := Int) [.int .i64 (y : Int)] [(y : Int)] Tryd.underlying22 el3 H rfl rfl rfl rfl rfl rfl rfl ?_
              intro v1 w1 H hb1
              refine O.append 4 (zs := hs ++ [(y : Int)]) Tryd.underlying22 el3 rfl H rfl (H.own 5 rfl) (appI_ok (by simp; omega)) rfl rfl rfl rfl ?_
              intro v2 w2 H
              refine O.store 2 0 [v2] [v2] sz22 H rfl rfl rfl rfl rfl (SliceR.cells1 (H.own 4 rfl)) ⟨⟨rfl, rfl⟩, rfl⟩ (one_cons (SliceR.one (H.own 4 rfl)) one_nil) ?_
              intro w3 H
              refine WL.nil ?_
              have H := H.pick [0, 1, 2, 3, 4] [consI hc (pre ++ ((List.range 13).take y).flatMap fun f => if hoistsOk c0 hs left f then hoistsG c0 n (hs ++ [(f : Int)]) (bits .andNot .i64 left (2 ^ f)) else []) C, boxI bY 55 [Value.func (.yield l) #[] #[]], boxI bh 22 [v2], boxI bb 53 [Value.func (.func 105) #[] #[.pointer (some ⟨bh, 0, none⟩), .pointer (some pc0), .pointer (some ⟨bY, 0, none⟩), .pointer (some ⟨bb, 0, none⟩)]], ownI v2 3 (hs ++ [(y : Int)])] rfl (by decide)
              refine W.seq ?_
              refine W.seq ?_
              refine W.drawN 5 (fun f => f 59 = Value.func (.func 105) #[] #[.pointer (some ⟨bh, 0, none⟩), .pointer (some pc0), .pointer (some ⟨bY, 0, none⟩), .pointer (some ⟨bb, 0, none⟩)] ∧ f 63 = .int .i64 (bits .andNot .i64 left (2 ^ y)) ∧ f 19 = .int .i64 (y : Int) ∧ f 0 = .int .i64 left ∧ f 1 = .pointer (some ⟨bh, 0, none⟩) ∧ f 2 = .pointer (some pc0) ∧ f 3 = .pointer (some ⟨bY, 0, none⟩) ∧ f 4 = .pointer (some ⟨bb, 0, none⟩) ∧ f 7 = .int .i64 (hs.length : Int)) fol (by kernel_rfl) ?_ ?_
              · refine PL.of (fun _ wk _ hx => O.load (q := ⟨bb, 0, none⟩) (v := Value.func (.func 105) #[] #[.pointer (some ⟨bh, 0, none⟩), .pointer (some pc0), .pointer (some ⟨bY, 0, none⟩), .pointer (some ⟨bb, 0, none⟩)]) sc53 rfl rfl rfl ((H.ext hx).cell 3 rfl 0 _ rfl) (WL.nil ⟨rfl, hx⟩)) ?_
                refine PL.of (fun _ wk _ hx => O.move (v := .int .i64 left) rfl rfl rfl (WL.nil ⟨rfl, hx⟩)) ?_
                refine PL.of (fun _ wk _ hx => O.move (v := .int .i64 (y : Int)) rfl rfl rfl (WL.nil ⟨rfl, hx⟩)) ?_
                refine PL.of (fun _ wk _ hx => O.shl (c := 2 ^ y) rfl rfl rfl rfl (shl1_flag h13) (WL.nil ⟨rfl, hx⟩)) ?_
                refine PL.of (fun _ wk _ hx => O.andNot rfl rfl rfl rfl (WL.nil ⟨rfl, hx⟩)) ?_
                exact ⟨rfl, rfl, rfl, rfl, rfl, rfl, rfl, rfl, rfl⟩
              · rintro f w4 ⟨hf59, hf63, hf19, hf0, hf1, hf2, hf3, hf4, hf7⟩ _ hx
                obtain ⟨u1, rfl⟩ : ∃ u1, f = (upd (upd (upd (upd (upd (upd (upd (upd (upd u1 59 (Value.func (.func 105) #[] #[.pointer (some ⟨bh, 0, none⟩), .pointer (some pc0), .pointer (some ⟨bY, 0, none⟩), .pointer (some ⟨bb, 0, none⟩)])) 63 (.int .i64 (bits .andNot .i64 left (2 ^ y)))) 19 (.int .i64 (y : Int))) 0 (.int .i64 left)) 1 (.pointer (some ⟨bh, 0, none⟩))) 2 (.pointer (some pc0))) 3 (.pointer (some ⟨bY, 0, none⟩))) 4 (.pointer (some ⟨bb, 0, none⟩))) 7 (.int .i64 (hs.length : Int))) :=
                  ⟨f, by rw [upd_self hf59, upd_self hf63, upd_self hf19, upd_self hf0, upd_self hf1, upd_self hf2, upd_self hf3, upd_self hf4, upd_self hf7]⟩
                have H := H.ext hx
                have hrest : ∃ rest, (pre ++ ((List.range 13).take y).flatMap fun f => if hoistsOk c0 hs left f then hoistsG c0 n (hs ++ [(f : Int)]) (bits .andNot .i64 left (2 ^ f)) else []) ++ hoistsG c0 n (hs ++ [(y : Int)]) (bits .andNot .i64 left (2 ^ y)) ++ rest = r := by
                  obtain ⟨rest, hr⟩ := hr
                  refine ⟨((List.range 13).drop (y + 1)).flatMap (fun f => if hoistsOk c0 hs left f then hoistsG c0 n (hs ++ [(f : Int)]) (bits .andNot .i64 left (2 ^ f)) else []) ++ rest, ?_⟩
                  rw [← hyes, ← hr, hoistsG, List.append_assoc, ← List.append_assoc (List.flatMap _ _), ← List.flatMap_append, List.take_append_drop, List.append_assoc]
                refine O.callG rfl rfl rfl rfl (callsV_mk (args := [.int .i64 (bits .andNot .i64 left (2 ^ y))]) Tryd.call105 (ih _ C w4 v2 (hs ++ [(y : Int)]) _ H (by simp; omega) hrest)) ?_
                rintro u w5 (⟨rfl, C', vh', H⟩ | ⟨rfl, C', H⟩)
                · refine O.not rfl rfl rfl ?_
                  refine WL.nil ?_
                  refine W.cond_false rfl ?_
                  refine W.skip ?_
                  refine W.region ?_
                  refine O.load (q := ⟨bh, 0, none⟩) (v := vh') sc22 rfl rfl rfl (H.cell 2 rfl 0 _ rfl) ?_
                  refine O.move (v := .int .i64 (hs.length : Int)) rfl rfl rfl ?_
                  refine O.sliceOwn 4 (ys := hs) Tryd.underlying22 sz3 H rfl (by unfold preI; rw [if_pos (by simp; omega)]; simp) rfl rfl rfl rfl ?_
                  intro v3 H
                  refine O.store 2 0 [v3] [v3] sz22 H rfl rfl rfl rfl rfl (SliceR.cells1 (H.own 4 rfl)) ⟨⟨rfl, rfl⟩, rfl⟩ (one_cons (SliceR.one (H.own 4 rfl)) one_nil) ?_
                  intro w6 H
                  refine WL.nil ?_
                  exact ⟨rfl, rfl, rfl, rfl, rfl, rfl, rfl, C', v3, by rw [hyes]; exact H⟩
                · refine O.not rfl rfl rfl ?_
                  refine WL.nil ?_
                  refine W.cond_true rfl ?_
                  refine W.seq ?_
                  refine W.region ?_
                  refine O.assign (v := .bool false) rfl rfl rfl ?_
                  refine WL.nil ?_
                  refine W.ret ?_
                  exact ends1 Tryd.results105 rfl ⟨_, rfl, .inr ⟨rfl, C', H⟩⟩
        · rintro f w ⟨hf19, hf0, hf1, hf2, hf3, hf4, hf7, C', vh', H⟩
          obtain ⟨u1, rfl⟩ : ∃ u1, f = (upd (upd (upd (upd (upd (upd (upd u1 19 (.int .i64 (y : Int))) 0 (.int .i64 left)) 1 (.pointer (some ⟨bh, 0, none⟩))) 2 (.pointer (some pc0))) 3 (.pointer (some ⟨bY, 0, none⟩))) 4 (.pointer (some ⟨bb, 0, none⟩))) 7 (.int .i64 (hs.length : Int))) :=
            ⟨f, by rw [upd_self hf19, upd_self hf0, upd_self hf1, upd_self hf2, upd_self hf3, upd_self hf4, upd_self hf7]⟩
          refine W.region ?_
          refine O.add rfl rfl rfl rfl hinc ?_
          refine O.move (v := .int .i64 ((y : Int) + 1)) rfl rfl rfl ?_
          refine WL.nil ?_
          exact ⟨y + 1, drop_next hd, rfl, rfl, rfl, rfl, rfl, rfl, rfl, C', vh', H⟩
      · rintro f w ⟨ik, hd, hf19, hf0, hf1, hf2, hf3, hf4, hf7, C, vh, H⟩
        have h13 : 13 ≤ ik := by have := List.drop_eq_nil_iff.1 hd; simpa using this
        obtain ⟨u1, rfl⟩ : ∃ u1, f = (upd (upd u1 19 (.int .i64 (ik : Int))) 7 (.int .i64 (hs.length : Int))) := ⟨f, by rw [upd_self hf19, upd_self hf7]⟩
        refine W.seq ?_
        refine W.region ?_
        refine O.lss rfl rfl rfl rfl ?_
        refine WL.nil ?_
        refine W.seq ?_
        refine W.cond_false (congrArg Value.bool (decide_eq_false (by omega))) ?_
        refine W.exit ?_
        refine xT rfl ?_
        refine ⟨rfl, C, vh, ?_⟩
        rw [List.take_of_length_le (by simpa using h13)] at H
        rw [hoistsG]
        exact H
    · rintro f w ⟨hf7, C', vh', H⟩
      refine W.seq ?_
      refine W.region ?_
      refine O.assign (v := .bool true) rfl rfl rfl ?_
      refine WL.nil ?_
      refine W.ret ?_
      exact ends1 Tryd.results105 rfl ⟨_, rfl, .inl ⟨rfl, C', vh', H⟩⟩
theorem it_flag_hoists_c1 {wi : World} {Kp : World → Prop} (pc0 : Addr) (vc0 : Value) (c0 : List Int) (pc1 : Addr) (c1 : Int) {r : List (List Int)} (hm : flag_hoists_c1 c0 c1 = some r)
    (hk : ∀ w, Kp w → (∀ j c, [vc0][j]? = some c → w.cell? (pc0.add j) = some c) ∧ SliceR w vc0 c0 ∧ (∀ j c, (Flat.cells c1)[j]? = some c → w.cell? (pc1.add j) = some c)) :
    IterAt Tryd.prog 104 #[.pointer (some pc0), .pointer (some pc1)] repS (fun ys => ys = r) Kp wi := by
  unfold flag_hoists_c1 at hm
  split at hm
  case isFalse => cases hm
  rename_i hlen
  obtain rfl := Option.some.inj hm
  intro l J Jx hc h0
  refine calls_of_W Tryd.func104 rfl Tryd.ntmps104 (Nat.le_of_ble_eq_true rfl) ?_
  have H := InvI.start hc h0
  refine W.seq ?_
  refine W.region ?_
  refine O.box [Value.func (.yield l) #[] #[]] H rfl rfl rfl rfl ?_
  intro bY w1 H hb1
  refine WL.nil ?_
  refine W.seq ?_
  refine W.region ?_
  refine O.alloc [Value.slice none 0 0] ze22 H rfl rfl rfl ?_
  intro bh w2 H hb2
  refine WL.nil ?_
  refine W.seq ?_
  refine W.region ?_
  refine O.alloc [Value.nilFunc] ze53 H rfl rfl rfl ?_
  intro bb w3 H hb3
  refine WL.nil ?_
  have H := H.addNil (α := Int) (E := 3)
  refine W.seq ?_
  refine W.region ?_
  refine O.makeFunc rfl rfl rfl rfl ?_
  refine O.store 3 0 [Value.func (.func 105) #[] #[.pointer (some ⟨bh, 0, none⟩), .pointer (some pc0), .pointer (some ⟨bY, 0, none⟩), .pointer (some ⟨bb, 0, none⟩)]] [Value.func (.func 105) #[] #[.pointer (some ⟨bh, 0, none⟩), .pointer (some pc0), .pointer (some ⟨bY, 0, none⟩), .pointer (some ⟨bb, 0, none⟩)]] sz53 H rfl rfl rfl rfl rfl rfl ⟨⟨rfl, rfl⟩, rfl⟩ (one_cons rfl one_nil) ?_
  intro w4 H
  refine WL.nil ?_
  have hK := hk _ (InvI.kp H)
  refine W.region ?_
  refine O.load (q := ⟨bb, 0, none⟩) (v := Value.func (.func 105) #[] #[.pointer (some ⟨bh, 0, none⟩), .pointer (some pc0), .pointer (some ⟨bY, 0, none⟩), .pointer (some ⟨bb, 0, none⟩)]) sc53 rfl rfl rfl (H.cell 3 rfl 0 _ rfl) ?_
  refine O.load (q := pc1) (v := .int .i64 c1) sc3 rfl rfl rfl (hK.2.2 0 _ rfl) ?_
  refine O.callG rfl rfl rfl rfl (callsV_mk (args := [.int .i64 c1]) Tryd.call105 (c_flag_build hc (fun w h => ⟨(hk w h).1, (hk w h).2.1⟩) hlen c0.length [] _ w4 _ [] c1 H (by simp) ⟨[], by simp⟩)) ?_
  rintro u w5 (⟨rfl, C', vh', H⟩ | ⟨rfl, C', H⟩)
  · refine WL.nil ?_
    refine ends0 Tryd.results104 ⟨_, C', rfl, .inl ⟨_, rfl, ?_⟩⟩
    exact (H.items _ (List.mem_cons_self ..)).1
  · refine WL.nil ?_
    exact ends0 Tryd.results104 ⟨_, C', rfl, .inr (H.items _ (List.mem_cons_self ..)).1⟩

theorem c_flag_hoists {w0 : World} (va0 : Value) (a0 : (List Int)) (ha0 : SliceR w0 va0 a0) (a1 : Int) :
    Calls Tryd.prog 89 #[va0, (.int .i64 a1)] w0 (Ret w0 fun w v => ∃ b1 : Nat, ∃ b2 : Nat, v = (.func (.func 104) #[] #[(.pointer (some ⟨b1, 0, none⟩)), (.pointer (some ⟨b2, 0, none⟩))]) ∧ Inv w0 w [boxI b1 22 [va0], boxI b2 3 [(.int .i64 a1)]]) := by
  refine calls_of_W Tryd.func89 rfl Tryd.ntmps89 (Nat.le_of_ble_eq_true rfl) ?_
  have H := Inv.start (w := w0)
  refine W.seq ?_
  refine W.region ?_
  refine O.box [va0] H rfl rfl rfl (SliceR.cells1 (H.arg ha0)) ?_
  intro b1 w1 H hb1
  refine O.box [(.int .i64 a1)] H rfl rfl rfl rfl ?_
  intro b2 w2 H hb2
  refine O.assign (v := .nilFunc) rfl rfl rfl ?_
  refine WL.nil ?_
  refine W.seq ?_
  refine W.region ?_
  refine O.makeFunc rfl rfl rfl rfl ?_
  refine O.assign (v := (.func (.func 104) #[] #[(.pointer (some ⟨b1, 0, none⟩)), (.pointer (some ⟨b2, 0, none⟩))])) rfl rfl rfl ?_
  refine WL.nil ?_
  refine W.ret ?_
  exact ends1 Tryd.results89 rfl ⟨_, rfl, H.base, ⟨_, _, rfl, H.pick [0, 1] [boxI b1 22 [va0], boxI b2 3 [(.int .i64 a1)]] rfl (by decide)⟩⟩

theorem c_flag_can {w0 : World} (va0 : Value) (a0 : (List Int)) (ha0 : SliceR w0 va0 a0) (a1 : Int) {r0 : Bool} (hm : flag_can a0 a1 = some r0) :
    Calls Tryd.prog 73 #[va0, (.int .i64 a1)] w0 (Ret w0 fun _ v => v = (.bool r0)) := by
  unfold flag_can at hm
  refine calls_of_WM Tryd.func73 rfl Tryd.ntmps73 (Nat.le_of_ble_eq_true rfl) ?_
  have H := Inv.startM (w0 := w0)
  have hmk : (fr0 #[va0, (.int .i64 a1)]).marks = [] := rfl
  refine W.seq ?_
  refine W.region ?_
  refine O.alloc [(.bool false)] ze4 H rfl rfl rfl ?_
  intro b1 w1 H hb1
  refine WL.nil ?_
  refine W.seq ?_
  refine W.seq ?_
  refine W.region ?_
  refine O.move (v := va0) rfl rfl rfl ?_
  refine O.move (v := (.int .i64 a1)) rfl rfl rfl ?_
  refine O.call Tryd.call89 rfl rfl rfl (c_flag_hoists _ _ (H.arg ha0) _) ?_
  rintro _ w2 hb2 ⟨b2, b3, rfl, hM1⟩
  have H := H.addAll hb2 hM1
  refine WL.nil ?_
  obtain ⟨xs1, hxs1, hm⟩ := bind_some hm
  obtain ⟨o1, hm1, hm⟩ := bind_some hm
  refine W.via (fun f w => ∃ ms1 : List Nat, o1 = .next () ∧ f 4 = (.pointer (some ⟨b1, 0, none⟩)) ∧ f.marks = ms1 ∧ Inv w0 w [marksI ms1, boxI b1 4 [(.bool false)]]) ?_ ?_
  · skip
    refine W.block ?_
    refine W.rangeFuncL (α := (List Int)) (σ := Unit) (X := Ctl (Unit) (Bool)) (xs := xs1) (rep := repS) hm1 (fun s L => () = s ∧ L = [boxI b1 4 [(.bool false)], boxI b2 22 [va0], boxI b3 3 [(.int .i64 a1)]]) (fun y j L => match j with | some j => j = 0 ∧ (False) | none => ∃ q1 : Bool, y = Ctl.ret q1 ∧ L = [boxI b1 4 [(.bool q1)]]) rfl Tryd.call104 rfl (fun _ _ _ h => by obtain ⟨_, rfl, _⟩ := h; rfl) (fun Kp W hs hk => it_flag_hoists_c1 _ _ a0 _ a1 hxs1 fun w1 hw => by obtain ⟨_, _, _, _, ⟨_, rfl⟩, H⟩ := hk w1 hw; exact ⟨H.cell 4 rfl, (H.arg ha0), H.cell 5 rfl⟩) H ⟨rfl, rfl⟩ ?_ ?_ ?_ ?_
    · skip
      rintro _ rs lp lp2 iz x1 _ st _ w _ ⟨rfl, rfl⟩ ⟨vx1, rfl, hsx1⟩ hm2 H
      change W _ _ _ _ _ _ _ (upd _ 8 vx1) w
      refine W.skip ?_
      refine ⟨_, H, fun w hsl H => ?_⟩
      have hsx1 := hsl _ _ hsx1
      refine W.block ?_
      refine W.seq ?_
      refine W.region ?_
      refine O.store 3 0 [(.bool true)] [(.bool true)] sz4 H rfl rfl rfl rfl rfl rfl ⟨⟨rfl, rfl⟩, rfl⟩ (one_cons rfl one_nil) ?_
      intro w3 H
      clear hsx1
      refine WL.nil ?_
      refine W.ret ?_
      have H := H.keep [0, 1, 2, 3] [rs, lp2, marksI [], boxI b1 4 [(.bool true)]] rfl (by decide)
      obtain rfl := Option.some.inj hm2
      refine ⟨_, rfl, fun _ => ⟨_, ⟨_, rfl, rfl⟩, H⟩⟩
    · skip
      rintro D1 _ _ w ⟨rfl, rfl⟩ hfin H
      obtain rfl : Ctl.next () = o1 := hfin
      have H := H.keep [0, 1] [marksI (D1 :: []), boxI b1 4 [(.bool false)]] rfl (by decide)
      have hmk := congrArg (D1 :: ·) hmk
      exact ⟨_, rfl, rfl, hmk, H⟩
    · skip
      rintro _ _ _ _ ⟨_, h⟩; exact h.elim
    · skip
      rintro D1 _ w ⟨q1, hy, rfl⟩ H
      subst hy
      have hmk := congrArg (D1 :: ·) hmk
      refine endsM_mk H hmk ?_
      intro w H _
      have hq : q1 = r0 := Option.some.inj (show some q1 = some r0 from hm)
      subst hq
      exact ends1 Tryd.results73 ⟨_, rfl, run_loadVar_scalar sc4 (H.cell 1 rfl 0 _ rfl)⟩ ⟨_, rfl, H.base, rfl⟩
  · skip
    rintro f w ⟨ms1, rfl, hf4, hmk, H⟩
    obtain ⟨u1, rfl⟩ : ∃ u1, f = (upd u1 4 (.pointer (some ⟨b1, 0, none⟩))) := ⟨f, by rw [upd_self hf4]⟩
    refine W.seq ?_
    refine W.region ?_
    refine O.store 1 0 [(.bool false)] [(.bool false)] sz4 H rfl rfl rfl rfl rfl rfl ⟨⟨rfl, rfl⟩, rfl⟩ (one_cons rfl one_nil) ?_
    intro w4 H
    refine WL.nil ?_
    refine W.ret ?_
    refine endsM_mk H hmk ?_
    intro w H _
    have hq : false = r0 := Option.some.inj (show some false = some r0 from hm)
    subst hq
    exact ends1 Tryd.results73 ⟨_, rfl, run_loadVar_scalar sc4 (H.cell 1 rfl 0 _ rfl)⟩ ⟨_, rfl, H.base, rfl⟩

theorem c_cmp_isNaN_int {w0 : World} (a0 : Int) {r0 : Bool} (hm : cmp_isNaN_int a0 = some r0) :
    Calls Tryd.prog 92 #[(.int .i64 a0)] w0 (Ret w0 fun _ v => v = (.bool r0)) := by
  unfold cmp_isNaN_int at hm
  refine calls_of_W Tryd.func92 rfl Tryd.ntmps92 (Nat.le_of_ble_eq_true rfl) ?_
  have H := Inv.start (w := w0)
  refine W.seq ?_
  refine W.region ?_
  refine O.assign (v := (.bool false)) rfl rfl rfl ?_
  refine WL.nil ?_
  refine W.seq ?_
  refine W.region ?_
  refine O.move (v := (.int .i64 a0)) rfl rfl rfl ?_
  refine O.move (v := (.int .i64 a0)) rfl rfl rfl ?_
  refine O.neq rfl rfl rfl rfl ?_
  refine O.assign (v := (.bool (a0 != a0))) rfl rfl rfl ?_
  refine WL.nil ?_
  refine W.ret ?_
  have hq : (a0 != a0) = r0 := Option.some.inj (show some (a0 != a0) = some r0 from hm)
  subst hq
  exact ends1 Tryd.results92 rfl ⟨_, rfl, H.base, rfl⟩

set_option maxRecDepth 20000 in
theorem c_cmp_Compare_int {w0 : World} (a0 : Int) (a1 : Int) {r0 : Int} (hm : cmp_Compare_int a0 a1 = some r0) :
    Calls Tryd.prog 75 #[(.int .i64 a0), (.int .i64 a1)] w0 (Ret w0 fun _ v => v = (.int .i64 r0)) := by
  unfold cmp_Compare_int at hm
  refine calls_of_W Tryd.func75 rfl Tryd.ntmps75 (Nat.le_of_ble_eq_true rfl) ?_
  have H := Inv.start (w := w0)
  refine W.seq ?_
  refine W.region ?_
  refine O.assign (v := (.int .i64 0)) rfl rfl rfl ?_
  refine WL.nil ?_
  refine W.seq ?_
  refine W.region ?_
  refine O.move (v := (.int .i64 a0)) rfl rfl rfl ?_
  obtain ⟨t1, hy1, hm⟩ := bind_some hm
  refine O.call Tryd.call92 rfl rfl rfl (c_cmp_isNaN_int _ hy1) ?_
  rintro _ w1 hb1 rfl
  have H := H.ext hb1
  refine O.assign (v := (.bool t1)) rfl rfl rfl ?_
  refine WL.nil ?_
  refine W.seq ?_
  refine W.region ?_
  refine O.move (v := (.int .i64 a1)) rfl rfl rfl ?_
  obtain ⟨t2, hy2, hm⟩ := bind_some hm
  refine O.call Tryd.call92 rfl rfl rfl (c_cmp_isNaN_int _ hy2) ?_
  rintro _ w2 hb2 rfl
  have H := H.ext hb2
  refine O.assign (v := (.bool t2)) rfl rfl rfl ?_
  refine WL.nil ?_
  refine W.seq ?_
  refine W.seq ?_
  refine W.region ?_
  refine O.move (v := (.bool t1)) rfl rfl rfl ?_
  refine WL.nil ?_
  rcases ite_some hm with ⟨hc1, hm⟩ | ⟨hc1, hm⟩
  · refine W.cond_true (congrArg Value.bool hc1) ?_
    refine W.seq ?_
    refine W.seq ?_
    refine W.region ?_
    refine O.move (v := (.bool t2)) rfl rfl rfl ?_
    refine WL.nil ?_
    rcases ite_some hm with ⟨hc2, hm⟩ | ⟨hc2, hm⟩
    · refine W.cond_true (congrArg Value.bool hc2) ?_
      refine W.seq ?_
      refine W.region ?_
      refine O.assign (v := (.int .i64 0)) rfl rfl rfl ?_
      refine WL.nil ?_
      refine W.ret ?_
      have hq : 0 = r0 := Option.some.inj (show some 0 = some r0 from hm)
      subst hq
      exact ends1 Tryd.results75 rfl ⟨_, rfl, H.base, rfl⟩
    · refine W.cond_false (congrArg Value.bool hc2) ?_
      refine W.skip ?_
      refine W.seq ?_
      refine W.region ?_
      refine O.assign (v := (.int .i64 (-1))) rfl rfl rfl ?_
      refine WL.nil ?_
      refine W.ret ?_
      have hq : (-1) = r0 := Option.some.inj (show some (-1) = some r0 from hm)
      subst hq
      exact ends1 Tryd.results75 rfl ⟨_, rfl, H.base, rfl⟩
  · refine W.cond_false (congrArg Value.bool hc1) ?_
    refine W.skip ?_
    refine W.seq ?_
    refine W.seq ?_
    refine W.region ?_
    refine O.move (v := (.bool t2)) rfl rfl rfl ?_
    refine WL.nil ?_
    rcases ite_some hm with ⟨hc3, hm⟩ | ⟨hc3, hm⟩
    · refine W.cond_true (congrArg Value.bool hc3) ?_
      refine W.seq ?_
      refine W.region ?_
      refine O.assign (v := (.int .i64 1)) rfl rfl rfl ?_
      refine WL.nil ?_
      refine W.ret ?_
      have hq : 1 = r0 := Option.some.inj (show some 1 = some r0 from hm)
      subst hq
      exact ends1 Tryd.results75 rfl ⟨_, rfl, H.base, rfl⟩
    · refine W.cond_false (congrArg Value.bool hc3) ?_
      refine W.skip ?_
      refine W.seq ?_
      refine W.seq ?_
      refine W.region ?_
      refine O.move (v := (.int .i64 a0)) rfl rfl rfl ?_
      refine O.move (v := (.int .i64 a1)) rfl rfl rfl ?_
      refine O.lss rfl rfl rfl rfl ?_
      refine WL.nil ?_
      rcases ite_some hm with ⟨hc4, hm⟩ | ⟨hc4, hm⟩
      · refine W.cond_true (congrArg Value.bool hc4) ?_
        refine W.seq ?_
        refine W.region ?_
        refine O.assign (v := (.int .i64 (-1))) rfl rfl rfl ?_
        refine WL.nil ?_
        refine W.ret ?_
        have hq : (-1) = r0 := Option.some.inj (show some (-1) = some r0 from hm)
        subst hq
        exact ends1 Tryd.results75 rfl ⟨_, rfl, H.base, rfl⟩
      · refine W.cond_false (congrArg Value.bool hc4) ?_
        refine W.skip ?_
        refine W.seq ?_
        refine W.seq ?_
        refine W.region ?_
        refine O.move (v := (.int .i64 a0)) rfl rfl rfl ?_
        refine O.move (v := (.int .i64 a1)) rfl rfl rfl ?_
        refine O.gtr rfl rfl rfl rfl ?_
        refine WL.nil ?_
        rcases ite_some hm with ⟨hc5, hm⟩ | ⟨hc5, hm⟩
        · refine W.cond_true (congrArg Value.bool hc5) ?_
          refine W.seq ?_
          refine W.region ?_
          refine O.assign (v := (.int .i64 1)) rfl rfl rfl ?_
          refine WL.nil ?_
          refine W.ret ?_
          have hq : 1 = r0 := Option.some.inj (show some 1 = some r0 from hm)
          subst hq
          exact ends1 Tryd.results75 rfl ⟨_, rfl, H.base, rfl⟩
        · refine W.cond_false (congrArg Value.bool hc5) ?_
          refine W.skip ?_
          refine W.seq ?_
          refine W.region ?_
          refine O.assign (v := (.int .i64 0)) rfl rfl rfl ?_
          refine WL.nil ?_
          refine W.ret ?_
          have hq : 0 = r0 := Option.some.inj (show some 0 = some r0 from hm)
          subst hq
          exact ends1 Tryd.results75 rfl ⟨_, rfl, H.base, rfl⟩

theorem g_cmp_isNaN_int {w0 : World} (a0 : Int) {r0 : Bool} (hm : cmp_isNaN_int a0 = some r0) :
    Calls Tryd.prog 92 #[(.int .i64 a0)] w0 (Ret w0 fun w v => v = (.bool r0) ∧ GrewQ w0 w) := by
  unfold cmp_isNaN_int at hm
  refine calls_of_W Tryd.func92 rfl Tryd.ntmps92 (Nat.le_of_ble_eq_true rfl) ?_
  have H := GInv.start (w := w0)
  refine W.seq ?_
  refine W.region ?_
  refine O.assign (v := (.bool false)) rfl rfl rfl ?_
  refine WL.nil ?_
  refine W.seq ?_
  refine W.region ?_
  refine O.move (v := (.int .i64 a0)) rfl rfl rfl ?_
  refine O.move (v := (.int .i64 a0)) rfl rfl rfl ?_
  refine O.neq rfl rfl rfl rfl ?_
  refine O.assign (v := (.bool (a0 != a0))) rfl rfl rfl ?_
  refine WL.nil ?_
  refine W.ret ?_
  have hq : (a0 != a0) = r0 := Option.some.inj (show some (a0 != a0) = some r0 from hm)
  subst hq
  exact ends1 Tryd.results92 rfl ⟨_, rfl, H.base, rfl, H.g⟩

set_option maxRecDepth 20000 in
theorem g_cmp_Compare_int {w0 : World} (a0 : Int) (a1 : Int) {r0 : Int} (hm : cmp_Compare_int a0 a1 = some r0) :
    Calls Tryd.prog 75 #[(.int .i64 a0), (.int .i64 a1)] w0 (Ret w0 fun w v => v = (.int .i64 r0) ∧ GrewQ w0 w) := by
  unfold cmp_Compare_int at hm
  refine calls_of_W Tryd.func75 rfl Tryd.ntmps75 (Nat.le_of_ble_eq_true rfl) ?_
  have H := GInv.start (w := w0)
  refine W.seq ?_
  refine W.region ?_
  refine O.assign (v := (.int .i64 0)) rfl rfl rfl ?_
  refine WL.nil ?_
  refine W.seq ?_
  refine W.region ?_
  refine O.move (v := (.int .i64 a0)) rfl rfl rfl ?_
  obtain ⟨t1, hy1, hm⟩ := bind_some hm
  refine O.call Tryd.call92 rfl rfl rfl (g_cmp_isNaN_int _ hy1) ?_
  rintro _ w1 hb1 ⟨rfl, hghb1⟩
  have H := H.ext hghb1
  refine O.assign (v := (.bool t1)) rfl rfl rfl ?_
  refine WL.nil ?_
  refine W.seq ?_
  refine W.region ?_
  refine O.move (v := (.int .i64 a1)) rfl rfl rfl ?_
  obtain ⟨t2, hy2, hm⟩ := bind_some hm
  refine O.call Tryd.call92 rfl rfl rfl (g_cmp_isNaN_int _ hy2) ?_
  rintro _ w2 hb2 ⟨rfl, hghb2⟩
  have H := H.ext hghb2
  refine O.assign (v := (.bool t2)) rfl rfl rfl ?_
  refine WL.nil ?_
  refine W.seq ?_
  refine W.seq ?_
  refine W.region ?_
  refine O.move (v := (.bool t1)) rfl rfl rfl ?_
  refine WL.nil ?_
  rcases ite_some hm with ⟨hc1, hm⟩ | ⟨hc1, hm⟩
  · refine W.cond_true (congrArg Value.bool hc1) ?_
    refine W.seq ?_
    refine W.seq ?_
    refine W.region ?_
    refine O.move (v := (.bool t2)) rfl rfl rfl ?_
    refine WL.nil ?_
    rcases ite_some hm with ⟨hc2, hm⟩ | ⟨hc2, hm⟩
    · refine W.cond_true (congrArg Value.bool hc2) ?_
      refine W.seq ?_
      refine W.region ?_
      refine O.assign (v := (.int .i64 0)) rfl rfl rfl ?_
      refine WL.nil ?_
      refine W.ret ?_
      have hq : 0 = r0 := Option.some.inj (show some 0 = some r0 from hm)
      subst hq
      exact ends1 Tryd.results75 rfl ⟨_, rfl, H.base, rfl, H.g⟩
    · refine W.cond_false (congrArg Value.bool hc2) ?_
      refine W.skip ?_
      refine W.seq ?_
      refine W.region ?_
      refine O.assign (v := (.int .i64 (-1))) rfl rfl rfl ?_
      refine WL.nil ?_
      refine W.ret ?_
      have hq : (-1) = r0 := Option.some.inj (show some (-1) = some r0 from hm)
      subst hq
      exact ends1 Tryd.results75 rfl ⟨_, rfl, H.base, rfl, H.g⟩
  · refine W.cond_false (congrArg Value.bool hc1) ?_
    refine W.skip ?_
    refine W.seq ?_
    refine W.seq ?_
    refine W.region ?_
    refine O.move (v := (.bool t2)) rfl rfl rfl ?_
    refine WL.nil ?_
    rcases ite_some hm with ⟨hc3, hm⟩ | ⟨hc3, hm⟩
    · refine W.cond_true (congrArg Value.bool hc3) ?_
      refine W.seq ?_
      refine W.region ?_
      refine O.assign (v := (.int .i64 1)) rfl rfl rfl ?_
      refine WL.nil ?_
      refine W.ret ?_
      have hq : 1 = r0 := Option.some.inj (show some 1 = some r0 from hm)
      subst hq
      exact ends1 Tryd.results75 rfl ⟨_, rfl, H.base, rfl, H.g⟩
    · refine W.cond_false (congrArg Value.bool hc3) ?_
      refine W.skip ?_
      refine W.seq ?_
      refine W.seq ?_
      refine W.region ?_
      refine O.move (v := (.int .i64 a0)) rfl rfl rfl ?_
      refine O.move (v := (.int .i64 a1)) rfl rfl rfl ?_
      refine O.lss rfl rfl rfl rfl ?_
      refine WL.nil ?_
      rcases ite_some hm with ⟨hc4, hm⟩ | ⟨hc4, hm⟩
      · refine W.cond_true (congrArg Value.bool hc4) ?_
        refine W.seq ?_
        refine W.region ?_
        refine O.assign (v := (.int .i64 (-1))) rfl rfl rfl ?_
        refine WL.nil ?_
        refine W.ret ?_
        have hq : (-1) = r0 := Option.some.inj (show some (-1) = some r0 from hm)
        subst hq
        exact ends1 Tryd.results75 rfl ⟨_, rfl, H.base, rfl, H.g⟩
      · refine W.cond_false (congrArg Value.bool hc4) ?_
        refine W.skip ?_
        refine W.seq ?_
        refine W.seq ?_
        refine W.region ?_
        refine O.move (v := (.int .i64 a0)) rfl rfl rfl ?_
        refine O.move (v := (.int .i64 a1)) rfl rfl rfl ?_
        refine O.gtr rfl rfl rfl rfl ?_
        refine WL.nil ?_
        rcases ite_some hm with ⟨hc5, hm⟩ | ⟨hc5, hm⟩
        · refine W.cond_true (congrArg Value.bool hc5) ?_
          refine W.seq ?_
          refine W.region ?_
          refine O.assign (v := (.int .i64 1)) rfl rfl rfl ?_
          refine WL.nil ?_
          refine W.ret ?_
          have hq : 1 = r0 := Option.some.inj (show some 1 = some r0 from hm)
          subst hq
          exact ends1 Tryd.results75 rfl ⟨_, rfl, H.base, rfl, H.g⟩
        · refine W.cond_false (congrArg Value.bool hc5) ?_
          refine W.skip ?_
          refine W.seq ?_
          refine W.region ?_
          refine O.assign (v := (.int .i64 0)) rfl rfl rfl ?_
          refine WL.nil ?_
          refine W.ret ?_
          have hq : 0 = r0 := Option.some.inj (show some 0 = some r0 from hm)
          subst hq
          exact ends1 Tryd.results75 rfl ⟨_, rfl, H.base, rfl, H.g⟩

theorem ints_sorts : SortsK Tryd.prog Int 74 (.func (.func 75) #[] #[]) sortInts :=
  sortsI_of { Tryd.sortT with a24 := Tryd.isAgg3, z24 := Tryd.sizeOf3 } Tryd.sortT cmpI int_swo 75 (enters_of Tryd.func75 (by kernel_rfl) rfl) fun x y W => (g_cmp_Compare_int x y (Compare_int_eq x y)).mono (by rintro e w' ⟨v, rfl, _, rfl, hg⟩; exact ⟨rfl, hg⟩)

set_option maxRecDepth 20000 in
theorem c_flag_Lost {w0 : World} (hT : TabH Tryd.prog w0) (va0 : Value) (a0 : (List GMeaning)) (ha0 : SliceR w0 va0 a0) (a1 : Int) {r0 : (List Int)} {r1 : Int} (hm : flag_Lost a0 a1 = some (r0, r1)) :
    Calls Tryd.prog 34 #[va0, (.int .i64 a1)] w0 (Ret w0 fun w v => ∃ vr0 : Value, v = .tuple #[vr0, (.int .i64 r1)] ∧ OwnR w0 w vr0 3 r0) := by
  unfold flag_Lost at hm
  refine calls_of_W Tryd.func34 rfl Tryd.ntmps34 (Nat.le_of_ble_eq_true rfl) ?_
  have H := Inv.start (w := w0)
  refine W.seq ?_
  refine W.region ?_
  have H := H.addNil (α := Int) (E := 3)
  refine O.assign (v := (.slice none 0 0)) rfl rfl rfl ?_
  refine O.assign (v := (.int .i64 0)) rfl rfl rfl ?_
  refine WL.nil ?_
  refine W.seq ?_
  refine W.block ?_
  refine W.seq ?_
  refine W.region ?_
  refine O.move (v := va0) rfl rfl rfl ?_
  obtain ⟨t1, hy1, hm⟩ := bind_some hm
  refine O.call Tryd.call22 rfl rfl rfl (c_flag_ValidBook _ _ (H.arg ha0) hy1) ?_
  rintro _ w1 hb1 rfl
  have H := H.ext hb1
  refine O.not rfl rfl rfl ?_
  refine O.assign (v := (.bool (!t1))) rfl rfl rfl ?_
  refine WL.nil ?_
  rcases ite_some hm with ⟨hc1, hm⟩ | ⟨hc1, hm⟩
  · refine W.cond_true (congrArg Value.bool hc1) ?_
    refine W.seq ?_
    refine W.region ?_
    have H := H.addNil (α := Int) (E := 3)
    refine O.assign (v := (.slice none 0 0)) rfl rfl rfl ?_
    refine O.assign (v := (.int .i64 1)) rfl rfl rfl ?_
    refine WL.nil ?_
    refine W.ret ?_
    have hq : (([] : List Int), 1) = (r0, r1) := Option.some.inj (show some (([] : List Int), 1) = some (r0, r1) from hm)
    obtain ⟨he0, hq0⟩ := Prod.mk.inj hq; clear hq; subst he0
    subst hq0
    exact ends2 Tryd.results34 rfl rfl ⟨_, rfl, H.base, ⟨_, rfl, H.ownR 1 rfl⟩⟩
  · refine W.cond_false (congrArg Value.bool hc1) ?_
    refine W.seq ?_
    refine W.region ?_
    refine O.move (v := (.int .i64 a1)) rfl rfl rfl ?_
    obtain ⟨t2, hy2, hm⟩ := bind_some hm
    refine O.call Tryd.call72 rfl rfl rfl (c_flag_isSet _ hy2) ?_
    rintro _ w2 hb2 rfl
    have H := H.ext hb2
    refine O.not rfl rfl rfl ?_
    refine O.assign (v := (.bool (!t2))) rfl rfl rfl ?_
    refine WL.nil ?_
    rcases ite_some hm with ⟨hc2, hm⟩ | ⟨hc2, hm⟩
    · refine W.cond_true (congrArg Value.bool hc2) ?_
      refine W.seq ?_
      refine W.region ?_
      have H := H.addNil (α := Int) (E := 3)
      refine O.assign (v := (.slice none 0 0)) rfl rfl rfl ?_
      refine O.assign (v := (.int .i64 7)) rfl rfl rfl ?_
      refine WL.nil ?_
      refine W.ret ?_
      have hq : (([] : List Int), 7) = (r0, r1) := Option.some.inj (show some (([] : List Int), 7) = some (r0, r1) from hm)
      obtain ⟨he0, hq0⟩ := Prod.mk.inj hq; clear hq; subst he0
      subst hq0
      exact ends2 Tryd.results34 rfl rfl ⟨_, rfl, H.base, ⟨_, rfl, H.ownR 1 rfl⟩⟩
    · refine W.cond_false (congrArg Value.bool hc2) ?_
      refine W.skip ?_
      refine W.seq ?_
      refine W.region ?_
      have H := H.addNil (α := Int) (E := 3)
      refine O.assign (v := (.slice none 0 0)) rfl rfl rfl ?_
      refine WL.nil ?_
      refine W.seq ?_
      refine W.seq ?_
      refine W.region ?_
      refine O.move (v := va0) rfl rfl rfl ?_
      refine O.lenS Tryd.underlying33 (H.arg ha0) rfl rfl rfl ?_
      refine O.move (v := (.int .i64 0)) rfl rfl rfl ?_
      refine WL.nil ?_
      obtain ⟨s1, hm1, hm⟩ := bind_some hm
      refine W.via (fun f w => ∃ v4 : Value, f 6 = v4 ∧ Inv w0 w [ownI (α := Int) v4 3 s1]) ?_ ?_
      · skip
        refine W.block ?_
        have H := H.keep [1] [ownI (α := Int) (.slice none 0 0) 3 ([] : List Int)] rfl (by decide)
        refine W.rangeL (i := 0) hm1 (fun rem ik1 s f w => ∃ z2 : (List Int), ∃ v2 : Value, z2 = s ∧ a0.drop ik1 = rem ∧ f 19 = .int .i64 (ik1 : Int) ∧ f 18 = (.int .i64 ((a0.length : Nat) : Int)) ∧ f 1 = (.int .i64 a1) ∧ f 6 = v2 ∧ f 17 = va0 ∧ Inv w0 w [ownI (α := Int) v2 3 z2]) ?_ ?_ ?_
        · skip
          exact ⟨_, (.slice none 0 0), rfl, List.drop_zero, rfl, rfl, rfl, rfl, rfl, H⟩
        · skip
          rintro yk1 xs ik1 _ st f w ⟨z2, v2, rfl, hdropk1, hf19, hf18, hf1, hf6, hf17, H⟩ hm2
          have hltk1 := drop_lt hdropk1; have hixk1 := drop_idx hdropk1
          obtain ⟨u1, rfl⟩ : ∃ u1, f = (upd (upd (upd (upd (upd u1 19 (.int .i64 (ik1 : Int))) 18 (.int .i64 ((a0.length : Nat) : Int))) 1 (.int .i64 a1)) 6 v2) 17 va0) := ⟨f, by rw [upd_self hf19, upd_self hf18, upd_self hf1, upd_self hf6, upd_self hf17]⟩
          have hinck1 := addI_lt hltk1 (H.arg ha0).len_le
          refine W.seq ?_
          refine W.region ?_
          refine O.lss rfl rfl rfl rfl ?_
          refine WL.nil ?_
          refine W.seq ?_
          refine W.cond_true (congrArg Value.bool (decide_eq_true hltk1)) ?_
          refine W.skip ?_
          refine W.seq ?_
          obtain ⟨s2, hm3, hm2⟩ := bind_some hm2
          refine W.via (fun f w => ∃ v5 : Value, f 1 = (.int .i64 a1) ∧ f 6 = v5 ∧ f 17 = va0 ∧ f 18 = (.int .i64 ((a0.length : Nat) : Int)) ∧ f 19 = (.int .i64 (ik1 : Int)) ∧ Inv w0 w [ownI (α := Int) v5 3 s2]) ?_ ?_
          · skip
            refine W.block ?_
            refine W.seq ?_
            refine W.region ?_
            obtain ⟨p1, hp1, hrp1⟩ := fix_indexAddr Tryd.underlying33 sz39 ha0 hixk1
            refine hrp1 rfl rfl rfl rfl ?_
            refine O.loadA [(.int .i64 yk1.Number), (.string yk1.Text)] ag39 rfl rfl rfl rfl ((hp1.mono H.base).flat) ?_
            refine O.alloc [(.int .i64 0), (.string ByteArray.empty)] ze39 H rfl rfl rfl ?_
            intro b1 w3 H hb3
            refine O.store 1 0 [(.int .i64 yk1.Number), (.string yk1.Text)] [(.int .i64 yk1.Number), (.string yk1.Text)] sz39 H rfl rfl rfl rfl rfl rfl ⟨⟨rfl, rfl⟩, rfl⟩ (one_cons rfl (one_cons rfl one_nil)) ?_
            intro w4 H
            refine WL.nil ?_
            refine W.seq ?_
            refine W.region ?_
            refine O.fieldAddr fd39_0 rfl rfl rfl ?_
            refine O.load sc3 rfl rfl rfl (H.cell 1 rfl 0 _ rfl) ?_
            obtain ⟨t3, hy3, hm3⟩ := bind_some hm3
            refine O.call Tryd.call39 rfl rfl rfl (c_flag_digitsOf (hT.mono H.base) _ hy3) ?_
            rintro v6 w5 hb4 ho1
            have H := H.addOwn hb4 ho1
            refine O.move (v := (.int .i64 a1)) rfl rfl rfl ?_
            obtain ⟨t4, hy4, hm3⟩ := bind_some hm3
            refine O.call Tryd.call73 rfl rfl rfl (c_flag_can _ _ (H.own 2 rfl) _ hy4) ?_
            rintro _ w6 hb5 rfl
            have H := H.ext hb5
            refine O.not rfl rfl rfl ?_
            refine WL.nil ?_
            obtain ⟨s3, hm4, hm3⟩ := bind_some hm3
            refine W.via (fun f w => ∃ v7 : Value, f 1 = (.int .i64 a1) ∧ f 6 = v7 ∧ f 17 = va0 ∧ f 18 = (.int .i64 ((a0.length : Nat) : Int)) ∧ f 19 = (.int .i64 (ik1 : Int)) ∧ Inv w0 w [ownI (α := Int) v7 3 s3]) ?_ ?_
            · skip
              rcases ite_some hm4 with ⟨hc3, hm4⟩ | ⟨hc3, hm4⟩
              · refine W.cond_true (congrArg Value.bool hc3) ?_
                refine W.region ?_
                refine O.move (v := v2) rfl rfl rfl ?_
                refine O.fieldAddr fd39_0 rfl rfl rfl ?_
                refine O.load sc3 rfl rfl rfl (H.cell 1 rfl 0 _ rfl) ?_
                refine O.buildSlice (α := Int) [(.int .i64 yk1.Number)] [yk1.Number] Tryd.underlying22 el3 H rfl rfl rfl rfl rfl rfl rfl ?_
                intro v8 w7 H hb6
                obtain ⟨t5, ht5, hm4⟩ := bind_some hm4
                refine O.append 0 Tryd.underlying22 el3 rfl H rfl (H.own 3 rfl) ht5 rfl rfl rfl rfl ?_
                intro v9 w8 H
                refine O.assign (v := v9) rfl rfl rfl ?_
                refine WL.nil ?_
                have H := H.keep [0] [ownI (α := Int) v9 3 t5] rfl (by decide)
                have hq : t5 = s3 := Option.some.inj (show some t5 = some s3 from hm4)
                subst hq
                exact ⟨v9, rfl, rfl, rfl, rfl, rfl, H⟩
              · refine W.cond_false (congrArg Value.bool hc3) ?_
                refine W.skip ?_
                have H := H.keep [0] [ownI (α := Int) v2 3 z2] rfl (by decide)
                have hq : z2 = s3 := Option.some.inj (show some z2 = some s3 from hm4)
                subst hq
                exact ⟨v2, rfl, rfl, rfl, rfl, rfl, H⟩
            · skip
              rintro f w ⟨v7, hf1, hf6, hf17, hf18, hf19, H⟩
              obtain ⟨u2, rfl⟩ : ∃ u2, f = (upd (upd (upd (upd (upd u2 1 (.int .i64 a1)) 6 v7) 17 va0) 18 (.int .i64 ((a0.length : Nat) : Int))) 19 (.int .i64 (ik1 : Int))) := ⟨f, by rw [upd_self hf1, upd_self hf6, upd_self hf17, upd_self hf18, upd_self hf19]⟩
              have hq : s3 = s2 := Option.some.inj (show some s3 = some s2 from hm3)
              subst hq
              exact ⟨v7, rfl, rfl, rfl, rfl, rfl, H⟩
          · skip
            rintro f w ⟨v5, hf1, hf6, hf17, hf18, hf19, H⟩
            obtain ⟨u3, rfl⟩ : ∃ u3, f = (upd (upd (upd (upd (upd u3 1 (.int .i64 a1)) 6 v5) 17 va0) 18 (.int .i64 ((a0.length : Nat) : Int))) 19 (.int .i64 (ik1 : Int))) := ⟨f, by rw [upd_self hf1, upd_self hf6, upd_self hf17, upd_self hf18, upd_self hf19]⟩
            refine W.region ?_
            refine O.add rfl rfl rfl rfl hinck1 ?_
            refine O.move (v := .int .i64 ((ik1 : Int) + 1)) rfl rfl rfl ?_
            refine WL.nil ?_
            obtain rfl := Option.some.inj hm2
            exact ⟨_, rfl, _, v5, rfl, drop_next hdropk1, rfl, rfl, rfl, rfl, rfl, H⟩
        · skip
          rintro ik1 _ f w ⟨z2, v2, rfl, hdropk1, hf19, hf18, hf1, hf6, hf17, H⟩ hfin
          have hltk1 := drop_end hdropk1
          obtain ⟨u4, rfl⟩ : ∃ u4, f = (upd (upd (upd (upd (upd u4 19 (.int .i64 (ik1 : Int))) 18 (.int .i64 ((a0.length : Nat) : Int))) 1 (.int .i64 a1)) 6 v2) 17 va0) := ⟨f, by rw [upd_self hf19, upd_self hf18, upd_self hf1, upd_self hf6, upd_self hf17]⟩
          refine W.seq ?_
          refine W.region ?_
          refine O.lss rfl rfl rfl rfl ?_
          refine WL.nil ?_
          refine W.seq ?_
          refine W.cond_false (congrArg Value.bool (decide_eq_false hltk1)) ?_
          refine W.exit ?_
          have hq : z2 = s1 := hfin
          subst hq
          refine xT rfl ?_
          exact ⟨v2, rfl, H⟩
      · skip
        rintro f w ⟨v4, hf6, H⟩
        obtain ⟨u5, rfl⟩ : ∃ u5, f = (upd u5 6 v4) := ⟨f, by rw [upd_self hf6]⟩
        refine W.seq ?_
        refine W.region ?_
        refine O.move (v := v4) rfl rfl rfl ?_
        obtain ⟨t6, hy5, hm⟩ := bind_some hm
        refine O.sortK 0 H rfl ints_sorts hy5 Tryd.call74 rfl rfl rfl rfl ?_
        intro w9 H
        refine WL.nil ?_
        refine W.seq ?_
        refine W.region ?_
        refine O.move (v := v4) rfl rfl rfl ?_
        refine O.assign (v := v4) rfl rfl rfl ?_
        refine O.assign (v := (.int .i64 0)) rfl rfl rfl ?_
        refine WL.nil ?_
        refine W.ret ?_
        have hq : (t6, 0) = (r0, r1) := Option.some.inj (show some (t6, 0) = some (r0, r1) from hm)
        obtain ⟨he0, hq0⟩ := Prod.mk.inj hq; clear hq; subst he0
        subst hq0
        exact ends2 Tryd.results34 rfl rfl ⟨_, rfl, H.base, ⟨_, rfl, H.ownR 0 rfl⟩⟩

theorem c_noongunref07_set {w0 : World} (a0 : Int) {r0 : Bool} (hm : noongunref07_set a0 = some r0) :
    Calls Tryd.prog 76 #[(.int .i64 a0)] w0 (Ret w0 fun _ v => v = (.bool r0)) := by
  unfold noongunref07_set at hm
  refine calls_of_W Tryd.func76 rfl Tryd.ntmps76 (Nat.le_of_ble_eq_true rfl) ?_
  have H := Inv.start (w := w0)
  refine W.seq ?_
  refine W.region ?_
  refine O.assign (v := (.bool false)) rfl rfl rfl ?_
  refine WL.nil ?_
  refine W.seq ?_
  refine W.region ?_
  refine O.move (v := (.int .i64 a0)) rfl rfl rfl ?_
  refine O.geq rfl rfl rfl rfl ?_
  refine O.move (v := (.bool (decide (0 ≤ a0)))) rfl rfl rfl ?_
  refine WL.cut 3 (fun f w => f 8 = .bool ((decide (0 ≤ a0)) && (decide (a0 < 8192))) ∧ Inv w0 w []) ?_ ?_
  · skip
    rcases bool_ft (decide (0 ≤ a0)) with hc1 | hc1
    · skip
      refine WL.reset (i := 5) (v := .bool false) (congrArg Value.bool hc1) ?_
      refine O.skip rfl rfl ?_
      refine O.skip rfl rfl ?_
      refine O.pick_false (v := (.bool false)) rfl rfl rfl rfl ?_
      refine WL.nil ?_
      exact ⟨congrArg Value.bool (and_f hc1), H⟩
    · skip
      refine WL.reset (i := 5) (v := .bool true) (congrArg Value.bool hc1) ?_
      refine O.move (v := (.int .i64 a0)) rfl rfl rfl ?_
      refine O.lss rfl rfl rfl rfl ?_
      refine O.pick_true (v := (.bool (decide (a0 < 8192)))) rfl rfl rfl rfl ?_
      refine WL.nil ?_
      exact ⟨congrArg Value.bool (and_t hc1), H⟩
  · skip
    rintro f w ⟨hf8, H⟩
    obtain ⟨u1, rfl⟩ : ∃ u1, f = (upd u1 8 (.bool ((decide (0 ≤ a0)) && (decide (a0 < 8192))))) := ⟨f, by rw [upd_self hf8]⟩
    refine O.assign (v := (.bool ((decide (0 ≤ a0)) && (decide (a0 < 8192))))) rfl rfl rfl ?_
    refine WL.nil ?_
    refine W.ret ?_
    have hq : ((decide (0 ≤ a0)) && (decide (a0 < 8192))) = r0 := Option.some.inj (show some ((decide (0 ≤ a0)) && (decide (a0 < 8192))) = some r0 from hm)
    subst hq
    exact ends1 Tryd.results76 rfl ⟨_, rfl, H.base, rfl⟩

set_option maxRecDepth 20000 in
theorem c_noongunref07_ValidHoist {w0 : World} (va0 : Value) (a0 : (List Int)) (ha0 : SliceR w0 va0 a0) {r0 : Bool} (hm : noongunref07_ValidHoist a0 = some r0) :
    Calls Tryd.prog 53 #[va0] w0 (Ret w0 fun _ v => v = (.bool r0)) := by
  unfold noongunref07_ValidHoist at hm
  refine calls_of_W Tryd.func53 rfl Tryd.ntmps53 (Nat.le_of_ble_eq_true rfl) ?_
  have H := Inv.start (w := w0)
  refine W.seq ?_
  refine W.region ?_
  refine O.assign (v := (.bool false)) rfl rfl rfl ?_
  refine WL.nil ?_
  refine W.seq ?_
  refine W.seq ?_
  refine W.region ?_
  refine O.move (v := va0) rfl rfl rfl ?_
  refine O.lenS Tryd.underlying22 (H.arg ha0) rfl rfl rfl ?_
  refine O.move (v := (.int .i64 0)) rfl rfl rfl ?_
  refine WL.nil ?_
  obtain ⟨o1, hm1, hm⟩ := bind_some hm
  refine W.via (fun f w => o1 = .next () ∧ f 0 = va0 ∧ Inv w0 w []) ?_ ?_
  · skip
    refine W.block ?_
    have hbdik1 := (H.arg ha0).len_le
    refine W.rangeN (i := 0) hm1 (fun rem ik1 s f w => () = s ∧ (ik1 : Int) + rem = max 0 ((a0.length : Nat) : Int) ∧ f 9 = .int .i64 (ik1 : Int) ∧ f 8 = (.int .i64 ((a0.length : Nat) : Int)) ∧ f 0 = va0 ∧ f 7 = va0 ∧ Inv w0 w []) ?_ ?_ ?_
    · skip
      exact ⟨rfl, rangeN_start, rfl, rfl, rfl, rfl, H⟩
    · skip
      rintro k ik1 _ st f w ⟨rfl, hdropk1, hf9, hf8, hf0, hf7, H⟩ hm2
      have hltk1 := rangeN_lt hdropk1
      obtain ⟨u1, rfl⟩ : ∃ u1, f = (upd (upd (upd (upd u1 9 (.int .i64 (ik1 : Int))) 8 (.int .i64 ((a0.length : Nat) : Int))) 0 va0) 7 va0) := ⟨f, by rw [upd_self hf9, upd_self hf8, upd_self hf0, upd_self hf7]⟩
      have hinck1 := addI_lt hltk1 hbdik1
      refine W.seq ?_
      refine W.region ?_
      refine O.lss rfl rfl rfl rfl ?_
      refine WL.nil ?_
      refine W.seq ?_
      refine W.cond_true (congrArg Value.bool (decide_eq_true hltk1)) ?_
      refine W.skip ?_
      refine W.seq ?_
      obtain ⟨o2, hm3, hm2⟩ := bind_some hm2
      refine W.via (fun f w => o2 = .next () ∧ f 0 = va0 ∧ f 7 = va0 ∧ f 8 = (.int .i64 ((a0.length : Nat) : Int)) ∧ f 9 = (.int .i64 (ik1 : Int)) ∧ Inv w0 w []) ?_ ?_
      · skip
        refine W.block ?_
        refine W.seq ?_
        refine W.region ?_
        refine O.move (v := (.int .i64 (ik1 : Int))) rfl rfl rfl ?_
        obtain ⟨x1, hx1, hm3⟩ := bind_some hm3
        obtain ⟨p1, hp1, hrp1⟩ := fix_indexAddr Tryd.underlying22 sz3 ha0 hx1
        refine hrp1 rfl rfl rfl rfl ?_
        refine O.load sc3 rfl rfl rfl ((hp1.mono H.base).flat 0 _ rfl) ?_
        refine O.assign (v := (.int .i64 (ik1 : Int))) rfl rfl rfl ?_
        refine O.assign (v := (.int .i64 x1)) rfl rfl rfl ?_
        refine WL.nil ?_
        refine W.seq ?_
        refine W.seq ?_
        refine W.region ?_
        refine O.move (v := (.int .i64 x1)) rfl rfl rfl ?_
        refine O.lss rfl rfl rfl rfl ?_
        refine O.move (v := (.bool (decide (x1 < 0)))) rfl rfl rfl ?_
        refine WL.cut 3 (fun f w => f 0 = va0 ∧ f 3 = (.int .i64 (ik1 : Int)) ∧ f 4 = (.int .i64 x1) ∧ f 7 = va0 ∧ f 8 = (.int .i64 ((a0.length : Nat) : Int)) ∧ f 9 = (.int .i64 (ik1 : Int)) ∧ f 19 = .bool ((decide (x1 < 0)) || (decide (13 ≤ x1))) ∧ Inv w0 w []) ?_ ?_
        · skip
          rcases bool_ft (decide (x1 < 0)) with hc1 | hc1
          · skip
            refine WL.reset (i := 16) (v := .bool false) (congrArg Value.bool hc1) ?_
            refine O.move (v := (.int .i64 x1)) rfl rfl rfl ?_
            refine O.geq rfl rfl rfl rfl ?_
            refine O.pick_false (v := (.bool (decide (13 ≤ x1)))) rfl rfl rfl rfl ?_
            refine WL.nil ?_
            exact ⟨rfl, rfl, rfl, rfl, rfl, rfl, congrArg Value.bool (or_f hc1), H⟩
          · skip
            refine WL.reset (i := 16) (v := .bool true) (congrArg Value.bool hc1) ?_
            refine O.skip rfl rfl ?_
            refine O.skip rfl rfl ?_
            refine O.pick_true (v := (.bool true)) rfl rfl rfl rfl ?_
            refine WL.nil ?_
            exact ⟨rfl, rfl, rfl, rfl, rfl, rfl, congrArg Value.bool (or_t hc1), H⟩
        · skip
          rintro f w ⟨hf0, hf3, hf4, hf7, hf8, hf9, hf19, H⟩
          obtain ⟨u2, rfl⟩ : ∃ u2, f = (upd (upd (upd (upd (upd (upd (upd u2 0 va0) 3 (.int .i64 (ik1 : Int))) 4 (.int .i64 x1)) 7 va0) 8 (.int .i64 ((a0.length : Nat) : Int))) 9 (.int .i64 (ik1 : Int))) 19 (.bool ((decide (x1 < 0)) || (decide (13 ≤ x1))))) := ⟨f, by rw [upd_self hf0, upd_self hf3, upd_self hf4, upd_self hf7, upd_self hf8, upd_self hf9, upd_self hf19]⟩
          refine O.move (v := (.bool ((decide (x1 < 0)) || (decide (13 ≤ x1))))) rfl rfl rfl ?_
          obtain ⟨b1, hm4, hm3⟩ := bind_some hm3
          refine WL.cut 5 (fun f w => f 0 = va0 ∧ f 3 = (.int .i64 (ik1 : Int)) ∧ f 4 = (.int .i64 x1) ∧ f 7 = va0 ∧ f 8 = (.int .i64 ((a0.length : Nat) : Int)) ∧ f 9 = (.int .i64 (ik1 : Int)) ∧ f 25 = .bool b1 ∧ Inv w0 w []) ?_ ?_
          · skip
            rcases ite_some hm4 with ⟨hc2, hm4⟩ | ⟨hc2, hm4⟩
            · skip
              refine WL.reset (i := 20) (v := .bool true) (congrArg Value.bool hc2) ?_
              refine O.skip rfl rfl ?_
              refine O.skip rfl rfl ?_
              refine O.skip rfl rfl ?_
              refine O.skip rfl rfl ?_
              refine O.pick_true (v := (.bool true)) rfl rfl rfl rfl ?_
              refine WL.nil ?_
              have hq : true = b1 := Option.some.inj (show some true = some b1 from hm4)
              subst hq
              exact ⟨rfl, rfl, rfl, rfl, rfl, rfl, rfl, H⟩
            · skip
              refine WL.reset (i := 20) (v := .bool false) (congrArg Value.bool hc2) ?_
              refine O.move (v := (.int .i64 x1)) rfl rfl rfl ?_
              obtain ⟨t1, ht1, hm4⟩ := bind_some hm4
              refine O.sub rfl rfl rfl rfl ht1 ?_
              refine O.move (v := (.int .i64 (ik1 : Int))) rfl rfl rfl ?_
              refine O.geq rfl rfl rfl rfl ?_
              refine O.pick_false (v := (.bool (decide ((ik1 : Int) ≤ t1)))) rfl rfl rfl rfl ?_
              refine WL.nil ?_
              have hq : (decide ((ik1 : Int) ≤ t1)) = b1 := Option.some.inj (show some (decide ((ik1 : Int) ≤ t1)) = some b1 from hm4)
              subst hq
              exact ⟨rfl, rfl, rfl, rfl, rfl, rfl, rfl, H⟩
          · skip
            rintro f w ⟨hf0, hf3, hf4, hf7, hf8, hf9, hf25, H⟩
            obtain ⟨u3, rfl⟩ : ∃ u3, f = (upd (upd (upd (upd (upd (upd (upd u3 0 va0) 3 (.int .i64 (ik1 : Int))) 4 (.int .i64 x1)) 7 va0) 8 (.int .i64 ((a0.length : Nat) : Int))) 9 (.int .i64 (ik1 : Int))) 25 (.bool b1)) := ⟨f, by rw [upd_self hf0, upd_self hf3, upd_self hf4, upd_self hf7, upd_self hf8, upd_self hf9, upd_self hf25]⟩
            refine WL.nil ?_
            rcases ite_some hm3 with ⟨hc3, hm3⟩ | ⟨hc3, hm3⟩
            · refine W.cond_true (congrArg Value.bool hc3) ?_
              refine W.seq ?_
              refine W.region ?_
              refine O.assign (v := (.bool false)) rfl rfl rfl ?_
              refine WL.nil ?_
              refine W.ret ?_
              obtain rfl := Option.some.inj hm3
              obtain rfl := Option.some.inj hm2
              refine ⟨_, rfl, ?_⟩
              rintro rfl
              have hq : false = r0 := Option.some.inj (show some false = some r0 from hm)
              subst hq
              exact ends1 Tryd.results53 rfl ⟨_, rfl, H.base, rfl⟩
            · refine W.cond_false (congrArg Value.bool hc3) ?_
              refine W.skip ?_
              refine W.seq ?_
              refine W.region ?_
              refine O.move (v := va0) rfl rfl rfl ?_
              refine O.move (v := (.int .i64 (ik1 : Int))) rfl rfl rfl ?_
              obtain ⟨t2, ht2, hm3⟩ := bind_some hm3
              obtain ⟨v1, hs1, hrv1⟩ := fix_sliceH Tryd.underlying22 sz3 ha0 ht2
              refine hrv1 rfl rfl rfl rfl ?_
              refine O.lenS Tryd.underlying22 (H.arg hs1) rfl rfl rfl ?_
              refine O.move (v := (.int .i64 0)) rfl rfl rfl ?_
              refine WL.nil ?_
              obtain ⟨o3, hm5, hm3⟩ := bind_some hm3
              refine W.via (fun f w => o3 = .next () ∧ f 0 = va0 ∧ f 7 = va0 ∧ f 8 = (.int .i64 ((a0.length : Nat) : Int)) ∧ f 9 = (.int .i64 (ik1 : Int)) ∧ Inv w0 w []) ?_ ?_
              · skip
                refine W.block ?_
                refine W.rangeL (i := 0) hm5 (fun rem ik2 s f w => () = s ∧ t2.drop ik2 = rem ∧ f 30 = .int .i64 (ik2 : Int) ∧ f 29 = (.int .i64 ((t2.length : Nat) : Int)) ∧ f 0 = va0 ∧ f 4 = (.int .i64 x1) ∧ f 7 = va0 ∧ f 8 = (.int .i64 ((a0.length : Nat) : Int)) ∧ f 9 = (.int .i64 (ik1 : Int)) ∧ f 28 = v1 ∧ Inv w0 w []) ?_ ?_ ?_
                · skip
                  exact ⟨rfl, List.drop_zero, rfl, rfl, rfl, rfl, rfl, rfl, rfl, rfl, H⟩
                · skip
                  rintro yk2 xs ik2 _ st f w ⟨rfl, hdropk2, hf30, hf29, hf0, hf4, hf7, hf8, hf9, hf28, H⟩ hm6
                  have hltk2 := drop_lt hdropk2; have hixk2 := drop_idx hdropk2
                  obtain ⟨u4, rfl⟩ : ∃ u4, f = (upd (upd (upd (upd (upd (upd (upd (upd u4 30 (.int .i64 (ik2 : Int))) 29 (.int .i64 ((t2.length : Nat) : Int))) 0 va0) 4 (.int .i64 x1)) 7 va0) 8 (.int .i64 ((a0.length : Nat) : Int))) 9 (.int .i64 (ik1 : Int))) 28 v1) := ⟨f, by rw [upd_self hf30, upd_self hf29, upd_self hf0, upd_self hf4, upd_self hf7, upd_self hf8, upd_self hf9, upd_self hf28]⟩
                  have hinck2 := addI_lt hltk2 (H.arg hs1).len_le
                  refine W.seq ?_
                  refine W.region ?_
                  refine O.lss rfl rfl rfl rfl ?_
                  refine WL.nil ?_
                  refine W.seq ?_
                  refine W.cond_true (congrArg Value.bool (decide_eq_true hltk2)) ?_
                  refine W.skip ?_
                  refine W.seq ?_
                  refine W.block ?_
                  refine W.seq ?_
                  refine W.region ?_
                  obtain ⟨p2, hp2, hrp2⟩ := fix_indexAddr Tryd.underlying22 sz3 hs1 hixk2
                  refine hrp2 rfl rfl rfl rfl ?_
                  refine O.load sc3 rfl rfl rfl ((hp2.mono H.base).flat 0 _ rfl) ?_
                  refine O.assign (v := (.int .i64 yk2)) rfl rfl rfl ?_
                  refine WL.nil ?_
                  refine W.seq ?_
                  refine W.region ?_
                  refine O.move (v := (.int .i64 x1)) rfl rfl rfl ?_
                  refine O.move (v := (.int .i64 yk2)) rfl rfl rfl ?_
                  refine O.eql rfl rfl rfl rfl ?_
                  refine WL.nil ?_
                  rcases ite_some hm6 with ⟨hc4, hm6⟩ | ⟨hc4, hm6⟩
                  · refine W.cond_true (congrArg Value.bool hc4) ?_
                    refine W.seq ?_
                    refine W.region ?_
                    refine O.assign (v := (.bool false)) rfl rfl rfl ?_
                    refine WL.nil ?_
                    refine W.ret ?_
                    obtain rfl := Option.some.inj hm6
                    refine ⟨_, rfl, ?_⟩
                    rintro rfl
                    obtain rfl := Option.some.inj hm3
                    obtain rfl := Option.some.inj hm2
                    refine ⟨_, rfl, ?_⟩
                    rintro rfl
                    have hq : false = r0 := Option.some.inj (show some false = some r0 from hm)
                    subst hq
                    exact ends1 Tryd.results53 rfl ⟨_, rfl, H.base, rfl⟩
                  · refine W.cond_false (congrArg Value.bool hc4) ?_
                    refine W.skip ?_
                    refine W.region ?_
                    refine O.add rfl rfl rfl rfl hinck2 ?_
                    refine O.move (v := .int .i64 ((ik2 : Int) + 1)) rfl rfl rfl ?_
                    refine WL.nil ?_
                    obtain rfl := Option.some.inj hm6
                    exact ⟨_, rfl, rfl, drop_next hdropk2, rfl, rfl, rfl, rfl, rfl, rfl, rfl, rfl, H⟩
                · skip
                  rintro ik2 _ f w ⟨rfl, hdropk2, hf30, hf29, hf0, hf4, hf7, hf8, hf9, hf28, H⟩ hfin
                  have hltk2 := drop_end hdropk2
                  obtain ⟨u5, rfl⟩ : ∃ u5, f = (upd (upd (upd (upd (upd (upd (upd (upd u5 30 (.int .i64 (ik2 : Int))) 29 (.int .i64 ((t2.length : Nat) : Int))) 0 va0) 4 (.int .i64 x1)) 7 va0) 8 (.int .i64 ((a0.length : Nat) : Int))) 9 (.int .i64 (ik1 : Int))) 28 v1) := ⟨f, by rw [upd_self hf30, upd_self hf29, upd_self hf0, upd_self hf4, upd_self hf7, upd_self hf8, upd_self hf9, upd_self hf28]⟩
                  refine W.seq ?_
                  refine W.region ?_
                  refine O.lss rfl rfl rfl rfl ?_
                  refine WL.nil ?_
                  refine W.seq ?_
                  refine W.cond_false (congrArg Value.bool (decide_eq_false hltk2)) ?_
                  refine W.exit ?_
                  obtain rfl : Ctl.next () = o3 := hfin
                  refine xT rfl ?_
                  exact ⟨rfl, rfl, rfl, rfl, rfl, H⟩
              · skip
                rintro f w ⟨rfl, hf0, hf7, hf8, hf9, H⟩
                obtain ⟨u6, rfl⟩ : ∃ u6, f = (upd (upd (upd (upd u6 0 va0) 7 va0) 8 (.int .i64 ((a0.length : Nat) : Int))) 9 (.int .i64 (ik1 : Int))) := ⟨f, by rw [upd_self hf0, upd_self hf7, upd_self hf8, upd_self hf9]⟩
                obtain rfl := Option.some.inj hm3
                exact ⟨rfl, rfl, rfl, rfl, rfl, H⟩
      · skip
        rintro f w ⟨rfl, hf0, hf7, hf8, hf9, H⟩
        obtain ⟨u7, rfl⟩ : ∃ u7, f = (upd (upd (upd (upd u7 0 va0) 7 va0) 8 (.int .i64 ((a0.length : Nat) : Int))) 9 (.int .i64 (ik1 : Int))) := ⟨f, by rw [upd_self hf0, upd_self hf7, upd_self hf8, upd_self hf9]⟩
        refine W.region ?_
        refine O.add rfl rfl rfl rfl hinck1 ?_
        refine O.move (v := .int .i64 ((ik1 : Int) + 1)) rfl rfl rfl ?_
        refine WL.nil ?_
        obtain rfl := Option.some.inj hm2
        exact ⟨_, rfl, rfl, rangeN_next hdropk1, rfl, rfl, rfl, rfl, H⟩
    · skip
      rintro ik1 _ f w ⟨rfl, hdropk1, hf9, hf8, hf0, hf7, H⟩ hfin
      have hltk1 := rangeN_end hdropk1
      obtain ⟨u8, rfl⟩ : ∃ u8, f = (upd (upd (upd (upd u8 9 (.int .i64 (ik1 : Int))) 8 (.int .i64 ((a0.length : Nat) : Int))) 0 va0) 7 va0) := ⟨f, by rw [upd_self hf9, upd_self hf8, upd_self hf0, upd_self hf7]⟩
      refine W.seq ?_
      refine W.region ?_
      refine O.lss rfl rfl rfl rfl ?_
      refine WL.nil ?_
      refine W.seq ?_
      refine W.cond_false (congrArg Value.bool (decide_eq_false hltk1)) ?_
      refine W.exit ?_
      obtain rfl : Ctl.next () = o1 := hfin
      refine xT rfl ?_
      exact ⟨rfl, rfl, H⟩
  · skip
    rintro f w ⟨rfl, hf0, H⟩
    obtain ⟨u9, rfl⟩ : ∃ u9, f = (upd u9 0 va0) := ⟨f, by rw [upd_self hf0]⟩
    refine W.seq ?_
    refine W.region ?_
    refine O.move (v := va0) rfl rfl rfl ?_
    refine O.lenS Tryd.underlying22 (H.arg ha0) rfl rfl rfl ?_
    refine O.geq rfl rfl rfl rfl ?_
    refine O.move (v := (.bool (decide (1 ≤ ((a0.length : Nat) : Int))))) rfl rfl rfl ?_
    refine WL.cut 4 (fun f w => f 46 = .bool ((decide (1 ≤ ((a0.length : Nat) : Int))) && (decide (((a0.length : Nat) : Int) ≤ 4))) ∧ Inv w0 w []) ?_ ?_
    · skip
      rcases bool_ft (decide (1 ≤ ((a0.length : Nat) : Int))) with hc5 | hc5
      · skip
        refine WL.reset (i := 42) (v := .bool false) (congrArg Value.bool hc5) ?_
        refine O.skip rfl rfl ?_
        refine O.skip rfl rfl ?_
        refine O.skip rfl rfl ?_
        refine O.pick_false (v := (.bool false)) rfl rfl rfl rfl ?_
        refine WL.nil ?_
        exact ⟨congrArg Value.bool (and_f hc5), H⟩
      · skip
        refine WL.reset (i := 42) (v := .bool true) (congrArg Value.bool hc5) ?_
        refine O.move (v := va0) rfl rfl rfl ?_
        refine O.lenS Tryd.underlying22 (H.arg ha0) rfl rfl rfl ?_
        refine O.leq rfl rfl rfl rfl ?_
        refine O.pick_true (v := (.bool (decide (((a0.length : Nat) : Int) ≤ 4)))) rfl rfl rfl rfl ?_
        refine WL.nil ?_
        exact ⟨congrArg Value.bool (and_t hc5), H⟩
    · skip
      rintro f w ⟨hf46, H⟩
      obtain ⟨u10, rfl⟩ : ∃ u10, f = (upd u10 46 (.bool ((decide (1 ≤ ((a0.length : Nat) : Int))) && (decide (((a0.length : Nat) : Int) ≤ 4))))) := ⟨f, by rw [upd_self hf46]⟩
      refine O.assign (v := (.bool ((decide (1 ≤ ((a0.length : Nat) : Int))) && (decide (((a0.length : Nat) : Int) ≤ 4))))) rfl rfl rfl ?_
      refine WL.nil ?_
      refine W.ret ?_
      have hq : ((decide (1 ≤ ((a0.length : Nat) : Int))) && (decide (((a0.length : Nat) : Int) ≤ 4))) = r0 := Option.some.inj (show some ((decide (1 ≤ ((a0.length : Nat) : Int))) && (decide (((a0.length : Nat) : Int) ≤ 4))) = some r0 from hm)
      subst hq
      exact ends1 Tryd.results53 rfl ⟨_, rfl, H.base, rfl⟩

set_option maxRecDepth 20000 in
theorem c_noongunref07_means {w0 : World} (va0 : Value) (a0 : (List Int)) (ha0 : SliceR w0 va0 a0) {r0 : (List Int)} (hm : noongunref07_means a0 = some r0) :
    Calls Tryd.prog 54 #[va0] w0 (Ret w0 fun w v => OwnR w0 w v 3 r0) := by
  unfold noongunref07_means at hm
  refine calls_of_W Tryd.func54 rfl Tryd.ntmps54 (Nat.le_of_ble_eq_true rfl) ?_
  have H := Inv.start (w := w0)
  refine W.seq ?_
  refine W.region ?_
  have H := H.addNil (α := Int) (E := 3)
  refine O.assign (v := (.slice none 0 0)) rfl rfl rfl ?_
  refine WL.nil ?_
  refine W.seq ?_
  refine W.region ?_
  have H := H.addNil (α := Int) (E := 3)
  refine O.assign (v := (.slice none 0 0)) rfl rfl rfl ?_
  refine WL.nil ?_
  refine W.seq ?_
  refine W.seq ?_
  refine W.region ?_
  refine O.move (v := va0) rfl rfl rfl ?_
  refine O.lenS Tryd.underlying22 (H.arg ha0) rfl rfl rfl ?_
  refine O.move (v := (.int .i64 0)) rfl rfl rfl ?_
  refine WL.nil ?_
  obtain ⟨s1, hm1, hm⟩ := bind_some hm
  refine W.via (fun f w => ∃ v4 : Value, f 3 = v4 ∧ Inv w0 w [ownI (α := Int) v4 3 s1]) ?_ ?_
  · skip
    refine W.block ?_
    have H := H.keep [1] [ownI (α := Int) (.slice none 0 0) 3 ([] : List Int)] rfl (by decide)
    refine W.rangeL (i := 0) hm1 (fun rem ik1 s f w => ∃ z2 : (List Int), ∃ v2 : Value, z2 = s ∧ a0.drop ik1 = rem ∧ f 8 = .int .i64 (ik1 : Int) ∧ f 7 = (.int .i64 ((a0.length : Nat) : Int)) ∧ f 3 = v2 ∧ f 6 = va0 ∧ Inv w0 w [ownI (α := Int) v2 3 z2]) ?_ ?_ ?_
    · skip
      exact ⟨_, (.slice none 0 0), rfl, List.drop_zero, rfl, rfl, rfl, rfl, H⟩
    · skip
      rintro yk1 xs ik1 _ st f w ⟨z2, v2, rfl, hdropk1, hf8, hf7, hf3, hf6, H⟩ hm2
      have hltk1 := drop_lt hdropk1; have hixk1 := drop_idx hdropk1
      obtain ⟨u1, rfl⟩ : ∃ u1, f = (upd (upd (upd (upd u1 8 (.int .i64 (ik1 : Int))) 7 (.int .i64 ((a0.length : Nat) : Int))) 3 v2) 6 va0) := ⟨f, by rw [upd_self hf8, upd_self hf7, upd_self hf3, upd_self hf6]⟩
      have hinck1 := addI_lt hltk1 (H.arg ha0).len_le
      refine W.seq ?_
      refine W.region ?_
      refine O.lss rfl rfl rfl rfl ?_
      refine WL.nil ?_
      refine W.seq ?_
      refine W.cond_true (congrArg Value.bool (decide_eq_true hltk1)) ?_
      refine W.skip ?_
      refine W.seq ?_
      obtain ⟨s2, hm3, hm2⟩ := bind_some hm2
      refine W.via (fun f w => ∃ v5 : Value, f 3 = v5 ∧ f 6 = va0 ∧ f 7 = (.int .i64 ((a0.length : Nat) : Int)) ∧ f 8 = (.int .i64 (ik1 : Int)) ∧ Inv w0 w [ownI (α := Int) v5 3 s2]) ?_ ?_
      · skip
        refine W.block ?_
        refine W.seq ?_
        refine W.region ?_
        obtain ⟨p1, hp1, hrp1⟩ := fix_indexAddr Tryd.underlying22 sz3 ha0 hixk1
        refine hrp1 rfl rfl rfl rfl ?_
        refine O.load sc3 rfl rfl rfl ((hp1.mono H.base).flat 0 _ rfl) ?_
        refine O.assign (v := (.int .i64 yk1)) rfl rfl rfl ?_
        refine WL.nil ?_
        refine W.seq ?_
        refine W.seq ?_
        refine W.region ?_
        refine O.move (v := (.int .i64 yk1)) rfl rfl rfl ?_
        refine O.geq rfl rfl rfl rfl ?_
        refine WL.nil ?_
        obtain ⟨s3, hm4, hm3⟩ := bind_some hm3
        refine W.via (fun f w => f 3 = v2 ∧ f 5 = (.int .i64 s3) ∧ f 6 = va0 ∧ f 7 = (.int .i64 ((a0.length : Nat) : Int)) ∧ f 8 = (.int .i64 (ik1 : Int)) ∧ Inv w0 w [ownI (α := Int) v2 3 z2]) ?_ ?_
        · skip
          rcases ite_some hm4 with ⟨hc1, hm4⟩ | ⟨hc1, hm4⟩
          · refine W.cond_true (congrArg Value.bool hc1) ?_
            refine W.region ?_
            refine O.move (v := v2) rfl rfl rfl ?_
            refine O.move (v := (.int .i64 yk1)) rfl rfl rfl ?_
            obtain ⟨t1, ht1, hm4⟩ := bind_some hm4
            refine O.sub rfl rfl rfl rfl ht1 ?_
            obtain ⟨x1, hx1, hm4⟩ := bind_some hm4
            refine O.indexAddr Tryd.underlying22 sz3 (H.own 0 rfl) hx1 rfl rfl rfl rfl ?_
            intro p2 hp2
            refine O.load sc3 rfl rfl rfl (hp2.flat 0 _ rfl) ?_
            refine O.assign (v := (.int .i64 x1)) rfl rfl rfl ?_
            refine WL.nil ?_
            have hq : x1 = s3 := Option.some.inj (show some x1 = some s3 from hm4)
            subst hq
            exact ⟨rfl, rfl, rfl, rfl, rfl, H⟩
          · refine W.cond_false (congrArg Value.bool hc1) ?_
            refine W.skip ?_
            have hq : yk1 = s3 := Option.some.inj (show some yk1 = some s3 from hm4)
            subst hq
            exact ⟨rfl, rfl, rfl, rfl, rfl, H⟩
        · skip
          rintro f w ⟨hf3, hf5, hf6, hf7, hf8, H⟩
          obtain ⟨u2, rfl⟩ : ∃ u2, f = (upd (upd (upd (upd (upd u2 3 v2) 5 (.int .i64 s3)) 6 va0) 7 (.int .i64 ((a0.length : Nat) : Int))) 8 (.int .i64 (ik1 : Int))) := ⟨f, by rw [upd_self hf3, upd_self hf5, upd_self hf6, upd_self hf7, upd_self hf8]⟩
          refine W.region ?_
          refine O.move (v := v2) rfl rfl rfl ?_
          refine O.move (v := (.int .i64 s3)) rfl rfl rfl ?_
          refine O.buildSlice (α := Int) [(.int .i64 s3)] [s3] Tryd.underlying22 el3 H rfl rfl rfl rfl rfl rfl rfl ?_
          intro v6 w1 H hb1
          obtain ⟨t2, ht2, hm3⟩ := bind_some hm3
          refine O.append 0 Tryd.underlying22 el3 rfl H rfl (H.own 1 rfl) ht2 rfl rfl rfl rfl ?_
          intro v7 w2 H
          refine O.assign (v := v7) rfl rfl rfl ?_
          refine WL.nil ?_
          have H := H.keep [0] [ownI (α := Int) v7 3 t2] rfl (by decide)
          have hq : t2 = s2 := Option.some.inj (show some t2 = some s2 from hm3)
          subst hq
          exact ⟨v7, rfl, rfl, rfl, rfl, H⟩
      · skip
        rintro f w ⟨v5, hf3, hf6, hf7, hf8, H⟩
        obtain ⟨u3, rfl⟩ : ∃ u3, f = (upd (upd (upd (upd u3 3 v5) 6 va0) 7 (.int .i64 ((a0.length : Nat) : Int))) 8 (.int .i64 (ik1 : Int))) := ⟨f, by rw [upd_self hf3, upd_self hf6, upd_self hf7, upd_self hf8]⟩
        refine W.region ?_
        refine O.add rfl rfl rfl rfl hinck1 ?_
        refine O.move (v := .int .i64 ((ik1 : Int) + 1)) rfl rfl rfl ?_
        refine WL.nil ?_
        obtain rfl := Option.some.inj hm2
        exact ⟨_, rfl, _, v5, rfl, drop_next hdropk1, rfl, rfl, rfl, rfl, H⟩
    · skip
      rintro ik1 _ f w ⟨z2, v2, rfl, hdropk1, hf8, hf7, hf3, hf6, H⟩ hfin
      have hltk1 := drop_end hdropk1
      obtain ⟨u4, rfl⟩ : ∃ u4, f = (upd (upd (upd (upd u4 8 (.int .i64 (ik1 : Int))) 7 (.int .i64 ((a0.length : Nat) : Int))) 3 v2) 6 va0) := ⟨f, by rw [upd_self hf8, upd_self hf7, upd_self hf3, upd_self hf6]⟩
      refine W.seq ?_
      refine W.region ?_
      refine O.lss rfl rfl rfl rfl ?_
      refine WL.nil ?_
      refine W.seq ?_
      refine W.cond_false (congrArg Value.bool (decide_eq_false hltk1)) ?_
      refine W.exit ?_
      have hq : z2 = s1 := hfin
      subst hq
      refine xT rfl ?_
      exact ⟨v2, rfl, H⟩
  · skip
    rintro f w ⟨v4, hf3, H⟩
    obtain ⟨u5, rfl⟩ : ∃ u5, f = (upd u5 3 v4) := ⟨f, by rw [upd_self hf3]⟩
    refine W.seq ?_
    refine W.region ?_
    refine O.move (v := v4) rfl rfl rfl ?_
    refine O.assign (v := v4) rfl rfl rfl ?_
    refine WL.nil ?_
    refine W.ret ?_
    have hq : s1 = r0 := Option.some.inj (show some s1 = some r0 from hm)
    subst hq
    exact ends1 Tryd.results54 rfl ⟨_, rfl, H.base, H.ownR 0 rfl⟩

set_option maxRecDepth 20000 in
theorem c_noongunref07_hoists {w0 : World} (va0 : Value) (a0 : (List Int)) (ha0 : SliceR w0 va0 a0) (a1 : Int) {r0 : (List (List Int))} (hm : noongunref07_hoists a0 a1 = some r0) :
    Calls Tryd.prog 77 #[va0, (.int .i64 a1)] w0 (Ret w0 fun w v => ∃ vr0 : Value, v = vr0 ∧ SliceR w vr0 r0) := by
  unfold noongunref07_hoists at hm
  refine calls_of_W Tryd.func77 rfl Tryd.ntmps77 (Nat.le_of_ble_eq_true rfl) ?_
  have H := Inv.start (w := w0)
  refine W.seq ?_
  refine W.region ?_
  have H := H.addNilR (α := Int) (E := 22)
  refine O.assign (v := (.slice none 0 0)) rfl rfl rfl ?_
  refine WL.nil ?_
  refine W.seq ?_
  refine W.region ?_
  have H := H.addNilR (α := Int) (E := 22)
  refine O.assign (v := (.slice none 0 0)) rfl rfl rfl ?_
  refine WL.nil ?_
  refine W.seq ?_
  refine W.seq ?_
  refine W.region ?_
  refine O.move (v := va0) rfl rfl rfl ?_
  refine O.lenS Tryd.underlying22 (H.arg ha0) rfl rfl rfl ?_
  refine O.move (v := (.int .i64 0)) rfl rfl rfl ?_
  refine WL.nil ?_
  obtain ⟨s1, hm1, hm⟩ := bind_some hm
  refine W.via (fun f w => ∃ v4 : Value, ∃ Fx4 : (Nat → Prop), ∃ rc4 : List C1, f 5 = v4 ∧ Inv w0 w [ownRI (α := Int) Fx4 v4 22 rc4 s1]) ?_ ?_
  · skip
    refine W.block ?_
    have hbdik1 := (H.arg ha0).len_le
    have H := H.keep [1] [ownRI (α := Int) (fun _ => False) (.slice none 0 0) 22 [] ([] : List (List Int))] rfl (by decide)
    refine W.rangeN (i := 0) hm1 (fun rem ik1 s f w => ∃ z2 : (List (List Int)), ∃ v2 : Value, ∃ Fx2 : (Nat → Prop), ∃ rc2 : List C1, z2 = s ∧ (ik1 : Int) + rem = max 0 ((a0.length : Nat) : Int) ∧ f 15 = .int .i64 (ik1 : Int) ∧ f 14 = (.int .i64 ((a0.length : Nat) : Int)) ∧ f 0 = va0 ∧ f 1 = (.int .i64 a1) ∧ f 5 = v2 ∧ Inv w0 w [ownRI (α := Int) Fx2 v2 22 rc2 z2]) ?_ ?_ ?_
    · skip
      exact ⟨_, (.slice none 0 0), (fun _ => False), [], rfl, rangeN_start, rfl, rfl, rfl, rfl, rfl, H⟩
    · skip
      rintro k ik1 _ st f w ⟨z2, v2, Fx2, rc2, rfl, hdropk1, hf15, hf14, hf0, hf1, hf5, H⟩ hm2
      have hltk1 := rangeN_lt hdropk1
      obtain ⟨u1, rfl⟩ : ∃ u1, f = (upd (upd (upd (upd (upd u1 15 (.int .i64 (ik1 : Int))) 14 (.int .i64 ((a0.length : Nat) : Int))) 0 va0) 1 (.int .i64 a1)) 5 v2) := ⟨f, by rw [upd_self hf15, upd_self hf14, upd_self hf0, upd_self hf1, upd_self hf5]⟩
      have hinck1 := addI_lt hltk1 hbdik1
      refine W.seq ?_
      refine W.region ?_
      refine O.lss rfl rfl rfl rfl ?_
      refine WL.nil ?_
      refine W.seq ?_
      refine W.cond_true (congrArg Value.bool (decide_eq_true hltk1)) ?_
      refine W.skip ?_
      refine W.seq ?_
      obtain ⟨s2, hm3, hm2⟩ := bind_some hm2
      refine W.via (fun f w => ∃ v5 : Value, ∃ Fx5 : (Nat → Prop), ∃ rc5 : List C1, f 0 = va0 ∧ f 1 = (.int .i64 a1) ∧ f 5 = v5 ∧ f 14 = (.int .i64 ((a0.length : Nat) : Int)) ∧ f 15 = (.int .i64 (ik1 : Int)) ∧ Inv w0 w [ownRI (α := Int) Fx5 v5 22 rc5 s2]) ?_ ?_
      · skip
        refine W.block ?_
        refine W.seq ?_
        refine W.region ?_
        refine O.move (v := (.int .i64 (ik1 : Int))) rfl rfl rfl ?_
        refine O.assign (v := (.int .i64 (ik1 : Int))) rfl rfl rfl ?_
        refine WL.nil ?_
        refine W.seq ?_
        refine W.region ?_
        have H := H.addNilR (α := Int) (E := 22)
        refine O.assign (v := (.slice none 0 0)) rfl rfl rfl ?_
        refine WL.nil ?_
        refine W.seq ?_
        refine W.region ?_
        refine O.move (v := v2) rfl rfl rfl ?_
        refine O.assign (v := v2) rfl rfl rfl ?_
        refine WL.nil ?_
        refine W.seq ?_
        refine W.seq ?_
        refine W.region ?_
        refine O.move (v := (.int .i64 (ik1 : Int))) rfl rfl rfl ?_
        refine O.eql rfl rfl rfl rfl ?_
        refine WL.nil ?_
        obtain ⟨s3, hm4, hm3⟩ := bind_some hm3
        refine W.via (fun f w => ∃ v6 : Value, ∃ Fx6 : (Nat → Prop), ∃ rc6 : List C1, f 0 = va0 ∧ f 1 = (.int .i64 a1) ∧ f 6 = (.int .i64 (ik1 : Int)) ∧ f 7 = (.slice none 0 0) ∧ f 8 = v6 ∧ f 14 = (.int .i64 ((a0.length : Nat) : Int)) ∧ f 15 = (.int .i64 (ik1 : Int)) ∧ Inv w0 w [ownRI (α := Int) (fun _ => False) (.slice none 0 0) 22 [] ([] : List (List Int)), ownRI (α := Int) Fx6 v6 22 rc6 s3]) ?_ ?_
        · skip
          rcases ite_some hm4 with ⟨hc1, hm4⟩ | ⟨hc1, hm4⟩
          · refine W.cond_true (congrArg Value.bool hc1) ?_
            refine W.region ?_
            refine O.buildSlice (α := C1) [(.slice none 0 0)] [⟨.slice none 0 0, rfl⟩] Tryd.underlying86 el22 H rfl rfl rfl rfl (lit1_cells rfl) rfl rfl ?_
            intro v7 w1 H hb1
            have H := H.litNil (α := Int) 2 rfl rfl
            refine O.assign (v := v7) rfl rfl rfl ?_
            refine WL.nil ?_
            have H := H.keep [1, 2] [ownRI (α := Int) (fun _ => False) (.slice none 0 0) 22 [] ([] : List (List Int)), ownRI (α := Int) (fun _ => False) v7 22 [⟨.slice none 0 0, rfl⟩] ([([] : (List Int))] : List (List Int))] rfl (by decide)
            have hq : ([([] : (List Int))] : List (List Int)) = s3 := Option.some.inj (show some ([([] : (List Int))] : List (List Int)) = some s3 from hm4)
            subst hq
            exact ⟨v7, (fun _ => False), [⟨.slice none 0 0, rfl⟩], rfl, rfl, rfl, rfl, rfl, rfl, rfl, H⟩
          · refine W.cond_false (congrArg Value.bool hc1) ?_
            refine W.skip ?_
            have H := H.pick [1, 0] [ownRI (α := Int) (fun _ => False) (.slice none 0 0) 22 [] ([] : List (List Int)), ownRI (α := Int) Fx2 v2 22 rc2 z2] rfl (by decide)
            have hq : z2 = s3 := Option.some.inj (show some z2 = some s3 from hm4)
            subst hq
            exact ⟨v2, Fx2, rc2, rfl, rfl, rfl, rfl, rfl, rfl, rfl, H⟩
        · skip
          rintro f w ⟨v6, Fx6, rc6, hf0, hf1, hf6, hf7, hf8, hf14, hf15, H⟩
          obtain ⟨u2, rfl⟩ : ∃ u2, f = (upd (upd (upd (upd (upd (upd (upd u2 0 va0) 1 (.int .i64 a1)) 6 (.int .i64 (ik1 : Int))) 7 (.slice none 0 0)) 8 v6) 14 (.int .i64 ((a0.length : Nat) : Int))) 15 (.int .i64 (ik1 : Int))) := ⟨f, by rw [upd_self hf0, upd_self hf1, upd_self hf6, upd_self hf7, upd_self hf8, upd_self hf14, upd_self hf15]⟩
          refine W.seq ?_
          refine W.seq ?_
          refine W.region ?_
          refine O.move (v := v6) rfl rfl rfl ?_
          refine O.lenS Tryd.underlying86 (H.ownRd 1 rfl) rfl rfl rfl ?_
          refine O.move (v := (.int .i64 0)) rfl rfl rfl ?_
          refine WL.nil ?_
          obtain ⟨s4, hm5, hm3⟩ := bind_some hm3
          refine W.via (fun f w => ∃ v11 : Value, ∃ Fx10 : (Nat → Prop), ∃ rc10 : List C1, f 0 = va0 ∧ f 1 = (.int .i64 a1) ∧ f 7 = v11 ∧ f 14 = (.int .i64 ((a0.length : Nat) : Int)) ∧ f 15 = (.int .i64 (ik1 : Int)) ∧ Inv w0 w [ownRI (α := Int) Fx10 v11 22 rc10 s4]) ?_ ?_
          · skip
            refine W.block ?_
            refine W.rangeL (i := 0) hm5 (fun rem ik2 s f w => ∃ z5 : (List (List Int)), ∃ v9 : Value, ∃ Fx8 : (Nat → Prop), ∃ rc8 : List C1, z5 = s ∧ s3.drop ik2 = rem ∧ f 24 = .int .i64 (ik2 : Int) ∧ f 23 = (.int .i64 ((s3.length : Nat) : Int)) ∧ f 0 = va0 ∧ f 1 = (.int .i64 a1) ∧ f 6 = (.int .i64 (ik1 : Int)) ∧ f 7 = v9 ∧ f 14 = (.int .i64 ((a0.length : Nat) : Int)) ∧ f 15 = (.int .i64 (ik1 : Int)) ∧ f 22 = v6 ∧ Inv w0 w [ownRI (α := Int) Fx8 v9 22 rc8 z5, ownRI (α := Int) Fx6 v6 22 rc6 s3]) ?_ ?_ ?_
            · skip
              exact ⟨_, (.slice none 0 0), (fun _ => False), [], rfl, List.drop_zero, rfl, rfl, rfl, rfl, rfl, rfl, rfl, rfl, rfl, H⟩
            · skip
              rintro yk2 xs ik2 _ st f w ⟨z5, v9, Fx8, rc8, rfl, hdropk2, hf24, hf23, hf0, hf1, hf6, hf7, hf14, hf15, hf22, H⟩ hm6
              have hltk2 := drop_lt hdropk2; have hixk2 := drop_idx hdropk2
              obtain ⟨u3, rfl⟩ : ∃ u3, f = (upd (upd (upd (upd (upd (upd (upd (upd (upd u3 24 (.int .i64 (ik2 : Int))) 23 (.int .i64 ((s3.length : Nat) : Int))) 0 va0) 1 (.int .i64 a1)) 6 (.int .i64 (ik1 : Int))) 7 v9) 14 (.int .i64 ((a0.length : Nat) : Int))) 15 (.int .i64 (ik1 : Int))) 22 v6) := ⟨f, by rw [upd_self hf24, upd_self hf23, upd_self hf0, upd_self hf1, upd_self hf6, upd_self hf7, upd_self hf14, upd_self hf15, upd_self hf22]⟩
              have hinck2 := addI_lt hltk2 (H.ownRd 1 rfl).len_le
              refine W.seq ?_
              refine W.region ?_
              refine O.lss rfl rfl rfl rfl ?_
              refine WL.nil ?_
              refine W.seq ?_
              refine W.cond_true (congrArg Value.bool (decide_eq_true hltk2)) ?_
              refine W.skip ?_
              refine W.seq ?_
              obtain ⟨s5, hm7, hm6⟩ := bind_some hm6
              refine W.via (fun f w => ∃ v12 : Value, ∃ Fx11 : (Nat → Prop), ∃ rc11 : List C1, f 0 = va0 ∧ f 1 = (.int .i64 a1) ∧ f 6 = (.int .i64 (ik1 : Int)) ∧ f 7 = v12 ∧ f 14 = (.int .i64 ((a0.length : Nat) : Int)) ∧ f 15 = (.int .i64 (ik1 : Int)) ∧ f 22 = v6 ∧ f 23 = (.int .i64 ((s3.length : Nat) : Int)) ∧ f 24 = (.int .i64 (ik2 : Int)) ∧ Inv w0 w [ownRI (α := Int) Fx11 v12 22 rc11 s5, ownRI (α := Int) Fx6 v6 22 rc6 s3]) ?_ ?_
              · skip
                refine W.block ?_
                refine W.seq ?_
                refine W.region ?_
                obtain ⟨rw1, hirw1, hrw1⟩ := H.rowIdx 1 rfl hixk2
                refine O.indexAddr Tryd.underlying86 sz22 (H.ownC 1 rfl) hirw1 rfl rfl rfl rfl ?_
                intro p1 hp1
                refine O.load sc22 rfl rfl rfl (hp1.flat 0 _ rfl) ?_
                refine O.assign (v := rw1.1) rfl rfl rfl ?_
                refine WL.nil ?_
                refine W.seq ?_
                refine W.region ?_
                refine O.move (v := (.int .i64 0)) rfl rfl rfl ?_
                refine WL.nil ?_
                obtain ⟨s6, hm8, hm7⟩ := bind_some hm7
                refine W.via (fun f w => ∃ v16 : Value, ∃ Fx15 : (Nat → Prop), ∃ rc15 : List C1, f 0 = va0 ∧ f 1 = (.int .i64 a1) ∧ f 6 = (.int .i64 (ik1 : Int)) ∧ f 7 = v16 ∧ f 14 = (.int .i64 ((a0.length : Nat) : Int)) ∧ f 15 = (.int .i64 (ik1 : Int)) ∧ f 22 = v6 ∧ f 23 = (.int .i64 ((s3.length : Nat) : Int)) ∧ f 24 = (.int .i64 (ik2 : Int)) ∧ Inv w0 w [ownRI (α := Int) Fx15 v16 22 rc15 s6, ownRI (α := Int) Fx6 v6 22 rc6 s3]) ?_ ?_
                · skip
                  refine W.block ?_
                  refine W.rangeN (i := 0) hm8 (fun rem ik3 s f w => ∃ z8 : (List (List Int)), ∃ v14 : Value, ∃ Fx13 : (Nat → Prop), ∃ rc13 : List C1, z8 = s ∧ (ik3 : Int) + rem = max 0 13 ∧ f 28 = .int .i64 (ik3 : Int) ∧ f 0 = va0 ∧ f 1 = (.int .i64 a1) ∧ f 6 = (.int .i64 (ik1 : Int)) ∧ f 7 = v14 ∧ f 10 = rw1.1 ∧ f 14 = (.int .i64 ((a0.length : Nat) : Int)) ∧ f 15 = (.int .i64 (ik1 : Int)) ∧ f 22 = v6 ∧ f 23 = (.int .i64 ((s3.length : Nat) : Int)) ∧ f 24 = (.int .i64 (ik2 : Int)) ∧ Inv w0 w [ownRI (α := Int) Fx13 v14 22 rc13 z8, ownRI (α := Int) Fx6 v6 22 rc6 s3]) ?_ ?_ ?_
                  · skip
                    exact ⟨_, v9, Fx8, rc8, rfl, rangeN_start, rfl, rfl, rfl, rfl, rfl, rfl, rfl, rfl, rfl, rfl, rfl, H⟩
                  · skip
                    rintro k ik3 _ st f w ⟨z8, v14, Fx13, rc13, rfl, hdropk3, hf28, hf0, hf1, hf6, hf7, hf10, hf14, hf15, hf22, hf23, hf24, H⟩ hm9
                    have hltk3 := rangeN_lt hdropk3
                    obtain ⟨u4, rfl⟩ : ∃ u4, f = (upd (upd (upd (upd (upd (upd (upd (upd (upd (upd (upd u4 28 (.int .i64 (ik3 : Int))) 0 va0) 1 (.int .i64 a1)) 6 (.int .i64 (ik1 : Int))) 7 v14) 10 rw1.1) 14 (.int .i64 ((a0.length : Nat) : Int))) 15 (.int .i64 (ik1 : Int))) 22 v6) 23 (.int .i64 ((s3.length : Nat) : Int))) 24 (.int .i64 (ik2 : Int))) := ⟨f, by rw [upd_self hf28, upd_self hf0, upd_self hf1, upd_self hf6, upd_self hf7, upd_self hf10, upd_self hf14, upd_self hf15, upd_self hf22, upd_self hf23, upd_self hf24]⟩
                    have hinck3 := addI_lt hltk3 (by decide)
                    refine W.seq ?_
                    refine W.region ?_
                    refine O.lss rfl rfl rfl rfl ?_
                    refine WL.nil ?_
                    refine W.seq ?_
                    refine W.cond_true (congrArg Value.bool (decide_eq_true hltk3)) ?_
                    refine W.skip ?_
                    refine W.seq ?_
                    obtain ⟨s7, hm10, hm9⟩ := bind_some hm9
                    refine W.via (fun f w => ∃ v17 : Value, ∃ Fx16 : (Nat → Prop), ∃ rc16 : List C1, f 0 = va0 ∧ f 1 = (.int .i64 a1) ∧ f 6 = (.int .i64 (ik1 : Int)) ∧ f 7 = v17 ∧ f 10 = rw1.1 ∧ f 14 = (.int .i64 ((a0.length : Nat) : Int)) ∧ f 15 = (.int .i64 (ik1 : Int)) ∧ f 22 = v6 ∧ f 23 = (.int .i64 ((s3.length : Nat) : Int)) ∧ f 24 = (.int .i64 (ik2 : Int)) ∧ f 28 = (.int .i64 (ik3 : Int)) ∧ Inv w0 w [ownRI (α := Int) Fx16 v17 22 rc16 s7, ownRI (α := Int) Fx6 v6 22 rc6 s3]) ?_ ?_
                    · skip
                      refine W.block ?_
                      refine W.seq ?_
                      refine W.region ?_
                      refine O.move (v := (.int .i64 (ik3 : Int))) rfl rfl rfl ?_
                      refine O.assign (v := (.int .i64 (ik3 : Int))) rfl rfl rfl ?_
                      refine WL.nil ?_
                      refine W.seq ?_
                      refine W.region ?_
                      refine O.buildEmpty (α := Int) Tryd.underlying22 el3 H rfl rfl ?_
                      intro b1 w2 H hb2
                      refine O.move (v := rw1.1) rfl rfl rfl ?_
                      obtain ⟨t1, ht1, hm10⟩ := bind_some hm10
                      refine O.append 2 Tryd.underlying22 el3 rfl H rfl (H.elemR 1 rfl hrw1) ht1 rfl rfl rfl rfl ?_
                      intro v18 w3 H
                      refine O.move (v := (.int .i64 (ik3 : Int))) rfl rfl rfl ?_
                      refine O.buildSlice (α := Int) [(.int .i64 (ik3 : Int))] [(ik3 : Int)] Tryd.underlying22 el3 H rfl rfl rfl rfl rfl rfl rfl ?_
                      intro v19 w4 H hb3
                      obtain ⟨t2, ht2, hm10⟩ := bind_some hm10
                      refine O.append 2 Tryd.underlying22 el3 rfl H rfl (H.own 3 rfl) ht2 rfl rfl rfl rfl ?_
                      intro v20 w5 H
                      refine O.assign (v := v20) rfl rfl rfl ?_
                      refine WL.nil ?_
                      refine W.seq ?_
                      obtain ⟨s8, hm11, hm10⟩ := bind_some hm10
                      refine W.via (fun f w => f 0 = va0 ∧ f 1 = (.int .i64 a1) ∧ f 6 = (.int .i64 (ik1 : Int)) ∧ f 7 = v14 ∧ f 10 = rw1.1 ∧ f 12 = v20 ∧ f 14 = (.int .i64 ((a0.length : Nat) : Int)) ∧ f 15 = (.int .i64 (ik1 : Int)) ∧ f 22 = v6 ∧ f 23 = (.int .i64 ((s3.length : Nat) : Int)) ∧ f 24 = (.int .i64 (ik2 : Int)) ∧ f 28 = (.int .i64 (ik3 : Int)) ∧ f 54 = (.bool s8) ∧ Inv w0 w [ownRI (α := Int) Fx13 v14 22 rc13 z8, ownRI (α := Int) Fx6 v6 22 rc6 s3, ownI (α := Int) v20 3 t2]) ?_ ?_
                      · skip
                        obtain ⟨t3, ht3, hm11⟩ := bind_some hm11
                        rcases ite_some hm11 with ⟨hc2, hm11⟩ | ⟨hc2, hm11⟩
                        · skip
                          obtain ⟨t4, hy1, hm11⟩ := bind_some hm11
                          rcases ite_some hm11 with ⟨hc3, hm11⟩ | ⟨hc3, hm11⟩
                          · skip
                            obtain ⟨t5, hy2, hm11⟩ := bind_some hm11
                            obtain ⟨t6, ht6, hm11⟩ := bind_some hm11
                            obtain ⟨t7, ht7, hm11⟩ := bind_some hm11
                            obtain ⟨v22, hs1, hrv22⟩ := fix_sliceH Tryd.underlying22 sz3 ha0 ht7
                            obtain ⟨t8, hy3, hm11⟩ := bind_some hm11
                            refine W.draw 18 (fun k v wk => match k with | 0 => v = (.int .i64 a1) | 1 => v = (.int .i64 (ik3 : Int)) | 2 => v = (.int .i64 t3) | 3 => v = (.int .i64 (bits .and .i64 t3 1)) | 4 => v = (.bool ((bits .and .i64 t3 1) == 1)) | 5 => v = (.bool true) | 6 => v = v20 | 7 => v = (.bool t4) | 8 => v = (.bool t4) | 9 => v = (.bool true) | 10 => v = v20 | 11 => OwnR w5 wk v 3 t5 | 12 => v = va0 | 13 => v = (.int .i64 (ik1 : Int)) | 14 => v = (.int .i64 t6) | 15 => v = v22 | 16 => v = (.bool t8) | 17 => v = (.bool t8) | _ => True) (by intro k v w w' h hb; match k, h with | 0, h => exact h | 1, h => exact h | 2, h => exact h | 3, h => exact h | 4, h => exact h | 5, h => exact h | 6, h => exact h | 7, h => exact h | 8, h => exact h | 9, h => exact h | 10, h => exact h | 11, h => exact OwnR.mono h hb | 12, h => exact h | 13, h => exact h | 14, h => exact h | 15, h => exact h | 16, h => exact h | 17, h => exact h | _ + 18, h => exact h) fol (by kernel_rfl) ?_ ?_
                            · skip
                              refine ⟨⟨⟨⟨⟨⟨⟨⟨⟨⟨⟨⟨⟨⟨⟨⟨⟨⟨trivial, ?_⟩, ?_⟩, ?_⟩, ?_⟩, ?_⟩, ?_⟩, ?_⟩, ?_⟩, ?_⟩, ?_⟩, ?_⟩, ?_⟩, ?_⟩, ?_⟩, ?_⟩, ?_⟩, ?_⟩, ?_⟩
                              · skip
                                intro f wk hx hf hd
                                have H := H.ext hx
                                have hf1 : f 1 = (.int .i64 a1) := hf 1 rfl
                                obtain ⟨u5, rfl⟩ : ∃ u5, f = (upd u5 1 (.int .i64 a1)) := ⟨f, by rw [upd_self hf1]⟩
                                refine O.move (v := (.int .i64 a1)) rfl rfl rfl ?_
                                refine WL.nil ?_
                                exact ⟨Below.refl _ _, _, rfl, rfl⟩
                              · skip
                                intro f wk hx hf hd
                                have H := H.ext hx
                                have hf11 : f 11 = (.int .i64 (ik3 : Int)) := hf 11 rfl
                                obtain ⟨u6, rfl⟩ : ∃ u6, f = (upd u6 11 (.int .i64 (ik3 : Int))) := ⟨f, by rw [upd_self hf11]⟩
                                refine O.move (v := (.int .i64 (ik3 : Int))) rfl rfl rfl ?_
                                refine WL.nil ?_
                                exact ⟨Below.refl _ _, _, rfl, rfl⟩
                              · skip
                                intro f wk hx hf hd
                                have H := H.ext hx
                                have hf37 : f 37 = (.int .i64 a1) := hd 0 rfl
                                have hf38 : f 38 = (.int .i64 (ik3 : Int)) := hd 1 rfl
                                obtain ⟨u7, rfl⟩ : ∃ u7, f = (upd (upd u7 37 (.int .i64 a1)) 38 (.int .i64 (ik3 : Int))) := ⟨f, by rw [upd_self hf37, upd_self hf38]⟩
                                refine O.shr rfl rfl rfl rfl ht3 ?_
                                refine WL.nil ?_
                                exact ⟨Below.refl _ _, _, rfl, rfl⟩
                              · skip
                                intro f wk hx hf hd
                                have H := H.ext hx
                                have hf39 : f 39 = (.int .i64 t3) := hd 2 rfl
                                obtain ⟨u8, rfl⟩ : ∃ u8, f = (upd u8 39 (.int .i64 t3)) := ⟨f, by rw [upd_self hf39]⟩
                                refine O.and rfl rfl rfl rfl ?_
                                refine WL.nil ?_
                                exact ⟨Below.refl _ _, _, rfl, rfl⟩
                              · skip
                                intro f wk hx hf hd
                                have H := H.ext hx
                                have hf40 : f 40 = (.int .i64 (bits .and .i64 t3 1)) := hd 3 rfl
                                obtain ⟨u9, rfl⟩ : ∃ u9, f = (upd u9 40 (.int .i64 (bits .and .i64 t3 1))) := ⟨f, by rw [upd_self hf40]⟩
                                refine O.eql rfl rfl rfl rfl ?_
                                refine WL.nil ?_
                                exact ⟨Below.refl _ _, _, rfl, rfl⟩
                              · skip
                                intro f wk hx hf hd
                                have H := H.ext hx
                                have hf41 : f 41 = (.bool ((bits .and .i64 t3 1) == 1)) := hd 4 rfl
                                obtain ⟨u10, rfl⟩ : ∃ u10, f = (upd u10 41 (.bool ((bits .and .i64 t3 1) == 1))) := ⟨f, by rw [upd_self hf41]⟩
                                refine O.move (v := (.bool ((bits .and .i64 t3 1) == 1))) rfl rfl rfl ?_
                                refine WL.nil ?_
                                exact ⟨Below.refl _ _, _, rfl, congrArg Value.bool hc2⟩
                              · skip
                                intro f wk hx hf hd
                                have H := H.ext hx
                                have hf12 : f 12 = v20 := hf 12 rfl
                                have hf42 : f 42 = (.bool true) := hd 5 rfl
                                obtain ⟨u11, rfl⟩ : ∃ u11, f = (upd (upd u11 12 v20) 42 (.bool true)) := ⟨f, by rw [upd_self hf12, upd_self hf42]⟩
                                refine O.move (v := v20) rfl rfl rfl ?_
                                refine WL.nil ?_
                                exact ⟨Below.refl _ _, _, rfl, rfl⟩
                              · skip
                                intro f wk hx hf hd
                                have H := H.ext hx
                                have hf42 : f 42 = (.bool true) := hd 5 rfl
                                have hf43 : f 43 = v20 := hd 6 rfl
                                obtain ⟨u12, rfl⟩ : ∃ u12, f = (upd (upd u12 42 (.bool true)) 43 v20) := ⟨f, by rw [upd_self hf42, upd_self hf43]⟩
                                refine O.call Tryd.call53 rfl rfl rfl (c_noongunref07_ValidHoist _ _ (H.own 2 rfl) hy1) ?_
                                rintro _ w6 hb4 rfl
                                have H := H.ext hb4
                                refine WL.nil ?_
                                exact ⟨hb4, _, rfl, rfl⟩
                              · skip
                                intro f wk hx hf hd
                                have H := H.ext hx
                                have hf42 : f 42 = (.bool true) := hd 5 rfl
                                have hf44 : f 44 = (.bool t4) := hd 7 rfl
                                obtain ⟨u13, rfl⟩ : ∃ u13, f = (upd (upd u13 42 (.bool true)) 44 (.bool t4)) := ⟨f, by rw [upd_self hf42, upd_self hf44]⟩
                                refine O.pick_true (v := (.bool t4)) rfl rfl rfl rfl ?_
                                refine WL.nil ?_
                                exact ⟨Below.refl _ _, _, rfl, rfl⟩
                              · skip
                                intro f wk hx hf hd
                                have H := H.ext hx
                                have hf45 : f 45 = (.bool t4) := hd 8 rfl
                                obtain ⟨u14, rfl⟩ : ∃ u14, f = (upd u14 45 (.bool t4)) := ⟨f, by rw [upd_self hf45]⟩
                                refine O.move (v := (.bool t4)) rfl rfl rfl ?_
                                refine WL.nil ?_
                                exact ⟨Below.refl _ _, _, rfl, congrArg Value.bool hc3⟩
                              · skip
                                intro f wk hx hf hd
                                have H := H.ext hx
                                have hf12 : f 12 = v20 := hf 12 rfl
                                have hf46 : f 46 = (.bool true) := hd 9 rfl
                                obtain ⟨u15, rfl⟩ : ∃ u15, f = (upd (upd u15 12 v20) 46 (.bool true)) := ⟨f, by rw [upd_self hf12, upd_self hf46]⟩
                                refine O.move (v := v20) rfl rfl rfl ?_
                                refine WL.nil ?_
                                exact ⟨Below.refl _ _, _, rfl, rfl⟩
                              · skip
                                intro f wk hx hf hd
                                have H := H.ext hx
                                have hf46 : f 46 = (.bool true) := hd 9 rfl
                                have hf47 : f 47 = v20 := hd 10 rfl
                                obtain ⟨u16, rfl⟩ : ∃ u16, f = (upd (upd u16 46 (.bool true)) 47 v20) := ⟨f, by rw [upd_self hf46, upd_self hf47]⟩
                                refine O.call Tryd.call54 rfl rfl rfl (c_noongunref07_means _ _ (H.own 2 rfl) hy2) ?_
                                rintro v21 w7 hb5 ho1
                                have H := H.addOwn hb5 ho1
                                refine WL.nil ?_
                                exact ⟨hb5, _, rfl, OwnR.base ho1 hx.size⟩
                              · skip
                                intro f wk hx hf hd
                                have H := H.ext hx
                                have hf0 : f 0 = va0 := hf 0 rfl
                                have hf46 : f 46 = (.bool true) := hd 9 rfl
                                obtain ⟨u17, rfl⟩ : ∃ u17, f = (upd (upd u17 0 va0) 46 (.bool true)) := ⟨f, by rw [upd_self hf0, upd_self hf46]⟩
                                refine O.move (v := va0) rfl rfl rfl ?_
                                refine WL.nil ?_
                                exact ⟨Below.refl _ _, _, rfl, rfl⟩
                              · skip
                                intro f wk hx hf hd
                                have H := H.ext hx
                                have hf6 : f 6 = (.int .i64 (ik1 : Int)) := hf 6 rfl
                                have hf46 : f 46 = (.bool true) := hd 9 rfl
                                obtain ⟨u18, rfl⟩ : ∃ u18, f = (upd (upd u18 6 (.int .i64 (ik1 : Int))) 46 (.bool true)) := ⟨f, by rw [upd_self hf6, upd_self hf46]⟩
                                refine O.move (v := (.int .i64 (ik1 : Int))) rfl rfl rfl ?_
                                refine WL.nil ?_
                                exact ⟨Below.refl _ _, _, rfl, rfl⟩
                              · skip
                                intro f wk hx hf hd
                                have H := H.ext hx
                                have hf46 : f 46 = (.bool true) := hd 9 rfl
                                have hf50 : f 50 = (.int .i64 (ik1 : Int)) := hd 13 rfl
                                obtain ⟨u19, rfl⟩ : ∃ u19, f = (upd (upd u19 46 (.bool true)) 50 (.int .i64 (ik1 : Int))) := ⟨f, by rw [upd_self hf46, upd_self hf50]⟩
                                refine O.add rfl rfl rfl rfl ht6 ?_
                                refine WL.nil ?_
                                exact ⟨Below.refl _ _, _, rfl, rfl⟩
                              · skip
                                intro f wk hx hf hd
                                have H := H.ext hx
                                have hf46 : f 46 = (.bool true) := hd 9 rfl
                                have hf49 : f 49 = va0 := hd 12 rfl
                                have hf51 : f 51 = (.int .i64 t6) := hd 14 rfl
                                obtain ⟨u20, rfl⟩ : ∃ u20, f = (upd (upd (upd u20 46 (.bool true)) 49 va0) 51 (.int .i64 t6)) := ⟨f, by rw [upd_self hf46, upd_self hf49, upd_self hf51]⟩
                                refine hrv22 rfl rfl rfl rfl ?_
                                refine WL.nil ?_
                                exact ⟨Below.refl _ _, _, rfl, rfl⟩
                              · skip
                                intro f wk hx hf hd
                                have H := H.ext hx
                                have hf46 : f 46 = (.bool true) := hd 9 rfl
                                have ho48 : OwnR w5 wk (f 48) 3 t5 := hd 11 rfl
                                obtain ⟨v21, hf48⟩ : ∃ v21, f 48 = v21 := ⟨_, rfl⟩
                                rw [hf48] at ho48
                                have hf52 : f 52 = v22 := hd 15 rfl
                                obtain ⟨u21, rfl⟩ : ∃ u21, f = (upd (upd (upd u21 46 (.bool true)) 48 v21) 52 v22) := ⟨f, by rw [upd_self hf46, upd_self hf48, upd_self hf52]⟩
                                refine O.call Tryd.call16 rfl rfl rfl (c_noongunref07_SameInts _ _ ho48.sliceR _ _ (H.arg hs1) hy3) ?_
                                rintro _ w8 hb6 rfl
                                have H := H.ext hb6
                                refine WL.nil ?_
                                exact ⟨hb6, _, rfl, rfl⟩
                              · skip
                                intro f wk hx hf hd
                                have H := H.ext hx
                                have hf46 : f 46 = (.bool true) := hd 9 rfl
                                have hf53 : f 53 = (.bool t8) := hd 16 rfl
                                obtain ⟨u22, rfl⟩ : ∃ u22, f = (upd (upd u22 46 (.bool true)) 53 (.bool t8)) := ⟨f, by rw [upd_self hf46, upd_self hf53]⟩
                                refine O.pick_true (v := (.bool t8)) rfl rfl rfl rfl ?_
                                refine WL.nil ?_
                                exact ⟨Below.refl _ _, _, rfl, rfl⟩
                            · skip
                              intro f wk hx hf hmd hd
                              have hf0 : f 0 = va0 := hf 0 rfl
                              have hf1 : f 1 = (.int .i64 a1) := hf 1 rfl
                              have hf6 : f 6 = (.int .i64 (ik1 : Int)) := hf 6 rfl
                              have hf7 : f 7 = v14 := hf 7 rfl
                              have hf10 : f 10 = rw1.1 := hf 10 rfl
                              have hf12 : f 12 = v20 := hf 12 rfl
                              have hf14 : f 14 = (.int .i64 ((a0.length : Nat) : Int)) := hf 14 rfl
                              have hf15 : f 15 = (.int .i64 (ik1 : Int)) := hf 15 rfl
                              have hf22 : f 22 = v6 := hf 22 rfl
                              have hf23 : f 23 = (.int .i64 ((s3.length : Nat) : Int)) := hf 23 rfl
                              have hf24 : f 24 = (.int .i64 (ik2 : Int)) := hf 24 rfl
                              have hf28 : f 28 = (.int .i64 (ik3 : Int)) := hf 28 rfl
                              have hf43 : f 43 = v20 := hd 6 rfl
                              have hf44 : f 44 = (.bool t4) := hd 7 rfl
                              have hf47 : f 47 = v20 := hd 10 rfl
                              have ho48 : OwnR w5 wk (f 48) 3 t5 := hd 11 rfl
                              obtain ⟨v21, hf48⟩ : ∃ v21, f 48 = v21 := ⟨_, rfl⟩
                              rw [hf48] at ho48
                              have hf49 : f 49 = va0 := hd 12 rfl
                              have hf50 : f 50 = (.int .i64 (ik1 : Int)) := hd 13 rfl
                              have hf51 : f 51 = (.int .i64 t6) := hd 14 rfl
                              have hf52 : f 52 = v22 := hd 15 rfl
                              have hf53 : f 53 = (.bool t8) := hd 16 rfl
                              have hf54 : f 54 = (.bool t8) := hd 17 rfl
                              have H := H.addOwn hx ho48
                              obtain ⟨u23, rfl⟩ : ∃ u23, f = (upd (upd (upd (upd (upd (upd (upd (upd (upd (upd (upd (upd (upd (upd (upd (upd (upd (upd (upd (upd (upd (upd u23 0 va0) 1 (.int .i64 a1)) 6 (.int .i64 (ik1 : Int))) 7 v14) 10 rw1.1) 12 v20) 14 (.int .i64 ((a0.length : Nat) : Int))) 15 (.int .i64 (ik1 : Int))) 22 v6) 23 (.int .i64 ((s3.length : Nat) : Int))) 24 (.int .i64 (ik2 : Int))) 28 (.int .i64 (ik3 : Int))) 43 v20) 44 (.bool t4)) 47 v20) 48 v21) 49 va0) 50 (.int .i64 (ik1 : Int))) 51 (.int .i64 t6)) 52 v22) 53 (.bool t8)) 54 (.bool t8)) := ⟨f, by rw [upd_self hf0, upd_self hf1, upd_self hf6, upd_self hf7, upd_self hf10, upd_self hf12, upd_self hf14, upd_self hf15, upd_self hf22, upd_self hf23, upd_self hf24, upd_self hf28, upd_self hf43, upd_self hf44, upd_self hf47, upd_self hf48, upd_self hf49, upd_self hf50, upd_self hf51, upd_self hf52, upd_self hf53, upd_self hf54]⟩
                              refine WL.nil ?_
                              have H := H.keep [0, 1, 2] [ownRI (α := Int) Fx13 v14 22 rc13 z8, ownRI (α := Int) Fx6 v6 22 rc6 s3, ownI (α := Int) v20 3 t2] rfl (by decide)
                              have hq : t8 = s8 := Option.some.inj (show some t8 = some s8 from hm11)
                              subst hq
                              exact ⟨rfl, rfl, rfl, rfl, rfl, rfl, rfl, rfl, rfl, rfl, rfl, rfl, rfl, H⟩
                          · skip
                            refine W.draw 18 (fun k v wk => match k with | 0 => v = (.int .i64 a1) | 1 => v = (.int .i64 (ik3 : Int)) | 2 => v = (.int .i64 t3) | 3 => v = (.int .i64 (bits .and .i64 t3 1)) | 4 => v = (.bool ((bits .and .i64 t3 1) == 1)) | 5 => v = (.bool true) | 6 => v = v20 | 7 => v = (.bool t4) | 8 => v = (.bool t4) | 9 => v = (.bool false) | 10 => v = undef | 11 => v = undef | 12 => v = undef | 13 => v = undef | 14 => v = undef | 15 => v = undef | 16 => v = undef | 17 => v = (.bool false) | _ => True) (by intro k v w w' h hb; match k, h with | 0, h => exact h | 1, h => exact h | 2, h => exact h | 3, h => exact h | 4, h => exact h | 5, h => exact h | 6, h => exact h | 7, h => exact h | 8, h => exact h | 9, h => exact h | 10, h => exact h | 11, h => exact h | 12, h => exact h | 13, h => exact h | 14, h => exact h | 15, h => exact h | 16, h => exact h | 17, h => exact h | _ + 18, h => exact h) fol (by kernel_rfl) ?_ ?_
                            · skip
                              refine ⟨⟨⟨⟨⟨⟨⟨⟨⟨⟨⟨⟨⟨⟨⟨⟨⟨⟨trivial, ?_⟩, ?_⟩, ?_⟩, ?_⟩, ?_⟩, ?_⟩, ?_⟩, ?_⟩, ?_⟩, ?_⟩, ?_⟩, ?_⟩, ?_⟩, ?_⟩, ?_⟩, ?_⟩, ?_⟩, ?_⟩
                              · skip
                                intro f wk hx hf hd
                                have H := H.ext hx
                                have hf1 : f 1 = (.int .i64 a1) := hf 1 rfl
                                obtain ⟨u24, rfl⟩ : ∃ u24, f = (upd u24 1 (.int .i64 a1)) := ⟨f, by rw [upd_self hf1]⟩
                                refine O.move (v := (.int .i64 a1)) rfl rfl rfl ?_
                                refine WL.nil ?_
                                exact ⟨Below.refl _ _, _, rfl, rfl⟩
                              · skip
                                intro f wk hx hf hd
                                have H := H.ext hx
                                have hf11 : f 11 = (.int .i64 (ik3 : Int)) := hf 11 rfl
                                obtain ⟨u25, rfl⟩ : ∃ u25, f = (upd u25 11 (.int .i64 (ik3 : Int))) := ⟨f, by rw [upd_self hf11]⟩
                                refine O.move (v := (.int .i64 (ik3 : Int))) rfl rfl rfl ?_
                                refine WL.nil ?_
                                exact ⟨Below.refl _ _, _, rfl, rfl⟩
                              · skip
                                intro f wk hx hf hd
                                have H := H.ext hx
                                have hf37 : f 37 = (.int .i64 a1) := hd 0 rfl
                                have hf38 : f 38 = (.int .i64 (ik3 : Int)) := hd 1 rfl
                                obtain ⟨u26, rfl⟩ : ∃ u26, f = (upd (upd u26 37 (.int .i64 a1)) 38 (.int .i64 (ik3 : Int))) := ⟨f, by rw [upd_self hf37, upd_self hf38]⟩
                                refine O.shr rfl rfl rfl rfl ht3 ?_
                                refine WL.nil ?_
                                exact ⟨Below.refl _ _, _, rfl, rfl⟩
                              · skip
                                intro f wk hx hf hd
                                have H := H.ext hx
                                have hf39 : f 39 = (.int .i64 t3) := hd 2 rfl
                                obtain ⟨u27, rfl⟩ : ∃ u27, f = (upd u27 39 (.int .i64 t3)) := ⟨f, by rw [upd_self hf39]⟩
                                refine O.and rfl rfl rfl rfl ?_
                                refine WL.nil ?_
                                exact ⟨Below.refl _ _, _, rfl, rfl⟩
                              · skip
                                intro f wk hx hf hd
                                have H := H.ext hx
                                have hf40 : f 40 = (.int .i64 (bits .and .i64 t3 1)) := hd 3 rfl
                                obtain ⟨u28, rfl⟩ : ∃ u28, f = (upd u28 40 (.int .i64 (bits .and .i64 t3 1))) := ⟨f, by rw [upd_self hf40]⟩
                                refine O.eql rfl rfl rfl rfl ?_
                                refine WL.nil ?_
                                exact ⟨Below.refl _ _, _, rfl, rfl⟩
                              · skip
                                intro f wk hx hf hd
                                have H := H.ext hx
                                have hf41 : f 41 = (.bool ((bits .and .i64 t3 1) == 1)) := hd 4 rfl
                                obtain ⟨u29, rfl⟩ : ∃ u29, f = (upd u29 41 (.bool ((bits .and .i64 t3 1) == 1))) := ⟨f, by rw [upd_self hf41]⟩
                                refine O.move (v := (.bool ((bits .and .i64 t3 1) == 1))) rfl rfl rfl ?_
                                refine WL.nil ?_
                                exact ⟨Below.refl _ _, _, rfl, congrArg Value.bool hc2⟩
                              · skip
                                intro f wk hx hf hd
                                have H := H.ext hx
                                have hf12 : f 12 = v20 := hf 12 rfl
                                have hf42 : f 42 = (.bool true) := hd 5 rfl
                                obtain ⟨u30, rfl⟩ : ∃ u30, f = (upd (upd u30 12 v20) 42 (.bool true)) := ⟨f, by rw [upd_self hf12, upd_self hf42]⟩
                                refine O.move (v := v20) rfl rfl rfl ?_
                                refine WL.nil ?_
                                exact ⟨Below.refl _ _, _, rfl, rfl⟩
                              · skip
                                intro f wk hx hf hd
                                have H := H.ext hx
                                have hf42 : f 42 = (.bool true) := hd 5 rfl
                                have hf43 : f 43 = v20 := hd 6 rfl
                                obtain ⟨u31, rfl⟩ : ∃ u31, f = (upd (upd u31 42 (.bool true)) 43 v20) := ⟨f, by rw [upd_self hf42, upd_self hf43]⟩
                                refine O.call Tryd.call53 rfl rfl rfl (c_noongunref07_ValidHoist _ _ (H.own 2 rfl) hy1) ?_
                                rintro _ w6 hb4 rfl
                                have H := H.ext hb4
                                refine WL.nil ?_
                                exact ⟨hb4, _, rfl, rfl⟩
                              · skip
                                intro f wk hx hf hd
                                have H := H.ext hx
                                have hf42 : f 42 = (.bool true) := hd 5 rfl
                                have hf44 : f 44 = (.bool t4) := hd 7 rfl
                                obtain ⟨u32, rfl⟩ : ∃ u32, f = (upd (upd u32 42 (.bool true)) 44 (.bool t4)) := ⟨f, by rw [upd_self hf42, upd_self hf44]⟩
                                refine O.pick_true (v := (.bool t4)) rfl rfl rfl rfl ?_
                                refine WL.nil ?_
                                exact ⟨Below.refl _ _, _, rfl, rfl⟩
                              · skip
                                intro f wk hx hf hd
                                have H := H.ext hx
                                have hf45 : f 45 = (.bool t4) := hd 8 rfl
                                obtain ⟨u33, rfl⟩ : ∃ u33, f = (upd u33 45 (.bool t4)) := ⟨f, by rw [upd_self hf45]⟩
                                refine O.move (v := (.bool t4)) rfl rfl rfl ?_
                                refine WL.nil ?_
                                exact ⟨Below.refl _ _, _, rfl, congrArg Value.bool hc3⟩
                              · skip
                                intro f wk hx hf hd
                                have H := H.ext hx
                                have hf46 : f 46 = (.bool false) := hd 9 rfl
                                obtain ⟨u34, rfl⟩ : ∃ u34, f = (upd u34 46 (.bool false)) := ⟨f, by rw [upd_self hf46]⟩
                                refine O.skip rfl rfl ?_
                                refine WL.nil ?_
                                exact ⟨Below.refl _ _, _, rfl, rfl⟩
                              · skip
                                intro f wk hx hf hd
                                have H := H.ext hx
                                have hf46 : f 46 = (.bool false) := hd 9 rfl
                                obtain ⟨u35, rfl⟩ : ∃ u35, f = (upd u35 46 (.bool false)) := ⟨f, by rw [upd_self hf46]⟩
                                refine O.skip rfl rfl ?_
                                refine WL.nil ?_
                                exact ⟨Below.refl _ _, _, rfl, rfl⟩
                              · skip
                                intro f wk hx hf hd
                                have H := H.ext hx
                                have hf46 : f 46 = (.bool false) := hd 9 rfl
                                obtain ⟨u36, rfl⟩ : ∃ u36, f = (upd u36 46 (.bool false)) := ⟨f, by rw [upd_self hf46]⟩
                                refine O.skip rfl rfl ?_
                                refine WL.nil ?_
                                exact ⟨Below.refl _ _, _, rfl, rfl⟩
                              · skip
                                intro f wk hx hf hd
                                have H := H.ext hx
                                have hf46 : f 46 = (.bool false) := hd 9 rfl
                                obtain ⟨u37, rfl⟩ : ∃ u37, f = (upd u37 46 (.bool false)) := ⟨f, by rw [upd_self hf46]⟩
                                refine O.skip rfl rfl ?_
                                refine WL.nil ?_
                                exact ⟨Below.refl _ _, _, rfl, rfl⟩
                              · skip
                                intro f wk hx hf hd
                                have H := H.ext hx
                                have hf46 : f 46 = (.bool false) := hd 9 rfl
                                obtain ⟨u38, rfl⟩ : ∃ u38, f = (upd u38 46 (.bool false)) := ⟨f, by rw [upd_self hf46]⟩
                                refine O.skip rfl rfl ?_
                                refine WL.nil ?_
                                exact ⟨Below.refl _ _, _, rfl, rfl⟩
                              · skip
                                intro f wk hx hf hd
                                have H := H.ext hx
                                have hf46 : f 46 = (.bool false) := hd 9 rfl
                                obtain ⟨u39, rfl⟩ : ∃ u39, f = (upd u39 46 (.bool false)) := ⟨f, by rw [upd_self hf46]⟩
                                refine O.skip rfl rfl ?_
                                refine WL.nil ?_
                                exact ⟨Below.refl _ _, _, rfl, rfl⟩
                              · skip
                                intro f wk hx hf hd
                                have H := H.ext hx
                                have hf46 : f 46 = (.bool false) := hd 9 rfl
                                obtain ⟨u40, rfl⟩ : ∃ u40, f = (upd u40 46 (.bool false)) := ⟨f, by rw [upd_self hf46]⟩
                                refine O.skip rfl rfl ?_
                                refine WL.nil ?_
                                exact ⟨Below.refl _ _, _, rfl, rfl⟩
                              · skip
                                intro f wk hx hf hd
                                have H := H.ext hx
                                have hf46 : f 46 = (.bool false) := hd 9 rfl
                                have hf53 : f 53 = undef := hd 16 rfl
                                obtain ⟨u41, rfl⟩ : ∃ u41, f = (upd (upd u41 46 (.bool false)) 53 undef) := ⟨f, by rw [upd_self hf46, upd_self hf53]⟩
                                refine O.pick_false (v := (.bool false)) rfl rfl rfl rfl ?_
                                refine WL.nil ?_
                                exact ⟨Below.refl _ _, _, rfl, rfl⟩
                            · skip
                              intro f wk hx hf hmd hd
                              have hf0 : f 0 = va0 := hf 0 rfl
                              have hf1 : f 1 = (.int .i64 a1) := hf 1 rfl
                              have hf6 : f 6 = (.int .i64 (ik1 : Int)) := hf 6 rfl
                              have hf7 : f 7 = v14 := hf 7 rfl
                              have hf10 : f 10 = rw1.1 := hf 10 rfl
                              have hf12 : f 12 = v20 := hf 12 rfl
                              have hf14 : f 14 = (.int .i64 ((a0.length : Nat) : Int)) := hf 14 rfl
                              have hf15 : f 15 = (.int .i64 (ik1 : Int)) := hf 15 rfl
                              have hf22 : f 22 = v6 := hf 22 rfl
                              have hf23 : f 23 = (.int .i64 ((s3.length : Nat) : Int)) := hf 23 rfl
                              have hf24 : f 24 = (.int .i64 (ik2 : Int)) := hf 24 rfl
                              have hf28 : f 28 = (.int .i64 (ik3 : Int)) := hf 28 rfl
                              have hf43 : f 43 = v20 := hd 6 rfl
                              have hf44 : f 44 = (.bool t4) := hd 7 rfl
                              have hf47 : f 47 = undef := hd 10 rfl
                              have hf48 : f 48 = undef := hd 11 rfl
                              have hf49 : f 49 = undef := hd 12 rfl
                              have hf50 : f 50 = undef := hd 13 rfl
                              have hf51 : f 51 = undef := hd 14 rfl
                              have hf52 : f 52 = undef := hd 15 rfl
                              have hf53 : f 53 = undef := hd 16 rfl
                              have hf54 : f 54 = (.bool false) := hd 17 rfl
                              have H := H.ext hx
                              obtain ⟨u42, rfl⟩ : ∃ u42, f = (upd (upd (upd (upd (upd (upd (upd (upd (upd (upd (upd (upd (upd (upd (upd (upd (upd (upd (upd (upd (upd (upd u42 0 va0) 1 (.int .i64 a1)) 6 (.int .i64 (ik1 : Int))) 7 v14) 10 rw1.1) 12 v20) 14 (.int .i64 ((a0.length : Nat) : Int))) 15 (.int .i64 (ik1 : Int))) 22 v6) 23 (.int .i64 ((s3.length : Nat) : Int))) 24 (.int .i64 (ik2 : Int))) 28 (.int .i64 (ik3 : Int))) 43 v20) 44 (.bool t4)) 47 undef) 48 undef) 49 undef) 50 undef) 51 undef) 52 undef) 53 undef) 54 (.bool false)) := ⟨f, by rw [upd_self hf0, upd_self hf1, upd_self hf6, upd_self hf7, upd_self hf10, upd_self hf12, upd_self hf14, upd_self hf15, upd_self hf22, upd_self hf23, upd_self hf24, upd_self hf28, upd_self hf43, upd_self hf44, upd_self hf47, upd_self hf48, upd_self hf49, upd_self hf50, upd_self hf51, upd_self hf52, upd_self hf53, upd_self hf54]⟩
                              refine WL.nil ?_
                              have H := H.keep [0, 1, 2] [ownRI (α := Int) Fx13 v14 22 rc13 z8, ownRI (α := Int) Fx6 v6 22 rc6 s3, ownI (α := Int) v20 3 t2] rfl (by decide)
                              have hq : false = s8 := Option.some.inj (show some false = some s8 from hm11)
                              subst hq
                              exact ⟨rfl, rfl, rfl, rfl, rfl, rfl, rfl, rfl, rfl, rfl, rfl, rfl, rfl, H⟩
                        · skip
                          refine W.draw 18 (fun k v wk => match k with | 0 => v = (.int .i64 a1) | 1 => v = (.int .i64 (ik3 : Int)) | 2 => v = (.int .i64 t3) | 3 => v = (.int .i64 (bits .and .i64 t3 1)) | 4 => v = (.bool ((bits .and .i64 t3 1) == 1)) | 5 => v = (.bool false) | 6 => v = undef | 7 => v = undef | 8 => v = (.bool false) | 9 => v = (.bool false) | 10 => v = undef | 11 => v = undef | 12 => v = undef | 13 => v = undef | 14 => v = undef | 15 => v = undef | 16 => v = undef | 17 => v = (.bool false) | _ => True) (by intro k v w w' h hb; match k, h with | 0, h => exact h | 1, h => exact h | 2, h => exact h | 3, h => exact h | 4, h => exact h | 5, h => exact h | 6, h => exact h | 7, h => exact h | 8, h => exact h | 9, h => exact h | 10, h => exact h | 11, h => exact h | 12, h => exact h | 13, h => exact h | 14, h => exact h | 15, h => exact h | 16, h => exact h | 17, h => exact h | _ + 18, h => exact h) fol (by kernel_rfl) ?_ ?_
                          · skip
                            refine ⟨⟨⟨⟨⟨⟨⟨⟨⟨⟨⟨⟨⟨⟨⟨⟨⟨⟨trivial, ?_⟩, ?_⟩, ?_⟩, ?_⟩, ?_⟩, ?_⟩, ?_⟩, ?_⟩, ?_⟩, ?_⟩, ?_⟩, ?_⟩, ?_⟩, ?_⟩, ?_⟩, ?_⟩, ?_⟩, ?_⟩
                            · skip
                              intro f wk hx hf hd
                              have H := H.ext hx
                              have hf1 : f 1 = (.int .i64 a1) := hf 1 rfl
                              obtain ⟨u43, rfl⟩ : ∃ u43, f = (upd u43 1 (.int .i64 a1)) := ⟨f, by rw [upd_self hf1]⟩
                              refine O.move (v := (.int .i64 a1)) rfl rfl rfl ?_
                              refine WL.nil ?_
                              exact ⟨Below.refl _ _, _, rfl, rfl⟩
                            · skip
                              intro f wk hx hf hd
                              have H := H.ext hx
                              have hf11 : f 11 = (.int .i64 (ik3 : Int)) := hf 11 rfl
                              obtain ⟨u44, rfl⟩ : ∃ u44, f = (upd u44 11 (.int .i64 (ik3 : Int))) := ⟨f, by rw [upd_self hf11]⟩
                              refine O.move (v := (.int .i64 (ik3 : Int))) rfl rfl rfl ?_
                              refine WL.nil ?_
                              exact ⟨Below.refl _ _, _, rfl, rfl⟩
                            · skip
                              intro f wk hx hf hd
                              have H := H.ext hx
                              have hf37 : f 37 = (.int .i64 a1) := hd 0 rfl
                              have hf38 : f 38 = (.int .i64 (ik3 : Int)) := hd 1 rfl
                              obtain ⟨u45, rfl⟩ : ∃ u45, f = (upd (upd u45 37 (.int .i64 a1)) 38 (.int .i64 (ik3 : Int))) := ⟨f, by rw [upd_self hf37, upd_self hf38]⟩
                              refine O.shr rfl rfl rfl rfl ht3 ?_
                              refine WL.nil ?_
                              exact ⟨Below.refl _ _, _, rfl, rfl⟩
                            · skip
                              intro f wk hx hf hd
                              have H := H.ext hx
                              have hf39 : f 39 = (.int .i64 t3) := hd 2 rfl
                              obtain ⟨u46, rfl⟩ : ∃ u46, f = (upd u46 39 (.int .i64 t3)) := ⟨f, by rw [upd_self hf39]⟩
                              refine O.and rfl rfl rfl rfl ?_
                              refine WL.nil ?_
                              exact ⟨Below.refl _ _, _, rfl, rfl⟩
                            · skip
                              intro f wk hx hf hd
                              have H := H.ext hx
                              have hf40 : f 40 = (.int .i64 (bits .and .i64 t3 1)) := hd 3 rfl
                              obtain ⟨u47, rfl⟩ : ∃ u47, f = (upd u47 40 (.int .i64 (bits .and .i64 t3 1))) := ⟨f, by rw [upd_self hf40]⟩
                              refine O.eql rfl rfl rfl rfl ?_
                              refine WL.nil ?_
                              exact ⟨Below.refl _ _, _, rfl, rfl⟩
                            · skip
                              intro f wk hx hf hd
                              have H := H.ext hx
                              have hf41 : f 41 = (.bool ((bits .and .i64 t3 1) == 1)) := hd 4 rfl
                              obtain ⟨u48, rfl⟩ : ∃ u48, f = (upd u48 41 (.bool ((bits .and .i64 t3 1) == 1))) := ⟨f, by rw [upd_self hf41]⟩
                              refine O.move (v := (.bool ((bits .and .i64 t3 1) == 1))) rfl rfl rfl ?_
                              refine WL.nil ?_
                              exact ⟨Below.refl _ _, _, rfl, congrArg Value.bool hc2⟩
                            · skip
                              intro f wk hx hf hd
                              have H := H.ext hx
                              have hf42 : f 42 = (.bool false) := hd 5 rfl
                              obtain ⟨u49, rfl⟩ : ∃ u49, f = (upd u49 42 (.bool false)) := ⟨f, by rw [upd_self hf42]⟩
                              refine O.skip rfl rfl ?_
                              refine WL.nil ?_
                              exact ⟨Below.refl _ _, _, rfl, rfl⟩
                            · skip
                              intro f wk hx hf hd
                              have H := H.ext hx
                              have hf42 : f 42 = (.bool false) := hd 5 rfl
                              obtain ⟨u50, rfl⟩ : ∃ u50, f = (upd u50 42 (.bool false)) := ⟨f, by rw [upd_self hf42]⟩
                              refine O.skip rfl rfl ?_
                              refine WL.nil ?_
                              exact ⟨Below.refl _ _, _, rfl, rfl⟩
                            · skip
                              intro f wk hx hf hd
                              have H := H.ext hx
                              have hf42 : f 42 = (.bool false) := hd 5 rfl
                              have hf44 : f 44 = undef := hd 7 rfl
                              obtain ⟨u51, rfl⟩ : ∃ u51, f = (upd (upd u51 42 (.bool false)) 44 undef) := ⟨f, by rw [upd_self hf42, upd_self hf44]⟩
                              refine O.pick_false (v := (.bool false)) rfl rfl rfl rfl ?_
                              refine WL.nil ?_
                              exact ⟨Below.refl _ _, _, rfl, rfl⟩
                            · skip
                              intro f wk hx hf hd
                              have H := H.ext hx
                              have hf45 : f 45 = (.bool false) := hd 8 rfl
                              obtain ⟨u52, rfl⟩ : ∃ u52, f = (upd u52 45 (.bool false)) := ⟨f, by rw [upd_self hf45]⟩
                              refine O.move (v := (.bool false)) rfl rfl rfl ?_
                              refine WL.nil ?_
                              exact ⟨Below.refl _ _, _, rfl, rfl⟩
                            · skip
                              intro f wk hx hf hd
                              have H := H.ext hx
                              have hf46 : f 46 = (.bool false) := hd 9 rfl
                              obtain ⟨u53, rfl⟩ : ∃ u53, f = (upd u53 46 (.bool false)) := ⟨f, by rw [upd_self hf46]⟩
                              refine O.skip rfl rfl ?_
                              refine WL.nil ?_
                              exact ⟨Below.refl _ _, _, rfl, rfl⟩
                            · skip
                              intro f wk hx hf hd
                              have H := H.ext hx
                              have hf46 : f 46 = (.bool false) := hd 9 rfl
                              obtain ⟨u54, rfl⟩ : ∃ u54, f = (upd u54 46 (.bool false)) := ⟨f, by rw [upd_self hf46]⟩
                              refine O.skip rfl rfl ?_
                              refine WL.nil ?_
                              exact ⟨Below.refl _ _, _, rfl, rfl⟩
                            · skip
                              intro f wk hx hf hd
                              have H := H.ext hx
                              have hf46 : f 46 = (.bool false) := hd 9 rfl
                              obtain ⟨u55, rfl⟩ : ∃ u55, f = (upd u55 46 (.bool false)) := ⟨f, by rw [upd_self hf46]⟩
                              refine O.skip rfl rfl ?_
                              refine WL.nil ?_
                              exact ⟨Below.refl _ _, _, rfl, rfl⟩
                            · skip
                              intro f wk hx hf hd
                              have H := H.ext hx
                              have hf46 : f 46 = (.bool false) := hd 9 rfl
                              obtain ⟨u56, rfl⟩ : ∃ u56, f = (upd u56 46 (.bool false)) := ⟨f, by rw [upd_self hf46]⟩
                              refine O.skip rfl rfl ?_
                              refine WL.nil ?_
                              exact ⟨Below.refl _ _, _, rfl, rfl⟩
                            · skip
                              intro f wk hx hf hd
                              have H := H.ext hx
                              have hf46 : f 46 = (.bool false) := hd 9 rfl
                              obtain ⟨u57, rfl⟩ : ∃ u57, f = (upd u57 46 (.bool false)) := ⟨f, by rw [upd_self hf46]⟩
                              refine O.skip rfl rfl ?_
                              refine WL.nil ?_
                              exact ⟨Below.refl _ _, _, rfl, rfl⟩
                            · skip
                              intro f wk hx hf hd
                              have H := H.ext hx
                              have hf46 : f 46 = (.bool false) := hd 9 rfl
                              obtain ⟨u58, rfl⟩ : ∃ u58, f = (upd u58 46 (.bool false)) := ⟨f, by rw [upd_self hf46]⟩
                              refine O.skip rfl rfl ?_
                              refine WL.nil ?_
                              exact ⟨Below.refl _ _, _, rfl, rfl⟩
                            · skip
                              intro f wk hx hf hd
                              have H := H.ext hx
                              have hf46 : f 46 = (.bool false) := hd 9 rfl
                              obtain ⟨u59, rfl⟩ : ∃ u59, f = (upd u59 46 (.bool false)) := ⟨f, by rw [upd_self hf46]⟩
                              refine O.skip rfl rfl ?_
                              refine WL.nil ?_
                              exact ⟨Below.refl _ _, _, rfl, rfl⟩
                            · skip
                              intro f wk hx hf hd
                              have H := H.ext hx
                              have hf46 : f 46 = (.bool false) := hd 9 rfl
                              have hf53 : f 53 = undef := hd 16 rfl
                              obtain ⟨u60, rfl⟩ : ∃ u60, f = (upd (upd u60 46 (.bool false)) 53 undef) := ⟨f, by rw [upd_self hf46, upd_self hf53]⟩
                              refine O.pick_false (v := (.bool false)) rfl rfl rfl rfl ?_
                              refine WL.nil ?_
                              exact ⟨Below.refl _ _, _, rfl, rfl⟩
                          · skip
                            intro f wk hx hf hmd hd
                            have hf0 : f 0 = va0 := hf 0 rfl
                            have hf1 : f 1 = (.int .i64 a1) := hf 1 rfl
                            have hf6 : f 6 = (.int .i64 (ik1 : Int)) := hf 6 rfl
                            have hf7 : f 7 = v14 := hf 7 rfl
                            have hf10 : f 10 = rw1.1 := hf 10 rfl
                            have hf12 : f 12 = v20 := hf 12 rfl
                            have hf14 : f 14 = (.int .i64 ((a0.length : Nat) : Int)) := hf 14 rfl
                            have hf15 : f 15 = (.int .i64 (ik1 : Int)) := hf 15 rfl
                            have hf22 : f 22 = v6 := hf 22 rfl
                            have hf23 : f 23 = (.int .i64 ((s3.length : Nat) : Int)) := hf 23 rfl
                            have hf24 : f 24 = (.int .i64 (ik2 : Int)) := hf 24 rfl
                            have hf28 : f 28 = (.int .i64 (ik3 : Int)) := hf 28 rfl
                            have hf43 : f 43 = undef := hd 6 rfl
                            have hf44 : f 44 = undef := hd 7 rfl
                            have hf47 : f 47 = undef := hd 10 rfl
                            have hf48 : f 48 = undef := hd 11 rfl
                            have hf49 : f 49 = undef := hd 12 rfl
                            have hf50 : f 50 = undef := hd 13 rfl
                            have hf51 : f 51 = undef := hd 14 rfl
                            have hf52 : f 52 = undef := hd 15 rfl
                            have hf53 : f 53 = undef := hd 16 rfl
                            have hf54 : f 54 = (.bool false) := hd 17 rfl
                            have H := H.ext hx
                            obtain ⟨u61, rfl⟩ : ∃ u61, f = (upd (upd (upd (upd (upd (upd (upd (upd (upd (upd (upd (upd (upd (upd (upd (upd (upd (upd (upd (upd (upd (upd u61 0 va0) 1 (.int .i64 a1)) 6 (.int .i64 (ik1 : Int))) 7 v14) 10 rw1.1) 12 v20) 14 (.int .i64 ((a0.length : Nat) : Int))) 15 (.int .i64 (ik1 : Int))) 22 v6) 23 (.int .i64 ((s3.length : Nat) : Int))) 24 (.int .i64 (ik2 : Int))) 28 (.int .i64 (ik3 : Int))) 43 undef) 44 undef) 47 undef) 48 undef) 49 undef) 50 undef) 51 undef) 52 undef) 53 undef) 54 (.bool false)) := ⟨f, by rw [upd_self hf0, upd_self hf1, upd_self hf6, upd_self hf7, upd_self hf10, upd_self hf12, upd_self hf14, upd_self hf15, upd_self hf22, upd_self hf23, upd_self hf24, upd_self hf28, upd_self hf43, upd_self hf44, upd_self hf47, upd_self hf48, upd_self hf49, upd_self hf50, upd_self hf51, upd_self hf52, upd_self hf53, upd_self hf54]⟩
                            refine WL.nil ?_
                            have H := H.keep [0, 1, 2] [ownRI (α := Int) Fx13 v14 22 rc13 z8, ownRI (α := Int) Fx6 v6 22 rc6 s3, ownI (α := Int) v20 3 t2] rfl (by decide)
                            have hq : false = s8 := Option.some.inj (show some false = some s8 from hm11)
                            subst hq
                            exact ⟨rfl, rfl, rfl, rfl, rfl, rfl, rfl, rfl, rfl, rfl, rfl, rfl, rfl, H⟩
                      · skip
                        rintro f w ⟨hf0, hf1, hf6, hf7, hf10, hf12, hf14, hf15, hf22, hf23, hf24, hf28, hf54, H⟩
                        obtain ⟨u62, rfl⟩ : ∃ u62, f = (upd (upd (upd (upd (upd (upd (upd (upd (upd (upd (upd (upd (upd u62 0 va0) 1 (.int .i64 a1)) 6 (.int .i64 (ik1 : Int))) 7 v14) 10 rw1.1) 12 v20) 14 (.int .i64 ((a0.length : Nat) : Int))) 15 (.int .i64 (ik1 : Int))) 22 v6) 23 (.int .i64 ((s3.length : Nat) : Int))) 24 (.int .i64 (ik2 : Int))) 28 (.int .i64 (ik3 : Int))) 54 (.bool s8)) := ⟨f, by rw [upd_self hf0, upd_self hf1, upd_self hf6, upd_self hf7, upd_self hf10, upd_self hf12, upd_self hf14, upd_self hf15, upd_self hf22, upd_self hf23, upd_self hf24, upd_self hf28, upd_self hf54]⟩
                        obtain ⟨s9, hm12, hm10⟩ := bind_some hm10
                        refine W.via (fun f w => ∃ v23 : Value, ∃ Fx17 : (Nat → Prop), ∃ rc17 : List C1, f 0 = va0 ∧ f 1 = (.int .i64 a1) ∧ f 6 = (.int .i64 (ik1 : Int)) ∧ f 7 = v23 ∧ f 10 = rw1.1 ∧ f 14 = (.int .i64 ((a0.length : Nat) : Int)) ∧ f 15 = (.int .i64 (ik1 : Int)) ∧ f 22 = v6 ∧ f 23 = (.int .i64 ((s3.length : Nat) : Int)) ∧ f 24 = (.int .i64 (ik2 : Int)) ∧ f 28 = (.int .i64 (ik3 : Int)) ∧ Inv w0 w [ownRI (α := Int) Fx17 v23 22 rc17 s9, ownRI (α := Int) Fx6 v6 22 rc6 s3]) ?_ ?_
                        · skip
                          rcases ite_some hm12 with ⟨hc4, hm12⟩ | ⟨hc4, hm12⟩
                          · refine W.cond_true (congrArg Value.bool hc4) ?_
                            refine W.region ?_
                            refine O.move (v := v14) rfl rfl rfl ?_
                            refine O.move (v := v20) rfl rfl rfl ?_
                            have ho2 := SliceR.one (H.own 2 rfl)
                            refine O.buildSlice (α := C1) [v20] [⟨v20, ho2⟩] Tryd.underlying86 el22 H rfl rfl rfl rfl (lit1_cells ho2) rfl rfl ?_
                            intro v24 w9 H hb7
                            have H := H.litOwn (α := Int) 3 2 (by decide) rfl rfl rfl
                            obtain ⟨t9, ht9, hm12⟩ := bind_some hm12
                            refine O.appendR 0 3 (by decide) Tryd.underlying86 el22 rfl H rfl rfl ht9 rfl rfl rfl rfl ?_
                            intro v25 w10 Fx18 rc18 H
                            refine O.assign (v := v25) rfl rfl rfl ?_
                            refine WL.nil ?_
                            have H := H.keep [0, 1] [ownRI (α := Int) Fx18 v25 22 rc18 t9, ownRI (α := Int) Fx6 v6 22 rc6 s3] rfl (by decide)
                            have hq : t9 = s9 := Option.some.inj (show some t9 = some s9 from hm12)
                            subst hq
                            exact ⟨v25, Fx18, rc18, rfl, rfl, rfl, rfl, rfl, rfl, rfl, rfl, rfl, rfl, rfl, H⟩
                          · refine W.cond_false (congrArg Value.bool hc4) ?_
                            refine W.skip ?_
                            have H := H.keep [0, 1] [ownRI (α := Int) Fx13 v14 22 rc13 z8, ownRI (α := Int) Fx6 v6 22 rc6 s3] rfl (by decide)
                            have hq : z8 = s9 := Option.some.inj (show some z8 = some s9 from hm12)
                            subst hq
                            exact ⟨v14, Fx13, rc13, rfl, rfl, rfl, rfl, rfl, rfl, rfl, rfl, rfl, rfl, rfl, H⟩
                        · skip
                          rintro f w ⟨v23, Fx17, rc17, hf0, hf1, hf6, hf7, hf10, hf14, hf15, hf22, hf23, hf24, hf28, H⟩
                          obtain ⟨u63, rfl⟩ : ∃ u63, f = (upd (upd (upd (upd (upd (upd (upd (upd (upd (upd (upd u63 0 va0) 1 (.int .i64 a1)) 6 (.int .i64 (ik1 : Int))) 7 v23) 10 rw1.1) 14 (.int .i64 ((a0.length : Nat) : Int))) 15 (.int .i64 (ik1 : Int))) 22 v6) 23 (.int .i64 ((s3.length : Nat) : Int))) 24 (.int .i64 (ik2 : Int))) 28 (.int .i64 (ik3 : Int))) := ⟨f, by rw [upd_self hf0, upd_self hf1, upd_self hf6, upd_self hf7, upd_self hf10, upd_self hf14, upd_self hf15, upd_self hf22, upd_self hf23, upd_self hf24, upd_self hf28]⟩
                          have hq : s9 = s7 := Option.some.inj (show some s9 = some s7 from hm10)
                          subst hq
                          exact ⟨v23, Fx17, rc17, rfl, rfl, rfl, rfl, rfl, rfl, rfl, rfl, rfl, rfl, rfl, H⟩
                    · skip
                      rintro f w ⟨v17, Fx16, rc16, hf0, hf1, hf6, hf7, hf10, hf14, hf15, hf22, hf23, hf24, hf28, H⟩
                      obtain ⟨u64, rfl⟩ : ∃ u64, f = (upd (upd (upd (upd (upd (upd (upd (upd (upd (upd (upd u64 0 va0) 1 (.int .i64 a1)) 6 (.int .i64 (ik1 : Int))) 7 v17) 10 rw1.1) 14 (.int .i64 ((a0.length : Nat) : Int))) 15 (.int .i64 (ik1 : Int))) 22 v6) 23 (.int .i64 ((s3.length : Nat) : Int))) 24 (.int .i64 (ik2 : Int))) 28 (.int .i64 (ik3 : Int))) := ⟨f, by rw [upd_self hf0, upd_self hf1, upd_self hf6, upd_self hf7, upd_self hf10, upd_self hf14, upd_self hf15, upd_self hf22, upd_self hf23, upd_self hf24, upd_self hf28]⟩
                      refine W.region ?_
                      refine O.add rfl rfl rfl rfl hinck3 ?_
                      refine O.move (v := .int .i64 ((ik3 : Int) + 1)) rfl rfl rfl ?_
                      refine WL.nil ?_
                      obtain rfl := Option.some.inj hm9
                      exact ⟨_, rfl, _, v17, Fx16, rc16, rfl, rangeN_next hdropk3, rfl, rfl, rfl, rfl, rfl, rfl, rfl, rfl, rfl, rfl, rfl, H⟩
                  · skip
                    rintro ik3 _ f w ⟨z8, v14, Fx13, rc13, rfl, hdropk3, hf28, hf0, hf1, hf6, hf7, hf10, hf14, hf15, hf22, hf23, hf24, H⟩ hfin
                    have hltk3 := rangeN_end hdropk3
                    obtain ⟨u65, rfl⟩ : ∃ u65, f = (upd (upd (upd (upd (upd (upd (upd (upd (upd (upd (upd u65 28 (.int .i64 (ik3 : Int))) 0 va0) 1 (.int .i64 a1)) 6 (.int .i64 (ik1 : Int))) 7 v14) 10 rw1.1) 14 (.int .i64 ((a0.length : Nat) : Int))) 15 (.int .i64 (ik1 : Int))) 22 v6) 23 (.int .i64 ((s3.length : Nat) : Int))) 24 (.int .i64 (ik2 : Int))) := ⟨f, by rw [upd_self hf28, upd_self hf0, upd_self hf1, upd_self hf6, upd_self hf7, upd_self hf10, upd_self hf14, upd_self hf15, upd_self hf22, upd_self hf23, upd_self hf24]⟩
                    refine W.seq ?_
                    refine W.region ?_
                    refine O.lss rfl rfl rfl rfl ?_
                    refine WL.nil ?_
                    refine W.seq ?_
                    refine W.cond_false (congrArg Value.bool (decide_eq_false hltk3)) ?_
                    refine W.exit ?_
                    have hq : z8 = s6 := hfin
                    subst hq
                    refine xT rfl ?_
                    exact ⟨v14, Fx13, rc13, rfl, rfl, rfl, rfl, rfl, rfl, rfl, rfl, rfl, H⟩
                · skip
                  rintro f w ⟨v16, Fx15, rc15, hf0, hf1, hf6, hf7, hf14, hf15, hf22, hf23, hf24, H⟩
                  obtain ⟨u66, rfl⟩ : ∃ u66, f = (upd (upd (upd (upd (upd (upd (upd (upd (upd u66 0 va0) 1 (.int .i64 a1)) 6 (.int .i64 (ik1 : Int))) 7 v16) 14 (.int .i64 ((a0.length : Nat) : Int))) 15 (.int .i64 (ik1 : Int))) 22 v6) 23 (.int .i64 ((s3.length : Nat) : Int))) 24 (.int .i64 (ik2 : Int))) := ⟨f, by rw [upd_self hf0, upd_self hf1, upd_self hf6, upd_self hf7, upd_self hf14, upd_self hf15, upd_self hf22, upd_self hf23, upd_self hf24]⟩
                  have hq : s6 = s5 := Option.some.inj (show some s6 = some s5 from hm7)
                  subst hq
                  exact ⟨v16, Fx15, rc15, rfl, rfl, rfl, rfl, rfl, rfl, rfl, rfl, rfl, H⟩
              · skip
                rintro f w ⟨v12, Fx11, rc11, hf0, hf1, hf6, hf7, hf14, hf15, hf22, hf23, hf24, H⟩
                obtain ⟨u67, rfl⟩ : ∃ u67, f = (upd (upd (upd (upd (upd (upd (upd (upd (upd u67 0 va0) 1 (.int .i64 a1)) 6 (.int .i64 (ik1 : Int))) 7 v12) 14 (.int .i64 ((a0.length : Nat) : Int))) 15 (.int .i64 (ik1 : Int))) 22 v6) 23 (.int .i64 ((s3.length : Nat) : Int))) 24 (.int .i64 (ik2 : Int))) := ⟨f, by rw [upd_self hf0, upd_self hf1, upd_self hf6, upd_self hf7, upd_self hf14, upd_self hf15, upd_self hf22, upd_self hf23, upd_self hf24]⟩
                refine W.region ?_
                refine O.add rfl rfl rfl rfl hinck2 ?_
                refine O.move (v := .int .i64 ((ik2 : Int) + 1)) rfl rfl rfl ?_
                refine WL.nil ?_
                obtain rfl := Option.some.inj hm6
                exact ⟨_, rfl, _, v12, Fx11, rc11, rfl, drop_next hdropk2, rfl, rfl, rfl, rfl, rfl, rfl, rfl, rfl, rfl, H⟩
            · skip
              rintro ik2 _ f w ⟨z5, v9, Fx8, rc8, rfl, hdropk2, hf24, hf23, hf0, hf1, hf6, hf7, hf14, hf15, hf22, H⟩ hfin
              have hltk2 := drop_end hdropk2
              obtain ⟨u68, rfl⟩ : ∃ u68, f = (upd (upd (upd (upd (upd (upd (upd (upd (upd u68 24 (.int .i64 (ik2 : Int))) 23 (.int .i64 ((s3.length : Nat) : Int))) 0 va0) 1 (.int .i64 a1)) 6 (.int .i64 (ik1 : Int))) 7 v9) 14 (.int .i64 ((a0.length : Nat) : Int))) 15 (.int .i64 (ik1 : Int))) 22 v6) := ⟨f, by rw [upd_self hf24, upd_self hf23, upd_self hf0, upd_self hf1, upd_self hf6, upd_self hf7, upd_self hf14, upd_self hf15, upd_self hf22]⟩
              refine W.seq ?_
              refine W.region ?_
              refine O.lss rfl rfl rfl rfl ?_
              refine WL.nil ?_
              refine W.seq ?_
              refine W.cond_false (congrArg Value.bool (decide_eq_false hltk2)) ?_
              refine W.exit ?_
              have hq : z5 = s4 := hfin
              subst hq
              have H := H.keep [0] [ownRI (α := Int) Fx8 v9 22 rc8 z5] rfl (by decide)
              refine xT rfl ?_
              exact ⟨v9, Fx8, rc8, rfl, rfl, rfl, rfl, rfl, H⟩
          · skip
            rintro f w ⟨v11, Fx10, rc10, hf0, hf1, hf7, hf14, hf15, H⟩
            obtain ⟨u69, rfl⟩ : ∃ u69, f = (upd (upd (upd (upd (upd u69 0 va0) 1 (.int .i64 a1)) 7 v11) 14 (.int .i64 ((a0.length : Nat) : Int))) 15 (.int .i64 (ik1 : Int))) := ⟨f, by rw [upd_self hf0, upd_self hf1, upd_self hf7, upd_self hf14, upd_self hf15]⟩
            refine W.region ?_
            refine O.move (v := v11) rfl rfl rfl ?_
            refine O.assign (v := v11) rfl rfl rfl ?_
            refine WL.nil ?_
            have hq : s4 = s2 := Option.some.inj (show some s4 = some s2 from hm3)
            subst hq
            exact ⟨v11, Fx10, rc10, rfl, rfl, rfl, rfl, rfl, H⟩
      · skip
        rintro f w ⟨v5, Fx5, rc5, hf0, hf1, hf5, hf14, hf15, H⟩
        obtain ⟨u70, rfl⟩ : ∃ u70, f = (upd (upd (upd (upd (upd u70 0 va0) 1 (.int .i64 a1)) 5 v5) 14 (.int .i64 ((a0.length : Nat) : Int))) 15 (.int .i64 (ik1 : Int))) := ⟨f, by rw [upd_self hf0, upd_self hf1, upd_self hf5, upd_self hf14, upd_self hf15]⟩
        refine W.region ?_
        refine O.add rfl rfl rfl rfl hinck1 ?_
        refine O.move (v := .int .i64 ((ik1 : Int) + 1)) rfl rfl rfl ?_
        refine WL.nil ?_
        obtain rfl := Option.some.inj hm2
        exact ⟨_, rfl, _, v5, Fx5, rc5, rfl, rangeN_next hdropk1, rfl, rfl, rfl, rfl, rfl, H⟩
    · skip
      rintro ik1 _ f w ⟨z2, v2, Fx2, rc2, rfl, hdropk1, hf15, hf14, hf0, hf1, hf5, H⟩ hfin
      have hltk1 := rangeN_end hdropk1
      obtain ⟨u71, rfl⟩ : ∃ u71, f = (upd (upd (upd (upd (upd u71 15 (.int .i64 (ik1 : Int))) 14 (.int .i64 ((a0.length : Nat) : Int))) 0 va0) 1 (.int .i64 a1)) 5 v2) := ⟨f, by rw [upd_self hf15, upd_self hf14, upd_self hf0, upd_self hf1, upd_self hf5]⟩
      refine W.seq ?_
      refine W.region ?_
      refine O.lss rfl rfl rfl rfl ?_
      refine WL.nil ?_
      refine W.seq ?_
      refine W.cond_false (congrArg Value.bool (decide_eq_false hltk1)) ?_
      refine W.exit ?_
      have hq : z2 = s1 := hfin
      subst hq
      refine xT rfl ?_
      exact ⟨v2, Fx2, rc2, rfl, H⟩
  · skip
    rintro f w ⟨v4, Fx4, rc4, hf5, H⟩
    obtain ⟨u72, rfl⟩ : ∃ u72, f = (upd u72 5 v4) := ⟨f, by rw [upd_self hf5]⟩
    refine W.seq ?_
    refine W.region ?_
    refine O.move (v := v4) rfl rfl rfl ?_
    refine O.assign (v := v4) rfl rfl rfl ?_
    refine WL.nil ?_
    refine W.ret ?_
    have hq : s1 = r0 := Option.some.inj (show some s1 = some r0 from hm)
    subst hq
    exact ends1 Tryd.results77 rfl ⟨_, rfl, H.base, ⟨_, rfl, (H.ownRd 0 rfl)⟩⟩

set_option maxRecDepth 20000 in
theorem c_noongunref07_Lost {w0 : World} (hT : TabH Tryd.prog w0) (va0 : Value) (a0 : (List GMeaning)) (ha0 : SliceR w0 va0 a0) (a1 : Int) {r0 : (List Int)} {r1 : Int} (hm : noongunref07_Lost a0 a1 = some (r0, r1)) :
    Calls Tryd.prog 35 #[va0, (.int .i64 a1)] w0 (Ret w0 fun w v => ∃ vr0 : Value, v = .tuple #[vr0, (.int .i64 r1)] ∧ OwnR w0 w vr0 3 r0) := by
  unfold noongunref07_Lost at hm
  refine calls_of_W Tryd.func35 rfl Tryd.ntmps35 (Nat.le_of_ble_eq_true rfl) ?_
  have H := Inv.start (w := w0)
  refine W.seq ?_
  refine W.region ?_
  have H := H.addNil (α := Int) (E := 3)
  refine O.assign (v := (.slice none 0 0)) rfl rfl rfl ?_
  refine O.assign (v := (.int .i64 0)) rfl rfl rfl ?_
  refine WL.nil ?_
  refine W.seq ?_
  refine W.seq ?_
  refine W.region ?_
  refine O.move (v := va0) rfl rfl rfl ?_
  obtain ⟨t1, hy1, hm⟩ := bind_some hm
  refine O.call Tryd.call23 rfl rfl rfl (c_noongunref07_ValidBook _ _ (H.arg ha0) hy1) ?_
  rintro _ w1 hb1 rfl
  have H := H.ext hb1
  refine O.not rfl rfl rfl ?_
  refine WL.nil ?_
  rcases ite_some hm with ⟨hc1, hm⟩ | ⟨hc1, hm⟩
  · refine W.cond_true (congrArg Value.bool hc1) ?_
    refine W.seq ?_
    refine W.region ?_
    have H := H.addNil (α := Int) (E := 3)
    refine O.assign (v := (.slice none 0 0)) rfl rfl rfl ?_
    refine O.assign (v := (.int .i64 1)) rfl rfl rfl ?_
    refine WL.nil ?_
    refine W.ret ?_
    have hq : (([] : List Int), 1) = (r0, r1) := Option.some.inj (show some (([] : List Int), 1) = some (r0, r1) from hm)
    obtain ⟨he0, hq0⟩ := Prod.mk.inj hq; clear hq; subst he0
    subst hq0
    exact ends2 Tryd.results35 rfl rfl ⟨_, rfl, H.base, ⟨_, rfl, H.ownR 1 rfl⟩⟩
  · refine W.cond_false (congrArg Value.bool hc1) ?_
    refine W.skip ?_
    refine W.seq ?_
    refine W.seq ?_
    refine W.region ?_
    refine O.move (v := (.int .i64 a1)) rfl rfl rfl ?_
    obtain ⟨t2, hy2, hm⟩ := bind_some hm
    refine O.call Tryd.call76 rfl rfl rfl (c_noongunref07_set _ hy2) ?_
    rintro _ w2 hb2 rfl
    have H := H.ext hb2
    refine O.not rfl rfl rfl ?_
    refine WL.nil ?_
    rcases ite_some hm with ⟨hc2, hm⟩ | ⟨hc2, hm⟩
    · refine W.cond_true (congrArg Value.bool hc2) ?_
      refine W.seq ?_
      refine W.region ?_
      have H := H.addNil (α := Int) (E := 3)
      refine O.assign (v := (.slice none 0 0)) rfl rfl rfl ?_
      refine O.assign (v := (.int .i64 7)) rfl rfl rfl ?_
      refine WL.nil ?_
      refine W.ret ?_
      have hq : (([] : List Int), 7) = (r0, r1) := Option.some.inj (show some (([] : List Int), 7) = some (r0, r1) from hm)
      obtain ⟨he0, hq0⟩ := Prod.mk.inj hq; clear hq; subst he0
      subst hq0
      exact ends2 Tryd.results35 rfl rfl ⟨_, rfl, H.base, ⟨_, rfl, H.ownR 1 rfl⟩⟩
    · refine W.cond_false (congrArg Value.bool hc2) ?_
      refine W.skip ?_
      refine W.seq ?_
      refine W.region ?_
      have H := H.addNil (α := Int) (E := 3)
      refine O.assign (v := (.slice none 0 0)) rfl rfl rfl ?_
      refine WL.nil ?_
      refine W.seq ?_
      refine W.seq ?_
      refine W.region ?_
      refine O.move (v := va0) rfl rfl rfl ?_
      refine O.lenS Tryd.underlying33 (H.arg ha0) rfl rfl rfl ?_
      refine O.move (v := (.int .i64 0)) rfl rfl rfl ?_
      refine WL.nil ?_
      obtain ⟨s1, hm1, hm⟩ := bind_some hm
      refine W.via (fun f w => ∃ v4 : Value, f 6 = v4 ∧ Inv w0 w [ownI (α := Int) v4 3 s1]) ?_ ?_
      · skip
        refine W.block ?_
        have H := H.keep [1] [ownI (α := Int) (.slice none 0 0) 3 ([] : List Int)] rfl (by decide)
        refine W.rangeL (i := 0) hm1 (fun rem ik1 s f w => ∃ z2 : (List Int), ∃ v2 : Value, z2 = s ∧ a0.drop ik1 = rem ∧ f 17 = .int .i64 (ik1 : Int) ∧ f 16 = (.int .i64 ((a0.length : Nat) : Int)) ∧ f 1 = (.int .i64 a1) ∧ f 6 = v2 ∧ f 15 = va0 ∧ Inv w0 w [ownI (α := Int) v2 3 z2]) ?_ ?_ ?_
        · skip
          exact ⟨_, (.slice none 0 0), rfl, List.drop_zero, rfl, rfl, rfl, rfl, rfl, H⟩
        · skip
          rintro yk1 xs ik1 _ st f w ⟨z2, v2, rfl, hdropk1, hf17, hf16, hf1, hf6, hf15, H⟩ hm2
          have hltk1 := drop_lt hdropk1; have hixk1 := drop_idx hdropk1
          obtain ⟨u1, rfl⟩ : ∃ u1, f = (upd (upd (upd (upd (upd u1 17 (.int .i64 (ik1 : Int))) 16 (.int .i64 ((a0.length : Nat) : Int))) 1 (.int .i64 a1)) 6 v2) 15 va0) := ⟨f, by rw [upd_self hf17, upd_self hf16, upd_self hf1, upd_self hf6, upd_self hf15]⟩
          have hinck1 := addI_lt hltk1 (H.arg ha0).len_le
          refine W.seq ?_
          refine W.region ?_
          refine O.lss rfl rfl rfl rfl ?_
          refine WL.nil ?_
          refine W.seq ?_
          refine W.cond_true (congrArg Value.bool (decide_eq_true hltk1)) ?_
          refine W.skip ?_
          refine W.seq ?_
          obtain ⟨s2, hm3, hm2⟩ := bind_some hm2
          refine W.via (fun f w => ∃ v5 : Value, f 1 = (.int .i64 a1) ∧ f 6 = v5 ∧ f 15 = va0 ∧ f 16 = (.int .i64 ((a0.length : Nat) : Int)) ∧ f 17 = (.int .i64 (ik1 : Int)) ∧ Inv w0 w [ownI (α := Int) v5 3 s2]) ?_ ?_
          · skip
            refine W.block ?_
            refine W.seq ?_
            refine W.region ?_
            obtain ⟨p1, hp1, hrp1⟩ := fix_indexAddr Tryd.underlying33 sz39 ha0 hixk1
            refine hrp1 rfl rfl rfl rfl ?_
            refine O.loadA [(.int .i64 yk1.Number), (.string yk1.Text)] ag39 rfl rfl rfl rfl ((hp1.mono H.base).flat) ?_
            refine O.alloc [(.int .i64 0), (.string ByteArray.empty)] ze39 H rfl rfl rfl ?_
            intro b1 w3 H hb3
            refine O.store 1 0 [(.int .i64 yk1.Number), (.string yk1.Text)] [(.int .i64 yk1.Number), (.string yk1.Text)] sz39 H rfl rfl rfl rfl rfl rfl ⟨⟨rfl, rfl⟩, rfl⟩ (one_cons rfl (one_cons rfl one_nil)) ?_
            intro w4 H
            refine WL.nil ?_
            refine W.seq ?_
            refine W.region ?_
            refine O.fieldAddr fd39_0 rfl rfl rfl ?_
            refine O.load sc3 rfl rfl rfl (H.cell 1 rfl 0 _ rfl) ?_
            obtain ⟨t3, hy3, hm3⟩ := bind_some hm3
            refine O.call Tryd.call40 rfl rfl rfl (c_noongunref07_digitsOf (hT.mono H.base) _ hy3) ?_
            rintro v6 w5 hb4 ho1
            have H := H.addOwn hb4 ho1
            refine O.move (v := (.int .i64 a1)) rfl rfl rfl ?_
            obtain ⟨t4, hy4, hm3⟩ := bind_some hm3
            refine O.call Tryd.call77 rfl rfl rfl (c_noongunref07_hoists _ _ (H.own 2 rfl) _ hy4) ?_
            rintro v7 w6 hb5 ⟨_, rfl, ho2⟩
            have H := H.ext hb5
            refine O.lenS Tryd.underlying86 ho2 rfl rfl rfl ?_
            refine O.eql rfl rfl rfl rfl ?_
            refine WL.nil ?_
            obtain ⟨s3, hm4, hm3⟩ := bind_some hm3
            refine W.via (fun f w => ∃ v8 : Value, f 1 = (.int .i64 a1) ∧ f 6 = v8 ∧ f 15 = va0 ∧ f 16 = (.int .i64 ((a0.length : Nat) : Int)) ∧ f 17 = (.int .i64 (ik1 : Int)) ∧ Inv w0 w [ownI (α := Int) v8 3 s3]) ?_ ?_
            · skip
              rcases ite_some hm4 with ⟨hc3, hm4⟩ | ⟨hc3, hm4⟩
              · refine W.cond_true (congrArg Value.bool hc3) ?_
                refine W.region ?_
                refine O.move (v := v2) rfl rfl rfl ?_
                refine O.fieldAddr fd39_0 rfl rfl rfl ?_
                refine O.load sc3 rfl rfl rfl (H.cell 1 rfl 0 _ rfl) ?_
                refine O.buildSlice (α := Int) [(.int .i64 yk1.Number)] [yk1.Number] Tryd.underlying22 el3 H rfl rfl rfl rfl rfl rfl rfl ?_
                intro v9 w7 H hb6
                have ho2 := ho2.mono hb6
                obtain ⟨t5, ht5, hm4⟩ := bind_some hm4
                refine O.append 0 Tryd.underlying22 el3 rfl H rfl (H.own 3 rfl) ht5 rfl rfl rfl rfl ?_
                intro v10 w8 H
                clear ho2
                refine O.assign (v := v10) rfl rfl rfl ?_
                refine WL.nil ?_
                have H := H.keep [0] [ownI (α := Int) v10 3 t5] rfl (by decide)
                have hq : t5 = s3 := Option.some.inj (show some t5 = some s3 from hm4)
                subst hq
                exact ⟨v10, rfl, rfl, rfl, rfl, rfl, H⟩
              · refine W.cond_false (congrArg Value.bool hc3) ?_
                refine W.skip ?_
                have H := H.keep [0] [ownI (α := Int) v2 3 z2] rfl (by decide)
                have hq : z2 = s3 := Option.some.inj (show some z2 = some s3 from hm4)
                subst hq
                exact ⟨v2, rfl, rfl, rfl, rfl, rfl, H⟩
            · skip
              rintro f w ⟨v8, hf1, hf6, hf15, hf16, hf17, H⟩
              obtain ⟨u2, rfl⟩ : ∃ u2, f = (upd (upd (upd (upd (upd u2 1 (.int .i64 a1)) 6 v8) 15 va0) 16 (.int .i64 ((a0.length : Nat) : Int))) 17 (.int .i64 (ik1 : Int))) := ⟨f, by rw [upd_self hf1, upd_self hf6, upd_self hf15, upd_self hf16, upd_self hf17]⟩
              have hq : s3 = s2 := Option.some.inj (show some s3 = some s2 from hm3)
              subst hq
              exact ⟨v8, rfl, rfl, rfl, rfl, rfl, H⟩
          · skip
            rintro f w ⟨v5, hf1, hf6, hf15, hf16, hf17, H⟩
            obtain ⟨u3, rfl⟩ : ∃ u3, f = (upd (upd (upd (upd (upd u3 1 (.int .i64 a1)) 6 v5) 15 va0) 16 (.int .i64 ((a0.length : Nat) : Int))) 17 (.int .i64 (ik1 : Int))) := ⟨f, by rw [upd_self hf1, upd_self hf6, upd_self hf15, upd_self hf16, upd_self hf17]⟩
            refine W.region ?_
            refine O.add rfl rfl rfl rfl hinck1 ?_
            refine O.move (v := .int .i64 ((ik1 : Int) + 1)) rfl rfl rfl ?_
            refine WL.nil ?_
            obtain rfl := Option.some.inj hm2
            exact ⟨_, rfl, _, v5, rfl, drop_next hdropk1, rfl, rfl, rfl, rfl, rfl, H⟩
        · skip
          rintro ik1 _ f w ⟨z2, v2, rfl, hdropk1, hf17, hf16, hf1, hf6, hf15, H⟩ hfin
          have hltk1 := drop_end hdropk1
          obtain ⟨u4, rfl⟩ : ∃ u4, f = (upd (upd (upd (upd (upd u4 17 (.int .i64 (ik1 : Int))) 16 (.int .i64 ((a0.length : Nat) : Int))) 1 (.int .i64 a1)) 6 v2) 15 va0) := ⟨f, by rw [upd_self hf17, upd_self hf16, upd_self hf1, upd_self hf6, upd_self hf15]⟩
          refine W.seq ?_
          refine W.region ?_
          refine O.lss rfl rfl rfl rfl ?_
          refine WL.nil ?_
          refine W.seq ?_
          refine W.cond_false (congrArg Value.bool (decide_eq_false hltk1)) ?_
          refine W.exit ?_
          have hq : z2 = s1 := hfin
          subst hq
          refine xT rfl ?_
          exact ⟨v2, rfl, H⟩
      · skip
        rintro f w ⟨v4, hf6, H⟩
        obtain ⟨u5, rfl⟩ : ∃ u5, f = (upd u5 6 v4) := ⟨f, by rw [upd_self hf6]⟩
        refine W.seq ?_
        refine W.region ?_
        refine O.move (v := v4) rfl rfl rfl ?_
        refine O.assign (v := v4) rfl rfl rfl ?_
        refine O.assign (v := (.int .i64 0)) rfl rfl rfl ?_
        refine WL.nil ?_
        refine W.ret ?_
        have hq : (s1, 0) = (r0, r1) := Option.some.inj (show some (s1, 0) = some (r0, r1) from hm)
        obtain ⟨he0, hq0⟩ := Prod.mk.inj hq; clear hq; subst he0
        subst hq0
        exact ends2 Tryd.results35 rfl rfl ⟨_, rfl, H.base, ⟨_, rfl, H.ownR 0 rfl⟩⟩

set_option maxRecDepth 20000 in
theorem c_noongunref07_SamePairs {w0 : World} (va0 : Value) (a0 : (List GArr2)) (ha0 : SliceR w0 va0 a0) (va1 : Value) (a1 : (List GArr2)) (ha1 : SliceR w0 va1 a1) {r0 : Bool} (hm : noongunref07_SamePairs a0 a1 = some r0) :
    Calls Tryd.prog 36 #[va0, va1] w0 (Ret w0 fun _ v => v = (.bool r0)) := by
  unfold noongunref07_SamePairs at hm
  refine calls_of_W Tryd.func36 rfl Tryd.ntmps36 (Nat.le_of_ble_eq_true rfl) ?_
  have H := Inv.start (w := w0)
  refine W.seq ?_
  refine W.region ?_
  refine O.assign (v := (.bool false)) rfl rfl rfl ?_
  refine WL.nil ?_
  refine W.seq ?_
  refine W.seq ?_
  refine W.region ?_
  refine O.move (v := va0) rfl rfl rfl ?_
  refine O.lenS Tryd.underlying46 (H.arg ha0) rfl rfl rfl ?_
  refine O.move (v := va1) rfl rfl rfl ?_
  refine O.lenS Tryd.underlying46 (H.arg ha1) rfl rfl rfl ?_
  refine O.neq rfl rfl rfl rfl ?_
  refine WL.nil ?_
  rcases ite_some hm with ⟨hc1, hm⟩ | ⟨hc1, hm⟩
  · refine W.cond_true (congrArg Value.bool hc1) ?_
    refine W.seq ?_
    refine W.region ?_
    refine O.assign (v := (.bool false)) rfl rfl rfl ?_
    refine WL.nil ?_
    refine W.ret ?_
    have hq : false = r0 := Option.some.inj (show some false = some r0 from hm)
    subst hq
    exact ends1 Tryd.results36 rfl ⟨_, rfl, H.base, rfl⟩
  · refine W.cond_false (congrArg Value.bool hc1) ?_
    refine W.skip ?_
    refine W.seq ?_
    refine W.seq ?_
    refine W.region ?_
    refine O.move (v := va0) rfl rfl rfl ?_
    refine O.lenS Tryd.underlying46 (H.arg ha0) rfl rfl rfl ?_
    refine O.move (v := (.int .i64 0)) rfl rfl rfl ?_
    refine WL.nil ?_
    obtain ⟨o1, hm1, hm⟩ := bind_some hm
    refine W.via (fun f w => o1 = .next () ∧ Inv w0 w []) ?_ ?_
    · skip
      refine W.block ?_
      have hbdik1 := (H.arg ha0).len_le
      refine W.rangeN (i := 0) hm1 (fun rem ik1 s f w => () = s ∧ (ik1 : Int) + rem = max 0 ((a0.length : Nat) : Int) ∧ f 13 = .int .i64 (ik1 : Int) ∧ f 12 = (.int .i64 ((a0.length : Nat) : Int)) ∧ f 0 = va0 ∧ f 1 = va1 ∧ Inv w0 w []) ?_ ?_ ?_
      · skip
        exact ⟨rfl, rangeN_start, rfl, rfl, rfl, rfl, H⟩
      · skip
        rintro k ik1 _ st f w ⟨rfl, hdropk1, hf13, hf12, hf0, hf1, H⟩ hm2
        have hltk1 := rangeN_lt hdropk1
        obtain ⟨u1, rfl⟩ : ∃ u1, f = (upd (upd (upd (upd u1 13 (.int .i64 (ik1 : Int))) 12 (.int .i64 ((a0.length : Nat) : Int))) 0 va0) 1 va1) := ⟨f, by rw [upd_self hf13, upd_self hf12, upd_self hf0, upd_self hf1]⟩
        have hinck1 := addI_lt hltk1 hbdik1
        refine W.seq ?_
        refine W.region ?_
        refine O.lss rfl rfl rfl rfl ?_
        refine WL.nil ?_
        refine W.seq ?_
        refine W.cond_true (congrArg Value.bool (decide_eq_true hltk1)) ?_
        refine W.skip ?_
        refine W.seq ?_
        refine W.block ?_
        refine W.seq ?_
        refine W.region ?_
        refine O.move (v := (.int .i64 (ik1 : Int))) rfl rfl rfl ?_
        refine O.assign (v := (.int .i64 (ik1 : Int))) rfl rfl rfl ?_
        refine WL.nil ?_
        refine W.seq ?_
        obtain ⟨x1, hx1, hm2⟩ := bind_some hm2
        obtain ⟨p1, hp1, hrp1⟩ := fix_indexAddr Tryd.underlying46 sz84 (H.arg ha0) hx1
        obtain ⟨x2, hx2, hm2⟩ := bind_some hm2
        obtain ⟨p2, hp2, hrp2⟩ := fix_indexAddr Tryd.underlying46 sz84 (H.arg ha1) hx2
        refine W.drawN 8 (fun f => f 0 = va0 ∧ f 1 = va1 ∧ f 12 = (.int .i64 ((a0.length : Nat) : Int)) ∧ f 13 = (.int .i64 (ik1 : Int)) ∧ f 19 = (.agg (Flat.cells x1).toArray) ∧ f 23 = (.agg (Flat.cells x2).toArray)) fol (by kernel_rfl) ?_ ?_
        · skip
          refine PL.of (fun _ w8 _ hx => O.move (v := va0) rfl rfl rfl (WL.nil ⟨rfl, hx⟩)) ?_
          refine PL.of (fun _ w8 _ hx => O.move (v := (.int .i64 (ik1 : Int))) rfl rfl rfl (WL.nil ⟨rfl, hx⟩)) ?_
          refine PL.of (fun _ w8 _ hx => hrp1 rfl rfl rfl rfl (WL.nil ⟨rfl, hx⟩)) ?_
          refine PL.of (fun _ w8 _ hx => by have hp1 := hp1.mono hx; exact O.loadA [(.int .i64 x1.x0), (.int .i64 x1.x1)] ag84 rfl rfl rfl rfl (hp1.flat) (WL.nil ⟨rfl, hx⟩)) ?_
          refine PL.of (fun _ w8 _ hx => O.move (v := va1) rfl rfl rfl (WL.nil ⟨rfl, hx⟩)) ?_
          refine PL.of (fun _ w8 _ hx => O.move (v := (.int .i64 (ik1 : Int))) rfl rfl rfl (WL.nil ⟨rfl, hx⟩)) ?_
          refine PL.of (fun _ w8 _ hx => hrp2 rfl rfl rfl rfl (WL.nil ⟨rfl, hx⟩)) ?_
          refine PL.of (fun _ w8 _ hx => by have hp2 := hp2.mono hx; exact O.loadA [(.int .i64 x2.x0), (.int .i64 x2.x1)] ag84 rfl rfl rfl rfl (hp2.flat) (WL.nil ⟨rfl, hx⟩)) ?_
          refine PL.nil ?_
          exact ⟨rfl, rfl, rfl, rfl, rfl, rfl⟩
        · skip
          rintro f w ⟨hf0, hf1, hf12, hf13, hf19, hf23⟩ hmd hx
          have H := H.ext hx
          have hp1 := hp1.mono hx
          have hp2 := hp2.mono hx
          obtain ⟨u2, rfl⟩ : ∃ u2, f = (upd (upd (upd (upd (upd (upd u2 0 va0) 1 va1) 12 (.int .i64 ((a0.length : Nat) : Int))) 13 (.int .i64 (ik1 : Int))) 19 (.agg (Flat.cells x1).toArray)) 23 (.agg (Flat.cells x2).toArray)) := ⟨f, by rw [upd_self hf0, upd_self hf1, upd_self hf12, upd_self hf13, upd_self hf19, upd_self hf23]⟩
          refine O.neqSt x1 x2 eq84 rfl rfl rfl rfl ?_
          refine WL.nil ?_
          rcases ite_some hm2 with ⟨hc2, hm2⟩ | ⟨hc2, hm2⟩
          · refine W.cond_true (congrArg Value.bool hc2) ?_
            refine W.seq ?_
            refine W.region ?_
            refine O.assign (v := (.bool false)) rfl rfl rfl ?_
            refine WL.nil ?_
            refine W.ret ?_
            obtain rfl := Option.some.inj hm2
            refine ⟨_, rfl, ?_⟩
            rintro rfl
            have hq : false = r0 := Option.some.inj (show some false = some r0 from hm)
            subst hq
            exact ends1 Tryd.results36 rfl ⟨_, rfl, H.base, rfl⟩
          · refine W.cond_false (congrArg Value.bool hc2) ?_
            refine W.skip ?_
            refine W.region ?_
            refine O.add rfl rfl rfl rfl hinck1 ?_
            refine O.move (v := .int .i64 ((ik1 : Int) + 1)) rfl rfl rfl ?_
            refine WL.nil ?_
            obtain rfl := Option.some.inj hm2
            exact ⟨_, rfl, rfl, rangeN_next hdropk1, rfl, rfl, rfl, rfl, H⟩
      · skip
        rintro ik1 _ f w ⟨rfl, hdropk1, hf13, hf12, hf0, hf1, H⟩ hfin
        have hltk1 := rangeN_end hdropk1
        obtain ⟨u3, rfl⟩ : ∃ u3, f = (upd (upd (upd (upd u3 13 (.int .i64 (ik1 : Int))) 12 (.int .i64 ((a0.length : Nat) : Int))) 0 va0) 1 va1) := ⟨f, by rw [upd_self hf13, upd_self hf12, upd_self hf0, upd_self hf1]⟩
        refine W.seq ?_
        refine W.region ?_
        refine O.lss rfl rfl rfl rfl ?_
        refine WL.nil ?_
        refine W.seq ?_
        refine W.cond_false (congrArg Value.bool (decide_eq_false hltk1)) ?_
        refine W.exit ?_
        obtain rfl : Ctl.next () = o1 := hfin
        refine xT rfl ?_
        exact ⟨rfl, H⟩
    · skip
      rintro f w ⟨rfl, H⟩
      refine W.seq ?_
      refine W.region ?_
      refine O.assign (v := (.bool true)) rfl rfl rfl ?_
      refine WL.nil ?_
      refine W.ret ?_
      have hq : true = r0 := Option.some.inj (show some true = some r0 from hm)
      subst hq
      exact ends1 Tryd.results36 rfl ⟨_, rfl, H.base, rfl⟩

set_option maxRecDepth 20000 in
theorem c_noongunlaw07_FlagTraps {w0 : World} (hT : TabH Tryd.prog w0) (va0 : Value) (a0 : (List GMeaning)) (ha0 : SliceR w0 va0 a0) (a1 : Int) (a2 : Int) {r0 : Bool} (hm : noongunlaw07_FlagTraps a0 a1 a2 = some r0) :
    Calls Tryd.prog 6 #[va0, (.int .i64 a1), (.int .i64 a2)] w0 (Ret w0 fun _ v => v = (.bool r0)) := by
  unfold noongunlaw07_FlagTraps at hm
  refine calls_of_W Tryd.func6 rfl Tryd.ntmps6 (Nat.le_of_ble_eq_true rfl) ?_
  have H := Inv.start (w := w0)
  refine W.seq ?_
  refine W.region ?_
  refine O.assign (v := (.bool false)) rfl rfl rfl ?_
  refine WL.nil ?_
  refine W.seq ?_
  refine W.seq ?_
  refine W.region ?_
  refine O.move (v := va0) rfl rfl rfl ?_
  obtain ⟨t1, hy1, hm⟩ := bind_some hm
  refine O.call Tryd.call17 rfl rfl rfl (c_noongunlaw07_fit _ _ (H.arg ha0) hy1) ?_
  rintro _ w1 hb1 rfl
  have H := H.ext hb1
  refine O.not rfl rfl rfl ?_
  refine WL.nil ?_
  rcases ite_some hm with ⟨hc1, hm⟩ | ⟨hc1, hm⟩
  · refine W.cond_true (congrArg Value.bool hc1) ?_
    refine W.seq ?_
    refine W.region ?_
    obtain ⟨t2, hy2, hm⟩ := bind_some hm
    refine O.call Tryd.call7 rfl rfl rfl (c_noongunlaw07_awake  hy2) ?_
    rintro _ w2 hb2 rfl
    have H := H.ext hb2
    refine O.assign (v := (.bool t2)) rfl rfl rfl ?_
    refine WL.nil ?_
    refine W.ret ?_
    have hq : t2 = r0 := Option.some.inj (show some t2 = some r0 from hm)
    subst hq
    exact ends1 Tryd.results6 rfl ⟨_, rfl, H.base, rfl⟩
  · refine W.cond_false (congrArg Value.bool hc1) ?_
    refine W.skip ?_
    refine W.seq ?_
    refine W.region ?_
    refine O.move (v := va0) rfl rfl rfl ?_
    refine O.move (v := (.int .i64 a1)) rfl rfl rfl ?_
    obtain ⟨⟨t3, t4⟩, hy3, hm⟩ := bind_some hm
    refine O.call Tryd.call30 rfl rfl rfl (c_flag_Close (hT.mono H.base) _ _ (H.arg ha0) _ hy3) ?_
    rintro _ w3 hb3 ⟨v1, rfl, ho1⟩
    have H := H.addOwn hb3 ho1
    refine O.move (v := (.tuple #[v1, (.int .i64 t4)])) rfl rfl rfl ?_
    refine O.extract (v := v1) rfl rfl rfl rfl ?_
    refine O.extract (v := (.int .i64 t4)) rfl rfl rfl rfl ?_
    refine O.assign (v := v1) rfl rfl rfl ?_
    refine O.assign (v := (.int .i64 t4)) rfl rfl rfl ?_
    refine WL.nil ?_
    refine W.seq ?_
    refine W.region ?_
    refine O.move (v := va0) rfl rfl rfl ?_
    refine O.move (v := (.int .i64 a1)) rfl rfl rfl ?_
    obtain ⟨⟨t5, t6⟩, hy4, hm⟩ := bind_some hm
    refine O.call Tryd.call31 rfl rfl rfl (c_noongunref07_Close (hT.mono H.base) _ _ (H.arg ha0) _ hy4) ?_
    rintro _ w4 hb4 ⟨v2, rfl, ho2⟩
    have H := H.addOwn hb4 ho2
    refine O.move (v := (.tuple #[v2, (.int .i64 t6)])) rfl rfl rfl ?_
    refine O.extract (v := v2) rfl rfl rfl rfl ?_
    refine O.extract (v := (.int .i64 t6)) rfl rfl rfl rfl ?_
    refine O.assign (v := v2) rfl rfl rfl ?_
    refine O.assign (v := (.int .i64 t6)) rfl rfl rfl ?_
    refine WL.nil ?_
    refine W.seq ?_
    refine W.region ?_
    refine O.move (v := va0) rfl rfl rfl ?_
    obtain ⟨⟨t7, t8⟩, hy5, hm⟩ := bind_some hm
    refine O.call Tryd.call32 rfl rfl rfl (c_flag_Traps (hT.mono H.base) _ _ (H.arg ha0) hy5) ?_
    rintro _ w5 hb5 ⟨v3, rfl, ho3⟩
    have H := H.addOwn hb5 ho3
    refine O.move (v := (.tuple #[v3, (.int .i64 t8)])) rfl rfl rfl ?_
    refine O.extract (v := v3) rfl rfl rfl rfl ?_
    refine O.extract (v := (.int .i64 t8)) rfl rfl rfl rfl ?_
    refine O.assign (v := v3) rfl rfl rfl ?_
    refine O.assign (v := (.int .i64 t8)) rfl rfl rfl ?_
    refine WL.nil ?_
    refine W.seq ?_
    refine W.region ?_
    refine O.move (v := va0) rfl rfl rfl ?_
    obtain ⟨⟨t9, t10⟩, hy6, hm⟩ := bind_some hm
    refine O.call Tryd.call33 rfl rfl rfl (c_noongunref07_Traps (hT.mono H.base) _ _ (H.arg ha0) hy6) ?_
    rintro _ w6 hb6 ⟨v4, rfl, ho4⟩
    have H := H.addOwn hb6 ho4
    refine O.move (v := (.tuple #[v4, (.int .i64 t10)])) rfl rfl rfl ?_
    refine O.extract (v := v4) rfl rfl rfl rfl ?_
    refine O.extract (v := (.int .i64 t10)) rfl rfl rfl rfl ?_
    refine O.assign (v := v4) rfl rfl rfl ?_
    refine O.assign (v := (.int .i64 t10)) rfl rfl rfl ?_
    refine WL.nil ?_
    refine W.seq ?_
    refine W.region ?_
    refine O.move (v := va0) rfl rfl rfl ?_
    refine O.move (v := (.int .i64 a2)) rfl rfl rfl ?_
    obtain ⟨⟨t11, t12⟩, hy7, hm⟩ := bind_some hm
    refine O.call Tryd.call34 rfl rfl rfl (c_flag_Lost (hT.mono H.base) _ _ (H.arg ha0) _ hy7) ?_
    rintro _ w7 hb7 ⟨v5, rfl, ho5⟩
    have H := H.addOwn hb7 ho5
    refine O.move (v := (.tuple #[v5, (.int .i64 t12)])) rfl rfl rfl ?_
    refine O.extract (v := v5) rfl rfl rfl rfl ?_
    refine O.extract (v := (.int .i64 t12)) rfl rfl rfl rfl ?_
    refine O.assign (v := v5) rfl rfl rfl ?_
    refine O.assign (v := (.int .i64 t12)) rfl rfl rfl ?_
    refine WL.nil ?_
    refine W.seq ?_
    refine W.region ?_
    refine O.move (v := va0) rfl rfl rfl ?_
    refine O.move (v := (.int .i64 a2)) rfl rfl rfl ?_
    obtain ⟨⟨t13, t14⟩, hy8, hm⟩ := bind_some hm
    refine O.call Tryd.call35 rfl rfl rfl (c_noongunref07_Lost (hT.mono H.base) _ _ (H.arg ha0) _ hy8) ?_
    rintro _ w8 hb8 ⟨v6, rfl, ho6⟩
    have H := H.addOwn hb8 ho6
    refine O.move (v := (.tuple #[v6, (.int .i64 t14)])) rfl rfl rfl ?_
    refine O.extract (v := v6) rfl rfl rfl rfl ?_
    refine O.extract (v := (.int .i64 t14)) rfl rfl rfl rfl ?_
    refine O.assign (v := v6) rfl rfl rfl ?_
    refine O.assign (v := (.int .i64 t14)) rfl rfl rfl ?_
    refine WL.nil ?_
    refine W.seq ?_
    refine W.region ?_
    refine O.move (v := v1) rfl rfl rfl ?_
    refine O.move (v := v2) rfl rfl rfl ?_
    obtain ⟨t15, hy9, hm⟩ := bind_some hm
    refine O.call Tryd.call36 rfl rfl rfl (c_noongunref07_SamePairs _ _ (H.own 0 rfl) _ _ (H.own 1 rfl) hy9) ?_
    rintro _ w9 hb9 rfl
    have H := H.ext hb9
    refine O.move (v := (.bool t15)) rfl rfl rfl ?_
    refine WL.cut 4 (fun f w => f 11 = v3 ∧ f 12 = (.int .i64 t8) ∧ f 13 = v4 ∧ f 14 = (.int .i64 t10) ∧ f 15 = v5 ∧ f 16 = (.int .i64 t12) ∧ f 17 = v6 ∧ f 18 = (.int .i64 t14) ∧ f 64 = .bool (t15 && (t4 == t6)) ∧ Inv w0 w [ownI (α := GArr2) v1 84 t3, ownI (α := GArr2) v2 84 t5, ownI (α := GArr2) v3 84 t7, ownI (α := GArr2) v4 84 t9, ownI (α := Int) v5 3 t11, ownI (α := Int) v6 3 t13]) ?_ ?_
    · skip
      rcases bool_ft t15 with hc2 | hc2
      · skip
        refine WL.reset (i := 60) (v := .bool false) (congrArg Value.bool hc2) ?_
        refine O.skip rfl rfl ?_
        refine O.skip rfl rfl ?_
        refine O.skip rfl rfl ?_
        refine O.pick_false (v := (.bool false)) rfl rfl rfl rfl ?_
        refine WL.nil ?_
        exact ⟨rfl, rfl, rfl, rfl, rfl, rfl, rfl, rfl, congrArg Value.bool (and_f hc2), H⟩
      · skip
        refine WL.reset (i := 60) (v := .bool true) (congrArg Value.bool hc2) ?_
        refine O.move (v := (.int .i64 t4)) rfl rfl rfl ?_
        refine O.move (v := (.int .i64 t6)) rfl rfl rfl ?_
        refine O.eql rfl rfl rfl rfl ?_
        refine O.pick_true (v := (.bool (t4 == t6))) rfl rfl rfl rfl ?_
        refine WL.nil ?_
        exact ⟨rfl, rfl, rfl, rfl, rfl, rfl, rfl, rfl, congrArg Value.bool (and_t hc2), H⟩
    · skip
      rintro f w ⟨hf11, hf12, hf13, hf14, hf15, hf16, hf17, hf18, hf64, H⟩
      obtain ⟨u1, rfl⟩ : ∃ u1, f = (upd (upd (upd (upd (upd (upd (upd (upd (upd u1 11 v3) 12 (.int .i64 t8)) 13 v4) 14 (.int .i64 t10)) 15 v5) 16 (.int .i64 t12)) 17 v6) 18 (.int .i64 t14)) 64 (.bool (t15 && (t4 == t6)))) := ⟨f, by rw [upd_self hf11, upd_self hf12, upd_self hf13, upd_self hf14, upd_self hf15, upd_self hf16, upd_self hf17, upd_self hf18, upd_self hf64]⟩
      refine O.move (v := (.bool (t15 && (t4 == t6)))) rfl rfl rfl ?_
      obtain ⟨b1, hm1, hm⟩ := bind_some hm
      refine WL.cut 4 (fun f w => f 12 = (.int .i64 t8) ∧ f 14 = (.int .i64 t10) ∧ f 15 = v5 ∧ f 16 = (.int .i64 t12) ∧ f 17 = v6 ∧ f 18 = (.int .i64 t14) ∧ f 69 = .bool b1 ∧ Inv w0 w [ownI (α := GArr2) v1 84 t3, ownI (α := GArr2) v2 84 t5, ownI (α := GArr2) v3 84 t7, ownI (α := GArr2) v4 84 t9, ownI (α := Int) v5 3 t11, ownI (α := Int) v6 3 t13]) ?_ ?_
      · skip
        rcases ite_some hm1 with ⟨hc3, hm1⟩ | ⟨hc3, hm1⟩
        · skip
          refine WL.reset (i := 65) (v := .bool true) (congrArg Value.bool hc3) ?_
          refine O.move (v := v3) rfl rfl rfl ?_
          refine O.move (v := v4) rfl rfl rfl ?_
          obtain ⟨t16, hy10, hm1⟩ := bind_some hm1
          refine O.call Tryd.call36 rfl rfl rfl (c_noongunref07_SamePairs _ _ (H.own 2 rfl) _ _ (H.own 3 rfl) hy10) ?_
          rintro _ w10 hb10 rfl
          have H := H.ext hb10
          refine O.pick_true (v := (.bool t16)) rfl rfl rfl rfl ?_
          refine WL.nil ?_
          have hq : t16 = b1 := Option.some.inj (show some t16 = some b1 from hm1)
          subst hq
          exact ⟨rfl, rfl, rfl, rfl, rfl, rfl, rfl, H⟩
        · skip
          refine WL.reset (i := 65) (v := .bool false) (congrArg Value.bool hc3) ?_
          refine O.skip rfl rfl ?_
          refine O.skip rfl rfl ?_
          refine O.skip rfl rfl ?_
          refine O.pick_false (v := (.bool false)) rfl rfl rfl rfl ?_
          refine WL.nil ?_
          have hq : false = b1 := Option.some.inj (show some false = some b1 from hm1)
          subst hq
          exact ⟨rfl, rfl, rfl, rfl, rfl, rfl, rfl, H⟩
      · skip
        rintro f w ⟨hf12, hf14, hf15, hf16, hf17, hf18, hf69, H⟩
        obtain ⟨u2, rfl⟩ : ∃ u2, f = (upd (upd (upd (upd (upd (upd (upd u2 12 (.int .i64 t8)) 14 (.int .i64 t10)) 15 v5) 16 (.int .i64 t12)) 17 v6) 18 (.int .i64 t14)) 69 (.bool b1)) := ⟨f, by rw [upd_self hf12, upd_self hf14, upd_self hf15, upd_self hf16, upd_self hf17, upd_self hf18, upd_self hf69]⟩
        refine O.move (v := (.bool b1)) rfl rfl rfl ?_
        refine WL.cut 4 (fun f w => f 15 = v5 ∧ f 16 = (.int .i64 t12) ∧ f 17 = v6 ∧ f 18 = (.int .i64 t14) ∧ f 74 = .bool (b1 && (t8 == t10)) ∧ Inv w0 w [ownI (α := GArr2) v1 84 t3, ownI (α := GArr2) v2 84 t5, ownI (α := GArr2) v3 84 t7, ownI (α := GArr2) v4 84 t9, ownI (α := Int) v5 3 t11, ownI (α := Int) v6 3 t13]) ?_ ?_
        · skip
          rcases bool_ft b1 with hc4 | hc4
          · skip
            refine WL.reset (i := 70) (v := .bool false) (congrArg Value.bool hc4) ?_
            refine O.skip rfl rfl ?_
            refine O.skip rfl rfl ?_
            refine O.skip rfl rfl ?_
            refine O.pick_false (v := (.bool false)) rfl rfl rfl rfl ?_
            refine WL.nil ?_
            exact ⟨rfl, rfl, rfl, rfl, congrArg Value.bool (and_f hc4), H⟩
          · skip
            refine WL.reset (i := 70) (v := .bool true) (congrArg Value.bool hc4) ?_
            refine O.move (v := (.int .i64 t8)) rfl rfl rfl ?_
            refine O.move (v := (.int .i64 t10)) rfl rfl rfl ?_
            refine O.eql rfl rfl rfl rfl ?_
            refine O.pick_true (v := (.bool (t8 == t10))) rfl rfl rfl rfl ?_
            refine WL.nil ?_
            exact ⟨rfl, rfl, rfl, rfl, congrArg Value.bool (and_t hc4), H⟩
        · skip
          rintro f w ⟨hf15, hf16, hf17, hf18, hf74, H⟩
          obtain ⟨u3, rfl⟩ : ∃ u3, f = (upd (upd (upd (upd (upd u3 15 v5) 16 (.int .i64 t12)) 17 v6) 18 (.int .i64 t14)) 74 (.bool (b1 && (t8 == t10)))) := ⟨f, by rw [upd_self hf15, upd_self hf16, upd_self hf17, upd_self hf18, upd_self hf74]⟩
          refine O.move (v := (.bool (b1 && (t8 == t10)))) rfl rfl rfl ?_
          obtain ⟨b2, hm2, hm⟩ := bind_some hm
          refine WL.cut 4 (fun f w => f 16 = (.int .i64 t12) ∧ f 18 = (.int .i64 t14) ∧ f 79 = .bool b2 ∧ Inv w0 w [ownI (α := GArr2) v1 84 t3, ownI (α := GArr2) v2 84 t5, ownI (α := GArr2) v3 84 t7, ownI (α := GArr2) v4 84 t9, ownI (α := Int) v5 3 t11, ownI (α := Int) v6 3 t13]) ?_ ?_
          · skip
            rcases ite_some hm2 with ⟨hc5, hm2⟩ | ⟨hc5, hm2⟩
            · skip
              refine WL.reset (i := 75) (v := .bool true) (congrArg Value.bool hc5) ?_
              refine O.move (v := v5) rfl rfl rfl ?_
              refine O.move (v := v6) rfl rfl rfl ?_
              obtain ⟨t17, hy11, hm2⟩ := bind_some hm2
              refine O.call Tryd.call16 rfl rfl rfl (c_noongunref07_SameInts _ _ (H.own 4 rfl) _ _ (H.own 5 rfl) hy11) ?_
              rintro _ w11 hb11 rfl
              have H := H.ext hb11
              refine O.pick_true (v := (.bool t17)) rfl rfl rfl rfl ?_
              refine WL.nil ?_
              have hq : t17 = b2 := Option.some.inj (show some t17 = some b2 from hm2)
              subst hq
              exact ⟨rfl, rfl, rfl, H⟩
            · skip
              refine WL.reset (i := 75) (v := .bool false) (congrArg Value.bool hc5) ?_
              refine O.skip rfl rfl ?_
              refine O.skip rfl rfl ?_
              refine O.skip rfl rfl ?_
              refine O.pick_false (v := (.bool false)) rfl rfl rfl rfl ?_
              refine WL.nil ?_
              have hq : false = b2 := Option.some.inj (show some false = some b2 from hm2)
              subst hq
              exact ⟨rfl, rfl, rfl, H⟩
          · skip
            rintro f w ⟨hf16, hf18, hf79, H⟩
            obtain ⟨u4, rfl⟩ : ∃ u4, f = (upd (upd (upd u4 16 (.int .i64 t12)) 18 (.int .i64 t14)) 79 (.bool b2)) := ⟨f, by rw [upd_self hf16, upd_self hf18, upd_self hf79]⟩
            refine O.move (v := (.bool b2)) rfl rfl rfl ?_
            refine WL.cut 4 (fun f w => f 84 = .bool (b2 && (t12 == t14)) ∧ Inv w0 w [ownI (α := GArr2) v1 84 t3, ownI (α := GArr2) v2 84 t5, ownI (α := GArr2) v3 84 t7, ownI (α := GArr2) v4 84 t9, ownI (α := Int) v5 3 t11, ownI (α := Int) v6 3 t13]) ?_ ?_
            · skip
              rcases bool_ft b2 with hc6 | hc6
              · skip
                refine WL.reset (i := 80) (v := .bool false) (congrArg Value.bool hc6) ?_
                refine O.skip rfl rfl ?_
                refine O.skip rfl rfl ?_
                refine O.skip rfl rfl ?_
                refine O.pick_false (v := (.bool false)) rfl rfl rfl rfl ?_
                refine WL.nil ?_
                exact ⟨congrArg Value.bool (and_f hc6), H⟩
              · skip
                refine WL.reset (i := 80) (v := .bool true) (congrArg Value.bool hc6) ?_
                refine O.move (v := (.int .i64 t12)) rfl rfl rfl ?_
                refine O.move (v := (.int .i64 t14)) rfl rfl rfl ?_
                refine O.eql rfl rfl rfl rfl ?_
                refine O.pick_true (v := (.bool (t12 == t14))) rfl rfl rfl rfl ?_
                refine WL.nil ?_
                exact ⟨congrArg Value.bool (and_t hc6), H⟩
            · skip
              rintro f w ⟨hf84, H⟩
              obtain ⟨u5, rfl⟩ : ∃ u5, f = (upd u5 84 (.bool (b2 && (t12 == t14)))) := ⟨f, by rw [upd_self hf84]⟩
              refine O.move (v := (.bool (b2 && (t12 == t14)))) rfl rfl rfl ?_
              obtain ⟨b3, hm3, hm⟩ := bind_some hm
              refine WL.cut 2 (fun f w => f 87 = .bool b3 ∧ Inv w0 w [ownI (α := GArr2) v1 84 t3, ownI (α := GArr2) v2 84 t5, ownI (α := GArr2) v3 84 t7, ownI (α := GArr2) v4 84 t9, ownI (α := Int) v5 3 t11, ownI (α := Int) v6 3 t13]) ?_ ?_
              · skip
                rcases ite_some hm3 with ⟨hc7, hm3⟩ | ⟨hc7, hm3⟩
                · skip
                  refine WL.reset (i := 85) (v := .bool true) (congrArg Value.bool hc7) ?_
                  obtain ⟨t18, hy12, hm3⟩ := bind_some hm3
                  refine O.call Tryd.call7 rfl rfl rfl (c_noongunlaw07_awake  hy12) ?_
                  rintro _ w12 hb12 rfl
                  have H := H.ext hb12
                  refine O.pick_true (v := (.bool t18)) rfl rfl rfl rfl ?_
                  refine WL.nil ?_
                  have hq : t18 = b3 := Option.some.inj (show some t18 = some b3 from hm3)
                  subst hq
                  exact ⟨rfl, H⟩
                · skip
                  refine WL.reset (i := 85) (v := .bool false) (congrArg Value.bool hc7) ?_
                  refine O.skip rfl rfl ?_
                  refine O.pick_false (v := (.bool false)) rfl rfl rfl rfl ?_
                  refine WL.nil ?_
                  have hq : false = b3 := Option.some.inj (show some false = some b3 from hm3)
                  subst hq
                  exact ⟨rfl, H⟩
              · skip
                rintro f w ⟨hf87, H⟩
                obtain ⟨u6, rfl⟩ : ∃ u6, f = (upd u6 87 (.bool b3)) := ⟨f, by rw [upd_self hf87]⟩
                refine O.assign (v := (.bool b3)) rfl rfl rfl ?_
                refine WL.nil ?_
                refine W.ret ?_
                have hq : b3 = r0 := Option.some.inj (show some b3 = some r0 from hm)
                subst hq
                exact ends1 Tryd.results6 rfl ⟨_, rfl, H.base, rfl⟩

end Go.Proofs
