/-
  The walks: each function does what its model says, where the model has a value. No other condition.
-/
import Derived.Test.YtmoofcflfbnceaaGreatDoorW3
namespace Go.Proofs
open Go.Fw Go.RowKit Go.Shelf Go.Maps
open Go.Proofs.Tryz
open Go.Fw.W renaming seq → Sq, region → Rg, skip → Sk, block → Bk, ret → Rt, cond_true → Ct, cond_false → Cf, exit → Ex, via → Va
open Go.Fw.WL renaming nil → Nl, reset → Rs, cut → Cu
open Go.Fw.O renaming move → Mv, assign → As, load → Ld, fieldAddr → Fa, skip → Sp, store → St, call → Ca, pick_false → Pf, lenS → Ln
open Go.Fw.PL renaming of → Pl
theorem c_flag_build {wi : World} {Kp : World → Prop} {pc0 : Addr} {vc0 : Value} {c0 : List Int} {l : Nat} {J : List (List Int) → (Nat → Prop) → World → Prop} {Jx : (Nat → Prop) → World → Prop} {r : List (List Int)}
    (hc : Client prog wi.heap.size l repS (fun ys => ys = r) Kp J Jx)
    (hk : ∀ w, Kp w → (∀ j c, [vc0][j]? = some c → w.cell? (pc0.add j) = some c) ∧ SliceR w vc0 c0) (hlen : c0.length ≤ 1000) {bh bY bb : Nat} :
    ∀ (n : Nat) (pre : List (List Int)) (C : Nat → Prop) (w : World) (vh : Value) (hs : List Int) (left : Int),
      InvI wi w [consI hc pre C, boxI bY 240 [Value.func (.yield l) #[] #[]], boxI bh 26 [vh], boxI bb 115 [Value.func (.func 164) #[] #[.pointer (some ⟨bh, 0, none⟩), .pointer (some pc0), .pointer (some ⟨bY, 0, none⟩), .pointer (some ⟨bb, 0, none⟩)]], ownI vh 3 hs] →
      hs.length + n = c0.length → (∃ rest, pre ++ hoistsG c0 n hs left ++ rest = r) →
      Calls prog 164 #[.int .i64 left, .pointer (some ⟨bh, 0, none⟩), .pointer (some pc0), .pointer (some ⟨bY, 0, none⟩), .pointer (some ⟨bb, 0, none⟩)] w fun e w' => ∃ u, e = .returned u ∧
        ((u = .bool true ∧ ∃ C' vh', InvI wi w' [consI hc (pre ++ hoistsG c0 n hs left) C', boxI bY 240 [Value.func (.yield l) #[] #[]], boxI bh 26 [vh'], boxI bb 115 [Value.func (.func 164) #[] #[.pointer (some ⟨bh, 0, none⟩), .pointer (some pc0), .pointer (some ⟨bY, 0, none⟩), .pointer (some ⟨bb, 0, none⟩)]], ownI vh' 3 hs]) ∨
         (u = .bool false ∧ ∃ C', InvI wi w' [consX hc C'])) := by
  intro n
  induction n with
  | zero =>
    intro pre C w vh hs left H hn hr
    refine cW func164 ntmps164 ?_
    have hK := hk _ (InvI.kp H)
    have hlenH := (H.own 4 rfl).len_le
    refine Sq (Rg (As (v := .bool false) R R R (Nl (Sq (Rg (Ld (q := ⟨bh, 0, none⟩) (v := vh) sc26 R R R (H.cell 2 rfl 0 _ rfl) (Ln underlying26 (H.own 4 rfl) R R R (As (v := .int .i64 (hs.length : Int)) R R R (Nl (Sq (Sq (Rg (Mv (v := .int .i64 (hs.length : Int)) R R R ?_)))))))))))))
    refine Ld (q := pc0) (v := vc0) sc26 R R R (hK.1 0 _ rfl) (Ln underlying26 hK.2 R R R (O.eql R R R R (Nl ?_)))
    refine Ct (cb (by rw [beq_iff_eq]; omega)) ?_
    refine Sq (Rg (Ld (q := ⟨bY, 0, none⟩) (v := .func (.yield l) #[] #[]) sc240 R R R (H.cell 1 rfl 0 _ rfl) (Ld (q := ⟨bh, 0, none⟩) (v := vh) sc26 R R R (H.cell 2 rfl 0 _ rfl) ?_)))
    refine O.yield hs [vh] H (by obtain ⟨rest, hr⟩ := hr; exact ⟨rest, by rw [hoistsG, List.append_assoc] at hr; exact hr⟩) ⟨vh, rfl, H.own 4 rfl⟩ R R R R ?_ ?_
    · intro w' C' H
      exact As (v := .bool true) R R R (Nl (Rt (ends1 results164 rfl ⟨_, rfl, .inl ⟨rfl, C', vh, H⟩⟩)))
    · intro w' C' H
      exact As (v := .bool false) R R R (Nl (Rt (ends1 results164 rfl ⟨_, rfl, .inr ⟨rfl, C', H.pick [0] [consX hc C'] rfl (by decide)⟩⟩)))
  | succ n ih =>
    intro pre C w vh hs left H hn hr
    refine cW func164 ntmps164 ?_
    have hK := hk _ (InvI.kp H)
    have hlt0 : hs.length < c0.length := by omega
    obtain ⟨dg, hdg⟩ : ∃ dg, idx c0 (hs.length : Int) = some dg := ⟨_, idx_at (List.getElem?_eq_getElem hlt0)⟩
    refine Sq (Rg (As (v := .bool false) R R R (Nl (Sq (Rg (Ld (q := ⟨bh, 0, none⟩) (v := vh) sc26 R R R (H.cell 2 rfl 0 _ rfl) (Ln underlying26 (H.own 4 rfl) R R R (As (v := .int .i64 (hs.length : Int)) R R R (Nl (Sq (Sq (Rg (Mv (v := .int .i64 (hs.length : Int)) R R R ?_)))))))))))))
    refine Ld (q := pc0) (v := vc0) sc26 R R R (hK.1 0 _ rfl) (Ln underlying26 hK.2 R R R (O.eql R R R R (Nl ?_)))
    refine Cf (cb (by rw [beq_eq_false_iff_ne]; omega)) ?_
    refine Sk (Sq (Sq (Rg (Mv (v := .int .i64 0) R R R (Nl ?_)))))
    refine Va (fun f w => f 7 = .int .i64 (hs.length : Int) ∧ ∃ C' vh', InvI wi w [consI hc (pre ++ hoistsG c0 (n + 1) hs left) C', boxI bY 240 [Value.func (.yield l) #[] #[]], boxI bh 26 [vh'], boxI bb 115 [Value.func (.func 164) #[] #[.pointer (some ⟨bh, 0, none⟩), .pointer (some pc0), .pointer (some ⟨bY, 0, none⟩), .pointer (some ⟨bb, 0, none⟩)]], ownI vh' 3 hs]) ?_ ?_
    · refine Bk ?_
      refine W.loopL (l := List.range 13) (fun rem f w => ∃ ik : Nat, (List.range 13).drop ik = rem ∧ f 19 = .int .i64 (ik : Int) ∧ f 0 = .int .i64 left ∧ f 1 = .pointer (some ⟨bh, 0, none⟩) ∧ f 2 = .pointer (some pc0) ∧ f 3 = .pointer (some ⟨bY, 0, none⟩) ∧ f 4 = .pointer (some ⟨bb, 0, none⟩) ∧ f 7 = .int .i64 (hs.length : Int) ∧
        ∃ C' vh', InvI wi w [consI hc (pre ++ ((List.range 13).take ik).flatMap fun f => if hoistsOk c0 hs left f then hoistsG c0 n (hs ++ [(f : Int)]) (bits .andNot .i64 left (2 ^ f)) else []) C', boxI bY 240 [Value.func (.yield l) #[] #[]], boxI bh 26 [vh'], boxI bb 115 [Value.func (.func 164) #[] #[.pointer (some ⟨bh, 0, none⟩), .pointer (some pc0), .pointer (some ⟨bY, 0, none⟩), .pointer (some ⟨bb, 0, none⟩)]], ownI vh' 3 hs]) ?_ ?_ ?_
      · exact ⟨0, rfl, rfl, rfl, rfl, rfl, rfl, rfl, rfl, C, vh, by simpa using H⟩
      · rintro y xs f w ⟨ik, hd, hf19, hf0, hf1, hf2, hf3, hf4, hf7, C, vh, H⟩
        have hy : y = ik ∧ ik < 13 := by
          have h := congrArg (fun m => m[0]?) hd
          simp only [List.getElem?_drop, Nat.add_zero, List.getElem?_cons_zero] at h
          have h13 := (List.getElem?_eq_some_iff.1 h).1
          rw [List.length_range] at h13
          rw [List.getElem?_range h13] at h
          exact ⟨(sj h).symm, h13⟩
        obtain ⟨rfl, h13⟩ := hy
        obtain ⟨u1, rfl⟩ : ∃ u1, f = (upd (upd (upd (upd (upd (upd (upd u1 19 (vi (y : Int))) 0 (vi left)) 1 (.pointer (some ⟨bh, 0, none⟩))) 2 (.pointer (some pc0))) 3 (.pointer (some ⟨bY, 0, none⟩))) 4 (.pointer (some ⟨bb, 0, none⟩))) 7 (vi (hs.length : Int))) :=
          ⟨f, by rw [upd_self hf19, upd_self hf0, upd_self hf1, upd_self hf2, upd_self hf3, upd_self hf4, upd_self hf7]⟩
        have hK := hk _ (InvI.kp H)
        have hinc : addI (y : Int) 1 = some ((y : Int) + 1) := addI_ok (by omega)
        have htake : (List.range 13).take (y + 1) = (List.range 13).take y ++ [y] := by
          rw [List.take_add_one, List.getElem?_range h13]; rfl
        obtain ⟨p1, hp1, hr1⟩ := fix_indexAddr underlying26 sz3 hK.2 hdg
        refine Sq (Rg (O.lss R R R R (Nl (Sq ?_))))
        refine Ct (cb (decide_eq_true (by omega))) ?_
        refine Sk (Sq ?_)
        -- the round
        refine Va (fun f w => f 19 = .int .i64 (y : Int) ∧ f 0 = .int .i64 left ∧ f 1 = .pointer (some ⟨bh, 0, none⟩) ∧ f 2 = .pointer (some pc0) ∧ f 3 = .pointer (some ⟨bY, 0, none⟩) ∧ f 4 = .pointer (some ⟨bb, 0, none⟩) ∧ f 7 = .int .i64 (hs.length : Int) ∧
          ∃ C' vh', InvI wi w [consI hc (pre ++ ((List.range 13).take (y + 1)).flatMap fun f => if hoistsOk c0 hs left f then hoistsG c0 n (hs ++ [(f : Int)]) (bits .andNot .i64 left (2 ^ f)) else []) C', boxI bY 240 [Value.func (.yield l) #[] #[]], boxI bh 26 [vh'], boxI bb 115 [Value.func (.func 164) #[] #[.pointer (some ⟨bh, 0, none⟩), .pointer (some pc0), .pointer (some ⟨bY, 0, none⟩), .pointer (some ⟨bb, 0, none⟩)]], ownI vh' 3 hs]) ?_ ?_
        · refine Bk ?_
          refine Sq (Rg (Mv (v := .int .i64 (y : Int)) R R R (As (v := .int .i64 (y : Int)) R R R (Nl (Sq (Rg (Mv (v := .int .i64 (y : Int)) R R R (Ld (q := pc0) (v := vc0) sc26 R R R (hK.1 0 _ rfl) (Mv (v := .int .i64 (hs.length : Int)) R R R (hr1 R R R R (Ld sc3 R R R (hp1.flat 0 _ rfl) (O.eql R R R R (As (v := .bool ((y : Int) == dg)) R R R ?_)))))))))))))
          refine Nl (Sq ?_)
          -- does the flag fit?
          refine Va (fun f w' => w'.heap.size = w'.heap.size ∧ f 9 = .bool (hoistsFit c0 hs (y : Int)) ∧ f 8 = .int .i64 (y : Int) ∧ f 19 = .int .i64 (y : Int) ∧ f 0 = .int .i64 left ∧ f 1 = .pointer (some ⟨bh, 0, none⟩) ∧ f 2 = .pointer (some pc0) ∧ f 3 = .pointer (some ⟨bY, 0, none⟩) ∧ f 4 = .pointer (some ⟨bb, 0, none⟩) ∧ f 7 = .int .i64 (hs.length : Int) ∧
            InvI wi w' [consI hc (pre ++ ((List.range 13).take y).flatMap fun f => if hoistsOk c0 hs left f then hoistsG c0 n (hs ++ [(f : Int)]) (bits .andNot .i64 left (2 ^ f)) else []) C, boxI bY 240 [Value.func (.yield l) #[] #[]], boxI bh 26 [vh], boxI bb 115 [Value.func (.func 164) #[] #[.pointer (some ⟨bh, 0, none⟩), .pointer (some pc0), .pointer (some ⟨bY, 0, none⟩), .pointer (some ⟨bb, 0, none⟩)]], ownI vh 3 hs]) ?_ ?_
          · refine Sq ?_
            refine Rg (Mv (v := .int .i64 (y : Int)) R R R (O.geq R R R R (Nl ?_)))
            by_cases h10 : (10 : Int) ≤ (y : Int)
            · refine Ct (cb (decide_eq_true h10)) ?_
              have hpl : flag_place (y : Int) = some ((y : Int) - 10) := by unfold flag_place; rw [subI_ok (by omega)]; rfl
              by_cases hb : (y : Int) - 10 < (hs.length : Int)
              · obtain ⟨e1, he1⟩ : ∃ e1, idx c0 ((y : Int) - 10) = some e1 := ⟨_, idx_int (by omega) (by omega)⟩
                obtain ⟨p2, hp2, hr2⟩ := fix_indexAddr underlying26 sz3 hK.2 he1
                have hfit : (e1 == dg) = hoistsFit c0 hs (y : Int) := by
                  unfold hoistsFit
                  rw [if_pos h10, decide_eq_true hb, he1, hdg, Bool.true_and]; rfl
                refine W.drawN 16 (fun f => f 45 = .bool (e1 == dg) ∧ f 8 = .int .i64 (y : Int) ∧ f 19 = .int .i64 (y : Int) ∧ f 0 = .int .i64 left ∧ f 1 = .pointer (some ⟨bh, 0, none⟩) ∧ f 2 = .pointer (some pc0) ∧ f 3 = .pointer (some ⟨bY, 0, none⟩) ∧ f 4 = .pointer (some ⟨bb, 0, none⟩) ∧ f 7 = .int .i64 (hs.length : Int)) fol (by kernel_rfl) ?_ ?_
                · refine Pl (fun _ wk _ hx => Mv (v := .int .i64 (y : Int)) R R R (Nl ⟨rfl, hx⟩)) ?_
                  refine Pl (fun _ wk _ hx => Ca call165 R R R (c_flag_place _ hpl) (by rintro _ _ hb rfl; exact Nl ⟨rfl, hx.trans (hb.mono hx.size)⟩)) (Pl (fun _ wk _ hx => Mv (v := .int .i64 (hs.length : Int)) R R R (Nl ⟨rfl, hx⟩)) (Pl (fun _ wk _ hx => O.lss R R R R (Nl ⟨rfl, hx⟩)) (Pl (fun _ wk _ hx => Mv (v := .bool (decide ((y : Int) - 10 < (hs.length : Int)))) R R R (Nl ⟨rfl, hx⟩)) (PL.reset (i := 34) (v := .bool true) (cb (decide_eq_true hb)) (Pl (fun _ wk _ hx => Ld (q := pc0) (v := vc0) sc26 R R R ((hk _ (InvI.kp (H.ext hx))).1 0 _ rfl) (Nl ⟨rfl, hx⟩)) (Pl (fun _ wk _ hx => Mv (v := .int .i64 (y : Int)) R R R (Nl ⟨rfl, hx⟩)) (Pl (fun _ wk _ hx => Ca call165 R R R (c_flag_place _ hpl) (by rintro _ _ hb rfl; exact Nl ⟨rfl, hx.trans (hb.mono hx.size)⟩)) (Pl (fun _ wk _ hx => hr2 R R R R (Nl ⟨rfl, hx⟩)) (Pl (fun _ wk _ hx => Ld sc3 R R R ((hp2.mono hx).flat 0 _ rfl) (Nl ⟨rfl, hx⟩)) (Pl (fun _ wk _ hx => Ld (q := pc0) (v := vc0) sc26 R R R ((hk _ (InvI.kp (H.ext hx))).1 0 _ rfl) (Nl ⟨rfl, hx⟩)) (Pl (fun _ wk _ hx => Mv (v := .int .i64 (hs.length : Int)) R R R (Nl ⟨rfl, hx⟩)) (Pl (fun _ wk _ hx => hr1 R R R R (Nl ⟨rfl, hx⟩)) (Pl (fun _ wk _ hx => Ld sc3 R R R ((hp1.mono hx).flat 0 _ rfl) (Nl ⟨rfl, hx⟩)) ?_)))))))))))))
                  exact Pl (fun _ wk _ hx => O.eql R R R R (Nl ⟨rfl, hx⟩)) (Pl (fun _ wk _ hx => O.pick_true (v := .bool (e1 == dg)) R R R R (Nl ⟨rfl, hx⟩)) ⟨rfl, rfl, rfl, rfl, rfl, rfl, rfl, rfl, rfl⟩)
                · rintro f wk ⟨hf45, hf8, hf19, hf0, hf1, hf2, hf3, hf4, hf7⟩ _ hx
                  exact As (v := .bool (e1 == dg)) R R hf45 (Nl ⟨rfl, cb hfit, hf8, hf19, hf0, hf1, hf2, hf3, hf4, hf7, H.ext hx⟩)
              · have hfit : false = hoistsFit c0 hs (y : Int) := by
                  unfold hoistsFit
                  rw [if_pos h10, decide_eq_false hb, Bool.false_and]
                refine W.drawN 16 (fun f => f 45 = .bool false ∧ f 8 = .int .i64 (y : Int) ∧ f 19 = .int .i64 (y : Int) ∧ f 0 = .int .i64 left ∧ f 1 = .pointer (some ⟨bh, 0, none⟩) ∧ f 2 = .pointer (some pc0) ∧ f 3 = .pointer (some ⟨bY, 0, none⟩) ∧ f 4 = .pointer (some ⟨bb, 0, none⟩) ∧ f 7 = .int .i64 (hs.length : Int)) fol (by kernel_rfl) ?_ ?_
                · refine Pl (fun _ wk _ hx => Mv (v := .int .i64 (y : Int)) R R R (Nl ⟨rfl, hx⟩)) ?_
                  refine Pl (fun _ wk _ hx => Ca call165 R R R (c_flag_place _ hpl) (by rintro _ _ hb rfl; exact Nl ⟨rfl, hx.trans (hb.mono hx.size)⟩)) (Pl (fun _ wk _ hx => Mv (v := .int .i64 (hs.length : Int)) R R R (Nl ⟨rfl, hx⟩)) (Pl (fun _ wk _ hx => O.lss R R R R (Nl ⟨rfl, hx⟩)) (Pl (fun _ wk _ hx => Mv (v := .bool (decide ((y : Int) - 10 < (hs.length : Int)))) R R R (Nl ⟨rfl, hx⟩)) (PL.reset (i := 34) (v := .bool false) (cb (decide_eq_false hb)) (Pl (fun _ wk _ hx => Sp R R (Nl ⟨rfl, hx⟩)) (Pl (fun _ wk _ hx => Sp R R (Nl ⟨rfl, hx⟩)) (Pl (fun _ wk _ hx => Sp R R (Nl ⟨rfl, hx⟩)) (Pl (fun _ wk _ hx => Sp R R (Nl ⟨rfl, hx⟩)) (Pl (fun _ wk _ hx => Sp R R (Nl ⟨rfl, hx⟩)) (Pl (fun _ wk _ hx => Sp R R (Nl ⟨rfl, hx⟩)) (Pl (fun _ wk _ hx => Sp R R (Nl ⟨rfl, hx⟩)) (Pl (fun _ wk _ hx => Sp R R (Nl ⟨rfl, hx⟩)) (Pl (fun _ wk _ hx => Sp R R (Nl ⟨rfl, hx⟩)) ?_)))))))))))))
                  exact Pl (fun _ wk _ hx => Sp R R (Nl ⟨rfl, hx⟩)) (Pl (fun _ wk _ hx => Pf (v := .bool false) R R R R (Nl ⟨rfl, hx⟩)) ⟨rfl, rfl, rfl, rfl, rfl, rfl, rfl, rfl, rfl⟩)
                · rintro f wk ⟨hf45, hf8, hf19, hf0, hf1, hf2, hf3, hf4, hf7⟩ _ hx
                  exact As (v := .bool false) R R hf45 (Nl ⟨rfl, cb hfit, hf8, hf19, hf0, hf1, hf2, hf3, hf4, hf7, H.ext hx⟩)
            · refine Cf (cb (decide_eq_false h10)) ?_
              refine Sk ?_
              have hfit : ((y : Int) == dg) = hoistsFit c0 hs (y : Int) := by
                unfold hoistsFit
                rw [if_neg h10, hdg, Bool.eq_iff_iff, beq_iff_eq, beq_iff_eq, Option.some.injEq]
                exact ⟨Eq.symm, Eq.symm⟩
              exact ⟨rfl, cb hfit, rfl, rfl, rfl, rfl, rfl, rfl, rfl, rfl, H⟩
          · rintro f w ⟨_, hf9, hf8, hf19, hf0, hf1, hf2, hf3, hf4, hf7, H⟩
            obtain ⟨u1, rfl⟩ : ∃ u1, f = (upd (upd (upd (upd (upd (upd (upd (upd (upd u1 9 (.bool (hoistsFit c0 hs (y : Int)))) 8 (vi (y : Int))) 19 (vi (y : Int))) 0 (vi left)) 1 (.pointer (some ⟨bh, 0, none⟩))) 2 (.pointer (some pc0))) 3 (.pointer (some ⟨bY, 0, none⟩))) 4 (.pointer (some ⟨bb, 0, none⟩))) 7 (vi (hs.length : Int))) :=
              ⟨f, by rw [upd_self hf9, upd_self hf8, upd_self hf19, upd_self hf0, upd_self hf1, upd_self hf2, upd_self hf3, upd_self hf4, upd_self hf7]⟩
            refine Sq ?_
            refine Va (fun f w' => f 8 = .int .i64 (y : Int) ∧ hoistsOk c0 hs left y = true ∧ f 19 = .int .i64 (y : Int) ∧ f 0 = .int .i64 left ∧ f 1 = .pointer (some ⟨bh, 0, none⟩) ∧ f 2 = .pointer (some pc0) ∧ f 3 = .pointer (some ⟨bY, 0, none⟩) ∧ f 4 = .pointer (some ⟨bb, 0, none⟩) ∧ f 7 = .int .i64 (hs.length : Int) ∧ w' = w) ?_ ?_
            · have hno : hoistsOk c0 hs left y = false → (pre ++ ((List.range 13).take (y + 1)).flatMap fun f => if hoistsOk c0 hs left f then hoistsG c0 n (hs ++ [(f : Int)]) (bits .andNot .i64 left (2 ^ f)) else []) = (pre ++ ((List.range 13).take y).flatMap fun f => if hoistsOk c0 hs left f then hoistsG c0 n (hs ++ [(f : Int)]) (bits .andNot .i64 left (2 ^ f)) else []) := by
                intro h
                rw [htake, List.flatMap_append]
                simp [h]
              refine Sq (Rg (Mv (v := .bool (hoistsFit c0 hs (y : Int))) R R R (O.not R R R (Mv (v := .bool (!hoistsFit c0 hs (y : Int))) R R R ?_))))
              cases hfit : hoistsFit c0 hs (y : Int) with
              | false =>
                refine Rs (i := 48) (v := .bool true) rfl (Sp R R (Sp R R (Sp R R (Sp R R (Sp R R (O.pick_true (v := .bool true) R R R R (Nl (Ct rfl (Ex (xT rfl ?_))))))))))
                have hn : hoistsOk c0 hs left y = false := by unfold hoistsOk; rw [hfit]; rfl
                exact ⟨rfl, rfl, rfl, rfl, rfl, rfl, rfl, C, vh, by rw [hno hn]; exact H⟩
              | true =>
                refine Rs (i := 48) (v := .bool false) rfl (Mv (v := .int .i64 left) R R R (Mv (v := .int .i64 (y : Int)) R R R ?_))
                refine O.shr (c := left / 2 ^ y) R R R R (by unfold shrI; rw [if_pos (by omega), Int.toNat_natCast]) ?_
                refine O.and R R R R (O.eql R R R R (Pf (v := .bool (bits .and .i64 (left / 2 ^ y) 1 == 0)) R R R R (Nl ?_)))
                cases hbit : bits .and .i64 (left / 2 ^ y) 1 == 0 with
                | true =>
                  refine Ct rfl (Ex (xT rfl ?_))
                  have hn : hoistsOk c0 hs left y = false := by unfold hoistsOk; rw [hbit]; simp
                  exact ⟨rfl, rfl, rfl, rfl, rfl, rfl, rfl, C, vh, by rw [hno hn]; exact H⟩
                | false =>
                  refine Cf rfl (Sk ?_)
                  have hn : hoistsOk c0 hs left y = true := by unfold hoistsOk; rw [hbit, hfit]; rfl
                  exact ⟨rfl, hn, rfl, rfl, rfl, rfl, rfl, rfl, rfl, rfl⟩
            · rintro f w' ⟨hf8, hok, hf19, hf0, hf1, hf2, hf3, hf4, hf7, rfl⟩
              obtain ⟨u1, rfl⟩ : ∃ u1, f = (upd (upd (upd (upd (upd (upd (upd (upd u1 8 (vi (y : Int))) 19 (vi (y : Int))) 0 (vi left)) 1 (.pointer (some ⟨bh, 0, none⟩))) 2 (.pointer (some pc0))) 3 (.pointer (some ⟨bY, 0, none⟩))) 4 (.pointer (some ⟨bb, 0, none⟩))) 7 (vi (hs.length : Int))) :=
                ⟨f, by rw [upd_self hf8, upd_self hf19, upd_self hf0, upd_self hf1, upd_self hf2, upd_self hf3, upd_self hf4, upd_self hf7]⟩
              have hyes : (pre ++ ((List.range 13).take (y + 1)).flatMap fun f => if hoistsOk c0 hs left f then hoistsG c0 n (hs ++ [(f : Int)]) (bits .andNot .i64 left (2 ^ f)) else []) = (pre ++ ((List.range 13).take y).flatMap fun f => if hoistsOk c0 hs left f then hoistsG c0 n (hs ++ [(f : Int)]) (bits .andNot .i64 left (2 ^ f)) else []) ++ hoistsG c0 n (hs ++ [(y : Int)]) (bits .andNot .i64 left (2 ^ y)) := by
                rw [htake, List.flatMap_append, List.append_assoc]
                simp [hok]
              refine Sq (Rg (Ld (q := ⟨bh, 0, none⟩) (v := vh) sc26 R R R (H.cell 2 rfl 0 _ rfl) (Mv (v := .int .i64 (y : Int)) R R R (O.buildSlice (α := Int) [.int .i64 (y : Int)] [(y : Int)] underlying26 el3 H R R R R R R R fun v1 w1 H hb1 => ?_))))
              refine O.append 4 (zs := hs ++ [(y : Int)]) underlying26 el3 rfl H rfl (H.own 5 rfl) (appI_ok (by simp; omega)) R R R R ?_
              intro v2 w2 H
              refine St 2 0 [v2] [v2] sz26 H R R R R R (SliceR.cells1 (H.own 4 rfl)) ⟨⟨rfl, rfl⟩, rfl⟩ (one_cons (SliceR.one (H.own 4 rfl)) one_nil) fun w3 H => Nl ?_
              have H := H.pick [0, 1, 2, 3, 4] [consI hc (pre ++ ((List.range 13).take y).flatMap fun f => if hoistsOk c0 hs left f then hoistsG c0 n (hs ++ [(f : Int)]) (bits .andNot .i64 left (2 ^ f)) else []) C, boxI bY 240 [Value.func (.yield l) #[] #[]], boxI bh 26 [v2], boxI bb 115 [Value.func (.func 164) #[] #[.pointer (some ⟨bh, 0, none⟩), .pointer (some pc0), .pointer (some ⟨bY, 0, none⟩), .pointer (some ⟨bb, 0, none⟩)]], ownI v2 3 (hs ++ [(y : Int)])] rfl (by decide)
              refine Sq (Sq ?_)
              refine W.drawN 5 (fun f => f 59 = Value.func (.func 164) #[] #[.pointer (some ⟨bh, 0, none⟩), .pointer (some pc0), .pointer (some ⟨bY, 0, none⟩), .pointer (some ⟨bb, 0, none⟩)] ∧ f 63 = .int .i64 (bits .andNot .i64 left (2 ^ y)) ∧ f 19 = .int .i64 (y : Int) ∧ f 0 = .int .i64 left ∧ f 1 = .pointer (some ⟨bh, 0, none⟩) ∧ f 2 = .pointer (some pc0) ∧ f 3 = .pointer (some ⟨bY, 0, none⟩) ∧ f 4 = .pointer (some ⟨bb, 0, none⟩) ∧ f 7 = .int .i64 (hs.length : Int)) fol (by kernel_rfl) ?_ ?_
              · refine Pl (fun _ wk _ hx => Ld (q := ⟨bb, 0, none⟩) (v := Value.func (.func 164) #[] #[.pointer (some ⟨bh, 0, none⟩), .pointer (some pc0), .pointer (some ⟨bY, 0, none⟩), .pointer (some ⟨bb, 0, none⟩)]) sc115 R R R ((H.ext hx).cell 3 rfl 0 _ rfl) (Nl ⟨rfl, hx⟩)) ?_
                exact Pl (fun _ wk _ hx => Mv (v := .int .i64 left) R R R (Nl ⟨rfl, hx⟩)) (Pl (fun _ wk _ hx => Mv (v := .int .i64 (y : Int)) R R R (Nl ⟨rfl, hx⟩)) (Pl (fun _ wk _ hx => O.shl (c := 2 ^ y) R R R R (shl1_flag h13) (Nl ⟨rfl, hx⟩)) (Pl (fun _ wk _ hx => O.andNot R R R R (Nl ⟨rfl, hx⟩)) ⟨rfl, rfl, rfl, rfl, rfl, rfl, rfl, rfl, rfl⟩)))
              · rintro f w4 ⟨hf59, hf63, hf19, hf0, hf1, hf2, hf3, hf4, hf7⟩ _ hx
                obtain ⟨u1, rfl⟩ : ∃ u1, f = (upd (upd (upd (upd (upd (upd (upd (upd (upd u1 59 (Value.func (.func 164) #[] #[.pointer (some ⟨bh, 0, none⟩), .pointer (some pc0), .pointer (some ⟨bY, 0, none⟩), .pointer (some ⟨bb, 0, none⟩)])) 63 (vi (bits .andNot .i64 left (2 ^ y)))) 19 (vi (y : Int))) 0 (vi left)) 1 (.pointer (some ⟨bh, 0, none⟩))) 2 (.pointer (some pc0))) 3 (.pointer (some ⟨bY, 0, none⟩))) 4 (.pointer (some ⟨bb, 0, none⟩))) 7 (vi (hs.length : Int))) :=
                  ⟨f, by rw [upd_self hf59, upd_self hf63, upd_self hf19, upd_self hf0, upd_self hf1, upd_self hf2, upd_self hf3, upd_self hf4, upd_self hf7]⟩
                have H := H.ext hx
                have hrest : ∃ rest, (pre ++ ((List.range 13).take y).flatMap fun f => if hoistsOk c0 hs left f then hoistsG c0 n (hs ++ [(f : Int)]) (bits .andNot .i64 left (2 ^ f)) else []) ++ hoistsG c0 n (hs ++ [(y : Int)]) (bits .andNot .i64 left (2 ^ y)) ++ rest = r := by
                  obtain ⟨rest, hr⟩ := hr
                  refine ⟨((List.range 13).drop (y + 1)).flatMap (fun f => if hoistsOk c0 hs left f then hoistsG c0 n (hs ++ [(f : Int)]) (bits .andNot .i64 left (2 ^ f)) else []) ++ rest, ?_⟩
                  rw [← hyes, ← hr, hoistsG, List.append_assoc, ← List.append_assoc (List.flatMap _ _), ← List.flatMap_append, List.take_append_drop, List.append_assoc]
                refine O.callG R R R R (callsV_mk (args := [.int .i64 (bits .andNot .i64 left (2 ^ y))]) call164 (ih _ C w4 v2 (hs ++ [(y : Int)]) _ H (by simp; omega) hrest)) ?_
                rintro u w5 (⟨rfl, C', vh', H⟩ | ⟨rfl, C', H⟩)
                · refine O.not R R R ?_
                  refine Nl (Cf rfl (Sk (Rg (Ld (q := ⟨bh, 0, none⟩) (v := vh') sc26 R R R (H.cell 2 rfl 0 _ rfl) (Mv (v := .int .i64 (hs.length : Int)) R R R ?_)))))
                  refine O.sliceOwn 4 (ys := hs) underlying26 sz3 H rfl (by unfold preI; rw [if_pos (by simp; omega)]; simp) R R R R ?_
                  intro v3 H
                  exact St 2 0 [v3] [v3] sz26 H R R R R R (SliceR.cells1 (H.own 4 rfl)) ⟨⟨rfl, rfl⟩, rfl⟩ (one_cons (SliceR.one (H.own 4 rfl)) one_nil) fun w6 H => Nl ⟨rfl, rfl, rfl, rfl, rfl, rfl, rfl, C', v3, by rw [hyes]; exact H⟩
                · refine O.not R R R ?_
                  exact Nl (Ct rfl (Sq (Rg (As (v := .bool false) R R R (Nl (Rt (ends1 results164 rfl ⟨_, rfl, .inr ⟨rfl, C', H⟩⟩)))))))
        · rintro f w ⟨hf19, hf0, hf1, hf2, hf3, hf4, hf7, C', vh', H⟩
          obtain ⟨u1, rfl⟩ : ∃ u1, f = (upd (upd (upd (upd (upd (upd (upd u1 19 (vi (y : Int))) 0 (vi left)) 1 (.pointer (some ⟨bh, 0, none⟩))) 2 (.pointer (some pc0))) 3 (.pointer (some ⟨bY, 0, none⟩))) 4 (.pointer (some ⟨bb, 0, none⟩))) 7 (vi (hs.length : Int))) :=
            ⟨f, by rw [upd_self hf19, upd_self hf0, upd_self hf1, upd_self hf2, upd_self hf3, upd_self hf4, upd_self hf7]⟩
          exact Rg (O.add R R R R hinc (Mv (v := .int .i64 ((y : Int) + 1)) R R R (Nl ⟨y + 1, drop_next hd, rfl, rfl, rfl, rfl, rfl, rfl, rfl, C', vh', H⟩)))
      · rintro f w ⟨ik, hd, hf19, hf0, hf1, hf2, hf3, hf4, hf7, C, vh, H⟩
        have h13 : 13 ≤ ik := by have := List.drop_eq_nil_iff.1 hd; simpa using this
        obtain ⟨u1, rfl⟩ := up2 hf19 hf7
        refine Sq (Rg (O.lss R R R R (Nl (Sq ?_))))
        refine Cf (cb (decide_eq_false (by omega))) ?_
        refine Ex (xT rfl ?_)
        refine ⟨rfl, C, vh, ?_⟩
        rw [List.take_of_length_le (by simpa using h13)] at H
        rw [hoistsG]
        exact H
    · rintro f w ⟨hf7, C', vh', H⟩
      exact Sq (Rg (As (v := .bool true) R R R (Nl (Rt (ends1 results164 rfl ⟨_, rfl, .inl ⟨rfl, C', vh', H⟩⟩)))))
theorem it_flag_hoists_c1 {wi : World} {Kp : World → Prop} (pc0 : Addr) (vc0 : Value) (c0 : List Int) (pc1 : Addr) (c1 : Int) {r : List (List Int)} (hm : flag_hoists_c1 c0 c1 = some r)
    (hk : ∀ w, Kp w → (∀ j c, [vc0][j]? = some c → w.cell? (pc0.add j) = some c) ∧ SliceR w vc0 c0 ∧ (∀ j c, (Flat.cells c1)[j]? = some c → w.cell? (pc1.add j) = some c)) :
    IterAt prog 163 #[.pointer (some pc0), .pointer (some pc1)] repS (fun ys => ys = r) Kp wi := by
  unfold flag_hoists_c1 at hm
  split at hm
  case isFalse => cases hm
  rename_i hlen
  obtain rfl := sj hm
  intro l J Jx hc h0
  refine cW func163 ntmps163 ?_
  have H := InvI.start hc h0
  refine Sq (Rg (Bx [Value.func (.yield l) #[] #[]] H fun bY w1 H hb1 => Nl (Sq (Rg (Al [Value.slice none 0 0] ze26 H fun bh w2 H hb2 => Nl (Sq (Rg (Al [Value.nilFunc] ze115 H fun bb w3 H hb3 => ?_))))))))
  refine Nl ?_
  have H := H.addNil (α := Int) (E := 3)
  refine Sq (Rg (Mf (St 3 0 [Value.func (.func 164) #[] #[.pointer (some ⟨bh, 0, none⟩), .pointer (some pc0), .pointer (some ⟨bY, 0, none⟩), .pointer (some ⟨bb, 0, none⟩)]] [Value.func (.func 164) #[] #[.pointer (some ⟨bh, 0, none⟩), .pointer (some pc0), .pointer (some ⟨bY, 0, none⟩), .pointer (some ⟨bb, 0, none⟩)]] sz115 H R R (one_cons rfl one_nil) fun w4 H => Nl ?_)))
  have hK := hk _ (InvI.kp H)
  refine Rg (Ld (q := ⟨bb, 0, none⟩) (v := Value.func (.func 164) #[] #[.pointer (some ⟨bh, 0, none⟩), .pointer (some pc0), .pointer (some ⟨bY, 0, none⟩), .pointer (some ⟨bb, 0, none⟩)]) sc115 R R R (H.cell 3 rfl 0 _ rfl) (Ld (q := pc1) (v := .int .i64 c1) sc3 R R R (hK.2.2 0 _ rfl) (O.callG R R R R (callsV_mk (args := [.int .i64 c1]) call164 (c_flag_build hc (fun w h => ⟨(hk w h).1, (hk w h).2.1⟩) hlen c0.length [] _ w4 _ [] c1 H (by simp) ⟨[], by simp⟩)) ?_)))
  rintro u w5 (⟨rfl, C', vh', H⟩ | ⟨rfl, C', H⟩)
  · refine Nl ?_
    refine ends0 results163 ⟨_, C', rfl, .inl ⟨_, rfl, ?_⟩⟩
    exact (H.items _ (List.mem_cons_self ..)).1
  · refine Nl ?_
    exact ends0 results163 ⟨_, C', rfl, .inr (H.items _ (List.mem_cons_self ..)).1⟩

theorem c_flag_hoists {w0 : World} (va0 : Value) (a0 : (List Int)) (ha0 : SliceR w0 va0 a0) (a1 : Int) :
  Calls prog 119 #[va0, (vi a1)] w0 (Ret w0 fun w v => ∃ b1 : Nat, ∃ b2 : Nat, v = (.func (.func 163) #[] #[(pt b1), (pt b2)]) ∧ Inv w0 w [boxI b1 26 [va0], boxI b2 3 [(vi a1)]]) := by
 refine cW func119 ntmps119 ?_
 have H := Inv.start (w := w0)
 refine Sq (Rg (O.box [va0] H R R R (SliceR.cells1 (H.arg ha0)) fun b1 w1 H hb1 => Bx [(vi a1)] H fun b2 w2 H hb2 => As (.nilFunc) (Nl (Sq (Rg (Mf (As (.func (.func 163) #[] #[(pt b1), (pt b2)]) (Nl (Rt ?_)))))))))
 exact ends1 results119 rfl ⟨_, rfl, H.base, ⟨_, _, rfl, H.pick [0, 1] [boxI b1 26 [va0], boxI b2 3 [(vi a1)]] rfl (by decide)⟩⟩

set_option maxRecDepth 20000 in
theorem c_flag_With {w0 : World} (va0 : Value) (a0 : (List Int)) (ha0 : SliceR w0 va0 a0) (a1 : Int) {r0 : (List Int)} {r1 : Int} (hm : flag_With a0 a1 = some (r0, r1)) :
  Calls prog 89 #[va0, (vi a1)] w0 (Ret w0 fun w v => ∃ vr0 : Value, v = .tuple #[vr0, (vi r1)] ∧ OwnR w0 w vr0 3 r0) := by
 unfold flag_With at hm
 refine calls_of_WM func89 rfl ntmps89 (Nat.le_of_ble_eq_true rfl) ?_
 have H := Inv.startM (w0 := w0)
 have hmk : (fr0 #[va0, (vi a1)]).marks = [] := rfl
 refine Sq (Rg (Al [(.slice none 0 0)] ze26 H fun b1 w1 H hb1 => ?_))
 have H := H.addNil (α := Int) (E := 3)
 refine Al [(vi 0)] ze23 H fun b2 w2 H hb2 => Nl (Sq (Sq (Rg (Mv va0 (Mv (vi a1) ?_)))))
 obtain ⟨t1, hy1, hm⟩ := bind_some hm
 refine Ca call118 (c_flag_asked _ _ (H.arg ha0) _ hy1) ?_
 rintro _ w3 hb3 rfl
 have H := H.ext hb3
 refine As (vi t1) (Nl (Sq (Rg (Mv (vi t1) (Ne_ (Nl ?_))))))
 rcases ite_some hm with ⟨hc1, hm⟩ | ⟨hc1, hm⟩
 ·
  refine Ct (cb hc1) (Sq (Rg (Mv (vi t1) ?_)))
  have H := H.addNil (α := Int) (E := 3)
  refine St 1 0 [(.slice none 0 0)] [(.slice none 0 0)] sz26 H R R (one_cons rfl one_nil) fun w4 H => St 3 0 [(vi t1)] [(vi t1)] sz23 H R R (one_cons rfl one_nil) fun w5 H => Nl (Rt (endsM_mk H hmk fun w H _ => ?_))
  obtain ⟨rfl, rfl⟩ := j2 hm
  exact ends2 results89 ⟨_, rfl, run_loadVar_scalar sc26 (H.cell 1 rfl 0 _ rfl)⟩ ⟨_, rfl, run_loadVar_scalar sc23 (H.cell 3 rfl 0 _ rfl)⟩ ⟨_, rfl, H.base, ⟨_, rfl, OwnR.nil⟩⟩
 ·
  refine Cf (cb hc1) (Sk (Sq (Sq (Rg (Mv va0 (Mv (vi a1) (Ca call119 (c_flag_hoists _ _ (H.arg ha0) _) ?_)))))))
  rintro _ w6 hb4 ⟨b3, b4, rfl, hM1⟩
  have H := H.addAll hb4 hM1
  refine Nl ?_
  obtain ⟨xs1, hxs1, hm⟩ := bind_some hm
  obtain ⟨o1, hm1, hm⟩ := bind_some hm
  refine Va (fun f w => ∃ ms1 : List Nat, o1 = .next () ∧ f 4 = (pt b1) ∧ f 5 = (pt b2) ∧ f.marks = ms1 ∧ Inv w0 w [marksI ms1, boxI b1 26 [(.slice none 0 0)], o3 (.slice none 0 0) ([] : List Int), boxI b2 23 [(vi 0)]]) ?_ ?_
  ·
   refine Bk ?_
   refine W.rangeFuncL (α := (List Int)) (σ := Unit) (X := Ctl (Unit) ((List Int) × Int)) (xs := xs1) (rep := repS) hm1 (fun s L => () = s ∧ L = [boxI b1 26 [(.slice none 0 0)], o3 (.slice none 0 0) ([] : List Int), boxI b2 23 [(vi 0)], boxI b3 26 [va0], boxI b4 3 [(vi a1)]]) (fun y j L => match j with | some j => j = 0 ∧ (False) | none => ∃ q1 : (List Int), ∃ v1 : Value, y = Ctl.ret (q1, 0) ∧ L = [boxI b1 26 [v1], boxI b2 23 [(vi 0)], o3 v1 q1]) rfl call163 rfl (fun _ _ _ h => by obtain ⟨_, rfl, _⟩ := h; rfl) (fun Kp W hs hk => it_flag_hoists_c1 _ _ a0 _ a1 hxs1 fun w1 hw => by obtain ⟨_, _, _, _, ⟨_, rfl⟩, H⟩ := hk w1 hw; exact ⟨H.cell 6 rfl, (H.arg ha0), H.cell 7 rfl⟩) H ⟨rfl, rfl⟩ ?_ ?_ ?_ ?_
   ·
    rintro _ rs lp lp2 iz x1 _ st _ w _ ⟨rfl, rfl⟩ ⟨vx1, rfl, hsx1⟩ hm2 H
    change W _ _ _ _ _ _ _ (upd _ 17 vx1) w
    refine Rg (As vx1 (Nl ?_))
    refine ⟨_, H, fun w hsl H => ?_⟩
    have hsx1 := hsl _ _ hsx1
    refine Bk (Sq (Rg (Mv vx1 ?_)))
    obtain ⟨t2, hy2, hm2⟩ := bind_some hm2
    refine Ca call21 (c_slices_Clone_int _ _ hsx1 hy2) ?_
    rintro v2 w7 hb5 ho1
    have hsx1 := hsx1.mono hb5
    have H := H.addOwn hb5 ho1
    refine St 3 0 [v2] [v2] sz26 H R R R R R (SliceR.cells1 (H.own 8 rfl)) ⟨⟨rfl, rfl⟩, rfl⟩ (one_cons (SliceR.one (H.own 8 rfl)) one_nil) fun w8 H => ?_
    clear hsx1
    refine St 5 0 [(vi 0)] [(vi 0)] sz23 H R R (one_cons rfl one_nil) fun w9 H => Nl (Rt ?_)
    have H := H.keep [0, 1, 2, 3, 5, 8] [rs, lp2, marksI [], boxI b1 26 [v2], boxI b2 23 [(vi 0)], o3 v2 t2] rfl (by decide)
    obtain rfl := sj hm2
    refine ⟨_, rfl, fun _ => ⟨_, ⟨_, v2, rfl, rfl⟩, H⟩⟩
   ·
    rintro D1 _ _ w ⟨rfl, rfl⟩ hfin H
    obtain rfl : Ctl.next () = o1 := hfin
    have H := H.keep [0, 1, 2, 3] [marksI (D1 :: []), boxI b1 26 [(.slice none 0 0)], o3 (.slice none 0 0) ([] : List Int), boxI b2 23 [(vi 0)]] rfl (by decide)
    have hmk := congrArg (D1 :: ·) hmk
    exact ⟨_, rfl, rfl, rfl, hmk, H⟩
   ·
    rintro _ _ _ _ ⟨_, h⟩; exact h.elim
   ·
    rintro D1 _ w ⟨q1, v1, hy, rfl⟩ H
    subst hy
    have hmk := congrArg (D1 :: ·) hmk
    refine endsM_mk H hmk fun w H _ => ?_
    obtain ⟨rfl, rfl⟩ := j2 hm
    exact ends2 results89 ⟨_, rfl, run_loadVar_scalar sc26 (H.cell 1 rfl 0 _ rfl)⟩ ⟨_, rfl, run_loadVar_scalar sc23 (H.cell 2 rfl 0 _ rfl)⟩ ⟨_, rfl, H.base, ⟨_, rfl, H.ownR 3 rfl⟩⟩
  ·
   rintro f w ⟨ms1, rfl, hf4, hf5, hmk, H⟩
   obtain ⟨u1, rfl⟩ := up2 hf4 hf5
   refine Sq (Rg ?_)
   have H := H.addNil (α := Int) (E := 3)
   refine St 1 0 [(.slice none 0 0)] [(.slice none 0 0)] sz26 H R R (one_cons rfl one_nil) fun w10 H => St 3 0 [(vi 10)] [(vi 10)] sz23 H R R (one_cons rfl one_nil) fun w11 H => Nl (Rt (endsM_mk H hmk fun w H _ => ?_))
   obtain ⟨rfl, rfl⟩ := j2 hm
   exact ends2 results89 ⟨_, rfl, run_loadVar_scalar sc26 (H.cell 1 rfl 0 _ rfl)⟩ ⟨_, rfl, run_loadVar_scalar sc23 (H.cell 3 rfl 0 _ rfl)⟩ ⟨_, rfl, H.base, ⟨_, rfl, OwnR.nil⟩⟩

set_option maxRecDepth 20000 in
theorem c_station_session_hoist {w0 : World} (hT : EnvS prog 0 4 5 7 w0) (pa0 : Addr) (va0_2 : Value) (va0_3 : Value) (va0_4 : Value) (va0_6 : Value) (va0_7 : Value) (a0 : GSession) (ha0 : ∀ j c, ((cI a0.inside va0_2 va0_3 va0_4 va0_6 va0_7) : List Value)[j]? = some c → w0.cell? (pa0.add j) = some c) (ra0_2 : SliceR w0 va0_2 a0.inside.net.Rates) (ra0_3 : SliceR w0 va0_3 a0.inside.net.Sights) (ra0_4 : SliceR w0 va0_4 a0.inside.log) (ra0_6 : SliceR w0 va0_6 a0.inside.verdicts) (ra0_7 : SliceR w0 va0_7 a0.inside.ledger) (va1 : Value) (a1 : (List ByteArray)) (ha1 : SliceR w0 va1 a1) {r0 : Ref (ByteArray)} (hm : station_session_hoist a0 a1 = some r0) :
  Calls prog 51 #[(.pointer (some pa0)), va1] w0 (PRet 87 w0 r0 fun r _ v => v = (.string r)) := by
 unfold station_session_hoist at hm
 refine calls_of_WP func51 rfl ntmps51 (Nat.le_of_ble_eq_true rfl) ?_
 have H := Inv.start (w := w0)
 refine Sq (Rg (As (.string (bs [])) (Nl (Sq (Rg ?_)))))
 have H := H.addNil (α := Int) (E := 3)
 refine As (.slice none 0 0) (Nl (Sq (Sq (Rg (Mv va1 ?_)))))
 obtain ⟨x1, hx1, hm⟩ := bind_some hm
 obtain ⟨p1, hp1, hrp1⟩ := fix_indexAddr underlying48 sz9 ha1 hx1
 refine hrp1 R R R R (Ld _ sc9 ((hp1.mono H.base).flat 0 _ rfl) (O.rangeS underlying9 H R R R fun b1 w1 H hb1 => Nl ?_))
 obtain ⟨t1, hy1, hm⟩ := bind_some hm
 obtain ⟨q1, q2, he1⟩ := digitsS_some hy1
 have H := H.pick [0, 1] [o3 (.slice none 0 0) ([] : List Int), strI b1 x1 0] rfl (by decide)
 refine Va (fun f w => f 0 = (.pointer (some pa0)) ∧ ∃ vz : Value, f 5 = vz ∧ Inv w0 w [ownI vz 3 t1]) ?_ ?_
 ·
  refine Bk ?_
  refine W.loopL (l := Go.Fw.bytes x1) (fun rem f w => f 0 = (.pointer (some pa0)) ∧ ∃ (at_ : Nat) (vz : Value), (Go.Fw.bytes x1).drop at_ = rem ∧ f 16 = .pointer (some ⟨b1, 0, none⟩) ∧ f 5 = vz ∧ Inv w0 w [ownI vz 3 (t1.take at_), strI b1 x1 at_]) ?_ ?_ ?_
  · exact ⟨rfl, 0, _, List.drop_zero, rfl, rfl, H⟩
  ·
   rintro y ys f w ⟨hf0, at_, vz, hd, hfi, hfl, H⟩
   obtain ⟨u1, rfl⟩ := up3 hfi hfl hf0
   have hlt : at_ < (Go.Fw.bytes x1).length := (by have h9 := congrArg List.length hd; rw [List.length_drop, List.length_cons] at h9; omega)
   have hy : (Go.Fw.bytes x1)[at_] = y := by
    have := List.drop_eq_getElem_cons hlt
    rw [hd] at this
    exact (List.cons.inj this).1.symm
   have hyb := q2 y (by rw [← hy]; exact List.getElem_mem hlt)
   have hlt2 : at_ < (x1 : ByteArray).size := hlt
   have hsy : (x1 : ByteArray)[at_]'hlt2 = y := hy
   obtain ⟨k1, k2⟩ := sub48c y.toNat hyb.1 hyb.2
   refine Sq (Rg ?_)
   refine O.nextS 1 H rfl hlt2 (by rw [hsy]; omega) R R R ?_
   intro w1 H
   rw [hsy]
   refine Xt (.bool true) (Nl (Sq (Ct rfl (Sk (Bk (Sq (Rg (Xt (.int .i32 (y.toNat : Int)) (As (.int .i32 (y.toNat : Int)) (Nl (Rg (Mv vz (Mv (.int .i32 (y.toNat : Int)) ?_)))))))))))))
   refine O.sub32 R R R R k1 (O.convI (by rw [underlying21]; rfl) underlying3 k2 R R R (Bs (α := Int) [(vi ((y.toNat : Int) - 48))] [(y.toNat : Int) - 48] underlying26 el3 H fun v7 w6 H hb6 => ?_))
   have ht3 : appI (t1.take at_) [(y.toNat : Int) - 48] = some (t1.take (at_ + 1)) := by
    subst he1
    have hl3 : (Go.Fw.bytes x1).length ≤ 1000 := q1
    rw [appI_ok (by rw [List.length_take, List.length_map]; simp; omega), List.take_add_one, List.getElem?_map, List.getElem?_eq_getElem hlt, hy]
    rfl
   refine Ap 0 underlying26 el3 H rfl (H.own 2 rfl) ht3 fun v8 w7 H => As v8 (Nl ?_)
   have H := H.keep [0, 1] [ownI v8 3 (t1.take (at_ + 1)), strI b1 x1 (at_ + 1)] rfl (by decide)
   refine ⟨rfl, at_ + 1, _, ?_, rfl, rfl, H⟩
   have := List.drop_eq_getElem_cons hlt
   rw [hd] at this
   exact (List.cons.inj this).2.symm
  ·
   rintro f w ⟨hf0, at_, vz, hd, hfi, hfl, H⟩
   obtain ⟨u1, rfl⟩ := up3 hfi hfl hf0
   have hge : (Go.Fw.bytes x1).length ≤ at_ := List.drop_eq_nil_iff.1 hd
   refine Sq (Rg ?_)
   refine O.endS 1 H rfl (show ¬ at_ < (Go.Fw.bytes x1).length by omega) R R R ?_
   refine Xt (.bool false) (Nl (Sq (Cf rfl (Ex (xT rfl ?_)))))
   have htk : t1.take at_ = t1 := List.take_of_length_le (by rw [he1, List.length_map]; exact hge)
   rw [htk] at H
   exact ⟨rfl, _, rfl, H.keep [0] _ rfl (by decide)⟩
 rintro f w ⟨hf0, v1, hfl, H⟩
 obtain ⟨u1, rfl⟩ := up2 hfl hf0
 refine Sq (Rg (Mv v1 (Mv (.pointer (some pa0)) (Nk rfl (Fa fd61_0 rfl (Fa fd54_7 rfl (Ld _ sc3 (cells_mono ha0 H.base 16 _ rfl) ?_)))))))
 obtain ⟨⟨t2, t3⟩, hy2, hm⟩ := bind_some hm
 refine Ca call89 (c_flag_With _ _ (H.own 0 rfl) _ hy2) ?_
 rintro _ w2 hb2 ⟨v2, rfl, ho1⟩
 have H := H.addOwn hb2 ho1
 refine Mv (.tuple #[v2, (vi t3)]) (Xt v2 (Xt (vi t3) (As v2 (As (vi t3) (Nl (Sq (Rg (Mv (vi t3) ?_))))))))
 rcases mustB_some hm with ⟨hc1, rfl⟩ | ⟨hc1, hm⟩
 · exact Cn call76 (c_station_needs_no hc1) (fun w' hb => ⟨rfl, (H.ext hb).base⟩)
 refine Ca call76 (c_station_needs_ok hc1) ?_
 rintro _ w3 hb3 rfl
 have H := H.ext hb3
 refine Nl (Sq (Rg ?_))
 have H := H.addNil (α := ByteArray) (E := 9)
 refine As (.slice none 0 0) (Nl (Sq (Sq (Rg (Mv v2 (Ln underlying26 (H.own 1 rfl) (Mv (vi 0) (Nl ?_))))))))
 obtain ⟨s1, hm1, hm⟩ := bind_some hm
 refine Va (fun f w => ∃ v6 : Value, f 10 = v6 ∧ Inv w0 w [o9 v6 s1]) ?_ ?_
 ·
  refine Bk ?_
  have H := H.keep [1, 2] [o3 v2 t2, o9 (.slice none 0 0) ([] : List ByteArray)] rfl (by decide)
  refine W.rangeL (i := 0) hm1 (fun rem ik1 s f w => ∃ z2 : (List ByteArray), ∃ v4 : Value, z2 = s ∧ t2.drop ik1 = rem ∧ f 40 = .int .i64 (ik1 : Int) ∧ f 39 = (vi ((t2.length : Nat) : Int)) ∧ f 10 = v4 ∧ f 38 = v2 ∧ Inv w0 w [o3 v2 t2, o9 v4 z2]) ?_ ?_ ?_
  ·
   exact ⟨_, (.slice none 0 0), rfl, List.drop_zero, rfl, rfl, rfl, rfl, H⟩
  ·
   rintro yk1 xs ik1 _ st f w ⟨z2, v4, rfl, hdropk1, hf40, hf39, hf10, hf38, H⟩ hm2
   have hltk1 := drop_lt hdropk1; have hixk1 := drop_idx hdropk1
   obtain ⟨u1, rfl⟩ := up4 hf40 hf39 hf10 hf38
   have hinck1 := addI_lt hltk1 (H.own 0 rfl).len_le
   refine Sq (Rg (Ls (Nl (Sq (Ct (cb (decide_eq_true hltk1)) (Sk (Sq (Bk (Sq (Rg (Ia underlying26 sz3 (H.own 0 rfl) hixk1 fun p2 hp2 => Ld _ sc3 (hp2.flat 0 _ rfl) ?_)))))))))))
   refine As (vi yk1) (Nl (Rg (Mv v4 (Mv (vi yk1) ?_))))
   obtain ⟨t4, hy3, hm2⟩ := bind_some hm2
   refine Ca call55 (c_strconv_Itoa (hT.mono H.base) _ hy3) ?_
   rintro _ w4 hb4 rfl
   have hp2 := hp2.mono hb4
   have H := H.ext hb4
   refine Bs (α := ByteArray) [(.string t4)] [t4] underlying48 el9 H fun v7 w5 H hb5 => ?_
   have hp2 := hp2.mono hb5
   obtain ⟨t5, ht5, hm2⟩ := bind_some hm2
   refine Ap 1 underlying48 el9 H rfl (H.own 2 rfl) ht5 fun v8 w6 H => ?_
   clear hp2
   refine As v8 (Nl (Rg (Ad hinck1 (Mv (vi ((ik1 : Int) + 1)) (Nl ?_)))))
   have H := H.keep [0, 1] [o3 v2 t2, o9 v8 t5] rfl (by decide)
   obtain rfl := sj hm2
   exact ⟨_, rfl, _, v8, rfl, drop_next hdropk1, rfl, rfl, rfl, rfl, H⟩
  ·
   rintro ik1 _ f w ⟨z2, v4, rfl, hdropk1, hf40, hf39, hf10, hf38, H⟩ hfin
   have hltk1 := drop_end hdropk1
   obtain ⟨u2, rfl⟩ := up4 hf40 hf39 hf10 hf38
   refine Sq (Rg (Ls (Nl (Sq (Cf (cb (decide_eq_false hltk1)) (Ex ?_))))))
   have hq : z2 = s1 := hfin
   subst hq
   have H := H.keep [1] [o9 v4 z2] rfl (by decide)
   exact xT rfl ⟨v4, rfl, H⟩
 ·
  rintro f w ⟨v6, hf10, H⟩
  obtain ⟨u3, rfl⟩ := up1 hf10
  refine Sq (Rg (Mv v6 ?_))
  obtain ⟨t6, hy4, hm⟩ := bind_some hm
  refine Ca call90 (c_strings_Join _ _ (H.own 0 rfl) _ hy4) ?_
  rintro _ w7 hb6 rfl
  have H := H.ext hb6
  refine As (.string t6) (Nl (Rt ?_))
  obtain rfl : Ref.ok t6 = r0 := sj (show some (Ref.ok t6) = some r0 from hm)
  exact ends1 results51 rfl ⟨_, rfl, H.base, rfl⟩

theorem c_sight_named {w0 : World} (va0_0 : Value) (va0_1 : Value) (a0 : GNet) (ha0_0 : SliceR w0 va0_0 a0.Rates) (ha0_1 : SliceR w0 va0_1 a0.Sights) (a1 : Int) {r0 : Int} (hm : sight_named a0 a1 = some r0) :
  Calls prog 121 #[(.agg #[va0_0, va0_1]), (vi a1)] w0 (Ret w0 fun _ v => v = (vi r0)) := by
 unfold sight_named at hm
 refine cW func121 ntmps121 ?_
 have H := Inv.start (w := w0)
 refine Sq (Rg (Bx [va0_0, va0_1] H fun b1 w1 H hb1 => As (vi 0) (Nl (Sq (Bk (Sq (Rg (La [va0_0, va0_1] ag29 (H.cell 0 rfl) ?_))))))))
 obtain ⟨t1, hy1, hm⟩ := bind_some hm
 refine Ca call38 (c_sight_Valid _ _ (GNet.mk a0.Rates a0.Sights) (H.arg ha0_0) (H.arg ha0_1) hy1) ?_
 rintro _ w2 hb2 rfl
 have H := H.ext hb2
 refine O.not R R R (As (.bool (!t1)) (Nl ?_))
 rcases ite_some hm with ⟨hc1, hm⟩ | ⟨hc1, hm⟩
 ·
  refine Ct (cb hc1) (Sq (Rg (As (vi 1) (Nl (Rt ?_)))))
  obtain rfl := sj hm
  exact ends1 results121 rfl ⟨_, rfl, H.base, rfl⟩
 ·
  refine Cf (cb hc1) (Sq (Rg (Mv (vi a1) (Fa fd29_1 rfl (Ld _ sc27 (H.cell 0 rfl 1 _ rfl) (Ln underlying27 (H.arg ha0_1) ?_))))))
  obtain ⟨t2, ht2, hm⟩ := bind_some hm
  refine Su ht2 ?_
  obtain ⟨t3, hy2, hm⟩ := bind_some hm
  refine Ca call58 (c_sight_within _ _ _ hy2) ?_
  rintro _ w3 hb3 rfl
  have H := H.ext hb3
  refine O.not R R R (As (.bool (!t3)) (Nl ?_))
  rcases ite_some hm with ⟨hc2, hm⟩ | ⟨hc2, hm⟩
  ·
   refine Ct (cb hc2) (Sq (Rg (As (vi 5) (Nl (Rt ?_)))))
   obtain rfl := sj hm
   exact ends1 results121 rfl ⟨_, rfl, H.base, rfl⟩
  ·
   refine Cf (cb hc2) (Sk (Sq (Rg (As (vi 0) (Nl (Rt ?_))))))
   obtain rfl := sj hm
   exact ends1 results121 rfl ⟨_, rfl, H.base, rfl⟩

theorem c_slices_Delete_GSight : DelI prog 167 GSight 92 := by
 intro Dq w0 w L i v xs zs lo hi H hi' hz
 obtain ⟨h0, h1, h2, rfl⟩ := delI_some hz
 have hR := H.own i hi'
 have hz3 : SizeT prog 92 (Ty.size GSight) := SizeT.mk (by kernel_rfl)
 have hzf : SizeT prog 92 (Flat.size GSight) := SizeT.mk (by kernel_rfl)
 obtain ⟨ad, cap, rfl, hcap, _⟩ := hR.shape
 refine cW func167 ntmps167 (Sq (Rg (As (v := .slice none 0 0) R R R (Nl (Sq (Rg (Mv (v := .slice ad xs.length cap) R R R (Mv (v := .int .i64 lo) R R R (Mv (v := .int .i64 hi) R R R (Mv (v := .slice ad xs.length cap) R R R (Ln underlying27 hR R R R ?_)))))))))))
 refine O.slice3 underlying27 hz3 h0 h1 h2 (by omega) R R R R R R fun v' => ?_
 refine Nl (Sq (Sq (Rg (Mv (v := .int .i64 lo) R R R (Mv (v := .int .i64 hi) R R R (O.eql (a := lo) (b := hi) R R R R (Nl ?_)))))))
 rcases Int.lt_or_eq_of_le h1 with hlt | rfl
 ·
  refine Cf (cb (beq_eq_false_iff_ne.2 (by omega))) ?_
  refine Sk (Sq (Rg (Mv (v := .slice ad xs.length cap) R R R (Ln underlying27 hR R R R (As (v := .int .i64 (xs.length : Int)) R R R (Nl ?_))))))
  obtain ⟨gb, rfl⟩ : ∃ gb, ad = some ⟨gb, 0, none⟩ := by
   obtain ⟨_, ⟨h3, h4⟩ | ⟨gb, _, _, hv, _⟩⟩ := (H.items _ (List.mem_of_getElem? hi')).1
   · omega
   · cases hv; exact ⟨gb, rfl⟩
  obtain ⟨lo, rfl⟩ := Int.eq_ofNat_of_zero_le h0
  obtain ⟨hi, rfl⟩ := Int.eq_ofNat_of_zero_le (Int.le_trans h0 h1)
  have hdl : (xs.drop hi).length = xs.length - hi := List.length_drop
  have htl : (xs.take lo).length = lo := by rw [List.length_take]; omega
  have hs2 : SliceR w (sliced (some ⟨gb, 0, none⟩) hi xs.length cap (Ty.size GSight)) (xs.drop hi) := by
   obtain ⟨a', l', c', e, _, _, h5⟩ := sliced_sliceR hR (show cutI xs (hi : Int) ((xs.length : Nat) : Int) = some (xs.drop hi) by unfold cutI; rw [if_pos (by omega), Int.toNat_natCast, Int.toNat_natCast, List.take_length])
   cases e
   exact h5
  refine Sq ?_
  refine W.drawD 7 [[], [], [0, 1], [], [], [3, 4], [2, 5]] [[2, 6], [2, 6], [6], [5, 6], [5, 6], [6], []] (fun S f w' => f 0 = .slice (some ⟨gb, 0, none⟩) xs.length cap ∧ f 1 = .int .i64 (lo : Int) ∧ f 2 = .int .i64 (hi : Int) ∧ f 7 = .int .i64 (xs.length : Int) ∧ (S 0 = true → f 20 = .slice (some ⟨gb, 0, none⟩) xs.length cap) ∧ (S 1 = true → f 21 = .int .i64 (lo : Int)) ∧ (S 2 = true → f 22 = sliced (some ⟨gb, 0, none⟩) 0 lo cap (Ty.size GSight)) ∧ (S 3 = true → f 23 = .slice (some ⟨gb, 0, none⟩) xs.length cap) ∧ (S 4 = true → f 24 = .int .i64 (hi : Int)) ∧ (S 5 = true → f 25 = sliced (some ⟨gb, 0, none⟩) hi xs.length cap (Ty.size GSight)) ∧ (S 6 = true → f 26 = .slice (some ⟨gb, 0, none⟩) (lo + (xs.drop hi).length) cap) ∧ (S 6 = false → InvD Dq w0 w' L ∧ SliceR w' (sliced (some ⟨gb, 0, none⟩) hi xs.length cap (Ty.size GSight)) (xs.drop hi)) ∧ (S 6 = true → InvD Dq w0 w' (L.set i (ownI (.slice (some ⟨gb, 0, none⟩) (lo + (xs.drop hi).length) cap) 92 (xs.take lo ++ xs.drop hi))))) fol (by kernel_rfl) ?_ ?_ ?_
  · exact fun d _ => ⟨rfl, rfl, rfl, rfl, nF, nF, nF, nF, nF, nF, nF, (fun _ => ⟨H.ext (below_drawn d), hs2.mono (below_drawn d)⟩), nF⟩
  ·
   refine ⟨?_, ?_, ?_, ?_, ?_, ?_, ?_, trivial⟩
   ·
    rintro S f w' hS - ⟨-, e6, -⟩ ⟨f0, f1, f2, f7, d0, d1, d2, d3, d4, d5, d6, W0, W1⟩
    exact Mv (v := .slice (some ⟨gb, 0, none⟩) xs.length cap) R R f0 (Nl ⟨f0, f1, f2, f7, fun _ => rfl, d1, d2, d3, d4, d5, d6, W0, W1⟩)
   ·
    rintro S f w' hS - ⟨-, e6, -⟩ ⟨f0, f1, f2, f7, d0, d1, d2, d3, d4, d5, d6, W0, W1⟩
    exact Mv (v := .int .i64 (lo : Int)) R R f1 (Nl ⟨f0, f1, f2, f7, d0, fun _ => rfl, d2, d3, d4, d5, d6, W0, W1⟩)
   ·
    rintro S f w' hS ⟨e0, e1, -⟩ ⟨e6, -⟩ ⟨f0, f1, f2, f7, d0, d1, d2, d3, d4, d5, d6, W0, W1⟩
    refine O.sliceHv underlying27 hz3 (Int.natCast_nonneg _) (by omega) R R (d0 e0) (d1 e1) ?_
    exact Nl ⟨f0, f1, f2, f7, d0, d1, fun _ => rfl, d3, d4, d5, d6, W0, W1⟩
   ·
    rintro S f w' hS - ⟨-, e6, -⟩ ⟨f0, f1, f2, f7, d0, d1, d2, d3, d4, d5, d6, W0, W1⟩
    exact Mv (v := .slice (some ⟨gb, 0, none⟩) xs.length cap) R R f0 (Nl ⟨f0, f1, f2, f7, d0, d1, d2, fun _ => rfl, d4, d5, d6, W0, W1⟩)
   ·
    rintro S f w' hS - ⟨-, e6, -⟩ ⟨f0, f1, f2, f7, d0, d1, d2, d3, d4, d5, d6, W0, W1⟩
    exact Mv (v := .int .i64 (hi : Int)) R R f2 (Nl ⟨f0, f1, f2, f7, d0, d1, d2, d3, fun _ => rfl, d5, d6, W0, W1⟩)
   ·
    rintro S f w' hS ⟨e3, e4, -⟩ ⟨e6, -⟩ ⟨f0, f1, f2, f7, d0, d1, d2, d3, d4, d5, d6, W0, W1⟩
    refine O.sliceLv underlying27 hz3 (Int.natCast_nonneg _) (by omega) R R (d3 e3) (d4 e4) ?_
    exact Nl ⟨f0, f1, f2, f7, d0, d1, d2, d3, d4, fun _ => rfl, d6, W0, W1⟩
   ·
    rintro S f w' hS ⟨e2, e5, -⟩ - ⟨f0, f1, f2, f7, d0, d1, d2, d3, d4, d5, d6, W0, W1⟩
    obtain ⟨H, hs2⟩ := W0 hS
    obtain ⟨hok, hfp⟩ := H.items _ (List.mem_of_getElem? hi')
    have hc : sliced (some ⟨gb, 0, none⟩) 0 lo cap (Ty.size GSight) = .slice (some ⟨gb, 0, none⟩) lo cap := by unfold sliced; simp [Addr.add_lit]
    obtain ⟨w2, r1, r2, r3⟩ := run_append_back (T0 := 27) underlying27 (show ElemT prog 92 (Flat.size GSight) 40 from ElemT.mk (z := (.agg #[(vi (0)), (vi (0)), (vi (0)), (vi (0)), (vi (0))])) (by kernel_rfl) rfl) hok hs2 (m := lo) (by omega) (by omega)
    exact O.appendV r1 R R ((d2 e2).trans hc) (d5 e5) (Nl ⟨f0, f1, f2, f7, d0, d1, d2, d3, d4, d5, fun _ => rfl, nG, fun _ => H.upd i _ _ hi' ⟨r2.1, r2.2, r2.3, r2.4, fun k hk hn => r2.5 k hk fun e => hn (by cases e; rfl)⟩ r3 fun b hb => (by cases hb; exact ⟨Nat.lt_of_lt_of_le (hfp gb rfl).2 r2.4, .inl rfl⟩)⟩)
  ·
   rintro S f w' ⟨_, _, _, _, _, _, e6, -⟩ ⟨f0, f1, f2, f7, d0, d1, d2, d3, d4, d5, d6, W0, W1⟩
   have H := W1 e6
   have f26 := d6 e6
   have hL : (L.set i (ownI (.slice (some ⟨gb, 0, none⟩) (lo + (xs.drop hi).length) cap) 92 (xs.take lo ++ xs.drop hi)))[i]? = some (ownI (.slice (some ⟨gb, 0, none⟩) (lo + (xs.drop hi).length) cap) 92 (xs.take lo ++ xs.drop hi)) := by
    rw [List.getElem?_set_self (List.getElem?_eq_some_iff.1 hi').1]
   refine As (v := .slice (some ⟨gb, 0, none⟩) (lo + (xs.drop hi).length) cap) R R f26 (Nl (Sq (Rg ?_)))
   have hzl : (xs.take lo ++ xs.drop hi).length = lo + (xs.drop hi).length := by rw [List.length_append, htl]
   have hR2 := H.own i hL
   rw [← hzl] at hR2 hL H
   refine Mv (v := .slice (some ⟨gb, 0, none⟩) (xs.take lo ++ xs.drop hi).length cap) R R (by rw [hzl]; rfl) (Mv (v := .slice (some ⟨gb, 0, none⟩) (xs.take lo ++ xs.drop hi).length cap) R R (by rw [hzl]; rfl) (Ln underlying27 hR2 R R R (Mv (v := .int .i64 (xs.length : Int)) R R f7 ?_)))
   refine O.sliceLHv underlying27 hzf (Int.natCast_nonneg _) (by rw [hzl]; omega) (by omega) R R R R R ?_
   obtain ⟨hok, hfp⟩ := H.items _ (List.mem_of_getElem? hL)
   obtain ⟨w2, r1, r2, r3⟩ := run_clear_tail (T0 := 0) (k := xs.length - (xs.take lo ++ xs.drop hi).length) underlying27 (show ZeroT prog 92 (Flat.val (⟨(0), (0), (0), (0), (0)⟩ : GSight)) from ZeroT.mk (by kernel_rfl)) hok rfl (by rw [hzl]; omega)
   refine O.clearV r1 rfl ?_ ?_
   ·
    rw [show (xs.take lo ++ xs.drop hi).length + (xs.length - (xs.take lo ++ xs.drop hi).length) = xs.length by rw [hzl]; omega]
    rfl
   refine Nl (Sq (Rg (Mv (v := .slice (some ⟨gb, 0, none⟩) (lo + (xs.drop hi).length) cap) R R R (As (v := .slice (some ⟨gb, 0, none⟩) (lo + (xs.drop hi).length) cap) R R R (Nl (Rt ?_))))))
   have H3 := H.upd i _ _ hL ⟨r2.1, r2.2, r2.3, r2.4, fun k hk hn => r2.5 k hk fun e => hn (by cases e; rfl)⟩ r3 fun b hb => (by cases hb; exact ⟨Nat.lt_of_lt_of_le (hfp gb rfl).2 r2.4, .inl rfl⟩)
   rw [List.set_set, hzl] at H3
   exact ends1 results167 rfl ⟨_, rfl, H3⟩
 ·
  refine Ct (cb (beq_self_eq_true lo)) (Sq (Rg (Mv (v := .slice ad xs.length cap) R R R (As (v := .slice ad xs.length cap) R R R (Nl (Rt ?_))))))
  have e1 : L.set i (ownI (.slice ad xs.length cap) 92 (xs.take lo.toNat ++ xs.drop lo.toNat)) = L := by
   rw [List.take_append_drop]
   obtain ⟨q1, q2⟩ := List.getElem?_eq_some_iff.1 hi'
   rw [← q2]
   exact List.set_getElem_self q1
  have e2 : InvD Dq w0 w (L.set i (ownI (.slice ad xs.length cap) 92 (xs.take lo.toNat ++ xs.drop lo.toNat))) := by rw [e1]; exact H
  exact ends1 results167 rfl ⟨_, rfl, e2⟩

theorem c_sight_without {w0 : World} (va0_0 : Value) (va0_1 : Value) (a0 : GNet) (ha0_0 : SliceR w0 va0_0 a0.Rates) (ha0_1 : SliceR w0 va0_1 a0.Sights) (a1 : Int) {r0 : GNet} (hm : sight_without a0 a1 = some r0) :
  Calls prog 122 #[(.agg #[va0_0, va0_1]), (vi a1)] w0 (Ret w0 fun w v => ∃ vr0_0 : Value, ∃ vr0_1 : Value, v = (.agg #[vr0_0, vr0_1]) ∧ Inv w0 w [o3 vr0_0 r0.Rates, o92 vr0_1 r0.Sights]) := by
 unfold sight_without at hm
 refine cW func122 ntmps122 ?_
 have H := Inv.start (w := w0)
 refine Sq (Rg (Bx [va0_0, va0_1] H fun b1 w1 H hb1 => Al [(.slice none 0 0), (.slice none 0 0)] ze29 H fun b2 w2 H hb2 => ?_))
 have H := H.addNil (α := Int) (E := 3)
 have H := H.addNil (α := GSight) (E := 92)
 refine Nl (Sq ?_)
 obtain ⟨t1, hy1, hm⟩ := bind_some hm
 obtain ⟨t2, hy2, hm⟩ := bind_some hm
 obtain ⟨t3, ht3, hm⟩ := bind_some hm
 have H := H.addGone
 have H := H.addGone
 refine W.drawD 9 [[], [0], [0, 1], [], [3], [0, 1, 2, 3, 4], [], [], [7]] [[1, 2, 5], [2, 5], [5], [4, 5], [5], [], [], [8], []] (fun S f w => ∃ v1 : Value, ∃ v2 : Value, (f 1 = (vi a1) ∧ f 2 = (pt b1) ∧ f 4 = (pt b2)) ∧ Inv w0 w [boxI b1 29 [va0_0, va0_1], boxI b2 29 [(.slice none 0 0), (.slice none 0 0)], o3 (.slice none 0 0) ([] : List Int), o92 (.slice none 0 0) ([] : List GSight), cond (S 2) (o3 v1 t1) goneI, cond (S 5) (o92 v2 t2) goneI] ∧ (S 0 = true → f 5 = (.pointer (some (Addr.add (Addr.mk b1 0 none) 0)))) ∧ (S 1 = true → f 6 = va0_0) ∧ (S 2 = true → f 7 = v1) ∧ (S 3 = true → f 8 = (.pointer (some (Addr.add (Addr.mk b1 0 none) 1)))) ∧ (S 4 = true → f 9 = va0_1) ∧ (S 5 = true → f 10 = v2) ∧ (S 6 = true → f 11 = (vi a1)) ∧ (S 7 = true → f 12 = (vi a1)) ∧ (S 8 = true → f 13 = (vi t3))) fol (by kernel_rfl) ?_ ?_ ?_
 ·
  exact fun d _ => ⟨.nilFunc, .nilFunc, ⟨rfl, rfl, rfl⟩, H.ext (below_drawn d), nF, nF, nF, nF, nF, nF, nF, nF, nF⟩
 ·
  refine ⟨?_, ⟨?_, ⟨?_, ⟨?_, ⟨?_, ⟨?_, ⟨?_, ⟨?_, ⟨?_, trivial⟩⟩⟩⟩⟩⟩⟩⟩⟩
  ·
   rintro S f w hS - ⟨e1, e2, e5, -⟩ ⟨v1, v2, k, H, q0, t⟩
   obtain ⟨u1, rfl⟩ := up1 k.2.1
   exact Fa fd29_0 rfl (Nl ⟨v1, v2, k, H, (fun _ => rfl), t⟩)
  ·
   rintro S f w hS ⟨e0, -⟩ ⟨e2, e5, -⟩ ⟨v1, v2, k, H, q0, q1, t⟩
   obtain ⟨u2, rfl⟩ := up1 (q0 e0)
   exact Ld _ sc26 (H.cell 0 rfl 0 _ rfl) (Nl ⟨v1, v2, k, H, q0, (fun _ => rfl), t⟩)
  ·
   rintro S f w hS ⟨e0, e1, -⟩ ⟨e5, -⟩ ⟨_, v2, k, H, q0, q1, q2, t⟩
   obtain ⟨u3, rfl⟩ := up1 (q1 e1)
   have H := H.cF 4 hS rfl
   refine Ca call21 (c_slices_Clone_int _ _ (H.arg ha0_0) hy1) ?_
   rintro v1 w3 hb3 ho1
   have H := H.addOwn hb3 ho1
   have H := H.pick [0, 1, 2, 3, 6, 5] [boxI b1 29 [va0_0, va0_1], boxI b2 29 [(.slice none 0 0), (.slice none 0 0)], o3 (.slice none 0 0) ([] : List Int), o92 (.slice none 0 0) ([] : List GSight), o3 v1 t1, cond (S 5) (o92 v2 t2) goneI] rfl (by decide)
   exact Nl ⟨v1, v2, k, H, q0, q1, (fun _ => rfl), t⟩
  ·
   rintro S f w hS - ⟨e4, e5, -⟩ ⟨v1, v2, k, H, q0, q1, q2, q3, t⟩
   obtain ⟨u4, rfl⟩ := up1 k.2.1
   exact Fa fd29_1 rfl (Nl ⟨v1, v2, k, H, q0, q1, q2, (fun _ => rfl), t⟩)
  ·
   rintro S f w hS ⟨e3, -⟩ ⟨e5, -⟩ ⟨v1, v2, k, H, q0, q1, q2, q3, q4, t⟩
   obtain ⟨u5, rfl⟩ := up1 (q3 e3)
   exact Ld _ sc27 (H.cell 0 rfl 1 _ rfl) (Nl ⟨v1, v2, k, H, q0, q1, q2, q3, (fun _ => rfl), t⟩)
  ·
   rintro S f w hS ⟨e0, e1, e2, e3, e4, -⟩ - ⟨v1, _, k, H, q0, q1, q2, q3, q4, q5, t⟩
   obtain ⟨u6, rfl⟩ := up1 (q4 e4)
   have H := H.cF 5 hS rfl
   refine Ca call33 (c_slices_Clone_Sight _ _ (H.arg ha0_1) hy2) ?_
   rintro v2 w4 hb4 ho2
   have H := H.addOwn hb4 ho2
   have H := H.pick [0, 1, 2, 3, 4, 6] [boxI b1 29 [va0_0, va0_1], boxI b2 29 [(.slice none 0 0), (.slice none 0 0)], o3 (.slice none 0 0) ([] : List Int), o92 (.slice none 0 0) ([] : List GSight), cond (S 2) (o3 v1 t1) goneI, o92 v2 t2] rfl (by decide)
   exact Nl ⟨v1, v2, k, H, q0, q1, q2, q3, q4, (fun _ => rfl), t⟩
  ·
   rintro S f w hS - - ⟨v1, v2, k, H, q0, q1, q2, q3, q4, q5, q6, t⟩
   obtain ⟨u7, rfl⟩ := up1 k.1
   exact Mv (vi a1) (Nl ⟨v1, v2, k, H, q0, q1, q2, q3, q4, q5, (fun _ => rfl), t⟩)
  ·
   rintro S f w hS - ⟨e8, -⟩ ⟨v1, v2, k, H, q0, q1, q2, q3, q4, q5, q6, q7, q8⟩
   obtain ⟨u8, rfl⟩ := up1 k.1
   exact Mv (vi a1) (Nl ⟨v1, v2, k, H, q0, q1, q2, q3, q4, q5, q6, (fun _ => rfl), q8⟩)
  ·
   rintro S f w hS ⟨e7, -⟩ - ⟨v1, v2, k, H, q0, q1, q2, q3, q4, q5, q6, q7, q8⟩
   obtain ⟨u9, rfl⟩ := up1 (q7 e7)
   exact Ad ht3 (Nl ⟨v1, v2, k, H, q0, q1, q2, q3, q4, q5, q6, q7, (fun _ => rfl)⟩)
 ·
  rintro S f w ⟨e0, e1, e2, e3, e4, e5, e6, e7, e8, -⟩ ⟨v1, v2, k, H, q0, q1, q2, q3, q4, q5, q6, q7, q8⟩
  have H : Inv w0 w [boxI b1 29 [va0_0, va0_1], boxI b2 29 [(.slice none 0 0), (.slice none 0 0)], o3 (.slice none 0 0) ([] : List Int), o92 (.slice none 0 0) ([] : List GSight), o3 v1 t1, o92 v2 t2] := ((H.cT 4 e2 rfl).cT 5 e5 rfl)
  obtain ⟨u10, rfl⟩ := up5 k.2.2 (q2 e2) (q5 e5) (q6 e6) (q8 e8)
  obtain ⟨t4, hy3, hm⟩ := bind_some hm
  refine O.deleteI 5 H rfl c_slices_Delete_GSight hy3 call167 R R R R R fun v3 w5 H => ?_
  obtain ⟨ad1, cap1, hvad1, _⟩ := (H.own 4 rfl).shape
  obtain ⟨ad2, cap2, hvad2, _⟩ := (H.own 5 rfl).shape
  refine Bd (v := (.agg #[v1, v3])) (fun w => by rw [hvad1, hvad2]; exact bd29_0_1 _ _ _ _ _ _ w) rfl (St 1 0 [v1, v3] [v1, v3] sz29 H R R (one_cons (SliceR.one (H.own 4 rfl)) (one_cons (SliceR.one (H.own 5 rfl)) one_nil)) fun w6 H => Nl (Rt ?_))
  obtain rfl := sj hm
  exact ends1 results122 ⟨_, rfl, run_loadVar_agg ag29 rfl (H.cell 1 rfl)⟩ ⟨_, rfl, H.base, ⟨_, _, rfl, H.pick [4, 5] [o3 v1 t1, o92 v3 t4] rfl (by decide)⟩⟩

theorem c_sight_Without {w0 : World} (va0_0 : Value) (va0_1 : Value) (a0 : GNet) (ha0_0 : SliceR w0 va0_0 a0.Rates) (ha0_1 : SliceR w0 va0_1 a0.Sights) (a1 : Int) {r0 : GNet} {r1 : Int} (hm : sight_Without a0 a1 = some (r0, r1)) :
  Calls prog 91 #[(.agg #[va0_0, va0_1]), (vi a1)] w0 (Ret w0 fun w v => ∃ vr0_0 : Value, ∃ vr0_1 : Value, v = .tuple #[(.agg #[vr0_0, vr0_1]), (vi r1)] ∧ Inv w0 w [o3 vr0_0 r0.Rates, o92 vr0_1 r0.Sights]) := by
 unfold sight_Without at hm
 refine cW func91 ntmps91 ?_
 have H := Inv.start (w := w0)
 refine Sq (Rg (Bx [va0_0, va0_1] H fun b1 w1 H hb1 => Al [(.slice none 0 0), (.slice none 0 0)] ze29 H fun b2 w2 H hb2 => ?_))
 have H := H.addNil (α := Int) (E := 3)
 have H := H.addNil (α := GSight) (E := 92)
 refine As (vi 0) (Nl (Sq (Sq (Rg (La [va0_0, va0_1] ag29 (H.cell 0 rfl) (Mv (vi a1) ?_))))))
 obtain ⟨t1, hy1, hm⟩ := bind_some hm
 refine Ca call121 (c_sight_named _ _ (GNet.mk a0.Rates a0.Sights) (H.arg ha0_0) (H.arg ha0_1) _ hy1) ?_
 rintro _ w3 hb3 rfl
 have H := H.ext hb3
 refine As (vi t1) (Nl (Sq (Rg (Mv (vi t1) (Ne_ (Nl ?_))))))
 rcases ite_some hm with ⟨hc1, hm⟩ | ⟨hc1, hm⟩
 ·
  refine Ct (cb hc1) (Sq (Rg (Bd (v := (.agg #[(.slice none 0 0), (.slice none 0 0)])) (fun w => bd29_  w) rfl (Mv (vi t1) ?_))))
  have H := H.addNil (α := Int) (E := 3)
  have H := H.addNil (α := GSight) (E := 92)
  refine St 1 0 [(.slice none 0 0), (.slice none 0 0)] [(.slice none 0 0), (.slice none 0 0)] sz29 H R R (one_cons rfl (one_cons rfl one_nil)) fun w4 H => As (vi t1) (Nl (Rt ?_))
  obtain ⟨rfl, rfl⟩ := j2 hm
  exact ends2 results91 ⟨_, rfl, run_loadVar_agg ag29 rfl (H.cell 1 rfl)⟩ rfl ⟨_, rfl, H.base, ⟨_, _, rfl, H.pick [4, 5] [o3 (.slice none 0 0) ([] : List Int), o92 (.slice none 0 0) ([] : List GSight)] rfl (by decide)⟩⟩
 ·
  refine Cf (cb hc1) (Sk (Sq (Rg (La [va0_0, va0_1] ag29 (H.cell 0 rfl) (Mv (vi a1) ?_)))))
  obtain ⟨t2, hy2, hm⟩ := bind_some hm
  refine Ca call122 (c_sight_without _ _ (GNet.mk a0.Rates a0.Sights) (H.arg ha0_0) (H.arg ha0_1) _ hy2) ?_
  rintro _ w5 hb4 ⟨v1, v2, rfl, ho1⟩
  have H := H.addAll hb4 ho1
  refine St 1 0 [v1, v2] [v1, v2] sz29 H R R (one_cons (SliceR.one (H.own 4 rfl)) (one_cons (SliceR.one (H.own 5 rfl)) one_nil)) fun w6 H => As (vi 0) (Nl (Rt ?_))
  obtain ⟨rfl, rfl⟩ := j2 hm
  exact ends2 results91 ⟨_, rfl, run_loadVar_agg ag29 rfl (H.cell 1 rfl)⟩ rfl ⟨_, rfl, H.base, ⟨_, _, rfl, H.pick [4, 5] [o3 v1 t2.Rates, o92 v2 t2.Sights] rfl (by decide)⟩⟩

set_option maxRecDepth 20000 in
theorem c_station_session_drop {w0 : World} (X0 : Nat → Prop) (b0 : Nat) (va0_0 : Value) (va0_1 : Value) (va0_2 : Value) (va0_3 : Value) (va0_4 : Value) (a0 : GSession) (H0 : InvD X0 w0 w0 [boxI b0 61 (cI a0.inside va0_0 va0_1 va0_2 va0_3 va0_4), o3 va0_0 a0.inside.net.Rates, o92 va0_1 a0.inside.net.Sights, o70 va0_2 a0.inside.log, o3 va0_3 a0.inside.verdicts, o74 va0_4 a0.inside.ledger]) (hT : ∀ w', BelowX X0 w0 w' → EnvS prog 0 4 5 7 w') (va1 : Value) (a1 : (List ByteArray)) (ha1 : ∀ w', BelowX X0 w0 w' → SliceR w' va1 a1) {r0 : Ref (GSession × ByteArray)} (hm : station_session_drop a0 a1 = some r0) :
  Calls prog 52 #[(pt b0), va1] w0 (PPost 87 X0 w0 r0 (fun r v L1 => ∃ u0 u1 u2 u3 u4 : Value, L1 = [boxI b0 61 (cI r.1.inside u0 u1 u2 u3 u4), o3 u0 r.1.inside.net.Rates, o92 u1 r.1.inside.net.Sights, o70 u2 r.1.inside.log, o3 u3 r.1.inside.verdicts, o74 u4 r.1.inside.ledger] ∧ v = (.string r.2))) := by
 unfold station_session_drop at hm
 refine calls_of_WP func52 rfl ntmps52 (Nat.le_of_ble_eq_true rfl) ?_
 have H := H0
 refine Sq (Rg (As (.string (bs [])) (Nl (Sq ?_))))
 obtain ⟨t1, hy1, hm⟩ := bind_some hm
 obtain ⟨x1, hx1, hm⟩ := bind_some hm
 obtain ⟨⟨t2, t3⟩, hy2, hm⟩ := bind_some hm
 have H := H.addGone
 have H := H.addGone
 have H := H.addGone
 have H := H.addGone
 have H := H.addGone
 have H := H.addGone
 refine W.drawD 15 [[], [0], [0, 1], [0, 1, 2], [0, 1, 2, 3], [], [5], [5, 6], [5, 6, 7], [0, 1, 2, 3, 4, 5, 6, 7, 8], [0, 1, 2, 3, 4, 5, 6, 7, 8, 9], [0, 1, 2, 3, 4, 5, 6, 7, 8, 9, 10], [0, 1, 2, 3, 4, 5, 6, 7, 8, 9, 10], [], [0, 1, 2, 3, 4, 5, 6, 7, 8, 9, 10, 11, 13]] [[1, 2, 3, 4, 9, 10, 11, 12, 14], [2, 3, 4, 9, 10, 11, 12, 14], [3, 4, 9, 10, 11, 12, 14], [4, 9, 10, 11, 12, 14], [9, 10, 11, 12, 14], [6, 7, 8, 9, 10, 11, 12, 14], [7, 8, 9, 10, 11, 12, 14], [8, 9, 10, 11, 12, 14], [9, 10, 11, 12, 14], [10, 11, 12, 14], [11, 12, 14], [14], [], [14], []] (fun S f w => ∃ v1 : Value, ∃ p1 : Addr, ∃ v2 : Value, ∃ v3 : Value, ∃ b1 : Nat, (f 0 = (pt b0) ∧ f 1 = va1) ∧ InvD X0 w0 w [boxI b0 61 (cI a0.inside va0_0 va0_1 va0_2 va0_3 va0_4), o3 va0_0 a0.inside.net.Rates, o92 va0_1 a0.inside.net.Sights, o70 va0_2 a0.inside.log, o3 va0_3 a0.inside.verdicts, o74 va0_4 a0.inside.ledger, cond (S 6) (o3 v1 t1) goneI, cond (S 9) (o3 v2 t2.Rates) goneI, cond (S 9) (o92 v3 t2.Sights) goneI, cond (S 14) (boxI b1 29 [v2, v3]) (cond (S 13) (boxI b1 29 [(.slice none 0 0), (.slice none 0 0)]) goneI), cond (S 13) (o3 (.slice none 0 0) ([] : List Int)) goneI, cond (S 13) (o92 (.slice none 0 0) ([] : List GSight)) goneI] ∧ (S 0 = true → f 8 = (pt b0)) ∧ (S 1 = true → f 9 = (pt b0)) ∧ (S 2 = true → f 10 = (.pointer (some (Addr.add (Addr.mk b0 0 none) 0)))) ∧ (S 3 = true → f 11 = (.pointer (some (Addr.add (Addr.add (Addr.mk b0 0 none) 0) 7)))) ∧ (S 4 = true → f 12 = (.agg #[va0_0, va0_1])) ∧ (S 5 = true → f 13 = va1) ∧ (S 6 = true → f 14 = v1) ∧ (S 7 = true → f 15 = (.pointer (some p1))) ∧ (S 8 = true → f 16 = (vi x1)) ∧ (S 9 = true → f 17 = (.tuple #[(.agg #[v2, v3]), (vi t3)])) ∧ (S 10 = true → f 7 = (.tuple #[(.agg #[v2, v3]), (vi t3)])) ∧ (S 11 = true → f 18 = (.agg #[v2, v3])) ∧ (S 12 = true → f 19 = (vi t3)) ∧ (S 13 = true → f 5 = (pt b1)) ∧ (S 7 = true → S 14 = false → (ElemAt w p1 x1))) fol (by kernel_rfl) ?_ ?_ ?_
 ·
  exact fun d _ => ⟨.nilFunc, ⟨0, 0, none⟩, .nilFunc, .nilFunc, 0, ⟨rfl, rfl⟩, H.ext (below_drawn d), nF, nF, nF, nF, nF, nF, nF, nF, nF, nF, nF, nF, nF, nF, nF⟩
 ·
  refine ⟨?_, ⟨?_, ⟨?_, ⟨?_, ⟨?_, ⟨?_, ⟨?_, ⟨?_, ⟨?_, ⟨?_, ⟨?_, ⟨?_, ⟨?_, ⟨?_, ⟨?_, trivial⟩⟩⟩⟩⟩⟩⟩⟩⟩⟩⟩⟩⟩⟩⟩
  ·
   rintro S f w hS - ⟨e1, e2, e3, e4, e9, e10, e11, e12, e14, -⟩ ⟨v1, p1, v2, v3, b1, k, H, q0, t⟩
   obtain ⟨u1, rfl⟩ := up1 k.1
   exact Mv (pt b0) (Nl ⟨v1, p1, v2, v3, b1, k, H, (fun _ => rfl), t⟩)
  ·
   rintro S f w hS ⟨e0, -⟩ ⟨e2, e3, e4, e9, e10, e11, e12, e14, -⟩ ⟨v1, p1, v2, v3, b1, k, H, q0, q1, t⟩
   obtain ⟨u2, rfl⟩ := up1 (q0 e0)
   exact Nk rfl (Nl ⟨v1, p1, v2, v3, b1, k, H, q0, (fun _ => rfl), t⟩)
  ·
   rintro S f w hS ⟨e0, e1, -⟩ ⟨e3, e4, e9, e10, e11, e12, e14, -⟩ ⟨v1, p1, v2, v3, b1, k, H, q0, q1, q2, t⟩
   obtain ⟨u3, rfl⟩ := up1 (q1 e1)
   exact Fa fd61_0 rfl (Nl ⟨v1, p1, v2, v3, b1, k, H, q0, q1, (fun _ => rfl), t⟩)
  ·
   rintro S f w hS ⟨e0, e1, e2, -⟩ ⟨e4, e9, e10, e11, e12, e14, -⟩ ⟨v1, p1, v2, v3, b1, k, H, q0, q1, q2, q3, t⟩
   obtain ⟨u4, rfl⟩ := up1 (q2 e2)
   exact Fa fd54_2 rfl (Nl ⟨v1, p1, v2, v3, b1, k, H, q0, q1, q2, (fun _ => rfl), t⟩)
  ·
   rintro S f w hS ⟨e0, e1, e2, e3, -⟩ ⟨e9, e10, e11, e12, e14, -⟩ ⟨v1, p1, v2, v3, b1, k, H, q0, q1, q2, q3, q4, t⟩
   obtain ⟨u5, rfl⟩ := up1 (q3 e3)
   exact La (q := ⟨b0, 7, none⟩) [va0_0, va0_1] ag29 (cell_part (o := 7) (k := 2) (H.cell 0 rfl) rfl) (Nl ⟨v1, p1, v2, v3, b1, k, H, q0, q1, q2, q3, (fun _ => rfl), t⟩)
  ·
   rintro S f w hS - ⟨e6, e7, e8, e9, e10, e11, e12, e14, -⟩ ⟨v1, p1, v2, v3, b1, k, H, q0, q1, q2, q3, q4, q5, t⟩
   obtain ⟨u6, rfl⟩ := up1 k.2
   exact Mv va1 (Nl ⟨v1, p1, v2, v3, b1, k, H, q0, q1, q2, q3, q4, (fun _ => rfl), t⟩)
  ·
   rintro S f w hS ⟨e5, -⟩ ⟨e7, e8, e9, e10, e11, e12, e14, -⟩ ⟨_, p1, v2, v3, b1, k, H, q0, q1, q2, q3, q4, q5, q6, q7, q8, q9, q10, q11, q12, q13, Fhp1⟩
   obtain ⟨u7, rfl⟩ := up1 (q5 e5)
   have H := H.cF 6 hS rfl
   refine Ca call73 (c_station_values (hT _ H.baseX) _ _ (ha1 _ H.baseX) hy1) ?_
   rintro v1 w1 hb1 ho1
   have H := H.addOwn hb1 ho1
   have H := H.pick [0, 1, 2, 3, 4, 5, 12, 7, 8, 9, 10, 11] [boxI b0 61 (cI a0.inside va0_0 va0_1 va0_2 va0_3 va0_4), o3 va0_0 a0.inside.net.Rates, o92 va0_1 a0.inside.net.Sights, o70 va0_2 a0.inside.log, o3 va0_3 a0.inside.verdicts, o74 va0_4 a0.inside.ledger, o3 v1 t1, cond (S 9) (o3 v2 t2.Rates) goneI, cond (S 9) (o92 v3 t2.Sights) goneI, cond (S 14) (boxI b1 29 [v2, v3]) (cond (S 13) (boxI b1 29 [(.slice none 0 0), (.slice none 0 0)]) goneI), cond (S 13) (o3 (.slice none 0 0) ([] : List Int)) goneI, cond (S 13) (o92 (.slice none 0 0) ([] : List GSight)) goneI] rfl (by decide)
   exact Nl ⟨v1, p1, v2, v3, b1, k, H, q0, q1, q2, q3, q4, q5, (fun _ => rfl), q7, q8, q9, q10, q11, q12, q13, (fun g0 g1 => (Fhp1 g0 g1).mono hb1)⟩
  ·
   rintro S f w hS ⟨e5, e6, -⟩ ⟨e8, e9, e10, e11, e12, e14, -⟩ ⟨v1, _, v2, v3, b1, k, H, q0, q1, q2, q3, q4, q5, q6, q7, q8, q9, q10, q11, q12, q13, Fhp1⟩
   obtain ⟨u8, rfl⟩ := up1 (q6 e6)
   have G := H
   have H := H.cT 6 e6 rfl
   exact Ia underlying26 sz3 (H.own 6 rfl) hx1 fun p1 hp1 => Nl ⟨v1, p1, v2, v3, b1, k, G, q0, q1, q2, q3, q4, q5, q6, (fun _ => rfl), q8, q9, q10, q11, q12, q13, (fun _ _ => hp1)⟩
  ·
   rintro S f w hS ⟨e5, e6, e7, -⟩ ⟨e9, e10, e11, e12, e14, -⟩ ⟨v1, p1, v2, v3, b1, k, H, q0, q1, q2, q3, q4, q5, q6, q7, q8, q9, q10, q11, q12, q13, Fhp1⟩
   obtain ⟨u9, rfl⟩ := up1 (q7 e7)
   have hp1 := Fhp1 e7 e14
   exact Ld _ sc3 (hp1.flat 0 _ rfl) (Nl ⟨v1, p1, v2, v3, b1, k, H, q0, q1, q2, q3, q4, q5, q6, q7, (fun _ => rfl), q9, q10, q11, q12, q13, Fhp1⟩)
  ·
   rintro S f w hS ⟨e0, e1, e2, e3, e4, e5, e6, e7, e8, -⟩ ⟨e10, e11, e12, e14, -⟩ ⟨v1, p1, _, _, b1, k, H, q0, q1, q2, q3, q4, q5, q6, q7, q8, q9, q10, q11, q12, q13, Fhp1⟩
   obtain ⟨u10, rfl⟩ := up2 (q4 e4) (q8 e8)
   have H := ((H.cF 7 hS rfl).cF 8 hS rfl).cF 9 e14 rfl
   refine Ca call91 (c_sight_Without _ _ (GNet.mk a0.inside.net.Rates a0.inside.net.Sights) (H.own 1 rfl) (H.own 2 rfl) _ hy2) ?_
   rintro _ w2 hb2 ⟨v2, v3, rfl, ho2⟩
   have H := H.addAll hb2 ho2
   have H := H.pick [0, 1, 2, 3, 4, 5, 6, 12, 13, 9, 10, 11] [boxI b0 61 (cI a0.inside va0_0 va0_1 va0_2 va0_3 va0_4), o3 va0_0 a0.inside.net.Rates, o92 va0_1 a0.inside.net.Sights, o70 va0_2 a0.inside.log, o3 va0_3 a0.inside.verdicts, o74 va0_4 a0.inside.ledger, cond (S 6) (o3 v1 t1) goneI, o3 v2 t2.Rates, o92 v3 t2.Sights, cond (S 13) (boxI b1 29 [(.slice none 0 0), (.slice none 0 0)]) goneI, cond (S 13) (o3 (.slice none 0 0) ([] : List Int)) goneI, cond (S 13) (o92 (.slice none 0 0) ([] : List GSight)) goneI] rfl (by decide)
   exact Nl ⟨v1, p1, v2, v3, b1, k, (H.rF 9 e14 rfl), q0, q1, q2, q3, q4, q5, q6, q7, q8, (fun _ => rfl), (fun a => nT a e10), (fun a => nT a e11), q12, q13, (fun g0 g1 => (Fhp1 g0 g1).mono hb2)⟩
  ·
   rintro S f w hS ⟨e0, e1, e2, e3, e4, e5, e6, e7, e8, e9, -⟩ ⟨e11, e12, e14, -⟩ ⟨v1, p1, v2, v3, b1, k, H, q0, q1, q2, q3, q4, q5, q6, q7, q8, q9, q10, t⟩
   obtain ⟨u11, rfl⟩ := up1 (q9 e9)
   exact Mv (.tuple #[(.agg #[v2, v3]), (vi t3)]) (Nl ⟨v1, p1, v2, v3, b1, k, H, q0, q1, q2, q3, q4, q5, q6, q7, q8, q9, (fun _ => rfl), t⟩)
  ·
   rintro S f w hS ⟨e0, e1, e2, e3, e4, e5, e6, e7, e8, e9, e10, -⟩ ⟨e14, -⟩ ⟨v1, p1, v2, v3, b1, k, H, q0, q1, q2, q3, q4, q5, q6, q7, q8, q9, q10, q11, t⟩
   obtain ⟨u12, rfl⟩ := up1 (q10 e10)
   exact Xt (.agg #[v2, v3]) (Nl ⟨v1, p1, v2, v3, b1, k, H, q0, q1, q2, q3, q4, q5, q6, q7, q8, q9, q10, (fun _ => rfl), t⟩)
  ·
   rintro S f w hS ⟨e0, e1, e2, e3, e4, e5, e6, e7, e8, e9, e10, -⟩ - ⟨v1, p1, v2, v3, b1, k, H, q0, q1, q2, q3, q4, q5, q6, q7, q8, q9, q10, q11, q12, t⟩
   obtain ⟨u13, rfl⟩ := up1 (q10 e10)
   exact Xt (vi t3) (Nl ⟨v1, p1, v2, v3, b1, k, H, q0, q1, q2, q3, q4, q5, q6, q7, q8, q9, q10, q11, (fun _ => rfl), t⟩)
  ·
   rintro S f w hS - ⟨e14, -⟩ ⟨v1, p1, v2, v3, _, k, H, q0, q1, q2, q3, q4, q5, q6, q7, q8, q9, q10, q11, q12, q13, Fhp1⟩
   have H := (H.cF 9 e14 rfl).cF 9 hS rfl
   refine Al [(.slice none 0 0), (.slice none 0 0)] ze29 H fun b1 w3 H hb3 => ?_
   have H := H.addNil (α := Int) (E := 3)
   have H := H.addNil (α := GSight) (E := 92)
   have H := H.pick [0, 1, 2, 3, 4, 5, 6, 7, 8, 12, 13, 14] [boxI b0 61 (cI a0.inside va0_0 va0_1 va0_2 va0_3 va0_4), o3 va0_0 a0.inside.net.Rates, o92 va0_1 a0.inside.net.Sights, o70 va0_2 a0.inside.log, o3 va0_3 a0.inside.verdicts, o74 va0_4 a0.inside.ledger, cond (S 6) (o3 v1 t1) goneI, cond (S 9) (o3 v2 t2.Rates) goneI, cond (S 9) (o92 v3 t2.Sights) goneI, boxI b1 29 [(.slice none 0 0), (.slice none 0 0)], o3 (.slice none 0 0) ([] : List Int), o92 (.slice none 0 0) ([] : List GSight)] rfl (by decide)
   exact Nl ⟨v1, p1, v2, v3, b1, k, (H.rF 9 e14 rfl), q0, q1, q2, q3, q4, q5, q6, q7, q8, q9, q10, q11, q12, (fun _ => rfl), (fun g0 g1 => (Fhp1 g0 g1).mono hb3)⟩
  ·
   rintro S f w hS ⟨e0, e1, e2, e3, e4, e5, e6, e7, e8, e9, e10, e11, e13, -⟩ - ⟨v1, p1, v2, v3, b1, k, H, q0, q1, q2, q3, q4, q5, q6, q7, q8, q9, q10, q11, q12, q13, Fhp1⟩
   obtain ⟨u14, rfl⟩ := up2 (q13 e13) (q11 e11)
   have H := (((H.cT 7 e9 rfl).cT 8 e9 rfl).cF 9 hS rfl).cT 9 e13 rfl
   exact St 9 0 [v2, v3] [v2, v3] sz29 H R R (one_cons (SliceR.one (H.own 7 rfl)) (one_cons (SliceR.one (H.own 8 rfl)) one_nil)) fun w4 H => Nl ⟨v1, p1, v2, v3, b1, k, ((H.rT 7 e9 rfl).rT 8 e9 rfl), q0, q1, q2, q3, q4, q5, q6, q7, q8, q9, q10, q11, q12, q13, (fun g0 g1 => nG g1)⟩
 ·
  rintro S f w ⟨e0, e1, e2, e3, e4, e5, e6, e7, e8, e9, e10, e11, e12, e13, e14, -⟩ ⟨v1, p1, v2, v3, b1, k, H, q0, q1, q2, q3, q4, q5, q6, q7, q8, q9, q10, q11, q12, q13, Fhp1⟩
  have H : InvD X0 w0 w [boxI b0 61 (cI a0.inside va0_0 va0_1 va0_2 va0_3 va0_4), o3 va0_0 a0.inside.net.Rates, o92 va0_1 a0.inside.net.Sights, o70 va0_2 a0.inside.log, o3 va0_3 a0.inside.verdicts, o74 va0_4 a0.inside.ledger, o3 v1 t1, o3 v2 t2.Rates, o92 v3 t2.Sights, boxI b1 29 [v2, v3], o3 (.slice none 0 0) ([] : List Int), o92 (.slice none 0 0) ([] : List GSight)] := ((((((H.cT 6 e6 rfl).cT 7 e9 rfl).cT 8 e9 rfl).cT 9 e14 rfl).cT 10 e13 rfl).cT 11 e13 rfl)
  obtain ⟨u15, rfl⟩ := up3 k.1 (q13 e13) (q12 e12)
  refine As (vi t3) (Nl (Sq (Rg (Mv (vi t3) ?_))))
  rcases mustB_some hm with ⟨hc1, rfl⟩ | ⟨hc1, hm⟩
  · exact Cn call76 (c_station_needs_no hc1) (fun w' hb => ⟨rfl, (H.ext hb).baseX⟩)
  refine Ca call76 (c_station_needs_ok hc1) ?_
  rintro _ w5 hb4 rfl
  have H := H.ext hb4
  refine Nl (Sq (Rg (Mv (pt b0) (La [v2, v3] ag29 (H.cell 9 rfl) (Nk rfl (Fa fd61_0 rfl (Fa fd54_2 rfl (St 0 7 [v2, v3] (cI a0.inside v2 v3 va0_2 va0_3 va0_4) sz29 H R R (one_cons (SliceR.one (H.own 7 rfl)) (one_cons (SliceR.one (H.own 8 rfl)) one_nil)) fun w6 H => Nl (Sq (Rg (Fa fd29_1 rfl ?_)))))))))))
  refine Ld _ sc27 (H.cell 9 rfl 1 _ rfl) (Ln underlying27 (H.own 8 rfl) (Bs (α := Int) [(vi ((t2.Sights.length : Nat) : Int))] [((t2.Sights.length : Nat) : Int)] underlying26 el3 H fun v4 w7 H hb5 => ?_))
  obtain ⟨t4, hy3, hm⟩ := bind_some hm
  refine Ca call79 (c_station_said (hT _ H.baseX) _ _ _ (H.own 12 rfl) hy3) ?_
  rintro _ w8 hb6 rfl
  have H := H.ext hb6
  refine As (.string t4) (Nl (Rt ?_))
  obtain rfl : Ref.ok ((GSession.mk (GInside.mk a0.inside.mast a0.inside.day t2 a0.inside.log a0.inside.state a0.inside.verdicts a0.inside.ledger a0.inside.flags)), t4) = r0 := sj (show some (Ref.ok ((GSession.mk (GInside.mk a0.inside.mast a0.inside.day t2 a0.inside.log a0.inside.state a0.inside.verdicts a0.inside.ledger a0.inside.flags)), t4)) = some r0 from hm)
  exact ends1 results52 rfl ⟨_, _, rfl, H.pick [0, 7, 8, 3, 4, 5] [boxI b0 61 (cI a0.inside v2 v3 va0_2 va0_3 va0_4), o3 v2 t2.Rates, o92 v3 t2.Sights, o70 va0_2 a0.inside.log, o3 va0_3 a0.inside.verdicts, o74 va0_4 a0.inside.ledger] rfl (by decide), v2, v3, va0_2, va0_3, va0_4, rfl, rfl⟩

theorem c_station_number_right {w0 : World} (hT : EnvS prog 0 4 5 7 w0) (a1 : ByteArray) {r0 : Bool} (hm : station_number_right a1 = some r0) :
  Calls prog 255 #[(.agg #[]), (.string a1)] w0 (Ret w0 fun _ v => v = (.bool r0)) := by
 unfold station_number_right at hm
 refine cW func255 ntmps255 ?_
 have H := Inv.start (w := w0)
 refine Sq (Rg (Bx [] H fun b1 w1 H hb1 => As (.bool false) (Nl (Sq (Rg (Mv (.string a1) ?_))))))
 obtain ⟨t1, hy1, hm⟩ := bind_some hm
 refine Ca call104 (c_strconv_Atoi (hT.mono H.base) _ hy1) ?_
 rintro _ w2 hb2 ⟨v1, rfl, he1⟩
 have H := H.ext hb2
 refine Mv (.tuple #[(vi t1), v1]) (Xt (vi t1) (Xt v1 (As (vi t1) (As v1 (Nl (Sq (Rg (Mv v1 (O.eqlErr if98 he1 R R R (Mv (.bool (atoiB a1)) ?_))))))))))
 refine Cu 3 (fun f w => f 1 = (.string a1) ∧ f 5 = (vi t1) ∧ f 17 = .bool ((atoiB a1) && (decide (0 ≤ t1))) ∧ Inv w0 w [boxI b1 107 []]) ?_ ?_
 ·
  rcases bool_ft (atoiB a1) with hc1 | hc1
  ·
   exact Rs (i := 14) (v := .bool false) (cb hc1) (Sp (Sp (Pf (.bool false) (Nl ⟨rfl, rfl, cb (and_f hc1), H⟩))))
  ·
   exact Rs (i := 14) (v := .bool true) (cb hc1) (Mv (vi t1) (Ge_ (Pt (.bool (decide (0 ≤ t1))) (Nl ⟨rfl, rfl, cb (and_t hc1), H⟩))))
 ·
  rintro f w ⟨hf1, hf5, hf17, H⟩
  obtain ⟨u1, rfl⟩ := up3 hf1 hf5 hf17
  refine Mv (.bool ((atoiB a1) && (decide (0 ≤ t1)))) ?_
  refine Cu 4 (fun f w => f 1 = (.string a1) ∧ f 5 = (vi t1) ∧ f 22 = .bool (((atoiB a1) && (decide (0 ≤ t1))) && (decide (((a1.size : Nat) : Int) ≤ 12))) ∧ Inv w0 w [boxI b1 107 []]) ?_ ?_
  ·
   rcases bool_ft ((atoiB a1) && (decide (0 ≤ t1))) with hc2 | hc2
   ·
    exact Rs (i := 18) (v := .bool false) (cb hc2) (Sp (Sp (Sp (Pf (.bool false) (Nl ⟨rfl, rfl, cb (and_f hc2), H⟩)))))
   ·
    exact Rs (i := 18) (v := .bool true) (cb hc2) (Mv (.string a1) (Lt_ underlying9 (Le_ (Pt (.bool (decide (((a1.size : Nat) : Int) ≤ 12))) (Nl ⟨rfl, rfl, cb (and_t hc2), H⟩)))))
  ·
   rintro f w ⟨hf1, hf5, hf22, H⟩
   obtain ⟨u2, rfl⟩ := up3 hf1 hf5 hf22
   refine Mv (.bool (((atoiB a1) && (decide (0 ≤ t1))) && (decide (((a1.size : Nat) : Int) ≤ 12)))) ?_
   obtain ⟨b2, hm1, hm⟩ := bind_some hm
   refine Cu 5 (fun f w => f 28 = .bool b2 ∧ Inv w0 w [boxI b1 107 []]) ?_ ?_
   ·
    rcases ite_some hm1 with ⟨hc3, hm1⟩ | ⟨hc3, hm1⟩
    ·
     refine Rs (i := 23) (v := .bool true) (cb hc3) (Mv (vi t1) ?_)
     obtain ⟨t2, hy2, hm1⟩ := bind_some hm1
     refine Ca call55 (c_strconv_Itoa (hT.mono H.base) _ hy2) ?_
     rintro _ w3 hb3 rfl
     have H := H.ext hb3
     refine Mv (.string a1) (Es (Pt (.bool (decide (t2 = a1))) (Nl ?_)))
     obtain rfl := sj hm1
     exact ⟨rfl, H⟩
    ·
     refine Rs (i := 23) (v := .bool false) (cb hc3) (Sp (Sp (Sp (Sp (Pf (.bool false) (Nl ?_))))))
     obtain rfl := sj hm1
     exact ⟨rfl, H⟩
   ·
    rintro f w ⟨hf28, H⟩
    obtain ⟨u3, rfl⟩ := up1 hf28
    refine As (.bool b2) (Nl (Rt ?_))
    obtain rfl := sj hm
    exact ends1 results255 rfl ⟨_, rfl, H.base, rfl⟩

theorem c_internal_stringslite_HasPrefix {w0 : World} (a0 : ByteArray) (a1 : ByteArray) {r0 : Bool} (hm : internal_stringslite_HasPrefix a0 a1 = some r0) :
  Calls prog 259 #[(.string a0), (.string a1)] w0 (Ret w0 fun _ v => v = (.bool r0)) := by
 unfold internal_stringslite_HasPrefix at hm
 refine cW func259 ntmps259 ?_
 have H := Inv.start (w := w0)
 refine Sq (Rg (As (.bool false) (Nl (Sq (Rg (Mv (.string a0) (Lt_ underlying9 (Mv (.string a1) (Lt_ underlying9 (Ge_ (Mv (.bool (decide (((a1.size : Nat) : Int) ≤ ((a0.size : Nat) : Int)))) ?_)))))))))))
 obtain ⟨b1, hm1, hm⟩ := bind_some hm
 refine Cu 7 (fun f w => f 17 = .bool b1 ∧ Inv w0 w []) ?_ ?_
 ·
  rcases ite_some hm1 with ⟨hc1, hm1⟩ | ⟨hc1, hm1⟩
  ·
   refine Rs (i := 10) (v := .bool true) (cb hc1) (Mv (.string a0) (Mv (.string a1) (Lt_ underlying9 ?_)))
   obtain ⟨t1, hy1, hm1⟩ := bind_some hm1
   refine O.sliceS underlying9 hy1 R R R (.inr ⟨rfl, rfl⟩) (.inl rfl) (Mv (.string a1) (Es (Pt (.bool (decide (t1 = a1))) (Nl ?_))))
   obtain rfl := sj hm1
   exact ⟨rfl, H⟩
  ·
   refine Rs (i := 10) (v := .bool false) (cb hc1) (Sp (Sp (Sp (Sp (Sp (Sp (Pf (.bool false) (Nl ?_))))))))
   obtain rfl := sj hm1
   exact ⟨rfl, H⟩
 ·
  rintro f w ⟨hf17, H⟩
  obtain ⟨u1, rfl⟩ := up1 hf17
  refine As (.bool b1) (Nl (Rt ?_))
  obtain rfl := sj hm
  exact ends1 results259 rfl ⟨_, rfl, H.base, rfl⟩

theorem c_internal_stringslite_CutPrefix {w0 : World} (a0 : ByteArray) (a1 : ByteArray) {r0 : ByteArray} {r1 : Bool} (hm : internal_stringslite_CutPrefix a0 a1 = some (r0, r1)) :
  Calls prog 258 #[(.string a0), (.string a1)] w0 (Ret w0 fun _ v => v = .tuple #[(.string r0), (.bool r1)]) := by
 unfold internal_stringslite_CutPrefix at hm
 refine cW func258 ntmps258 ?_
 have H := Inv.start (w := w0)
 refine Sq (Rg (As (.string (bs [])) (As (.bool false) (Nl (Sq (Sq (Rg (Mv (.string a0) (Mv (.string a1) ?_)))))))))
 obtain ⟨t1, hy1, hm⟩ := bind_some hm
 refine Ca call259 (c_internal_stringslite_HasPrefix _ _ hy1) ?_
 rintro _ w1 hb1 rfl
 have H := H.ext hb1
 refine O.not R R R (Nl ?_)
 rcases ite_some hm with ⟨hc1, hm⟩ | ⟨hc1, hm⟩
 ·
  refine Ct (cb hc1) (Sq (Rg (Mv (.string a0) (As (.string a0) (As (.bool false) (Nl (Rt ?_)))))))
  obtain ⟨rfl, rfl⟩ := j2 hm
  exact ends2 results258 R R ⟨_, rfl, H.base, rfl⟩
 ·
  refine Cf (cb hc1) (Sk (Sq (Rg (Mv (.string a0) (Mv (.string a1) (Lt_ underlying9 ?_))))))
  obtain ⟨t2, hy2, hm⟩ := bind_some hm
  refine O.sliceS underlying9 hy2 R R R (.inl rfl) (.inr ⟨rfl, rfl⟩) (As (.string t2) (As (.bool true) (Nl (Rt ?_))))
  obtain ⟨rfl, rfl⟩ := j2 hm
  exact ends2 results258 R R ⟨_, rfl, H.base, rfl⟩

theorem c_strings_CutPrefix {w0 : World} (a0 : ByteArray) (a1 : ByteArray) {r0 : ByteArray} {r1 : Bool} (hm : strings_CutPrefix a0 a1 = some (r0, r1)) :
  Calls prog 257 #[(.string a0), (.string a1)] w0 (Ret w0 fun _ v => v = .tuple #[(.string r0), (.bool r1)]) := by
 unfold strings_CutPrefix at hm
 refine cW func257 ntmps257 ?_
 have H := Inv.start (w := w0)
 refine Sq (Rg (As (.string (bs [])) (As (.bool false) (Nl (Sq (Rg (Mv (.string a0) (Mv (.string a1) ?_))))))))
 obtain ⟨⟨t1, t2⟩, hy1, hm⟩ := bind_some hm
 refine Ca call258 (c_internal_stringslite_CutPrefix _ _ hy1) ?_
 rintro _ w1 hb1 rfl
 have H := H.ext hb1
 refine Xt (.string t1) (Xt (.bool t2) (As (.string t1) (As (.bool t2) (Nl (Rt ?_)))))
 obtain ⟨rfl, rfl⟩ := j2 hm
 exact ends2 results257 R R ⟨_, rfl, H.base, rfl⟩

theorem c_station_signed_right {w0 : World} (hT : EnvS prog 0 4 5 7 w0) (a1 : ByteArray) {r0 : Bool} (hm : station_signed_right a1 = some r0) :
  Calls prog 256 #[(.agg #[]), (.string a1)] w0 (Ret w0 fun _ v => v = (.bool r0)) := by
 unfold station_signed_right at hm
 refine cW func256 ntmps256 ?_
 have H := Inv.start (w := w0)
 refine Sq (Rg (Bx [] H fun b1 w1 H hb1 => As (.bool false) (Nl (Sq (Rg (Mv (.string a1) ?_))))))
 obtain ⟨⟨t1, t2⟩, hy1, hm⟩ := bind_some hm
 refine Ca call257 (c_strings_CutPrefix _ _ hy1) ?_
 rintro _ w2 hb2 rfl
 have H := H.ext hb2
 refine Mv (.tuple #[(.string t1), (.bool t2)]) (Xt (.string t1) (Xt (.bool t2) (As (.string t1) (As (.bool t2) (Nl (Sq (Rg (Bd (v := .agg #[]) (fun w => by kernel_rfl) rfl (Mv (.string t1) ?_)))))))))
 obtain ⟨t3, hy2, hm⟩ := bind_some hm
 refine Ca call255 (c_station_number_right (hT.mono H.base) _ hy2) ?_
 rintro _ w3 hb3 rfl
 have H := H.ext hb3
 refine Mv (.bool t3) ?_
 refine Cu 7 (fun f w => f 22 = .bool (t3 && (!(t2 && (decide (t1 = (bs [48])))))) ∧ Inv w0 w [boxI b1 108 []]) ?_ ?_
 ·
  rcases bool_ft t3 with hc1 | hc1
  ·
   exact Rs (i := 15) (v := .bool false) (cb hc1) (Sp (Sp (Sp (Sp (Sp (Sp (Pf (.bool false) (Nl ⟨cb (and_f hc1), H⟩))))))))
  ·
   refine Rs (i := 15) (v := .bool true) (cb hc1) (Mv (.bool t2) (Mv (.bool t2) ?_))
   refine Cu 3 (fun f w => f 15 = (.bool true) ∧ f 20 = .bool (t2 && (decide (t1 = (bs [48])))) ∧ Inv w0 w [boxI b1 108 []]) ?_ ?_
   ·
    rcases bool_ft t2 with hc2 | hc2
    ·
     exact Rs (i := 17) (v := .bool false) (cb hc2) (Sp (Sp (Pf (.bool false) (Nl ⟨rfl, cb (and_f hc2), H⟩))))
    ·
     exact Rs (i := 17) (v := .bool true) (cb hc2) (Mv (.string t1) (Es (Pt (.bool (decide (t1 = (bs [48])))) (Nl ⟨rfl, cb (and_t hc2), H⟩))))
   ·
    rintro f w ⟨hf15, hf20, H⟩
    obtain ⟨u1, rfl⟩ := up2 hf15 hf20
    exact O.not R R R (Pt (.bool (!(t2 && (decide (t1 = (bs [48])))))) (Nl ⟨cb (and_t hc1), H⟩))
 ·
  rintro f w ⟨hf22, H⟩
  obtain ⟨u2, rfl⟩ := up1 hf22
  refine As (.bool (t3 && (!(t2 && (decide (t1 = (bs [48]))))))) (Nl (Rt ?_))
  obtain rfl := sj hm
  exact ends1 results256 rfl ⟨_, rfl, H.base, rfl⟩

theorem c_station_digits_right {w0 : World} (a1 : ByteArray) {r0 : Bool} (hm : station_digits_right a1 = some r0) :
  Calls prog 260 #[(.agg #[]), (.string a1)] w0 (Ret w0 fun _ v => v = (.bool r0)) := by
 unfold station_digits_right at hm
 refine cW func260 ntmps260 ?_
 have H := Inv.start (w := w0)
 refine Sq (Rg (Bx [] H fun b1 w1 H hb1 => As (.bool false) (Nl (Sq (Rg (Mv (.string a1) (Lt_ underlying9 (Ge_ (Mv (.bool (decide (1 ≤ ((a1.size : Nat) : Int)))) ?_)))))))))
 refine Cu 4 (fun f w => f 1 = (.string a1) ∧ f 12 = .bool ((decide (1 ≤ ((a1.size : Nat) : Int))) && (decide (((a1.size : Nat) : Int) ≤ 4))) ∧ Inv w0 w [boxI b1 109 []]) ?_ ?_
 ·
  rcases bool_ft (decide (1 ≤ ((a1.size : Nat) : Int))) with hc1 | hc1
  ·
   exact Rs (i := 8) (v := .bool false) (cb hc1) (Sp (Sp (Sp (Pf (.bool false) (Nl ⟨rfl, cb (and_f hc1), H⟩)))))
  ·
   exact Rs (i := 8) (v := .bool true) (cb hc1) (Mv (.string a1) (Lt_ underlying9 (Le_ (Pt (.bool (decide (((a1.size : Nat) : Int) ≤ 4))) (Nl ⟨rfl, cb (and_t hc1), H⟩)))))
 ·
  rintro f w ⟨hf1, hf12, H⟩
  obtain ⟨u1, rfl⟩ := up2 hf1 hf12
  refine Mv (.bool ((decide (1 ≤ ((a1.size : Nat) : Int))) && (decide (((a1.size : Nat) : Int) ≤ 4)))) ?_
  obtain ⟨b2, hm1, hm⟩ := bind_some hm
  refine Cu 4 (fun f w => f 17 = .bool b2 ∧ Inv w0 w [boxI b1 109 []]) ?_ ?_
  ·
   rcases ite_some hm1 with ⟨hc2, hm1⟩ | ⟨hc2, hm1⟩
   ·
    refine Rs (i := 13) (v := .bool true) (cb hc2) (Mv (.string a1) ?_)
    obtain ⟨t1, hy1, hm1⟩ := bind_some hm1
    refine Ca call39 (c_strings_Trim _ _ hy1) ?_
    rintro _ w2 hb2 rfl
    have H := H.ext hb2
    refine Es (Pt (.bool (decide (t1 = (bs [])))) (Nl ?_))
    obtain rfl := sj hm1
    exact ⟨rfl, H⟩
   ·
    refine Rs (i := 13) (v := .bool false) (cb hc2) (Sp (Sp (Sp (Pf (.bool false) (Nl ?_)))))
    obtain rfl := sj hm1
    exact ⟨rfl, H⟩
  ·
   rintro f w ⟨hf17, H⟩
   obtain ⟨u2, rfl⟩ := up1 hf17
   refine As (.bool b2) (Nl (Rt ?_))
   obtain rfl := sj hm
   exact ends1 results260 rfl ⟨_, rfl, H.base, rfl⟩

/-- The first c forms. -/
def formsTo (g : Nat → GFm) (c : Nat) : List (ByteArray × GFm) := (List.range c).map fun c => (cmdNm c, g c)
def ownsTo (g : Nat → GFm) (c : Nat) : List Go.Fw.Item := (List.range c).map fun i => ownI (α := C1) (g i).k 85 (kindsV i)
theorem forms_next {w0 w : World} {x0 x1 x2 : Go.Fw.Item} {r c : Nat} {g : Nat → GFm} {v : Value} {o : v.oneCell' = true} (hg : ∀ i, i < c → (g i).c = i)
    (H : Inv w0 w (([x0, x1, x2, mapI r (formsTo g c)] ++ ownsTo g c ++ [ownI (α := C1) v 85 (kindsV c)]).set 3 (mapI r (formsTo g c ++ [(cmdNm c, ⟨v, c, o⟩)])))) :
    ∃ g' : Nat → GFm, (∀ i, i < c + 1 → (g' i).c = i) ∧ Inv w0 w ([x0, x1, x2, mapI r (formsTo g' (c + 1))] ++ ownsTo g' (c + 1)) := by
  refine ⟨fun i => if i = c then ⟨v, c, o⟩ else g i, fun i hi => ?_, ?_⟩
  · by_cases e : i = c
    · subst e; dsimp only; rw [if_pos rfl]
    · dsimp only; rw [if_neg e]; exact hg i (by omega)
  · have e1 : formsTo (fun i => if i = c then ⟨v, c, o⟩ else g i) (c + 1) = formsTo g c ++ [(cmdNm c, ⟨v, c, o⟩)] := by
      unfold formsTo
      rw [List.range_succ, List.map_append, List.map_cons, List.map_nil]
      dsimp only
      rw [if_pos rfl]
      refine congrArg (· ++ _) (List.map_congr_left fun i hi => ?_)
      rw [if_neg (by have := List.mem_range.1 hi; omega)]
    have e2 : ownsTo (fun i => if i = c then ⟨v, c, o⟩ else g i) (c + 1) = ownsTo g c ++ [ownI (α := C1) v 85 (kindsV c)] := by
      unfold ownsTo
      rw [List.range_succ, List.map_append, List.map_cons, List.map_nil]
      dsimp only
      rw [if_pos rfl]
      refine congrArg (· ++ _) (List.map_congr_left fun i hi => ?_)
      rw [if_neg (by have := List.mem_range.1 hi; omega)]
    rw [e1, e2]
    exact H
theorem formsTo_fst (g : Nat → GFm) (c : Nat) : (formsTo g c).map Prod.fst = (List.range c).map cmdNm := by
  unfold formsTo
  rw [List.map_map]
  rfl
set_option maxRecDepth 20000 in
theorem c_station_forms {w0 : World} : Calls prog 29 #[] w0 (Ret w0 fun w v => ∃ (r : Nat) (g : Nat → GFm), v = .map (some r) ∧ (formI r g).ok w ∧ ∀ b, (formI r g).fp b → w0.heap.size ≤ b ∧ b < w.heap.size) := by
 refine cW func29 ntmps29 ?_
 have H := Inv.start (w := w0)
 refine Sq (Rg (As (.map none) (Nl (Sq (Rg (Bd (v := .agg #[]) (fun w => by kernel_rfl) rfl (Bd (v := .agg #[]) (fun w => by kernel_rfl) rfl (Bd (v := .agg #[]) (fun w => by kernel_rfl) rfl (Al [] ze107 H fun b0 w1 H hb0 => Al [] ze108 H fun b1 w2 H hb1 => Al [] ze109 H ?_)))))))))
 intro b2 w3 H hb2
 refine St 0 0 [] [] sz107 H R R one_nil fun w4 H => St 1 0 [] [] sz108 H R R one_nil fun w5 H => St 2 0 [] [] sz109 H R R one_nil fun w6 H => Nl (Sq (Rg (O.makeMap (α := ByteArray) (β := GFm) H R R fun r w7 H hb7 => ?_)))
 have H : Inv w0 w7 ([boxI b0 107 [], boxI b1 108 [], boxI b2 109 [], mapI r (formsTo (fun _ => ⟨.nilFunc, 0, rfl⟩) 0)] ++ ownsTo (fun _ => ⟨.nilFunc, 0, rfl⟩) 0) := H
 have hg : ∀ i, i < 0 → ((fun _ => (⟨.nilFunc, 0, rfl⟩ : GFm)) i).c = i := fun i hi => absurd hi (Nat.not_lt_zero i)
 generalize (fun _ => (⟨.nilFunc, 0, rfl⟩ : GFm)) = g at H hg
 refine Cu 13 (fun f w => ∃ g : Nat → GFm, (∀ i, i < 1 → (g i).c = i) ∧ (f 1 = (pt b0) ∧ f 2 = (pt b1) ∧ f 3 = (pt b2) ∧ f 7 = .map (some r)) ∧ Inv w0 w ([boxI b0 107 [], boxI b1 108 [], boxI b2 109 [], mapI r (formsTo g 1)] ++ ownsTo g 1)) ?_ ?_
 ·
  refine O.kind ag107 mi107 R R R (O.kind ag107 mi107 R R R (O.kind ag107 mi107 R R R (O.kind ag108 mi108 R R R (O.kind ag108 mi108 R R R (Bs (α := C1) [.iface 107 (.agg #[]), .iface 107 (.agg #[]), .iface 107 (.agg #[]), .iface 108 (.agg #[]), .iface 108 (.agg #[])] (kindsV 0) underlying44 el85 H fun v w H hb => ?_)))))
  obtain ⟨y, z, e, _⟩ := (H.own 4 rfl).shape
  have ov : v.oneCell' = true := by rw [e]; rfl
  refine Bd (v := .agg #[v, .func (.func (doF 0)) #[] #[]]) (fun w => by rw [e]; exact bdf47 _ _ _ _ w) rfl (O.insertNew (β := GFm) 3 ((List.range 0).map cmdNm) (cmdNm 0) (⟨v, 0, ov⟩ : GFm) underlying82 key9 H rfl (formsTo_fst g 0) (by decide +kernel) R R R R fun w H => ?_)
  obtain ⟨g, hg, H⟩ := forms_next (c := 0) hg H
  exact Nl ⟨g, hg, ⟨rfl, rfl, rfl, rfl⟩, H⟩
 clear H hg
 rintro f w ⟨g, hg, hf, H⟩
 obtain ⟨u, rfl⟩ := up4 hf.1 hf.2.1 hf.2.2.1 hf.2.2.2
 clear hf
 refine Cu 9 (fun f w => ∃ g : Nat → GFm, (∀ i, i < 2 → (g i).c = i) ∧ (f 1 = (pt b0) ∧ f 2 = (pt b1) ∧ f 3 = (pt b2) ∧ f 7 = .map (some r)) ∧ Inv w0 w ([boxI b0 107 [], boxI b1 108 [], boxI b2 109 [], mapI r (formsTo g 2)] ++ ownsTo g 2)) ?_ ?_
 ·
  refine O.kind ag107 mi107 R R R (O.kind ag107 mi107 R R R (O.kind ag107 mi107 R R R (Bs (α := C1) [.iface 107 (.agg #[]), .iface 107 (.agg #[]), .iface 107 (.agg #[])] (kindsV 1) underlying44 el85 H fun v w H hb => ?_)))
  obtain ⟨y, z, e, _⟩ := (H.own 5 rfl).shape
  have ov : v.oneCell' = true := by rw [e]; rfl
  refine Bd (v := .agg #[v, .func (.func (doF 1)) #[] #[]]) (fun w => by rw [e]; exact bdf47 _ _ _ _ w) rfl (O.insertNew (β := GFm) 3 ((List.range 1).map cmdNm) (cmdNm 1) (⟨v, 1, ov⟩ : GFm) underlying82 key9 H rfl (formsTo_fst g 1) (by decide +kernel) R R R R fun w H => ?_)
  obtain ⟨g, hg, H⟩ := forms_next (c := 1) hg H
  exact Nl ⟨g, hg, ⟨rfl, rfl, rfl, rfl⟩, H⟩
 clear H hg
 rintro f w ⟨g, hg, hf, H⟩
 obtain ⟨u, rfl⟩ := up4 hf.1 hf.2.1 hf.2.2.1 hf.2.2.2
 clear hf
 refine Cu 2 (fun f w => ∃ g : Nat → GFm, (∀ i, i < 3 → (g i).c = i) ∧ (f 1 = (pt b0) ∧ f 2 = (pt b1) ∧ f 3 = (pt b2) ∧ f 7 = .map (some r)) ∧ Inv w0 w ([boxI b0 107 [], boxI b1 108 [], boxI b2 109 [], mapI r (formsTo g 3)] ++ ownsTo g 3)) ?_ ?_
 ·
  have H := H.addNil (α := C1) (E := 85)
  refine Bd (v := .agg #[.slice none 0 0, .func (.func (doF 2)) #[] #[]]) (fun w => bdf47 _ _ _ _ w) rfl (O.insertNew (β := GFm) 3 ((List.range 2).map cmdNm) (cmdNm 2) (⟨.slice none 0 0, 2, rfl⟩ : GFm) underlying82 key9 H rfl (formsTo_fst g 2) (by decide +kernel) R R R R fun w H => ?_)
  obtain ⟨g, hg, H⟩ := forms_next (c := 2) hg H
  exact Nl ⟨g, hg, ⟨rfl, rfl, rfl, rfl⟩, H⟩
 clear H hg
 rintro f w ⟨g, hg, hf, H⟩
 obtain ⟨u, rfl⟩ := up4 hf.1 hf.2.1 hf.2.2.1 hf.2.2.2
 clear hf
 refine Cu 5 (fun f w => ∃ g : Nat → GFm, (∀ i, i < 4 → (g i).c = i) ∧ (f 1 = (pt b0) ∧ f 2 = (pt b1) ∧ f 3 = (pt b2) ∧ f 7 = .map (some r)) ∧ Inv w0 w ([boxI b0 107 [], boxI b1 108 [], boxI b2 109 [], mapI r (formsTo g 4)] ++ ownsTo g 4)) ?_ ?_
 ·
  refine O.kind ag108 mi108 R R R (Bs (α := C1) [.iface 108 (.agg #[])] (kindsV 3) underlying44 el85 H fun v w H hb => ?_)
  obtain ⟨y, z, e, _⟩ := (H.own 7 rfl).shape
  have ov : v.oneCell' = true := by rw [e]; rfl
  refine Bd (v := .agg #[v, .func (.func (doF 3)) #[] #[]]) (fun w => by rw [e]; exact bdf47 _ _ _ _ w) rfl (O.insertNew (β := GFm) 3 ((List.range 3).map cmdNm) (cmdNm 3) (⟨v, 3, ov⟩ : GFm) underlying82 key9 H rfl (formsTo_fst g 3) (by decide +kernel) R R R R fun w H => ?_)
  obtain ⟨g, hg, H⟩ := forms_next (c := 3) hg H
  exact Nl ⟨g, hg, ⟨rfl, rfl, rfl, rfl⟩, H⟩
 clear H hg
 rintro f w ⟨g, hg, hf, H⟩
 obtain ⟨u, rfl⟩ := up4 hf.1 hf.2.1 hf.2.2.1 hf.2.2.2
 clear hf
 refine Cu 7 (fun f w => ∃ g : Nat → GFm, (∀ i, i < 5 → (g i).c = i) ∧ (f 1 = (pt b0) ∧ f 2 = (pt b1) ∧ f 3 = (pt b2) ∧ f 7 = .map (some r)) ∧ Inv w0 w ([boxI b0 107 [], boxI b1 108 [], boxI b2 109 [], mapI r (formsTo g 5)] ++ ownsTo g 5)) ?_ ?_
 ·
  refine O.kind ag107 mi107 R R R (O.kind ag108 mi108 R R R (Bs (α := C1) [.iface 107 (.agg #[]), .iface 108 (.agg #[])] (kindsV 4) underlying44 el85 H fun v w H hb => ?_))
  obtain ⟨y, z, e, _⟩ := (H.own 8 rfl).shape
  have ov : v.oneCell' = true := by rw [e]; rfl
  refine Bd (v := .agg #[v, .func (.func (doF 4)) #[] #[]]) (fun w => by rw [e]; exact bdf47 _ _ _ _ w) rfl (O.insertNew (β := GFm) 3 ((List.range 4).map cmdNm) (cmdNm 4) (⟨v, 4, ov⟩ : GFm) underlying82 key9 H rfl (formsTo_fst g 4) (by decide +kernel) R R R R fun w H => ?_)
  obtain ⟨g, hg, H⟩ := forms_next (c := 4) hg H
  exact Nl ⟨g, hg, ⟨rfl, rfl, rfl, rfl⟩, H⟩
 clear H hg
 rintro f w ⟨g, hg, hf, H⟩
 obtain ⟨u, rfl⟩ := up4 hf.1 hf.2.1 hf.2.2.1 hf.2.2.2
 clear hf
 refine Cu 7 (fun f w => ∃ g : Nat → GFm, (∀ i, i < 6 → (g i).c = i) ∧ (f 1 = (pt b0) ∧ f 2 = (pt b1) ∧ f 3 = (pt b2) ∧ f 7 = .map (some r)) ∧ Inv w0 w ([boxI b0 107 [], boxI b1 108 [], boxI b2 109 [], mapI r (formsTo g 6)] ++ ownsTo g 6)) ?_ ?_
 ·
  refine O.kind ag107 mi107 R R R (O.kind ag107 mi107 R R R (Bs (α := C1) [.iface 107 (.agg #[]), .iface 107 (.agg #[])] (kindsV 5) underlying44 el85 H fun v w H hb => ?_))
  obtain ⟨y, z, e, _⟩ := (H.own 9 rfl).shape
  have ov : v.oneCell' = true := by rw [e]; rfl
  refine Bd (v := .agg #[v, .func (.func (doF 5)) #[] #[]]) (fun w => by rw [e]; exact bdf47 _ _ _ _ w) rfl (O.insertNew (β := GFm) 3 ((List.range 5).map cmdNm) (cmdNm 5) (⟨v, 5, ov⟩ : GFm) underlying82 key9 H rfl (formsTo_fst g 5) (by decide +kernel) R R R R fun w H => ?_)
  obtain ⟨g, hg, H⟩ := forms_next (c := 5) hg H
  exact Nl ⟨g, hg, ⟨rfl, rfl, rfl, rfl⟩, H⟩
 clear H hg
 rintro f w ⟨g, hg, hf, H⟩
 obtain ⟨u, rfl⟩ := up4 hf.1 hf.2.1 hf.2.2.1 hf.2.2.2
 clear hf
 refine Cu 5 (fun f w => ∃ g : Nat → GFm, (∀ i, i < 7 → (g i).c = i) ∧ (f 1 = (pt b0) ∧ f 2 = (pt b1) ∧ f 3 = (pt b2) ∧ f 7 = .map (some r)) ∧ Inv w0 w ([boxI b0 107 [], boxI b1 108 [], boxI b2 109 [], mapI r (formsTo g 7)] ++ ownsTo g 7)) ?_ ?_
 ·
  refine O.kind ag107 mi107 R R R (Bs (α := C1) [.iface 107 (.agg #[])] (kindsV 6) underlying44 el85 H fun v w H hb => ?_)
  obtain ⟨y, z, e, _⟩ := (H.own 10 rfl).shape
  have ov : v.oneCell' = true := by rw [e]; rfl
  refine Bd (v := .agg #[v, .func (.func (doF 6)) #[] #[]]) (fun w => by rw [e]; exact bdf47 _ _ _ _ w) rfl (O.insertNew (β := GFm) 3 ((List.range 6).map cmdNm) (cmdNm 6) (⟨v, 6, ov⟩ : GFm) underlying82 key9 H rfl (formsTo_fst g 6) (by decide +kernel) R R R R fun w H => ?_)
  obtain ⟨g, hg, H⟩ := forms_next (c := 6) hg H
  exact Nl ⟨g, hg, ⟨rfl, rfl, rfl, rfl⟩, H⟩
 clear H hg
 rintro f w ⟨g, hg, hf, H⟩
 obtain ⟨u, rfl⟩ := up4 hf.1 hf.2.1 hf.2.2.1 hf.2.2.2
 clear hf
 refine Cu 5 (fun f w => ∃ g : Nat → GFm, (∀ i, i < 8 → (g i).c = i) ∧ (f 1 = (pt b0) ∧ f 2 = (pt b1) ∧ f 3 = (pt b2) ∧ f 7 = .map (some r)) ∧ Inv w0 w ([boxI b0 107 [], boxI b1 108 [], boxI b2 109 [], mapI r (formsTo g 8)] ++ ownsTo g 8)) ?_ ?_
 ·
  refine O.kind ag107 mi107 R R R (Bs (α := C1) [.iface 107 (.agg #[])] (kindsV 7) underlying44 el85 H fun v w H hb => ?_)
  obtain ⟨y, z, e, _⟩ := (H.own 11 rfl).shape
  have ov : v.oneCell' = true := by rw [e]; rfl
  refine Bd (v := .agg #[v, .func (.func (doF 7)) #[] #[]]) (fun w => by rw [e]; exact bdf47 _ _ _ _ w) rfl (O.insertNew (β := GFm) 3 ((List.range 7).map cmdNm) (cmdNm 7) (⟨v, 7, ov⟩ : GFm) underlying82 key9 H rfl (formsTo_fst g 7) (by decide +kernel) R R R R fun w H => ?_)
  obtain ⟨g, hg, H⟩ := forms_next (c := 7) hg H
  exact Nl ⟨g, hg, ⟨rfl, rfl, rfl, rfl⟩, H⟩
 clear H hg
 rintro f w ⟨g, hg, hf, H⟩
 obtain ⟨u, rfl⟩ := up4 hf.1 hf.2.1 hf.2.2.1 hf.2.2.2
 clear hf
 refine Cu 5 (fun f w => ∃ g : Nat → GFm, (∀ i, i < 9 → (g i).c = i) ∧ (f 1 = (pt b0) ∧ f 2 = (pt b1) ∧ f 3 = (pt b2) ∧ f 7 = .map (some r)) ∧ Inv w0 w ([boxI b0 107 [], boxI b1 108 [], boxI b2 109 [], mapI r (formsTo g 9)] ++ ownsTo g 9)) ?_ ?_
 ·
  refine O.kind ag107 mi107 R R R (Bs (α := C1) [.iface 107 (.agg #[])] (kindsV 8) underlying44 el85 H fun v w H hb => ?_)
  obtain ⟨y, z, e, _⟩ := (H.own 12 rfl).shape
  have ov : v.oneCell' = true := by rw [e]; rfl
  refine Bd (v := .agg #[v, .func (.func (doF 8)) #[] #[]]) (fun w => by rw [e]; exact bdf47 _ _ _ _ w) rfl (O.insertNew (β := GFm) 3 ((List.range 8).map cmdNm) (cmdNm 8) (⟨v, 8, ov⟩ : GFm) underlying82 key9 H rfl (formsTo_fst g 8) (by decide +kernel) R R R R fun w H => ?_)
  obtain ⟨g, hg, H⟩ := forms_next (c := 8) hg H
  exact Nl ⟨g, hg, ⟨rfl, rfl, rfl, rfl⟩, H⟩
 clear H hg
 rintro f w ⟨g, hg, hf, H⟩
 obtain ⟨u, rfl⟩ := up4 hf.1 hf.2.1 hf.2.2.1 hf.2.2.2
 clear hf
 refine Cu 5 (fun f w => ∃ g : Nat → GFm, (∀ i, i < 10 → (g i).c = i) ∧ (f 1 = (pt b0) ∧ f 2 = (pt b1) ∧ f 3 = (pt b2) ∧ f 7 = .map (some r)) ∧ Inv w0 w ([boxI b0 107 [], boxI b1 108 [], boxI b2 109 [], mapI r (formsTo g 10)] ++ ownsTo g 10)) ?_ ?_
 ·
  refine O.kind ag107 mi107 R R R (Bs (α := C1) [.iface 107 (.agg #[])] (kindsV 9) underlying44 el85 H fun v w H hb => ?_)
  obtain ⟨y, z, e, _⟩ := (H.own 13 rfl).shape
  have ov : v.oneCell' = true := by rw [e]; rfl
  refine Bd (v := .agg #[v, .func (.func (doF 9)) #[] #[]]) (fun w => by rw [e]; exact bdf47 _ _ _ _ w) rfl (O.insertNew (β := GFm) 3 ((List.range 9).map cmdNm) (cmdNm 9) (⟨v, 9, ov⟩ : GFm) underlying82 key9 H rfl (formsTo_fst g 9) (by decide +kernel) R R R R fun w H => ?_)
  obtain ⟨g, hg, H⟩ := forms_next (c := 9) hg H
  exact Nl ⟨g, hg, ⟨rfl, rfl, rfl, rfl⟩, H⟩
 clear H hg
 rintro f w ⟨g, hg, hf, H⟩
 obtain ⟨u, rfl⟩ := up4 hf.1 hf.2.1 hf.2.2.1 hf.2.2.2
 clear hf
 refine Cu 5 (fun f w => ∃ g : Nat → GFm, (∀ i, i < 11 → (g i).c = i) ∧ (f 1 = (pt b0) ∧ f 2 = (pt b1) ∧ f 3 = (pt b2) ∧ f 7 = .map (some r)) ∧ Inv w0 w ([boxI b0 107 [], boxI b1 108 [], boxI b2 109 [], mapI r (formsTo g 11)] ++ ownsTo g 11)) ?_ ?_
 ·
  refine O.kind ag109 mi109 R R R (Bs (α := C1) [.iface 109 (.agg #[])] (kindsV 10) underlying44 el85 H fun v w H hb => ?_)
  obtain ⟨y, z, e, _⟩ := (H.own 14 rfl).shape
  have ov : v.oneCell' = true := by rw [e]; rfl
  refine Bd (v := .agg #[v, .func (.func (doF 10)) #[] #[]]) (fun w => by rw [e]; exact bdf47 _ _ _ _ w) rfl (O.insertNew (β := GFm) 3 ((List.range 10).map cmdNm) (cmdNm 10) (⟨v, 10, ov⟩ : GFm) underlying82 key9 H rfl (formsTo_fst g 10) (by decide +kernel) R R R R fun w H => ?_)
  obtain ⟨g, hg, H⟩ := forms_next (c := 10) hg H
  exact Nl ⟨g, hg, ⟨rfl, rfl, rfl, rfl⟩, H⟩
 clear H hg
 rintro f w ⟨g, hg, hf, H⟩
 obtain ⟨u, rfl⟩ := up4 hf.1 hf.2.1 hf.2.2.1 hf.2.2.2
 clear hf
 refine Cu 5 (fun f w => ∃ g : Nat → GFm, (∀ i, i < 12 → (g i).c = i) ∧ (f 1 = (pt b0) ∧ f 2 = (pt b1) ∧ f 3 = (pt b2) ∧ f 7 = .map (some r)) ∧ Inv w0 w ([boxI b0 107 [], boxI b1 108 [], boxI b2 109 [], mapI r (formsTo g 12)] ++ ownsTo g 12)) ?_ ?_
 ·
  refine O.kind ag107 mi107 R R R (Bs (α := C1) [.iface 107 (.agg #[])] (kindsV 11) underlying44 el85 H fun v w H hb => ?_)
  obtain ⟨y, z, e, _⟩ := (H.own 15 rfl).shape
  have ov : v.oneCell' = true := by rw [e]; rfl
  refine Bd (v := .agg #[v, .func (.func (doF 11)) #[] #[]]) (fun w => by rw [e]; exact bdf47 _ _ _ _ w) rfl (O.insertNew (β := GFm) 3 ((List.range 11).map cmdNm) (cmdNm 11) (⟨v, 11, ov⟩ : GFm) underlying82 key9 H rfl (formsTo_fst g 11) (by decide +kernel) R R R R fun w H => ?_)
  obtain ⟨g, hg, H⟩ := forms_next (c := 11) hg H
  exact Nl ⟨g, hg, ⟨rfl, rfl, rfl, rfl⟩, H⟩
 clear H hg
 rintro f w ⟨g, hg, hf, H⟩
 obtain ⟨u, rfl⟩ := up4 hf.1 hf.2.1 hf.2.2.1 hf.2.2.2
 clear hf
 refine Mv (.map (some r)) (As (.map (some r)) (Nl (Rt ?_)))
 have hm : mapI r (formsTo g 12) ∈ ([boxI b0 107 [], boxI b1 108 [], boxI b2 109 [], mapI r (formsTo g 12)] ++ ownsTo g 12) := List.mem_append_left _ (List.mem_of_getElem? (i := 3) rfl)
 have ho : ∀ c, c < 12 → ownI (α := C1) (g c).k 85 (kindsV c) ∈ ([boxI b0 107 [], boxI b1 108 [], boxI b2 109 [], mapI r (formsTo g 12)] ++ ownsTo g 12) := fun c hc => List.mem_append_right _ (List.mem_map.2 ⟨c, List.mem_range.2 hc, rfl⟩)
 refine ends1 results29 rfl ⟨_, rfl, H.base, r, g, rfl, ⟨(H.items _ hm).1, fun c hc => ⟨hg c hc, (H.items _ (ho c hc)).1⟩⟩, fun b hb => ?_⟩
 rcases hb with rfl | ⟨c, hc, hb⟩
 · exact ⟨((H.items _ hm).2 b rfl).1.resolve_right id, ((H.items _ hm).2 b rfl).2⟩
 · exact ⟨((H.items _ (ho c hc)).2 b hb).1.resolve_right id, ((H.items _ (ho c hc)).2 b hb).2⟩

theorem run_lookupZ {P : Program} {w : World} {T : TypeId} {α β : Type} [Flat α] [Flat β] [DecidableEq α] {kT eT : TypeId} {r : Nat} {kv : List (α × β)} {z : Value} (k : α) (hT : P.underlying T = some (.map kT eT)) (hK : KeyT P kT α) (hz : ZeroT P eT z) (hm : MapOk w r kv) :
    (Instr.lookup T (.map (some r)) (Flat.val k) true).run P w = .ok (.tuple #[((mget kv k).map Flat.val).getD z, .bool (mget kv k).isSome]) w := by
  obtain ⟨es, clock, hh, hkv, -⟩ := hm
  have hkeys : es.toList.map (·.key) = (kv.map Prod.fst).map Flat.val := by
    have := congrArg (List.map Prod.fst) hkv
    simpa [List.map_map, Function.comp_def] using this
  have hget : (getObj r).run P w = .ok (.map es clock) w := by simp [getObj, Sem.run, hh]
  simp only [Instr.lookup, Sem.run_bind, run_underlying hT, Result.andThen_ok, Sem.run_pure, hget, hK.ck, hK.fnd k es.toList (kv.map Prod.fst) w hkeys]
  have hg : mget kv k = (((kv.map Prod.fst).findIdx? (· == k)).bind fun i => kv[i]?).map (·.2) := by rw [mget, find_idx]
  rw [hg]
  cases hf : (kv.map Prod.fst).findIdx? (· == k) with
  | none => simp [run_zeroValue' hz]
  | some i =>
    have hi : i < kv.length := by
      have := (List.findIdx?_eq_some_iff_getElem.1 hf).1
      simpa using this
    have hlen : es.toList.length = kv.length := by simpa using congrArg List.length hkv
    have hie : i < es.toList.length := by omega
    have hv : (es.toList[i]).val = Flat.val (kv[i]).2 := by
      have := congrArg (fun l => l[i]?) hkv
      simp only [List.getElem?_map, List.getElem?_eq_getElem hie, List.getElem?_eq_getElem hi, Option.map_some, Option.some.injEq, Prod.mk.injEq] at this
      exact this.2
    simp only [Option.bind_some, List.getElem?_eq_getElem hie, List.getElem?_eq_getElem hi, Option.map_some]
    have hv2 : (es[i]'(by simpa using hie)).val = Flat.val (kv[i]).2 := by simpa using hv
    simp [hv2]
theorem lookup_form {kT eT T : TypeId} {r : Nat} {g : Nat → GFm} {w : World} (hT : prog.underlying T = some (.map kT eT)) (hK : KeyT prog kT ByteArray) (hz : ZeroT prog eT (.agg #[.slice none 0 0, .nilFunc])) (x : ByteArray) (hm : MapOk w r (formsKV g)) :
    ((Instr.lookup T (.map (some r)) (.string x) true).run prog w).andThen (fun v w => (pure (.value v) : Sem Next).run prog w) = .ok (.value (.tuple #[match cmdOf x with | some c => Flat.val (g c) | none => (.agg #[.slice none 0 0, .nilFunc]), .bool (cmdOf x).isSome])) w := by
  have h := run_lookupZ (k := x) hT hK hz hm
  rw [forms_get] at h
  rw [show Value.string x = Flat.val x from rfl, h]
  cases cmdOf x <;> rfl
theorem kind_check1 {P : Program} {f : Fr} {x : Operand} {d : Option Nat} {T t : TypeId} {pos nm : String} {aft : Array Edge} {g : Option (Nat × Bool)} (hn : ∀ w : World, (nilAhead (P.types.size + Made.depth) t (.agg #[]) nm).run P w = .ok (some false) w) (hx : ev f x = .func (.method nm) #[.iface t (.agg #[])] #[]) (w : World) :
    (execOp (ev f) ⟨d, .nilCheck x, T, pos, aft, g⟩).run P w = .ok (.value (.func (.method nm) #[.iface t (.agg #[])] #[])) w := by
  have hp : (program : Sem Program).run P w = .ok P w := rfl
  simp [execOp, hx, hp, hn]
theorem na107 : ∀ w : World, (nilAhead (prog.types.size + Made.depth) 107 (.agg #[]) "noongun/station.right").run prog w = .ok (some false) w := fun w => by kernel_rfl
theorem cm107 : ∀ (x : Value) (w : World), (invoke (.fn (.method "noongun/station.right") #[]) #[.iface 107 (.agg #[]), x]).run prog w = .ok (.enter 255 #[.agg #[], x]) w := fun x w => by kernel_rfl
theorem na108 : ∀ w : World, (nilAhead (prog.types.size + Made.depth) 108 (.agg #[]) "noongun/station.right").run prog w = .ok (some false) w := fun w => by kernel_rfl
theorem cm108 : ∀ (x : Value) (w : World), (invoke (.fn (.method "noongun/station.right") #[]) #[.iface 108 (.agg #[]), x]).run prog w = .ok (.enter 256 #[.agg #[], x]) w := fun x w => by kernel_rfl
theorem na109 : ∀ w : World, (nilAhead (prog.types.size + Made.depth) 109 (.agg #[]) "noongun/station.right").run prog w = .ok (some false) w := fun w => by kernel_rfl
theorem cm109 : ∀ (x : Value) (w : World), (invoke (.fn (.method "noongun/station.right") #[]) #[.iface 109 (.agg #[]), x]).run prog w = .ok (.enter 260 #[.agg #[], x]) w := fun x w => by kernel_rfl
theorem kind_check (j : Nat) {f : Fr} {x : Operand} {d : Option Nat} {T : TypeId} {pos : String} {aft : Array Edge} {g : Option (Nat × Bool)} (hx : ev f x = .func (.method "noongun/station.right") #[(kindC j).v] #[]) (w : World) :
    (execOp (ev f) ⟨d, .nilCheck x, T, pos, aft, g⟩).run prog w = .ok (.value (.func (.method "noongun/station.right") #[(kindC j).v] #[])) w := by
  match j, hx with
  | 0, hx => exact kind_check1 na107 hx w
  | 1, hx => exact kind_check1 na108 hx w
  | j + 2, hx => exact kind_check1 na109 hx w
  section
  variable {P : Program} {n : Nat} {ds : Md} {ops : Array Oper} {rest : List Oper} {K : Fr → World → Prop} {f : Fr} {w : World} {T T' T0 : TypeId} {pos : String} {aft : Array Edge} {g : Option (Nat × Bool)} {d : Nat}
theorem O.callM1 {recv a : Operand} {name : String} {at_ : Array TypeId} {t : TypeId} {u x : Value} {k : FuncId} {φ : World → Value → Prop} (hM : ∀ (x : Value) (w : World), (invoke (.fn (.method name) #[]) #[.iface t u, x]).run P w = .ok (.enter k #[u, x]) w)
    (hg : want ops g f = true) (hd : Nat.blt d n = true) (hr : ev f recv = .iface t u) (ha : ev f a = x) (hc : Calls P k #[u, x] w (Ret w φ))
    (h : ∀ v w', Go.RowKit.Below w.heap.size w w' → φ w' v → WL P n ds ops rest K (upd f d v) w') : WL P n ds ops (⟨some d, .call ⟨.invoke recv name, #[a], at_⟩, T, pos, aft, g⟩ :: rest) K f w := by
  refine WL.enter hg hd (k := k) (args := #[u, x]) ?_ (hc.mono ?_)
  · simp only [execOp, resolve, hr, List.map_toArray, Sem.run_bind, Sem.run_pure, Result.andThen_ok]
    simpa [ha] using hM x w
  · rintro e w' ⟨v, rfl, hb, hφ⟩
    exact ⟨v, rfl, h v w' hb hφ⟩
end
theorem kind_call {n : Nat} {ds : Md} {ops : Array Oper} {rest : List Oper} {K : Fr → World → Prop} {f : Fr} {w : World} {T : TypeId} {pos : String} {aft : Array Edge} {g : Option (Nat × Bool)} {d : Nat} {recv x : Operand} {at_ : Array TypeId} {j : Nat} {wi : ByteArray} {b : Bool} (hr : rightK j wi = some b) (hT : EnvS prog 0 4 5 7 w)
    (hg : want ops g f = true) (hd : Nat.blt d n = true) (hv : ev f recv = (kindC j).v) (hx : ev f x = .string wi) (h : ∀ w', Go.RowKit.Below w.heap.size w w' → WL prog n ds ops rest K (upd f d (.bool b)) w') :
    WL prog n ds ops (⟨some d, .call ⟨.invoke recv "noongun/station.right", #[x], at_⟩, T, pos, aft, g⟩ :: rest) K f w := by
  match j, hr, hv with
  | 0, hr, hv =>
    refine O.callM1 cm107 hg hd hv hx (c_station_number_right hT _ hr) ?_
    rintro _ w1 hb rfl
    exact h w1 hb
  | 1, hr, hv =>
    refine O.callM1 cm108 hg hd hv hx (c_station_signed_right hT _ hr) ?_
    rintro _ w1 hb rfl
    exact h w1 hb
  | j + 2, hr, hv =>
    refine O.callM1 cm109 hg hd hv hx (c_station_digits_right _ hr) ?_
    rintro _ w1 hb rfl
    exact h w1 hb
set_option maxRecDepth 20000 in
theorem c_station_parsed {w0 : World} (hT : EnvS prog 0 4 5 7 w0) (a0 : ByteArray) {r0 : Option (Nat × List ByteArray)} (hm : station_parsed a0 = some r0) : Calls prog 15 #[(.string a0)] w0 (Ret w0 fun w v => ParP w0 w r0 v) := by
 unfold station_parsed at hm
 refine cW func15 ntmps15 ?_
 have H := Inv.start (w := w0)
 refine Sq (Rg (Al [.slice none 0 0, .nilFunc] ze47 H fun b0 w1 H hb1 => As (.slice none 0 0) (As (.bool false) (Nl (Sq ?_)))))
 obtain ⟨b, hb, hm⟩ := bind_some hm
 refine Sq (Rg (Mv (.string a0) (Ca call27 (c_station_proper _ hb) ?_)))
 rintro _ w2 hb2 rfl
 have H := H.ext hb2
 refine O.not R R R (Nl ?_)
 cases b with
 | false =>
  refine Ct rfl ?_
  obtain rfl := sj (show some none = some r0 from hm)
  refine Sq (Rg (Bd (v := (.agg #[.slice none 0 0, .nilFunc])) (fun w => by kernel_rfl) rfl (St 0 0 [.slice none 0 0, .nilFunc] [.slice none 0 0, .nilFunc] sz47 H R R (one_cons rfl (one_cons rfl one_nil)) fun w3 H => As (.slice none 0 0) (As (.bool false) (Nl (Rt ?_))))))
  skip
  exact ends3 results15 ⟨_, rfl, run_loadVar_agg ag47 rfl (H.cell 0 rfl)⟩ R R ⟨_, rfl, H.base, rfl⟩
 | true =>
 refine Cf rfl (Sk ?_)
 obtain ⟨l, hl, hm⟩ := bind_some (show ((strings_Split a0 ⟨#[32]⟩).bind _) = some r0 from hm)
 refine Sq (Rg (Mv (.string a0) (Ca call28 (c_strings_Split (hT.mono H.base) _ _ hl) ?_)))
 rintro vl w3 hb3 ho
 have H := H.addOwn hb3 ho
 refine As vl (Nl ?_)
 cases l with
 | nil => cases hm
 | cons x xs =>
 refine Sq ?_
 have H := H.addGone
 have H := H.addGone
 obtain ⟨FV, hFV⟩ : ∃ FV : (Nat → GFm) → Value, FV = fun g => match cmdOf x with | some c => Flat.val (g c) | none => (.agg #[.slice none 0 0, .nilFunc]) := ⟨_, rfl⟩
 obtain ⟨FC, hFC⟩ : ∃ FC : (Nat → GFm) → List Value, FC = fun g => match cmdOf x with | some c => Flat.cells (g c) | none => [.slice none 0 0, .nilFunc] := ⟨_, rfl⟩
 have hVC : ∀ g, (FV g).cells = (FC g).toArray := by
  intro g
  rw [hFV, hFC]
  cases cmdOf x with
  | none => rfl
  | some c => exact Array.toList_inj.1 (Flat.hval (g c))
 have hCl : ∀ g, (FC g).length = 2 := by
  intro g
  rw [hFC]
  cases cmdOf x with
  | none => rfl
  | some c => exact Flat.len (g c)
 have hC1 : ∀ g, ∀ u ∈ FC g, u.oneCell' = true := by
  intro g
  rw [hFC]
  cases cmdOf x with
  | none => exact one_cons rfl (one_cons rfl one_nil)
  | some c => exact Flat.one (g c)
 have hCk : ∀ g, ((FC g).length = 2 ∧ Nat.ble (0 + (FC g).length) [Value.slice none 0 0, .nilFunc].length = true) ∧ [Value.slice none 0 0, .nilFunc].take 0 ++ FC g ++ [Value.slice none 0 0, .nilFunc].drop (0 + (FC g).length) = FC g := by
  intro g
  rw [hCl]
  exact ⟨⟨rfl, rfl⟩, by simp⟩
 refine W.drawD 10 [[], [], [1], [1, 2], [0, 1, 2, 3], [0, 1, 2, 3, 4], [0, 1, 2, 3, 4, 5], [0, 1, 2, 3, 4, 5], [], [0, 1, 2, 3, 4, 5, 6, 8]] [[4, 5, 6, 7, 9], [2, 3, 4, 5, 6, 7, 9], [3, 4, 5, 6, 7, 9], [4, 5, 6, 7, 9], [5, 6, 7, 9], [6, 7, 9], [9], [], [9], []]
  (fun S f w => ∃ (r : Nat) (g : Nat → GFm) (p : Addr) (b1 : Nat), (f 2 = (pt b0) ∧ f 5 = vl) ∧ Inv w0 w [boxI b0 47 [.slice none 0 0, .nilFunc], o9 vl (x :: xs), cond (S 9) (boxI b1 47 (FC g)) (cond (S 8) (boxI b1 47 [.slice none 0 0, .nilFunc]) goneI), cond (S 0) (formI r g) goneI] ∧
   (S 0 = true → f 17 = .map (some r)) ∧ (S 1 = true → f 18 = vl) ∧ (S 2 = true → f 19 = .pointer (some p) ∧ (S 9 = false → ElemAt w p x)) ∧ (S 3 = true → f 20 = .string x) ∧ (S 4 = true → f 21 = .tuple #[FV g, .bool (cmdOf x).isSome]) ∧
   (S 5 = true → f 16 = .tuple #[FV g, .bool (cmdOf x).isSome]) ∧ (S 6 = true → f 22 = FV g) ∧ (S 7 = true → f 23 = .bool (cmdOf x).isSome) ∧ (S 8 = true → f 6 = (pt b1))) fol (by kernel_rfl) ?_ ?_ ?_
 · exact fun d _ => ⟨0, fun _ => ⟨.nilFunc, 0, rfl⟩, ⟨0, 0, none⟩, 0, ⟨rfl, rfl⟩, H.ext (below_drawn d), nF, nF, nF, nF, nF, nF, nF, nF, nF⟩
 ·
  refine ⟨?_, ⟨?_, ⟨?_, ⟨?_, ⟨?_, ⟨?_, ⟨?_, ⟨?_, ⟨?_, ⟨?_, trivial⟩⟩⟩⟩⟩⟩⟩⟩⟩⟩
  ·
   rintro S f w hS - ⟨e4, e5, e6, e7, e9, -⟩ ⟨_, _, p, b1, k, H, -, h1, h2, h3, -, -, -, -, h8⟩
   have H := H.cF 2 e9 rfl
   refine Ca call29 c_station_forms ?_
   rintro _ w4 hb4 ⟨r, g, rfl, hok, hfp⟩
   have H := H.add hb4 (formI r g) hok hfp
   exact Nl ⟨r, g, p, b1, k, (H.pick [0, 1, 2, 4] [boxI b0 47 [.slice none 0 0, .nilFunc], o9 vl (x :: xs), cond (S 8) (boxI b1 47 [.slice none 0 0, .nilFunc]) goneI, formI r g] rfl (by decide)).rF 2 (x := boxI b1 47 (FC g)) e9 rfl, fun _ => rfl, h1, fun a => ⟨(h2 a).1, fun a9 => ((h2 a).2 a9).mono hb4⟩, h3, nX e4, nX e5, nX e6, nX e7, h8⟩
  ·
   rintro S f w hS - - ⟨r, g, p, b1, k, H, h0, h1, h2, h3, h4, h5, h6, h7, h8⟩
   obtain ⟨u, rfl⟩ := up1 k.2
   exact Mv vl (Nl ⟨r, g, p, b1, k, H, h0, fun _ => rfl, h2, h3, h4, h5, h6, h7, h8⟩)
  ·
   rintro S f w hS ⟨e1, -⟩ ⟨e3, -⟩ ⟨r, g, _, b1, k, H, h0, h1, -, h3, h4, h5, h6, h7, h8⟩
   obtain ⟨u, rfl⟩ := up1 (h1 e1)
   exact Ia underlying48 sz9 (H.own 1 rfl) (i := 0) (x := x) rfl fun p hp => Nl ⟨r, g, p, b1, k, H, h0, h1, fun _ => ⟨rfl, fun _ => hp⟩, h3, h4, h5, h6, h7, h8⟩
  ·
   rintro S f w hS ⟨e1, e2, -⟩ ⟨-, -, -, -, e9, -⟩ ⟨r, g, p, b1, k, H, h0, h1, h2, h3, h4, h5, h6, h7, h8⟩
   obtain ⟨u, rfl⟩ := up1 (h2 e2).1
   exact Ld (.string x) sc9 (((h2 e2).2 e9).flat 0 _ rfl) (Nl ⟨r, g, p, b1, k, H, h0, h1, h2, fun _ => rfl, h4, h5, h6, h7, h8⟩)
  ·
   rintro S f w hS ⟨e0, e1, e2, e3, -⟩ - ⟨r, g, p, b1, k, H, h0, h1, h2, h3, h4, h5, h6, h7, h8⟩
   obtain ⟨u, rfl⟩ := up2 (h0 e0) (h3 e3)
   refine WL.val R R (w' := w) (v := .tuple #[FV g, .bool (cmdOf x).isSome]) ?_ (Nl ⟨r, g, p, b1, k, H, h0, h1, h2, h3, fun _ => rfl, h5, h6, h7, h8⟩)
   have hmo := ((H.cT 3 e0 rfl).form 3 rfl).1
   have hl := lookup_form underlying82 key9 ze47 x hmo
   simp only [execOp, ev, upd, cond, Sem.run_bind]
   subst hFV
   exact hl
  ·
   rintro S f w hS ⟨e0, e1, e2, e3, e4, -⟩ - ⟨r, g, p, b1, k, H, h0, h1, h2, h3, h4, h5, h6, h7, h8⟩
   obtain ⟨u, rfl⟩ := up1 (h4 e4)
   exact Mv (.tuple #[FV g, .bool (cmdOf x).isSome]) (Nl ⟨r, g, p, b1, k, H, h0, h1, h2, h3, h4, fun _ => rfl, h6, h7, h8⟩)
  ·
   rintro S f w hS ⟨e0, e1, e2, e3, e4, e5, -⟩ - ⟨r, g, p, b1, k, H, h0, h1, h2, h3, h4, h5, h6, h7, h8⟩
   obtain ⟨u, rfl⟩ := up1 (h5 e5)
   exact Xt (FV g) (Nl ⟨r, g, p, b1, k, H, h0, h1, h2, h3, h4, h5, fun _ => rfl, h7, h8⟩)
  ·
   rintro S f w hS ⟨e0, e1, e2, e3, e4, e5, -⟩ - ⟨r, g, p, b1, k, H, h0, h1, h2, h3, h4, h5, h6, h7, h8⟩
   obtain ⟨u, rfl⟩ := up1 (h5 e5)
   exact Xt (.bool (cmdOf x).isSome) (Nl ⟨r, g, p, b1, k, H, h0, h1, h2, h3, h4, h5, h6, fun _ => rfl, h8⟩)
  ·
   rintro S f w hS - ⟨e9, -⟩ ⟨r, g, p, _, k, H, h0, h1, h2, h3, h4, h5, h6, h7, -⟩
   exact Al [.slice none 0 0, .nilFunc] ze47 H fun b1 w4 H hb4 => Nl ⟨r, g, p, b1, k, (H.pick [0, 1, 4, 3] [boxI b0 47 [.slice none 0 0, .nilFunc], o9 vl (x :: xs), boxI b1 47 [.slice none 0 0, .nilFunc], cond (S 0) (formI r g) goneI] rfl (by decide)).rF 2 (x := boxI b1 47 (FC g)) e9 rfl, h0, h1, fun a => ⟨(h2 a).1, fun a9 => ((h2 a).2 a9).mono hb4⟩, h3, h4, h5, h6, h7, fun _ => rfl⟩
  ·
   rintro S f w hS ⟨e0, e1, e2, e3, e4, e5, e6, e8, -⟩ - ⟨r, g, p, b1, k, H, h0, h1, h2, h3, h4, h5, h6, h7, h8⟩
   have H := (H.cF 2 hS rfl).cT 2 e8 rfl
   obtain ⟨u, rfl⟩ := up2 (h6 e6) (h8 e8)
   exact St 2 0 (FC g) (FC g) sz47 H R R R R R (hVC g) (hCk g) (hC1 g) fun w4 H => Nl ⟨r, g, p, b1, k, H, h0, h1, fun a => ⟨(h2 a).1, fun a9 => nT (b := true) rfl a9⟩, h3, h4, h5, h6, h7, h8⟩
 rintro S f w ⟨e0, e1, e2, e3, e4, e5, e6, e7, e8, e9, -⟩ ⟨r, g, p, b1, k, H, -, -, -, -, -, -, h6, h7, h8⟩
 have H : Inv w0 w [boxI b0 47 [.slice none 0 0, .nilFunc], o9 vl (x :: xs), boxI b1 47 (FC g), formI r g] := (H.cT 2 e9 rfl).cT 3 e0 rfl
 have h6 := h6 e6
 have h7 := h7 e7
 rw [hFV] at h6
 have hcut : cutI (x :: xs) 1 (((x :: xs).length : Nat) : Int) = some xs := by
  unfold cutI
  rw [if_pos ⟨by omega, by rw [List.length_cons]; omega, Int.le_refl _⟩]
  simp
 have hm : (match cmdOf x with | none => some none | some c => if xs.length = (kindsOf c).length then (rightAll (kindsOf c) xs).bind fun b => some (if b = true then some (c, xs) else none) else some none) = some r0 := hm
 rcases hcm : cmdOf x with _ | c
 ·
  rw [hcm] at h6 h7 hm
  obtain ⟨u, rfl⟩ := up5 k.1 k.2 h6 h7 (h8 e8)
  have hc0 : FC g = [.slice none 0 0, .nilFunc] := by
   rw [hFC]
   show (match cmdOf x with | some c => Flat.cells (g c) | none => [.slice none 0 0, .nilFunc]) = _
   rw [hcm]
  rw [hc0] at H
  refine As (.bool false) (Nl (Sq (Rg (Mv vl (O.sliceLs underlying48 sz9 (H.own 1 rfl) hcut R R R R fun vw hvw => As vw (Nl (Sq (Sq (Rg (Mv (.bool false) (O.not R R R ?_)))))))))))
  refine Mv (.bool true) (Sp (Sp (Sp (Sp (Sp (Sp (Pt (.bool true) (Nl (Ct rfl ?_)))))))))
  obtain rfl := sj (show some none = some r0 from hm)
  refine Sq (Rg (Bd (v := (.agg #[.slice none 0 0, .nilFunc])) (fun w => by kernel_rfl) rfl (St 0 0 [.slice none 0 0, .nilFunc] [.slice none 0 0, .nilFunc] sz47 H R R (one_cons rfl (one_cons rfl one_nil)) fun w6 H => As (.slice none 0 0) (As (.bool false) (Nl (Rt ?_))))))
  skip
  exact ends3 results15 ⟨_, rfl, run_loadVar_agg ag47 rfl (H.cell 0 rfl)⟩ R R ⟨_, rfl, H.base, rfl⟩
 rw [hcm] at h6 h7 hm
 have hc12 := cmdOf_lt hcm
 obtain ⟨hgc, _⟩ := (H.form 3 rfl).2 c hc12
 have hgo := (g c).one
 obtain ⟨kv, hkv⟩ : ∃ kv, kv = (g c).k := ⟨_, rfl⟩
 have h6 : f 22 = .agg #[kv, .func (.func (doF c)) #[] #[]] := by rw [h6, hkv]; show Value.agg #[(g c).k, .func (.func (doF (g c).c)) #[] #[]] = _; rw [hgc]
 rw [← hkv] at hgo
 obtain ⟨u, rfl⟩ := up5 k.1 k.2 h6 h7 (h8 e8)
 have hc0 : FC g = [kv, .func (.func (doF c)) #[] #[]] := by
  rw [hFC]
  show (match cmdOf x with | some c => Flat.cells (g c) | none => [.slice none 0 0, .nilFunc]) = _
  rw [hcm]
  show [(g c).k, .func (.func (doF (g c).c)) #[] #[]] = _
  rw [hgc, hkv]
 rw [hc0] at H
 refine As (.bool true) (Nl (Sq (Rg (Mv vl (O.sliceLs underlying48 sz9 (H.own 1 rfl) hcut R R R R fun vw hvw => As vw (Nl (Sq (Sq (Rg (Mv (.bool true) (O.not R R R ?_)))))))))))
 refine Mv (.bool false) (Mv vw (Ln underlying48 (hvw _ (H.own 1 rfl)) (Fa fd47_0 rfl (Ld _ sc44 (H.cell 2 rfl 0 _ rfl) ?_))))
 have hks : SliceR w kv (kindsV c) := hkv ▸ ((H.form 3 rfl).2 c hc12).2
 refine Ln underlying44 hks (Ne_ (Pf (.bool (((xs.length : Nat) : Int) != (((kindsV c).length : Nat) : Int))) (Nl ?_)))
 have hkl : (kindsV c).length = (kindsOf c).length := List.length_map _
 by_cases hlen : xs.length = (kindsOf c).length
 case neg =>
  refine Ct (cb (bne_iff_ne.2 (by rw [hkl]; omega))) ?_
  dsimp only at hm
  rw [if_neg hlen] at hm
  obtain rfl := sj hm
  refine Sq (Rg (Bd (v := (.agg #[.slice none 0 0, .nilFunc])) (fun w => by kernel_rfl) rfl (St 0 0 [.slice none 0 0, .nilFunc] [.slice none 0 0, .nilFunc] sz47 H R R (one_cons rfl (one_cons rfl one_nil)) fun w6 H => As (.slice none 0 0) (As (.bool false) (Nl (Rt ?_))))))
  skip
  exact ends3 results15 ⟨_, rfl, run_loadVar_agg ag47 rfl (H.cell 0 rfl)⟩ R R ⟨_, rfl, H.base, rfl⟩
 refine Cf (cb (by rw [hkl, hlen]; exact bne_self_eq_false _)) (Sk ?_)
 dsimp only at hm
 rw [if_pos hlen] at hm
 obtain ⟨bb, hbb, hm⟩ := bind_some hm
 obtain rfl := sj hm
 refine Sq (Sq (Rg (Fa fd47_0 rfl (Ld _ sc44 (H.cell 2 rfl 0 _ rfl) (Ln underlying44 hks (Mv (vi 0) (Nl (Bk ?_))))))))
 refine W.loopL (l := kindsV c) (fun rem f w => ∃ i : Nat, (kindsV c).drop i = rem ∧ rightAll ((kindsOf c).drop i) (xs.drop i) = some bb ∧ (f 2 = (pt b0) ∧ f 5 = vw ∧ f 6 = (pt b1) ∧ f 38 = kv ∧ f 39 = .int .i64 (((kindsV c).length : Nat) : Int) ∧ f 40 = .int .i64 (i : Int)) ∧
  Inv w0 w [boxI b0 47 [.slice none 0 0, .nilFunc], o9 vl (x :: xs), boxI b1 47 [kv, .func (.func (doF c)) #[] #[]], formI r g]) ?_ ?_ ?_
 · exact ⟨0, List.drop_zero, hbb, ⟨rfl, rfl, rfl, rfl, rfl, rfl⟩, H⟩
 ·
  rintro y ys f w ⟨i, hd, hra, hf, H⟩
  have hlt := drop_lt hd; have hix := drop_idx hd
  obtain ⟨u, rfl⟩ := up6 hf.1 hf.2.1 hf.2.2.1 hf.2.2.2.1 hf.2.2.2.2.1 hf.2.2.2.2.2
  have hks : SliceR w kv (kindsV c) := hkv ▸ ((H.form 3 rfl).2 c hc12).2
  have hinc := addI_lt hlt hks.len_le
  have hi : i < (kindsOf c).length := by rw [hkl] at hlt; omega
  have hj := List.drop_eq_getElem_cons hi
  have hi2 : i < xs.length := by omega
  have hw := List.drop_eq_getElem_cons hi2
  generalize (kindsOf c)[i] = j at hj
  generalize hwi : xs[i] = wi at hw
  have hy : y = kindC j := by
   have : (kindsV c).drop i = ((kindsOf c).drop i).map kindC := (List.map_drop ..).symm
   rw [hd, hj, List.map_cons] at this
   exact (List.cons.inj this).1
  subst hy
  rw [hj, hw, rightAll] at hra
  obtain ⟨b2, hr2, hra⟩ := bind_some hra
  refine Sq (Rg (Ls (Nl (Sq (Ct (cb (decide_eq_true hlt)) (Sk (Sq (Bk (Sq (Rg (Mv (vi (i : Int)) (Ia underlying44 sz85 hks hix fun p1 hp1 => ?_))))))))))))
  refine Ld (kindC j).v sc85 (hp1.flat 0 _ rfl) (As (vi (i : Int)) (As (kindC j).v (Nl (Sq ?_))))
  obtain ⟨wd, hwd⟩ : ∃ x, x = w := ⟨w, rfl⟩
  subst hwd
  obtain ⟨p2, hp2, hr3⟩ := fix_indexAddr underlying48 sz9 (hvw _ (H.own 1 rfl)) (i := (i : Int)) (x := wi) (by rw [idx_nat, List.getElem?_eq_getElem hi2, hwi])
  refine W.drawN 8 (fun f => (f 2 = (pt b0) ∧ f 5 = vw ∧ f 6 = (pt b1) ∧ f 38 = kv ∧ f 39 = .int .i64 (((kindsV c).length : Nat) : Int) ∧ f 40 = .int .i64 (i : Int)) ∧ f 49 = .string wi ∧ f 52 = (kindC j).v) fol (by kernel_rfl) ?_ ?_
  ·
   exact Pl (fun _ wk _ hx => Mv (kindC j).v (Nl ⟨rfl, hx⟩)) (Pl (fun _ wk _ hx => Mv vw (Nl ⟨rfl, hx⟩)) (Pl (fun _ wk _ hx => Mv (vi (i : Int)) (Nl ⟨rfl, hx⟩)) (Pl (fun _ wk _ hx => hr3 R R R R (Nl ⟨rfl, hx⟩)) (Pl (fun _ wk _ hx => Ld (.string wi) sc9 ((hp2.mono hx).flat 0 _ rfl) (Nl ⟨rfl, hx⟩)) (Pl (fun _ wk _ hx => Mf (v1 := [(kindC j).v]) (v2 := []) (Nl ⟨rfl, hx⟩)) (Pl (fun _ wk _ hx => WL.val (v := .func (.method "noongun/station.right") #[(kindC j).v] #[]) R R (kind_check j rfl wk) (Nl ⟨rfl, hx⟩)) (Pl (fun _ wk _ hx => Mv (kindC j).v (Nl ⟨rfl, hx⟩)) ⟨⟨rfl, rfl, rfl, rfl, rfl, rfl⟩, rfl, rfl⟩)))))))
  rintro f wk ⟨hf, hf49, hf52⟩ _ hx
  have H := H.ext hx
  obtain ⟨u, rfl⟩ := up8 hf.1 hf.2.1 hf.2.2.1 hf.2.2.2.1 hf.2.2.2.2.1 hf.2.2.2.2.2 hf49 hf52
  have hgo : ∀ (K : Fr → World → Prop) (f : Fr) (ops rest : List Oper), True := fun _ _ _ _ => trivial
  refine kind_call (j := j) (wi := wi) hr2 (hT.mono H.base) R R R R fun w6 hb6 => ?_
  have H := H.ext hb6
  refine O.not R R R (Nl ?_)
  cases b2 with
  | false =>
   refine Ct rfl ?_
   obtain rfl : false = bb := sj hra
   refine Sq (Rg (Bd (v := (.agg #[.slice none 0 0, .nilFunc])) (fun w => by kernel_rfl) rfl (St 0 0 [.slice none 0 0, .nilFunc] [.slice none 0 0, .nilFunc] sz47 H R R (one_cons rfl (one_cons rfl one_nil)) fun w7 H => As (.slice none 0 0) (As (.bool false) (Nl (Rt ?_))))))
   skip
   exact ends3 results15 ⟨_, rfl, run_loadVar_agg ag47 rfl (H.cell 0 rfl)⟩ R R ⟨_, rfl, H.base, rfl⟩
  | true =>
   exact Cf rfl (Sk (Rg (Ad hinc (Mv (vi ((i : Int) + 1)) (Nl ⟨i + 1, drop_next hd, hra, ⟨rfl, rfl, rfl, rfl, rfl, rfl⟩, H⟩)))))
 ·
  rintro f w ⟨i, hd, hra, hf, H⟩
  have hlt := drop_end hd
  obtain ⟨u, rfl⟩ := up6 hf.1 hf.2.1 hf.2.2.1 hf.2.2.2.1 hf.2.2.2.2.1 hf.2.2.2.2.2
  have hz : (kindsOf c).drop i = [] := List.drop_eq_nil_iff.2 (by rw [hkl] at hlt; omega)
  rw [hz, rightAll] at hra
  obtain rfl := sj hra
  refine Sq (Rg (Ls (Nl (Sq (Cf (cb (decide_eq_false hlt)) (Ex (xT rfl (Sq (Rg (La [kv, .func (.func (doF c)) #[] #[]] ag47 (H.cell 2 rfl) (Mv vw (St 0 0 [kv, .func (.func (doF c)) #[] #[]] [kv, .func (.func (doF c)) #[] #[]] sz47 H R R (one_cons hgo (one_cons rfl one_nil)) fun w6 H => ?_))))))))))))
  refine As vw (As (.bool true) (Nl (Rt ?_)))
  obtain ⟨hok, hfp⟩ := H.items _ (List.mem_of_getElem? (i := 1) rfl)
  have hown : w6.ownsRow 0 9 (Flat.size ByteArray) vl (x :: xs).length ((x :: xs).flatMap Flat.cells) := hok
  obtain ⟨hq0, ⟨_, hn⟩ | ⟨gb, cap, cur, hv, hge, hh, hq⟩⟩ := hown
  · simp at hn
  refine ends3 results15 ⟨_, rfl, run_loadVar_agg ag47 rfl (H.cell 0 rfl)⟩ R R ⟨_, rfl, H.base, kv, vw, gb, _, rfl, ⟨(hfp gb (by rw [hv]; rfl)).1.resolve_right id, hh⟩, fun w2 h2 => ?_, hc12, hgo⟩
  exact hvw w2 (ownsRow_sliceR (B := 0) (E := 9) ⟨hq0, .inr ⟨gb, cap, cur, hv, Nat.zero_le _, h2, hq⟩⟩)

theorem c_station_copyNet {w0 : World} (va0_0 : Value) (va0_1 : Value) (a0 : GNet) (ha0_0 : SliceR w0 va0_0 a0.Rates) (ha0_1 : SliceR w0 va0_1 a0.Sights) {r0 : GNet} (hm : station_copyNet a0 = some r0) :
  Calls prog 19 #[(.agg #[va0_0, va0_1])] w0 (Ret w0 fun w v => ∃ vr0_0 : Value, ∃ vr0_1 : Value, v = (.agg #[vr0_0, vr0_1]) ∧ Inv w0 w [o3 vr0_0 r0.Rates, o92 vr0_1 r0.Sights]) := by
 unfold station_copyNet at hm
 refine cW func19 ntmps19 ?_
 have H := Inv.start (w := w0)
 refine Sq (Rg (Bx [va0_0, va0_1] H fun b1 w1 H hb1 => Al [(.slice none 0 0), (.slice none 0 0)] ze29 H fun b2 w2 H hb2 => ?_))
 have H := H.addNil (α := Int) (E := 3)
 have H := H.addNil (α := GSight) (E := 92)
 refine Nl (Sq ?_)
 obtain ⟨t1, hy1, hm⟩ := bind_some hm
 have H := H.addGone
 refine W.drawD 5 [[], [0], [0, 1], [], [3]] [[1, 2], [2], [], [4], []] (fun S f w => ∃ v1 : Value, (f 1 = (pt b1) ∧ f 2 = (pt b2)) ∧ Inv w0 w [boxI b1 29 [va0_0, va0_1], boxI b2 29 [(.slice none 0 0), (.slice none 0 0)], o3 (.slice none 0 0) ([] : List Int), o92 (.slice none 0 0) ([] : List GSight), cond (S 2) (o3 v1 t1) goneI] ∧ (S 0 = true → f 3 = (.pointer (some (Addr.add (Addr.mk b1 0 none) 0)))) ∧ (S 1 = true → f 4 = va0_0) ∧ (S 2 = true → f 5 = v1) ∧ (S 3 = true → f 6 = (.pointer (some (Addr.add (Addr.mk b1 0 none) 1)))) ∧ (S 4 = true → f 7 = va0_1)) fol (by kernel_rfl) ?_ ?_ ?_
 ·
  exact fun d _ => ⟨.nilFunc, ⟨rfl, rfl⟩, H.ext (below_drawn d), nF, nF, nF, nF, nF⟩
 ·
  refine ⟨?_, ⟨?_, ⟨?_, ⟨?_, ⟨?_, trivial⟩⟩⟩⟩⟩
  ·
   rintro S f w hS - ⟨e1, e2, -⟩ ⟨v1, k, H, q0, t⟩
   obtain ⟨u1, rfl⟩ := up1 k.1
   exact Fa fd29_0 rfl (Nl ⟨v1, k, H, (fun _ => rfl), t⟩)
  ·
   rintro S f w hS ⟨e0, -⟩ ⟨e2, -⟩ ⟨v1, k, H, q0, q1, t⟩
   obtain ⟨u2, rfl⟩ := up1 (q0 e0)
   exact Ld _ sc26 (H.cell 0 rfl 0 _ rfl) (Nl ⟨v1, k, H, q0, (fun _ => rfl), t⟩)
  ·
   rintro S f w hS ⟨e0, e1, -⟩ - ⟨_, k, H, q0, q1, q2, t⟩
   obtain ⟨u3, rfl⟩ := up1 (q1 e1)
   have H := H.cF 4 hS rfl
   refine Ca call21 (c_slices_Clone_int _ _ (H.arg ha0_0) hy1) ?_
   rintro v1 w3 hb3 ho1
   have H := H.addOwn hb3 ho1
   have H := H.pick [0, 1, 2, 3, 5] [boxI b1 29 [va0_0, va0_1], boxI b2 29 [(.slice none 0 0), (.slice none 0 0)], o3 (.slice none 0 0) ([] : List Int), o92 (.slice none 0 0) ([] : List GSight), o3 v1 t1] rfl (by decide)
   exact Nl ⟨v1, k, H, q0, q1, (fun _ => rfl), t⟩
  ·
   rintro S f w hS - ⟨e4, -⟩ ⟨v1, k, H, q0, q1, q2, q3, q4⟩
   obtain ⟨u4, rfl⟩ := up1 k.1
   exact Fa fd29_1 rfl (Nl ⟨v1, k, H, q0, q1, q2, (fun _ => rfl), q4⟩)
  ·
   rintro S f w hS ⟨e3, -⟩ - ⟨v1, k, H, q0, q1, q2, q3, q4⟩
   obtain ⟨u5, rfl⟩ := up1 (q3 e3)
   exact Ld _ sc27 (H.cell 0 rfl 1 _ rfl) (Nl ⟨v1, k, H, q0, q1, q2, q3, (fun _ => rfl)⟩)
 ·
  rintro S f w ⟨e0, e1, e2, e3, e4, -⟩ ⟨v1, k, H, q0, q1, q2, q3, q4⟩
  have H : Inv w0 w [boxI b1 29 [va0_0, va0_1], boxI b2 29 [(.slice none 0 0), (.slice none 0 0)], o3 (.slice none 0 0) ([] : List Int), o92 (.slice none 0 0) ([] : List GSight), o3 v1 t1] := (H.cT 4 e2 rfl)
  obtain ⟨u6, rfl⟩ := up3 k.2 (q2 e2) (q4 e4)
  obtain ⟨t2, hy2, hm⟩ := bind_some hm
  refine Ca call33 (c_slices_Clone_Sight _ _ (H.arg ha0_1) hy2) ?_
  rintro v2 w4 hb4 ho2
  have H := H.addOwn hb4 ho2
  obtain ⟨ad1, cap1, hvad1, _⟩ := (H.own 4 rfl).shape
  obtain ⟨ad2, cap2, hvad2, _⟩ := (H.own 5 rfl).shape
  refine Bd (v := (.agg #[v1, v2])) (fun w => by rw [hvad1, hvad2]; exact bd29_0_1 _ _ _ _ _ _ w) rfl (St 1 0 [v1, v2] [v1, v2] sz29 H R R (one_cons (SliceR.one (H.own 4 rfl)) (one_cons (SliceR.one (H.own 5 rfl)) one_nil)) fun w5 H => Nl (Rt ?_))
  obtain rfl := sj hm
  exact ends1 results19 ⟨_, rfl, run_loadVar_agg ag29 rfl (H.cell 1 rfl)⟩ ⟨_, rfl, H.base, ⟨_, _, rfl, H.pick [4, 5] [o3 v1 t1, o92 v2 t2] rfl (by decide)⟩⟩

theorem c_slices_Clone_Event {w0 : World} (va0 : Value) (a0 : (List GEvent)) (ha0 : SliceR w0 va0 a0) {r0 : (List GEvent)} (hm : slices_Clone_Event a0 = some r0) :
  Calls prog 20 #[va0] w0 (Ret w0 fun w v => OwnR w0 w v 70 r0) := by
 unfold slices_Clone_Event at hm
 refine cW func20 ntmps20 ?_
 have H := Inv.start (w := w0)
 refine Sq (Rg ?_)
 have H := H.addNil (α := GEvent) (E := 70)
 refine As (.slice none 0 0) (Nl (Sq (Sq (Rg (Mv va0 ?_)))))
 rcases ha0.nil_or with ⟨rfl, rfl⟩ | ⟨ad, cap, rfl⟩
 ·
  replace hm : (some ([] : List GEvent)) = some r0 := by simpa [appI] using hm
  refine En underlying35 (Rs (i := 4) (v := .bool true) rfl (Nl (Ct rfl (Sq (Rg ?_)))))
  have H := H.addNil (α := GEvent) (E := 70)
  refine As (.slice none 0 0) (Nl (Rt ?_))
  obtain rfl := sj hm
  exact ends1 results20 rfl ⟨_, rfl, H.base, H.ownR 1 rfl⟩
 ·
  refine En underlying35 (Rs (i := 4) (v := .bool false) rfl (Nl (Cf rfl (Sk (Sq (Rg (O.buildEmpty (α := GEvent) underlying35 el70 H R R fun b1 w1 H hb1 => Mv (.slice (some ad) a0.length cap) ?_)))))))
  obtain ⟨t1, ht1, hm⟩ := bind_some hm
  refine Ap 1 underlying35 el70 H rfl (H.arg ha0) ht1 fun v1 w2 H => As v1 (Nl (Rt ?_))
  obtain rfl := sj hm
  exact ends1 results20 rfl ⟨_, rfl, H.base, H.ownR 1 rfl⟩

set_option maxRecDepth 20000 in
theorem c_station_inside_copied {w0 : World} (va0_0 : Value) (va0_1 : Value) (va0_2 : Value) (va0_3 : Value) (va0_4 : Value) (a0 : GInside) (ha0_0 : SliceR w0 va0_0 a0.net.Rates) (ha0_1 : SliceR w0 va0_1 a0.net.Sights) (ha0_2 : SliceR w0 va0_2 a0.log) (ha0_3 : SliceR w0 va0_3 a0.verdicts) (ha0_4 : SliceR w0 va0_4 a0.ledger) {r0 : GInside} (hm : station_inside_copied a0 = some r0) :
  Calls prog 16 #[(.agg (cI a0 va0_0 va0_1 va0_2 va0_3 va0_4).toArray)] w0 (Ret w0 fun w v => ∃ vr0_0 : Value, ∃ vr0_1 : Value, ∃ vr0_2 : Value, ∃ vr0_3 : Value, ∃ vr0_4 : Value, v = (.agg (cI r0 vr0_0 vr0_1 vr0_2 vr0_3 vr0_4).toArray) ∧ Inv w0 w [o3 vr0_0 r0.net.Rates, o92 vr0_1 r0.net.Sights, o70 vr0_2 r0.log, o3 vr0_3 r0.verdicts, o74 vr0_4 r0.ledger]) := by
 unfold station_inside_copied at hm
 refine cW func16 ntmps16 ?_
 have H := Inv.start (w := w0)
 refine Sq (Rg (O.box (cI a0 va0_0 va0_1 va0_2 va0_3 va0_4) H R R R R fun b1 w1 H hb1 => O.alloc [(vi 0), (vi 0), (vi 0), (vi 0), (vi 0), (vi 0), (vi 0), (.slice none 0 0), (.slice none 0 0), (.slice none 0 0), (vi 0), (vi 0), (.bool false), (vi 0), (.slice none 0 0), (.slice none 0 0), (vi 0)] ze54 H R R R fun b2 w2 H hb2 => ?_))
 have H := H.addNil (α := Int) (E := 3)
 have H := H.addNil (α := GSight) (E := 92)
 have H := H.addNil (α := GEvent) (E := 70)
 have H := H.addNil (α := Int) (E := 3)
 have H := H.addNil (α := GEntry) (E := 74)
 refine Nl (Sq (Rg (Fa fd54_2 R R R (O.loadA (q := ⟨b1, 7, none⟩) [va0_0, va0_1] ag29 R R R R (cell_part (o := 7) (k := 2) (H.cell 0 rfl) rfl) ?_))))
 obtain ⟨t1, hy1, hm⟩ := bind_some hm
 refine Ca call19 R R R (c_station_copyNet _ _ (GNet.mk a0.net.Rates a0.net.Sights) (H.arg ha0_0) (H.arg ha0_1) hy1) ?_
 rintro _ w3 hb3 ⟨v1, v2, rfl, ho1⟩
 have H := H.addAll hb3 ho1
 refine Fa fd54_2 R R R (St 0 7 [v1, v2] (cI a0 v1 v2 va0_2 va0_3 va0_4) sz29 H R R R R R R ⟨⟨rfl, rfl⟩, rfl⟩ (one_cons (SliceR.one (H.own 7 rfl)) (one_cons (SliceR.one (H.own 8 rfl)) one_nil)) fun w4 H => Nl (Sq ?_))
 obtain ⟨t2, hy2, hm⟩ := bind_some hm
 obtain ⟨t3, hy3, hm⟩ := bind_some hm
 obtain ⟨t4, hy4, hm⟩ := bind_some hm
 have H := H.addGone
 have H := H.addGone
 have H := H.addGone
 refine W.drawD 10 [[], [0], [0, 1], [], [3], [0, 1, 2, 3, 4], [], [6], [0, 1, 2, 3, 4, 5, 6, 7], [0, 1, 2, 3, 4, 6, 7]] [[1, 2, 5, 8, 9], [2, 5, 8, 9], [5, 8, 9], [4, 5, 8, 9], [5, 8, 9], [8], [7, 8, 9], [8, 9], [], []] (fun S f w => ∃ v3 : Value, ∃ v4 : Value, ∃ v5 : Value, (f 1 = (pt b1) ∧ f 2 = (pt b2)) ∧ Inv w0 w [boxI b1 54 (cI a0 v1 v2 va0_2 va0_3 va0_4), boxI b2 54 [(vi 0), (vi 0), (vi 0), (vi 0), (vi 0), (vi 0), (vi 0), (.slice none 0 0), (.slice none 0 0), (.slice none 0 0), (vi 0), (vi 0), (.bool false), (vi 0), (.slice none 0 0), (.slice none 0 0), (vi 0)], o3 (.slice none 0 0) ([] : List Int), o92 (.slice none 0 0) ([] : List GSight), o70 (.slice none 0 0) ([] : List GEvent), o3 (.slice none 0 0) ([] : List Int), o74 (.slice none 0 0) ([] : List GEntry), o3 v1 t1.Rates, o92 v2 t1.Sights, cond (S 2) (o70 v3 t2) goneI, cond (S 5) (o3 v4 t3) goneI, cond (S 8) (o74 v5 t4) goneI] ∧ (S 0 = true → f 7 = (.pointer (some (Addr.add (Addr.mk b1 0 none) 9)))) ∧ (S 1 = true → f 8 = va0_2) ∧ (S 2 = true → f 9 = v3) ∧ (S 3 = true → f 10 = (.pointer (some (Addr.add (Addr.mk b1 0 none) 14)))) ∧ (S 4 = true → f 11 = va0_3) ∧ (S 5 = true → f 12 = v4) ∧ (S 6 = true → f 13 = (.pointer (some (Addr.add (Addr.mk b1 0 none) 15)))) ∧ (S 7 = true → f 14 = va0_4) ∧ (S 8 = true → f 15 = v5) ∧ (S 9 = true → f 16 = (.pointer (some (Addr.add (Addr.mk b1 0 none) 9))))) fol (by kernel_rfl) ?_ ?_ ?_
 ·
  exact fun d _ => ⟨.nilFunc, .nilFunc, .nilFunc, ⟨rfl, rfl⟩, H.ext (below_drawn d), nF, nF, nF, nF, nF, nF, nF, nF, nF, nF⟩
 ·
  refine ⟨?_, ⟨?_, ⟨?_, ⟨?_, ⟨?_, ⟨?_, ⟨?_, ⟨?_, ⟨?_, ⟨?_, trivial⟩⟩⟩⟩⟩⟩⟩⟩⟩⟩
  ·
   rintro S f w hS - ⟨e1, e2, e5, e8, e9, -⟩ ⟨v3, v4, v5, k, H, q0, t⟩
   obtain ⟨u1, rfl⟩ := up1 k.1
   exact Fa fd54_3 R R R (Nl ⟨v3, v4, v5, k, H, (fun _ => rfl), t⟩)
  ·
   rintro S f w hS ⟨e0, -⟩ ⟨e2, e5, e8, e9, -⟩ ⟨v3, v4, v5, k, H, q0, q1, t⟩
   obtain ⟨u2, rfl⟩ := up1 (q0 e0)
   exact Ld sc35 R R R (H.cell 0 rfl 9 _ rfl) (Nl ⟨v3, v4, v5, k, H, q0, (fun _ => rfl), t⟩)
  ·
   rintro S f w hS ⟨e0, e1, -⟩ ⟨e5, e8, e9, -⟩ ⟨_, v4, v5, k, H, q0, q1, q2, t⟩
   obtain ⟨u3, rfl⟩ := up1 (q1 e1)
   have H := H.cF 9 hS rfl
   refine Ca call20 R R R (c_slices_Clone_Event _ _ (H.arg ha0_2) hy2) ?_
   rintro v3 w5 hb4 ho2
   have H := H.addOwn hb4 ho2
   have H := H.pick [0, 1, 2, 3, 4, 5, 6, 7, 8, 12, 10, 11] [boxI b1 54 (cI a0 v1 v2 va0_2 va0_3 va0_4), boxI b2 54 [(vi 0), (vi 0), (vi 0), (vi 0), (vi 0), (vi 0), (vi 0), (.slice none 0 0), (.slice none 0 0), (.slice none 0 0), (vi 0), (vi 0), (.bool false), (vi 0), (.slice none 0 0), (.slice none 0 0), (vi 0)], o3 (.slice none 0 0) ([] : List Int), o92 (.slice none 0 0) ([] : List GSight), o70 (.slice none 0 0) ([] : List GEvent), o3 (.slice none 0 0) ([] : List Int), o74 (.slice none 0 0) ([] : List GEntry), o3 v1 t1.Rates, o92 v2 t1.Sights, o70 v3 t2, cond (S 5) (o3 v4 t3) goneI, cond (S 8) (o74 v5 t4) goneI] rfl (by decide)
   exact Nl ⟨v3, v4, v5, k, H, q0, q1, (fun _ => rfl), t⟩
  ·
   rintro S f w hS - ⟨e4, e5, e8, e9, -⟩ ⟨v3, v4, v5, k, H, q0, q1, q2, q3, t⟩
   obtain ⟨u4, rfl⟩ := up1 k.1
   exact Fa fd54_5 R R R (Nl ⟨v3, v4, v5, k, H, q0, q1, q2, (fun _ => rfl), t⟩)
  ·
   rintro S f w hS ⟨e3, -⟩ ⟨e5, e8, e9, -⟩ ⟨v3, v4, v5, k, H, q0, q1, q2, q3, q4, t⟩
   obtain ⟨u5, rfl⟩ := up1 (q3 e3)
   exact Ld sc26 R R R (H.cell 0 rfl 14 _ rfl) (Nl ⟨v3, v4, v5, k, H, q0, q1, q2, q3, (fun _ => rfl), t⟩)
  ·
   rintro S f w hS ⟨e0, e1, e2, e3, e4, -⟩ ⟨e8, -⟩ ⟨v3, _, v5, k, H, q0, q1, q2, q3, q4, q5, t⟩
   obtain ⟨u6, rfl⟩ := up1 (q4 e4)
   have H := H.cF 10 hS rfl
   refine Ca call21 R R R (c_slices_Clone_int _ _ (H.arg ha0_3) hy3) ?_
   rintro v4 w6 hb5 ho3
   have H := H.addOwn hb5 ho3
   have H := H.pick [0, 1, 2, 3, 4, 5, 6, 7, 8, 9, 12, 11] [boxI b1 54 (cI a0 v1 v2 va0_2 va0_3 va0_4), boxI b2 54 [(vi 0), (vi 0), (vi 0), (vi 0), (vi 0), (vi 0), (vi 0), (.slice none 0 0), (.slice none 0 0), (.slice none 0 0), (vi 0), (vi 0), (.bool false), (vi 0), (.slice none 0 0), (.slice none 0 0), (vi 0)], o3 (.slice none 0 0) ([] : List Int), o92 (.slice none 0 0) ([] : List GSight), o70 (.slice none 0 0) ([] : List GEvent), o3 (.slice none 0 0) ([] : List Int), o74 (.slice none 0 0) ([] : List GEntry), o3 v1 t1.Rates, o92 v2 t1.Sights, cond (S 2) (o70 v3 t2) goneI, o3 v4 t3, cond (S 8) (o74 v5 t4) goneI] rfl (by decide)
   exact Nl ⟨v3, v4, v5, k, H, q0, q1, q2, q3, q4, (fun _ => rfl), t⟩
  ·
   rintro S f w hS - ⟨e7, e8, e9, -⟩ ⟨v3, v4, v5, k, H, q0, q1, q2, q3, q4, q5, q6, t⟩
   obtain ⟨u7, rfl⟩ := up1 k.1
   exact Fa fd54_6 R R R (Nl ⟨v3, v4, v5, k, H, q0, q1, q2, q3, q4, q5, (fun _ => rfl), t⟩)
  ·
   rintro S f w hS ⟨e6, -⟩ ⟨e8, e9, -⟩ ⟨v3, v4, v5, k, H, q0, q1, q2, q3, q4, q5, q6, q7, t⟩
   obtain ⟨u8, rfl⟩ := up1 (q6 e6)
   exact Ld sc38 R R R (H.cell 0 rfl 15 _ rfl) (Nl ⟨v3, v4, v5, k, H, q0, q1, q2, q3, q4, q5, q6, (fun _ => rfl), t⟩)
  ·
   rintro S f w hS ⟨e0, e1, e2, e3, e4, e5, e6, e7, -⟩ - ⟨v3, v4, _, k, H, q0, q1, q2, q3, q4, q5, q6, q7, q8, q9⟩
   obtain ⟨u9, rfl⟩ := up1 (q7 e7)
   have H := H.cF 11 hS rfl
   refine Ca call22 R R R (c_slices_Clone_Entry _ _ (H.arg ha0_4) hy4) ?_
   rintro v5 w7 hb6 ho4
   have H := H.addOwn hb6 ho4
   have H := H.pick [0, 1, 2, 3, 4, 5, 6, 7, 8, 9, 10, 12] [boxI b1 54 (cI a0 v1 v2 va0_2 va0_3 va0_4), boxI b2 54 [(vi 0), (vi 0), (vi 0), (vi 0), (vi 0), (vi 0), (vi 0), (.slice none 0 0), (.slice none 0 0), (.slice none 0 0), (vi 0), (vi 0), (.bool false), (vi 0), (.slice none 0 0), (.slice none 0 0), (vi 0)], o3 (.slice none 0 0) ([] : List Int), o92 (.slice none 0 0) ([] : List GSight), o70 (.slice none 0 0) ([] : List GEvent), o3 (.slice none 0 0) ([] : List Int), o74 (.slice none 0 0) ([] : List GEntry), o3 v1 t1.Rates, o92 v2 t1.Sights, cond (S 2) (o70 v3 t2) goneI, cond (S 5) (o3 v4 t3) goneI, o74 v5 t4] rfl (by decide)
   exact Nl ⟨v3, v4, v5, k, H, q0, q1, q2, q3, q4, q5, q6, q7, (fun _ => rfl), q9⟩
  ·
   rintro S f w hS ⟨e0, e1, e2, e3, e4, e6, e7, -⟩ - ⟨v3, v4, v5, k, H, q0, q1, q2, q3, q4, q5, q6, q7, q8, q9⟩
   obtain ⟨u10, rfl⟩ := up1 k.1
   exact Fa fd54_3 R R R (Nl ⟨v3, v4, v5, k, H, q0, q1, q2, q3, q4, q5, q6, q7, q8, (fun _ => rfl)⟩)
 ·
  rintro S f w ⟨e0, e1, e2, e3, e4, e5, e6, e7, e8, e9, -⟩ ⟨v3, v4, v5, k, H, q0, q1, q2, q3, q4, q5, q6, q7, q8, q9⟩
  have H : Inv w0 w [boxI b1 54 (cI a0 v1 v2 va0_2 va0_3 va0_4), boxI b2 54 [(vi 0), (vi 0), (vi 0), (vi 0), (vi 0), (vi 0), (vi 0), (.slice none 0 0), (.slice none 0 0), (.slice none 0 0), (vi 0), (vi 0), (.bool false), (vi 0), (.slice none 0 0), (.slice none 0 0), (vi 0)], o3 (.slice none 0 0) ([] : List Int), o92 (.slice none 0 0) ([] : List GSight), o70 (.slice none 0 0) ([] : List GEvent), o3 (.slice none 0 0) ([] : List Int), o74 (.slice none 0 0) ([] : List GEntry), o3 v1 t1.Rates, o92 v2 t1.Sights, o70 v3 t2, o3 v4 t3, o74 v5 t4] := (((H.cT 9 e2 rfl).cT 10 e5 rfl).cT 11 e8 rfl)
  obtain ⟨u11, rfl⟩ := up6 k.1 k.2 (q2 e2) (q5 e5) (q8 e8) (q9 e9)
  refine St 0 9 [v3] (cI a0 v1 v2 v3 va0_3 va0_4) sz35 H R R R R R (SliceR.cells1 (H.own 9 rfl)) ⟨⟨rfl, rfl⟩, rfl⟩ (one_cons (SliceR.one (H.own 9 rfl)) one_nil) fun w8 H => Fa fd54_5 R R R (St 0 14 [v4] (cI a0 v1 v2 v3 v4 va0_4) sz26 H R R R R R (SliceR.cells1 (H.own 10 rfl)) ⟨⟨rfl, rfl⟩, rfl⟩ (one_cons (SliceR.one (H.own 10 rfl)) one_nil) fun w9 H => Fa fd54_6 R R R (St 0 15 [v5] (cI a0 v1 v2 v3 v4 v5) sz38 H R R R R R (SliceR.cells1 (H.own 11 rfl)) ⟨⟨rfl, rfl⟩, rfl⟩ (one_cons (SliceR.one (H.own 11 rfl)) one_nil) fun w10 H => Nl (Sq (Rg (O.loadA (cI a0 v1 v2 v3 v4 v5) ag54 R R R R (H.cell 0 rfl) (St 1 0 (cI a0 v1 v2 v3 v4 v5) (cI a0 v1 v2 v3 v4 v5) sz54 H R R R R R R ⟨⟨rfl, rfl⟩, rfl⟩ (one_cons rfl (one_cons rfl (one_cons rfl (one_cons rfl (one_cons rfl (one_cons rfl (one_cons rfl (one_cons (SliceR.one (H.own 7 rfl)) (one_cons (SliceR.one (H.own 8 rfl)) (one_cons (SliceR.one (H.own 9 rfl)) (one_cons rfl (one_cons rfl (one_cons rfl (one_cons rfl (one_cons (SliceR.one (H.own 10 rfl)) (one_cons (SliceR.one (H.own 11 rfl)) (one_cons rfl one_nil))))))))))))))))) fun w11 H => ?_))))))
  refine Nl (Rt ?_)
  obtain rfl := sj hm
  exact ends1 results16 ⟨_, rfl, run_loadVar_agg ag54 rfl (H.cell 1 rfl)⟩ ⟨_, rfl, H.base, ⟨_, _, _, _, _, rfl, H.pick [7, 8, 9, 10, 11] [o3 v1 t1.Rates, o92 v2 t1.Sights, o70 v3 t2, o3 v4 t3, o74 v5 t4] rfl (by decide)⟩⟩

 abbrev sessL (b : Nat) (a : GSession) (u0 u1 u2 u3 u4 : Value) : List Go.Fw.Item := [boxI b 61 (cI a.inside u0 u1 u2 u3 u4), o3 u0 a.inside.net.Rates, o92 u1 a.inside.net.Sights, o70 u2 a.inside.log, o3 u3 a.inside.verdicts, o74 u4 a.inside.ledger]
 abbrev sessP (b0 : Nat) (r : GSession × ByteArray) (v : Value) (L1 : List Go.Fw.Item) : Prop := ∃ u0 u1 u2 u3 u4 : Value, L1 = sessL b0 r.1 u0 u1 u2 u3 u4 ∧ v = (.string r.2)
set_option maxRecDepth 20000 in
theorem c_session_do {w0 : World} (X0 : Nat → Prop) (b0 : Nat) (va0_0 : Value) (va0_1 : Value) (va0_2 : Value) (va0_3 : Value) (va0_4 : Value) (a0 : GSession) (H0 : InvD X0 w0 w0 (sessL b0 a0 va0_0 va0_1 va0_2 va0_3 va0_4)) (hT : ∀ w', BelowX X0 w0 w' → EnvS prog 0 4 5 7 w') (c : Nat) (va1 : Value) (a1 : List ByteArray) (ha1 : ∀ w', BelowX X0 w0 w' → SliceR w' va1 a1) {r0 : Ref (GSession × ByteArray)} (hm : sessionDo a0 c a1 = some r0) :
  Callable prog (doF c) ∧ Calls prog (doF c) #[(pt b0), va1] w0 (PPost 87 X0 w0 r0 (sessP b0)) := by
 have hw : BelowX X0 w0 w0 := H0.baseX
 match c, hm with
 | 0, hm => exact ⟨call41, c_station_session_sight X0 b0 va0_0 va0_1 va0_2 va0_3 va0_4 a0 H0 hT va1 a1 ha1 hm⟩
 | 1, hm => exact ⟨call42, c_station_session_event X0 b0 va0_0 va0_1 va0_2 va0_3 va0_4 a0 H0 hT va1 a1 ha1 hm⟩
 | 2, hm => exact ⟨call43, c_station_session_close X0 b0 va0_0 va0_1 va0_2 va0_3 va0_4 a0 H0 va1 a1 ha1 hm⟩
 | 3, hm => exact ⟨call44, c_station_session_say X0 b0 va0_0 va0_1 va0_2 va0_3 va0_4 a0 H0 hT va1 a1 ha1 hm⟩
 | 4, hm => exact ⟨call45, c_station_session_found X0 b0 va0_0 va0_1 va0_2 va0_3 va0_4 a0 H0 hT va1 a1 ha1 hm⟩
 | 5, hm =>
  obtain ⟨r, hr, hm⟩ := Option.map_eq_some_iff.1 hm
  refine ⟨call46, (c_station_session_bounds (hT _ hw) ⟨b0, 0, none⟩ va0_0 va0_1 va0_2 va0_3 va0_4 a0 (H0.cell 0 rfl) (H0.own 1 rfl) (H0.own 2 rfl) (H0.own 3 rfl) (H0.own 4 rfl) (H0.own 5 rfl) va1 a1 (ha1 _ hw) hr).mono ?_⟩
  intro e w' h
  cases r with
  | ok t =>
   subst hm
   obtain ⟨v, rfl, hb, rfl⟩ := h
   exact ⟨_, _, rfl, H0.ext hb, _, _, _, _, _, rfl, rfl⟩
  | no e =>
   subst hm
   exact ⟨h.1, below_x h.2⟩
 | 6, hm =>
  obtain ⟨r, hr, hm⟩ := Option.map_eq_some_iff.1 hm
  refine ⟨call47, (c_station_session_best (hT _ hw) ⟨b0, 0, none⟩ va0_0 va0_1 va0_2 va0_3 va0_4 a0 (H0.cell 0 rfl) (H0.own 1 rfl) (H0.own 2 rfl) (H0.own 3 rfl) (H0.own 4 rfl) (H0.own 5 rfl) va1 a1 (ha1 _ hw) hr).mono ?_⟩
  intro e w' h
  cases r with
  | ok t =>
   subst hm
   obtain ⟨v, rfl, hb, rfl⟩ := h
   exact ⟨_, _, rfl, H0.ext hb, _, _, _, _, _, rfl, rfl⟩
  | no e =>
   subst hm
   exact ⟨h.1, below_x h.2⟩
 | 7, hm =>
  obtain ⟨r, hr, hm⟩ := Option.map_eq_some_iff.1 hm
  refine ⟨call48, (c_station_session_off (hT _ hw) ⟨b0, 0, none⟩ va0_0 va0_1 va0_2 va0_3 va0_4 a0 (H0.cell 0 rfl) (H0.own 1 rfl) (H0.own 2 rfl) (H0.own 3 rfl) (H0.own 4 rfl) (H0.own 5 rfl) va1 a1 (ha1 _ hw) hr).mono ?_⟩
  intro e w' h
  cases r with
  | ok t =>
   subst hm
   obtain ⟨v, rfl, hb, rfl⟩ := h
   exact ⟨_, _, rfl, H0.ext hb, _, _, _, _, _, rfl, rfl⟩
  | no e =>
   subst hm
   exact ⟨h.1, below_x h.2⟩
 | 8, hm => exact ⟨call49, c_station_session_torn X0 b0 va0_0 va0_1 va0_2 va0_3 va0_4 a0 H0 hT va1 a1 ha1 hm⟩
 | 9, hm => exact ⟨call50, c_station_session_mended X0 b0 va0_0 va0_1 va0_2 va0_3 va0_4 a0 H0 hT va1 a1 ha1 hm⟩
 | 10, hm =>
  obtain ⟨r, hr, hm⟩ := Option.map_eq_some_iff.1 hm
  refine ⟨call51, (c_station_session_hoist (hT _ hw) ⟨b0, 0, none⟩ va0_0 va0_1 va0_2 va0_3 va0_4 a0 (H0.cell 0 rfl) (H0.own 1 rfl) (H0.own 2 rfl) (H0.own 3 rfl) (H0.own 4 rfl) (H0.own 5 rfl) va1 a1 (ha1 _ hw) hr).mono ?_⟩
  intro e w' h
  cases r with
  | ok t =>
   subst hm
   obtain ⟨v, rfl, hb, rfl⟩ := h
   exact ⟨_, _, rfl, H0.ext hb, _, _, _, _, _, rfl, rfl⟩
  | no e =>
   subst hm
   exact ⟨h.1, below_x h.2⟩
 | 11, hm => exact ⟨call52, c_station_session_drop X0 b0 va0_0 va0_1 va0_2 va0_3 va0_4 a0 H0 hT va1 a1 ha1 hm⟩
 | c + 12, hm => cases hm
/-- How attempt ends: with the session and the reply, or with the refusal's number, the session given up. -/
def attR (X0 : Nat → Prop) (b0 : Nat) (w0 : World) : Ref (GSession × ByteArray) → Ending → World → Prop
  | .ok p, e, w' => ∃ v L1, e = .returned v ∧ InvD X0 w0 w' L1 ∧ ∃ u0 u1 u2 u3 u4 : Value, L1 = sessL b0 p.1 u0 u1 u2 u3 u4 ∧ v = (.tuple #[.string p.2, .int .i64 0])
  | .no n, e, w' => ∃ v L1, e = .returned v ∧ InvD X0 w0 w' L1 ∧ n ≠ 0 ∧ L1 = [] ∧ v = (.tuple #[.string ByteArray.empty, .int .i64 n])

/-- How the body of attempt ends, ahead of the call that it defers. -/
def attQ (b0 b1 b2 b3 : Nat) (X0 : Nat → Prop) (w0 : World) (vk : Value) (a1 : Nat) (r1 : Ref (GSession × ByteArray)) : Exit → Act → World → Prop
  | .ret, a, w => ∃ f, Sim 14 ⟨none, false, noPan, [{ target := .fn (.func 30) #[.pointer (some ⟨b1, 0, none⟩), .pointer (some ⟨b2, 0, none⟩)], args := #[] }]⟩ a f ∧ ∃ p u0 u1 u2 u3 u4, r1 = .ok p ∧ f 6 = (pt b1) ∧ f 7 = (pt b2) ∧ InvD X0 w0 w ([boxI b3 47 [vk, .func (.func (doF a1)) #[] #[]], boxI b1 9 [.string p.2], boxI b2 23 [.int .i64 0]] ++ sessL b0 p.1 u0 u1 u2 u3 u4)
  | .panic ch, a, w => ∃ f, Sim 14 ⟨none, false, noPan, [{ target := .fn (.func 30) #[.pointer (some ⟨b1, 0, none⟩), .pointer (some ⟨b2, 0, none⟩)], args := #[] }]⟩ a f ∧ f 6 = (pt b1) ∧ f 7 = (pt b2) ∧ ∃ x, r1 = .no x ∧ ch = refuse 87 x ∧ InvD X0 w0 w [boxI b3 47 [vk, .func (.func (doF a1)) #[] #[]], boxI b1 9 [.string ByteArray.empty], boxI b2 23 [.int .i64 0]]
  | _, _, _ => False

theorem c_attempt_idle (p q : Addr) (w : World) : CallsDIn Fence.wide 0 prog 30 #[.pointer (some p), .pointer (some q)] .returning w fun e u' w' => e = .returned (.tuple #[]) ∧ u' = .returning ∧ w' = w := by
 refine callsDIn_of_wpSIn func30 rfl trivial fun c₀ cs hu => ?_
 apply wpSIn_seq
 apply wpSIn_region
 simp [wpOpsSIn, go_sem, recoverD, hu, ntmps30, Exit.thenS]
 refine wpSIn_of_wpIn rfl (wpIn_mono (Bk (n := 13) (ds := ⟨none, false, noPan, []⟩) (Kn := fun _ w' => w' = w) (Kx := fun _ _ _ => False) (Kr := fun _ _ => False) (f := upd (fr0 #[.pointer (some p), .pointer (some q)]) 5 .nilIface) (w := w) ?_ _ ?_) ?_)
 ·
  exact Sq (Rg (O.eqlErr (b := true) if20 (.inl ⟨rfl, rfl⟩) R R R (Nl (Ct rfl (Rg (As (.nilIface) (Nl rfl)))))))
 · exact (initSim (n := 13) (args := #[.pointer (some p), .pointer (some q)]) (Nat.le_of_ble_eq_true rfl)).put (d := some 5) rfl .nilIface
 ·
  intro e a w' h
  have hc : c₀ = { c₀ with mode := FrameMode.returning } := by cases c₀; simp_all
  cases e with
  | normal =>
   obtain ⟨f, hs, rfl⟩ := h
   exact ⟨hs.dfs, .returning, by rw [← hc], _, results_none rfl _ _ _, rfl, rfl, rfl⟩
  | exit i => obtain ⟨_, _, h⟩ := h; exact h.elim
  | ret => obtain ⟨_, _, h⟩ := h; exact h.elim
  | panic ch => exact h.1.elim
  | _ => exact h.elim
theorem c_attempt_no {X : Nat → Prop} {w0 w : World} {b1 b2 : Nat} {v u : Value} (x : Int) (H : InvD X w0 w [boxI b1 9 [v], boxI b2 23 [u]]) : CallsDIn Fence.wide 0 prog 30 #[.pointer (some ⟨b1, 0, none⟩), .pointer (some ⟨b2, 0, none⟩)] (.panicking (refuse 87 x)) w
  fun e u' w' => e = .returned (.tuple #[]) ∧ settle u' = .returning ∧ InvD X w0 w' [boxI b1 9 [.string ByteArray.empty], boxI b2 23 [.int .i64 x]] := by
 refine callsDIn_of_wpSIn func30 rfl trivial fun c₀ cs hu => ?_
 apply wpSIn_seq
 apply wpSIn_region
 simp [wpOpsSIn, go_sem, recoverD, hu, ntmps30, Exit.thenS, refuse]
 refine wpSIn_of_wpIn rfl (wpIn_mono (Bk (n := 13) (ds := ⟨none, false, noPan, []⟩) (Kn := fun _ w' => InvD X w0 w' [boxI b1 9 [.string ByteArray.empty], boxI b2 23 [.int .i64 x]]) (Kx := fun _ _ _ => False) (Kr := fun _ _ => False) (f := upd (fr0 #[.pointer (some ⟨b1, 0, none⟩), .pointer (some ⟨b2, 0, none⟩)]) 5 (.iface 87 (.agg #[.int .i64 x]))) (w := w) ?_ _ ?_) ?_)
 ·
  refine Sq (Rg (O.eqlErr (b := false) if20 (.inr ⟨rfl, _, _, rfl⟩) R R R (Nl (Cf rfl (Sq (Rg (WL.val R R (w' := w) (v := .tuple #[.agg #[.int .i64 x], .bool true]) (by kernel_rfl) (Xt (.bool true) (Xt (.agg #[.int .i64 x]) (Nl (Ct rfl (Sq (Rg ?_)))))))))))))
  refine Al [.int .i64 0] ze87 H fun b3 w1 H hb1 => St 2 0 [.int .i64 x] [.int .i64 x] sz87 H R R (one_cons rfl one_nil) fun w2 H => Nl ?_
  refine W.drawD 3 [[], [0], []] [[1], [], []] (fun S f w => (f 0 = .pointer (some ⟨b1, 0, none⟩) ∧ f 1 = .pointer (some ⟨b2, 0, none⟩) ∧ f 3 = .pointer (some ⟨b3, 0, none⟩)) ∧ InvD X w0 w [cond (S 2) (boxI b1 9 [.string ByteArray.empty]) (boxI b1 9 [v]), boxI b2 23 [u], boxI b3 87 [.int .i64 x]] ∧ (S 0 = true → f 11 = .pointer (some ⟨b3, 0, none⟩)) ∧ (S 1 = true → f 12 = .int .i64 x)) R R ?_ ?_ ?_
  · exact fun d _ => ⟨⟨rfl, rfl, rfl⟩, H.ext (below_drawn d), nF, nF⟩
  ·
   refine ⟨?_, ⟨?_, ⟨?_, trivial⟩⟩⟩
   ·
    rintro S f w hS - ⟨e1, -⟩ ⟨k, H, h0, h1⟩
    obtain ⟨u1, rfl⟩ := up1 k.2.2
    exact Fa fd87_0 rfl (Nl ⟨k, H, fun _ => rfl, h1⟩)
   ·
    rintro S f w hS ⟨e0, -⟩ - ⟨k, H, h0, h1⟩
    obtain ⟨u1, rfl⟩ := up1 (h0 e0)
    exact Ld _ sc23 (H.cell 2 rfl 0 _ rfl) (Nl ⟨k, H, h0, fun _ => rfl⟩)
   ·
    rintro S f w hS - - ⟨k, H, h0, h1⟩
    obtain ⟨u1, rfl⟩ := up1 k.1
    have H := H.cF 0 hS rfl
    exact St 0 0 [.string ByteArray.empty] [.string ByteArray.empty] sz9 H R R (one_cons rfl one_nil) fun w1 H => Nl ⟨k, H, h0, h1⟩
  ·
   rintro S f w ⟨e0, e1, e2, -⟩ ⟨k, H, h0, h1⟩
   have H := H.cT 0 e2 rfl
   obtain ⟨u1, rfl⟩ := up2 k.2.1 (h1 e1)
   exact St 1 0 [.int .i64 x] [.int .i64 x] sz23 H R R (one_cons rfl one_nil) fun w1 H => Nl (H.pick [0, 1] _ rfl (by decide))
 · exact (initSim (n := 13) (args := #[.pointer (some ⟨b1, 0, none⟩), .pointer (some ⟨b2, 0, none⟩)]) (Nat.le_of_ble_eq_true rfl)).put (d := some 5) rfl (.iface 87 (.agg #[.int .i64 x]))
 ·
  intro e a w' h
  cases e with
  | normal =>
   obtain ⟨f, hs, h⟩ := h
   exact ⟨hs.dfs, _, rfl, _, results_none rfl _ _ _, rfl, rfl, h⟩
  | exit i => obtain ⟨_, _, h⟩ := h; exact h.elim
  | ret => obtain ⟨_, _, h⟩ := h; exact h.elim
  | panic ch => exact h.1.elim
  | _ => exact h.elim
theorem callFVNo {P : Program} {n : Nat} {ds : Md} {ops : Array Oper} {rest : List Oper} {K : Fr → World → Prop} {f : Fr} {w : World} {T0 : TypeId} {pos : String} {aft : Array Edge} {g : Option (Nat × Bool)} {d : Nat} {X : Nat → Prop} {k : FuncId} {x : Operand} {args : List Operand} {at_ : Array TypeId} {first cap : Array Value} {vs : List Value} {ch : List PanicEntry} (hcb : Callable P k)
    (hg : want ops g f = true) (hd : Nat.blt d n = true) (hx : ev f x = .func (.func k) first cap) (ha : args.map (ev f) = vs)
    (hc : Calls P k (first ++ vs.toArray ++ cap) w fun e w' => e = .panicked ch ∧ BelowX X w w')
    (hp : ∀ w', BelowX X w w' → ds.pan ch w') : WL P n ds ops (⟨some d, .call ⟨.value x, args.toArray, at_⟩, T0, pos, aft, g⟩ :: rest) K f w := by
  refine WL.enterP hg hd (k := k) (args := first ++ vs.toArray ++ cap) ?_ (hc.mono fun e w' h => .inr ⟨ch, h.1, hp w' h.2⟩)
  simp only [execOp, resolve, hx, Deferred.ofValue, List.map_toArray, ha, Sem.run_bind, Sem.run_pure, Result.andThen_ok, invoke]
  simpa using hcb _ _
set_option maxRecDepth 20000 in
set_option maxHeartbeats 400000 in
theorem c_station_session_attempt {w0 : World} (X0 : Nat → Prop) (b0 : Nat) (va0_0 : Value) (va0_1 : Value) (va0_2 : Value) (va0_3 : Value) (va0_4 : Value) (a0 : GSession) (H0 : InvD X0 w0 w0 (sessL b0 a0 va0_0 va0_1 va0_2 va0_3 va0_4)) (hT : ∀ w', BelowX X0 w0 w' → EnvS prog 0 4 5 7 w') (vk : Value) (hk : vk.oneCell' = true) (a1 : Nat) (va2 : Value) (a2 : List ByteArray) (ha2 : ∀ w', BelowX X0 w0 w' → SliceR w' va2 a2) {r0 : Ref (GSession × ByteArray)} (hm : station_session_attempt a0 a1 a2 = some r0) :
  Calls prog 17 #[(pt b0), (.agg #[vk, .func (.func (doF a1)) #[] #[]]), va2] w0 (attR X0 b0 w0 r0) := by
 unfold station_session_attempt at hm
 obtain ⟨r1, hr1, hm⟩ := bind_some hm
 refine callsIn_wide.1 (callsIn_of_wp_defers (F := Fence.wide) (n := 0) func17 rfl trivial ?_)
 have H := H0
 -- the variables
 refine wpIn_seq (wpIn_mono ((Rg (n := 14) (ds := ⟨none, false, noPan, []⟩) (Kn := fun f w => ∃ b3 b1 b2, (f 0 = (pt b0) ∧ f 2 = va2 ∧ f 4 = (pt b3) ∧ f 6 = (pt b1) ∧ f 7 = (pt b2)) ∧
   InvD X0 w0 w ([boxI b3 47 [vk, .func (.func (doF a1)) #[] #[]], boxI b1 9 [.string ByteArray.empty], boxI b2 23 [.int .i64 0]] ++ sessL b0 a0 va0_0 va0_1 va0_2 va0_3 va0_4)) (Kx := fun _ _ _ => False) (Kr := fun _ _ => False) (f := fr0 #[(pt b0), (.agg #[vk, .func (.func (doF a1)) #[] #[]]), va2]) (w := w0) ?_) _ (initSim (n := 14) (Nat.le_of_ble_eq_true rfl))) ?_)
 ·
  exact O.box [vk, .func (.func (doF a1)) #[] #[]] H R R R R fun b3 w1 H hb1 => O.alloc [.string ByteArray.empty] ze9 H R R R fun b1 w2 H hb2 => O.alloc [.int .i64 0] ze23 H R R R fun b2 w3 H hb3 => Nl ⟨b3, b1, b2, ⟨rfl, rfl, rfl, rfl, rfl⟩, H.pick [6, 7, 8, 0, 1, 2, 3, 4, 5] _ rfl (by decide)⟩
 intro e a w hq
 cases e with
 | normal =>
  obtain ⟨f, hs, b3, b1, b2, hf, H⟩ := hq
  obtain ⟨u, rfl⟩ := up5 hf.1 hf.2.1 hf.2.2.1 hf.2.2.2.1 hf.2.2.2.2
  have HF := H
  obtain ⟨hcb, hcall⟩ := c_session_do (w0 := w) (fpOf (sessL b0 a0 va0_0 va0_1 va0_2 va0_3 va0_4)) b0 va0_0 va0_1 va0_2 va0_3 va0_4 a0 HF.frame (fun _ hb => hT _ (HF.belowFX hb)) a1 va2 a2 (fun _ hb => ha2 _ (HF.belowFX hb)) hr1
  refine wpIn_mono (W.deferredQ (o := ⟨none, .defer ⟨.value (.tmp 8), #[], #[]⟩, 0, _, _, none⟩) (l := [⟨some 8, .makeFunc (.func 30) #[] #[.tmp 6, .tmp 7], 1, _, _, none⟩]) (D := { target := .fn (.func 30) #[.pointer (some ⟨b1, 0, none⟩), .pointer (some ⟨b2, 0, none⟩)], args := #[] })
   (Q := attQ b0 b1 b2 b3 X0 w0 vk a1 r1) ?_ hs) ?_
  ·
   refine O.makeFunc (v1 := []) (v2 := [.pointer (some ⟨b1, 0, none⟩), .pointer (some ⟨b2, 0, none⟩)]) R R R R ?_
   refine Nl ⟨rfl, rfl, by kernel_rfl, ?_⟩
   intro a hs
   cases hr : r1 with
   | ok p =>
    rw [hr] at hcall
    refine wpIn_mono ((?_ : W prog 14 ⟨none, false, noPan, [{ target := .fn (.func 30) #[.pointer (some ⟨b1, 0, none⟩), .pointer (some ⟨b2, 0, none⟩)], args := #[] }]⟩ _ (fun _ _ => False) (fun _ _ _ => False) (fun f w => ∃ u0 u1 u2 u3 u4, f 6 = (pt b1) ∧ f 7 = (pt b2) ∧ InvD X0 w0 w ([boxI b3 47 [vk, .func (.func (doF a1)) #[] #[]], boxI b1 9 [.string p.2], boxI b2 23 [.int .i64 0]] ++ sessL b0 p.1 u0 u1 u2 u3 u4)) _ w) a hs) ?_
    ·
     refine Sq (Rg (Fa fd47_1 R R R (Ld sc45 R R R (H.cell 0 rfl 1 _ rfl) (Mv (v := (pt b0)) R R R (Mv (v := va2) R R R (O.callFV [boxI b3 47 [vk, .func (.func (doF a1)) #[] #[]], boxI b1 9 [.string ByteArray.empty], boxI b2 23 [.int .i64 0]] (sessL b0 a0 va0_0 va0_1 va0_2 va0_3 va0_4) H hcb R R R R hcall ?_))))))
     rintro _ w1 _ H ⟨u0, u1, u2, u3, u4, rfl, rfl⟩
     exact St 1 0 [.string p.2] [.string p.2] sz9 H R R R R R R ⟨⟨rfl, rfl⟩, rfl⟩ (one_cons rfl one_nil) fun w2 H => St 2 0 [.int .i64 0] [.int .i64 0] sz23 H R R R R R R ⟨⟨rfl, rfl⟩, rfl⟩ (one_cons rfl one_nil) fun w3 H => Nl (Rt ⟨u0, u1, u2, u3, u4, rfl, rfl, H⟩)
    ·
     intro e a w h
     cases e with
     | normal => obtain ⟨_, _, h⟩ := h; exact h.elim
     | exit i => obtain ⟨_, _, h⟩ := h; exact h.elim
     | ret => obtain ⟨f, hs, u0, u1, u2, u3, u4, h6, h7, H⟩ := h; exact ⟨f, hs, p, u0, u1, u2, u3, u4, rfl, h6, h7, H⟩
     | panic ch => exact h.1.elim
     | _ => exact h.elim
   | no y =>
    rw [hr] at hcall
    refine wpIn_seq (wpIn_region_lit ?_)
    refine WL.cutQ (ds := ⟨none, false, noPan, [{ target := .fn (.func 30) #[.pointer (some ⟨b1, 0, none⟩), .pointer (some ⟨b2, 0, none⟩)], args := #[] }]⟩) 4 (fun _ _ h => h) ?_ hs
    refine Fa fd47_1 R R R (Ld sc45 R R R (H.cell 0 rfl 1 _ rfl) (Mv (v := (pt b0)) R R R (Mv (v := va2) R R R (Nl fun a hs => ?_))))
    have hc2 : Calls prog (doF a1) #[(pt b0), va2] w fun e w' => e = .panicked (refuse 87 y) ∧ BelowX (fpOf (sessL b0 a0 va0_0 va0_1 va0_2 va0_3 va0_4)) w w' := hcall
    refine callNoQ (ds := ⟨none, false, noPan, [{ target := .fn (.func 30) #[.pointer (some ⟨b1, 0, none⟩), .pointer (some ⟨b2, 0, none⟩)], args := #[] }]⟩) (first := #[]) (cap := #[]) (vs := [(pt b0), va2]) (ch := refuse 87 y) (R := fun w' => BelowX (fpOf (sessL b0 a0 va0_0 va0_1 va0_2 va0_3 va0_4)) w w') hcb R R R hc2 ?_ hs
    intro w' hb
    exact ⟨_, hs, rfl, rfl, y, rfl, rfl, H.dropF hb⟩
  ·
   intro e a w h
   cases e with
   | ret =>
    obtain ⟨f, hs, p, u0, u1, u2, u3, u4, rfl, h6, h7, H⟩ := h
    obtain rfl := sj hm
    show LeavesIn _ _ _ _ a.tmps _ a.defers .returning w
    rw [show a.defers = [{ target := .fn (.func 30) #[.pointer (some ⟨b1, 0, none⟩), .pointer (some ⟨b2, 0, none⟩)], args := #[] }] from hs.dfs]
    refine leavesIn_cons (by simp) (by simp [Fence.wide]) (f := 30) (args := #[.pointer (some ⟨b1, 0, none⟩), .pointer (some ⟨b2, 0, none⟩)]) (by kernel_rfl) (fun _ _ => trivial) ((c_attempt_idle ⟨b1, 0, none⟩ ⟨b2, 0, none⟩ w).mono ?_)
    rintro _ _ _ ⟨rfl, rfl, rfl⟩
    refine ends2 (R := attR X0 b0 w0 (.ok p)) results17 ⟨_, h6, run_loadVar_scalar sc9 (H.cell 1 rfl 0 _ rfl)⟩ ⟨_, h7, run_loadVar_scalar sc23 (H.cell 2 rfl 0 _ rfl)⟩ ?_ a.tmps hs.size hs.get
    exact ⟨_, _, rfl, H.pick [3, 4, 5, 6, 7, 8] (sessL b0 p.1 u0 u1 u2 u3 u4) rfl (by decide), u0, u1, u2, u3, u4, rfl, rfl⟩
   | panic ch =>
    obtain ⟨f, hs, h6, h7, x, rfl, rfl, H⟩ := h
    dsimp only at hm
    split at hm
    case isTrue => cases hm
    rename_i hx0
    obtain rfl := sj hm
    show LeavesIn _ _ _ _ a.tmps _ a.defers (.panicking (refuse 87 x)) w
    rw [show a.defers = [{ target := .fn (.func 30) #[.pointer (some ⟨b1, 0, none⟩), .pointer (some ⟨b2, 0, none⟩)], args := #[] }] from hs.dfs]
    refine leavesIn_cons (by simp) (by simp [Fence.wide]) (f := 30) (args := #[.pointer (some ⟨b1, 0, none⟩), .pointer (some ⟨b2, 0, none⟩)]) (by kernel_rfl) (fun _ _ => trivial) ((c_attempt_no x (H.pick [1, 2] [boxI b1 9 [.string ByteArray.empty], boxI b2 23 [.int .i64 0]] rfl (by decide))).mono ?_)
    rintro _ u' w' ⟨rfl, hu, H⟩
    dsimp only
    rw [hu]
    refine ends2 (R := attR X0 b0 w0 (.no x)) results17 ⟨_, h6, run_loadVar_scalar sc9 (H.cell 0 rfl 0 _ rfl)⟩ ⟨_, h7, run_loadVar_scalar sc23 (H.cell 1 rfl 0 _ rfl)⟩ ?_ a.tmps hs.size hs.get
    exact ⟨_, _, rfl, H.pick [] [] rfl (by decide), hx0, rfl, rfl⟩
   | normal => exact h.elim
   | exit i => exact h.elim
   | _ => exact h.elim
 | exit i => obtain ⟨_, _, h⟩ := hq; exact h.elim
 | ret => obtain ⟨_, _, h⟩ := hq; exact h.elim
 | panic ch => exact hq.1.elim
 | _ => exact hq.elim


theorem c_tz64 {w0 : World} (hT : EnvS prog 0 4 5 7 w0) : Calls prog 211 #[(.int .u64 16)] w0 (Ret w0 fun _ v => v = .int .i64 4) := by
 refine cW func211 ntmps211 ?_
 have H := Inv.start (w := w0)
 refine Sq (Rg (As (vi 0) (Nl (Sq (Sq (Rg (Mv (.int .u64 16) (Eq_ (Nl (Cf rfl (Sk (Sq (Rg ?_)))))))))))))
 exact Mv (.int .u64 16) (Mv (.int .u64 16) (O.unV (a := .int .u64 16) (v := .int .u64 18446744073709551600) rfl (fun _ => by kernel_rfl) R R (O.binV (k := .u64) (k' := .u64) (a := 16) (b := 18446744073709551600) (v := .int .u64 16) R R (fun _ => by kernel_rfl) R R (O.binV (k := .u64) (k' := .u64) (a := 16) (b := 285870213051353865) (v := .int .u64 4573923408821661840) R R (fun _ => by kernel_rfl) R R (O.binV (k := .u64) (k' := .u64) (a := 4573923408821661840) (b := 58) (v := .int .u64 15) R R (fun _ => by kernel_rfl) R R (O.indexArrN (i := 15) underlying281 sz5 (by decide) R R R R (Ld (.int .u8 4) sc5 hT.tz (O.convI (c := 4) (by rw [underlying5]; rfl) underlying3 R R R R (As (vi 4) (Nl (Rt (ends1 results211 rfl ⟨_, rfl, H.base, rfl⟩))))))))))))
theorem c_tz {w0 : World} (hT : EnvS prog 0 4 5 7 w0) : Calls prog 172 #[(.int .u64 16)] w0 (Ret w0 fun _ v => v = .int .i64 4) := by
 refine cW func172 ntmps172 ?_
 have H := Inv.start (w := w0)
 refine Sq (Rg (As (vi 0) (Nl (Sq (Cf rfl (Sk (Sq (Rg (Mv (.int .u64 16) (Ca call211 (c_tz64 hT) ?_))))))))))
 rintro _ w1 hb rfl
 have H := H.ext hb
 exact As (vi 4) (Nl (Rt (ends1 results172 rfl ⟨_, rfl, H.base, rfl⟩)))
theorem c_pow2 {w0 : World} : Calls prog 171 #[(vi 16)] w0 (Ret w0 fun _ v => v = .bool true) := by
 refine cW func171 ntmps171 ?_
 have H := Inv.start (w := w0)
 refine Sq (Rg (As (v := .bool false) R R R (Nl (Sq (Rg (Mv (v := .int .i64 16) R R R (Mv (v := .int .i64 16) R R R (O.sub (c := 15) R R R R R (O.binV (k := .i64) (k' := .i64) (a := 16) (b := 15) (v := .int .i64 0) R R (fun _ => by kernel_rfl) R R (O.eql R R R R (As (v := .bool true) R R R (Nl (Rt ?_)))))))))))))
 exact ends1 results171 rfl ⟨_, rfl, H.base, rfl⟩
def hexN (u : Nat) : Nat := if h : 16 ≤ u then hexN (u / 16) + 1 else 0
  termination_by u
  decreasing_by omega
theorem and15 (u : Nat) (hu : u < 18446744073709551616) : bits .and .u64 (u : Int) 15 = ((u % 16 : Nat) : Int) := by
  have h := bits_and_u64_nat u 15 hu (by decide)
  rw [show ((15 : Nat) : Int) = 15 from rfl] at h
  rw [h, show u &&& 15 = u % 16 from Nat.and_two_pow_sub_one_eq_mod u 4]
theorem dig_at : ∀ d : Nat, d < 16 → (Go.Fw.bytes (⟨#[48, 49, 50, 51, 52, 53, 54, 55, 56, 57, 97, 98, 99, 100, 101, 102, 103, 104, 105, 106, 107, 108, 109, 110, 111, 112, 113, 114, 115, 116, 117, 118, 119, 120, 121, 122]⟩ : ByteArray))[d]? = some (dig16 d) := by decide
theorem put_at (k : Nat) (z x : Value) (l : List Value) : (List.replicate (k + 1) z ++ l).take k ++ [x] ++ (List.replicate (k + 1) z ++ l).drop (k + 1) = List.replicate k z ++ x :: l := by
  rw [List.take_append_of_le_length (by simp), List.take_replicate, Nat.min_eq_left (by omega), List.drop_left' (by simp), List.append_assoc]
  rfl
  abbrev v8 (b : UInt8) : Value := .int .u8 b.toNat
theorem c_formatBits {w0 : World} (hT : EnvS prog 0 4 5 7 w0) (u0 : Nat) (hu0 : u0 < 18446744073709551616) :
  Calls prog 126 #[.slice none 0 0, .int .u64 u0, .int .i64 16, .bool false, .bool false] w0 (Ret w0 fun _ v => v = .tuple #[.slice none 0 0, .string ⟨(hexL u0 []).toArray⟩]) := by
 refine cW func126 ntmps126 ?_
 have H := Inv.start (w := w0)
 refine Sq (Rg (As (v := .slice none 0 0) R R R (As (v := .string ByteArray.empty) R R R (Nl (Sq (Sq (Rg (Mv (v := .int .i64 16) R R R (O.lss R R R R (Mv (v := .bool false) R R R (Mv (v := .int .i64 16) R R R (O.eql R R R R (Pf (v := .bool false) R R R R ?_)))))))))))))
 refine Mv (v := .bool false) R R R (Mv (v := .int .i64 16) R R R (O.gtr R R R R (Pf (v := .bool false) R R R R (Nl (Cf rfl (Sk (Sq (Rg (O.alloc (List.replicate 65 (.int .u8 0)) ze244 H R R R fun b w1 H hb1 => Nl (Sq (Rg ?_)))))))))))
 refine As (v := .int .i64 65) R R R (Nl (Sq (Sq (Rg (Mv (v := .bool false) R R R (Nl (Cf rfl (Sk (Sq (Sq (Rg (Mv (v := .int .i64 16) R R R (Ca call171 R R R c_pow2 ?_)))))))))))))
 rintro _ w2 hb2 rfl
 have H := H.ext hb2
 refine Nl (Ct rfl (Sq (Rg (Mv (v := .int .i64 16) R R R (O.convI (c := 16) (by rw [underlying3]; rfl) underlying184 R R R R (Ca call172 R R R (c_tz (hT.mono H.base)) ?_))))))
 rintro _ w3 hb3 rfl
 have H := H.ext hb3
 refine O.convI (c := 4) (by rw [underlying3]; rfl) underlying184 R R R R (As (v := .int .u64 4) R R R (Nl (Sq (Rg (Mv (v := .int .i64 16) R R R (O.convI (c := 16) (by rw [underlying3]; rfl) underlying63 R R R R (As (v := .int .u64 16) R R R (Nl (Sq (Rg (Mv (v := .int .i64 16) R R R (O.convI (c := 16) (by rw [underlying3]; rfl) underlying184 R R R R (O.binV (k := .u64) (k' := .u64) (a := 16) (b := 1) (v := .int .u64 15) R R (fun _ => by kernel_rfl) R R ?_)))))))))))))
 refine As (v := .int .u64 15) R R R (Nl (Sq (Bk ?_)))
 have hfin : ∀ (u : Nat) (acc : List UInt8), u < 16 ^ (16 - acc.length) → acc.length ≤ 15 → acc.length + 1 ≤ 16 := fun _ _ _ h => by omega
 refine W.loopL (l := List.replicate (hexN u0) ()) (fun rem f w => ∃ (u : Nat) (acc : List UInt8), hexN u = rem.length ∧ u < 16 ^ (16 - acc.length) ∧ acc.length ≤ 15 ∧ hexL u acc = hexL u0 [] ∧
  (f 1 = .int .u64 u ∧ f 13 = .int .i64 ((65 - acc.length : Nat) : Int) ∧ f 12 = .pointer (some ⟨b, 0, none⟩) ∧ f 14 = .int .u64 4 ∧ f 15 = .int .u64 16 ∧ f 16 = .int .u64 15 ∧ f 3 = .bool false ∧ f 4 = .bool false ∧ f 10 = .slice none 0 0) ∧
  Inv w0 w [boxI b 244 (List.replicate (65 - acc.length) (.int .u8 0) ++ acc.map v8)]) ?_ ?_ ?_
 · exact ⟨u0, [], List.length_replicate.symm, hu0, Nat.zero_le _, rfl, ⟨rfl, rfl, rfl, rfl, rfl, rfl, rfl, rfl, rfl⟩, H⟩
 ·
  rintro _ xs f w ⟨u, acc, hn, hu, ha, hh, hf, H⟩
  have h16 : 16 ≤ u := by
   by_cases h : 16 ≤ u
   · exact h
   · rw [hexN, dif_neg h] at hn; simp at hn
  have hn2 : hexN (u / 16) = xs.length := by
   rw [hexN, dif_pos h16, List.length_cons] at hn; omega
  have hlt : acc.length ≤ 14 := by
   by_cases h : acc.length ≤ 14
   · exact h
   ·
    have e : acc.length = 15 := by omega
    rw [e] at hu; omega
  have hu64 : u < 18446744073709551616 := Nat.lt_of_lt_of_le hu (by rw [show (18446744073709551616 : Nat) = 16 ^ 16 from by decide]; exact Nat.pow_le_pow_right (by decide) (by omega))
  have hu2 : u / 16 < 16 ^ (16 - (dig16 (u % 16) :: acc).length) := by
   rw [List.length_cons, Nat.div_lt_iff_lt_mul (by decide), ← Nat.pow_succ, show (16 - (acc.length + 1)).succ = 16 - acc.length by omega]
   exact hu
  obtain ⟨u1, rfl⟩ := up9 hf.1 hf.2.1 hf.2.2.1 hf.2.2.2.1 hf.2.2.2.2.1 hf.2.2.2.2.2.1 hf.2.2.2.2.2.2.1 hf.2.2.2.2.2.2.2.1 hf.2.2.2.2.2.2.2.2
  have hsub : subI ((65 - acc.length : Nat) : Int) 1 = some ((64 - acc.length : Nat) : Int) := by
   unfold subI
   rw [if_pos (inI_iff.2 (by omega))]
   congr 1
   omega
  refine Sq (Sq (Rg (Mv (v := .int .u64 u) R R R (Mv (v := .int .u64 16) R R R (O.geq R R R R (Nl ?_))))))
  refine Ct (cb (decide_eq_true (by omega))) ?_
  refine Sk (Bk (Sq (Rg (Mv (v := .int .i64 ((65 - acc.length : Nat) : Int)) R R R (O.sub R R R R hsub (As (v := .int .i64 ((64 - acc.length : Nat) : Int)) R R R (Nl (Sq (Rg (Mv (v := .int .i64 ((64 - acc.length : Nat) : Int)) R R R (Mv (v := .int .u64 u) R R R (Mv (v := .int .u64 15) R R R (O.andW R R R R ?_)))))))))))))
  rw [and15 u hu64]
  refine O.indexStrK underlying9 (dig_at (u % 16) (Nat.mod_lt _ (by decide))) R R R R ?_
  refine O.indexArrN (i := 64 - acc.length) underlying244 sz5 (by omega) R R R R ?_
  refine St 0 (64 - acc.length) [v8 (dig16 (u % 16))] (List.replicate (65 - (dig16 (u % 16) :: acc).length) (.int .u8 0) ++ (dig16 (u % 16) :: acc).map v8) sz5 H R R R (by rw [Addr.add_lit, Nat.zero_add]) R R ⟨⟨rfl, Nat.ble_eq_true_of_le (by simp; omega)⟩, ?_⟩ (one_cons rfl one_nil) ?_
  ·
   have h := put_at (64 - acc.length) (.int .u8 0) (v8 (dig16 (u % 16))) (acc.map v8)
   rw [show 64 - acc.length + 1 = 65 - acc.length by omega] at h
   rw [show 65 - (dig16 (u % 16) :: acc).length = 64 - acc.length by rw [List.length_cons]; omega]
   refine Eq.trans ?_ h
   rw [show 64 - acc.length + [v8 (dig16 (u % 16))].length = 65 - acc.length by simp; omega]
  intro w4 H
  refine Nl (Rg (Mv (v := .int .u64 u) R R R (Mv (v := .int .u64 4) R R R (O.shrW (by decide) (by decide) R R R R ?_))))
  have e16 : ((u : Nat) : Int) / 2 ^ (4 : Int).toNat = ((u / 16 : Nat) : Int) := by
   rw [show (2 : Int) ^ (4 : Int).toNat = 16 from by decide]; omega
  rw [e16]
  refine As (v := .int .u64 ((u / 16 : Nat) : Int)) R R R ?_
  exact Nl ⟨u / 16, dig16 (u % 16) :: acc, hn2, hu2, by rw [List.length_cons]; omega, by rw [← hh, hexL_big h16], ⟨rfl, by rw [List.length_cons, show 65 - (acc.length + 1) = 64 - acc.length by omega]; rfl, rfl, rfl, rfl, rfl, rfl, rfl, rfl⟩, H⟩
 ·
  rintro f w ⟨u, acc, hn, hu, ha, hh, hf, H⟩
  have h16 : ¬ 16 ≤ u := by
   intro h
   rw [hexN, dif_pos h] at hn; simp at hn
  rw [hexL_small h16] at hh
  obtain ⟨u1, rfl⟩ := up9 hf.1 hf.2.1 hf.2.2.1 hf.2.2.2.1 hf.2.2.2.2.1 hf.2.2.2.2.2.1 hf.2.2.2.2.2.2.1 hf.2.2.2.2.2.2.2.1 hf.2.2.2.2.2.2.2.2
  have hsub : subI ((65 - acc.length : Nat) : Int) 1 = some ((64 - acc.length : Nat) : Int) := by
   unfold subI
   rw [if_pos (inI_iff.2 (by omega))]
   congr 1
   omega
  refine Sq (Sq (Rg (Mv (v := .int .u64 u) R R R (Mv (v := .int .u64 16) R R R (O.geq R R R R (Nl ?_))))))
  refine Cf (cb (decide_eq_false (by omega))) ?_
  refine Ex (xT rfl (Sq (Rg (Mv (v := .int .i64 ((65 - acc.length : Nat) : Int)) R R R (O.sub R R R R hsub (As (v := .int .i64 ((64 - acc.length : Nat) : Int)) R R R (Nl (Rg (Mv (v := .int .i64 ((64 - acc.length : Nat) : Int)) R R R (Mv (v := .int .u64 u) R R R ?_))))))))))
  refine O.indexStrK underlying9 (dig_at u (by omega)) R R R R ?_
  refine O.indexArrN (i := 64 - acc.length) underlying244 sz5 (by omega) R R R R ?_
  refine St 0 (64 - acc.length) [v8 (dig16 u)] (List.replicate (64 - acc.length) (.int .u8 0) ++ (dig16 u :: acc).map v8) sz5 H R R R (by rw [Addr.add_lit, Nat.zero_add]) R R ⟨⟨rfl, Nat.ble_eq_true_of_le (by simp; omega)⟩, ?_⟩ (one_cons rfl one_nil) ?_
  ·
   have h := put_at (64 - acc.length) (.int .u8 0) (v8 (dig16 u)) (acc.map v8)
   rw [show 64 - acc.length + 1 = 65 - acc.length by omega] at h
   refine Eq.trans ?_ h
   rw [show 64 - acc.length + [v8 (dig16 u)].length = 65 - acc.length by simp; omega]
  intro w4 H
  refine Nl (Sq (Sq (Rg (Mv (v := .bool false) R R R (Nl (Cf rfl (Sk (Sq (Sq (Rg (Mv (v := .bool false) R R R (Nl (Cf rfl ?_)))))))))))))
  refine Sk (Sq (Rg (Mv (v := .int .i64 ((64 - acc.length : Nat) : Int)) R R R ?_)))
  refine O.sliceArr (i := 64 - acc.length) underlying244 sz5 (by omega) R R R R ?_
  have hlen : 65 - (64 - acc.length) = (dig16 u :: acc).length := by rw [List.length_cons]; omega
  rw [hlen]
  refine O.strOf (l := dig16 u :: acc) underlying94 underlying5 underlying9 R R R ?_ ?_
  ·
   intro i x hi
   rw [addr_add_add]
   refine H.cell 0 rfl (64 - acc.length + i) _ ?_
   rw [List.getElem?_append_right (by simp), List.length_replicate, show 64 - acc.length + i - (64 - acc.length) = i by omega, List.getElem?_map, hi]
   rfl
  rw [hh]
  exact As (v := .string ⟨(hexL u0 []).toArray⟩) R R R (Nl (Rt (ends2 results126 R R ⟨_, rfl, H.base, rfl⟩)))
theorem c_internal_FormatUint {w0 : World} (hT : EnvS prog 0 4 5 7 w0) (u0 : Nat) (hu0 : u0 < 18446744073709551616) : Calls prog 92 #[.int .u64 u0, .int .i64 16] w0 (Ret w0 fun _ v => v = .string ⟨(hexL u0 []).toArray⟩) := by
 refine cW func92 ntmps92 ?_
 have H := Inv.start (w := w0)
 refine Sq (Rg (As (.string ByteArray.empty) (Nl (Sq (Sq (Rg (Mv (vi 16) (Eq_ (Nl (Cf rfl (Sk (Sq (Rg ?_)))))))))))))
 refine Mv (.int .u64 u0) (Mv (vi 16) (Ca call126 (c_formatBits hT u0 hu0) ?_))
 rintro _ w1 hb rfl
 have H := H.ext hb
 exact Mv (.tuple #[.slice none 0 0, .string ⟨(hexL u0 []).toArray⟩]) (Xt (.slice none 0 0) (Xt (.string ⟨(hexL u0 []).toArray⟩) (As (.slice none 0 0) (As (.string ⟨(hexL u0 []).toArray⟩) (Nl (Sq (Rg (Mv (.string ⟨(hexL u0 []).toArray⟩) (As (.string ⟨(hexL u0 []).toArray⟩) (Nl (Rt (ends1 results92 rfl ⟨_, rfl, H.base, rfl⟩))))))))))))
theorem c_strconv_FormatUint {w0 : World} (hT : EnvS prog 0 4 5 7 w0) (a0 a1 : Int) {r0 : ByteArray} (hm : strconv_FormatUint a0 a1 = some r0) : Calls prog 53 #[(.int .u64 a0), (vi a1)] w0 (Ret w0 fun _ v => v = (.string r0)) := by
 unfold strconv_FormatUint at hm
 split at hm
 case isFalse => cases hm
 rename_i hc
 obtain ⟨rfl, h0, h1⟩ := hc
 cases hm
 obtain ⟨u0, rfl⟩ : ∃ u0 : Nat, a0 = (u0 : Int) := ⟨a0.toNat, by omega⟩
 rw [Int.toNat_natCast]
 refine cW func53 ntmps53 ?_
 have H := Inv.start (w := w0)
 refine Sq (Rg (As (.string ByteArray.empty) (Nl (Sq (Rg (Mv (.int .u64 u0) (Mv (vi 16) ?_)))))))
 refine Ca call92 (c_internal_FormatUint hT u0 (by omega)) ?_
 rintro _ w1 hb rfl
 have H := H.ext hb
 exact As (.string ⟨(hexL u0 []).toArray⟩) (Nl (Rt (ends1 results53 rfl ⟨_, rfl, H.base, rfl⟩)))

theorem c_station_hex {w0 : World} (hT : EnvS prog 0 4 5 7 w0) (a0 : Int) {r0 : ByteArray} (hm : station_hex a0 = some r0) :
  Calls prog 31 #[(.int .u64 a0)] w0 (Ret w0 fun _ v => v = (.string r0)) := by
 unfold station_hex at hm
 refine cW func31 ntmps31 ?_
 have H := Inv.start (w := w0)
 refine Sq (Rg (As (.string (bs [])) (Nl (Sq (Rg (Mv (.int .u64 a0) ?_))))))
 obtain ⟨t1, hy1, hm⟩ := bind_some hm
 refine Ca call53 (c_strconv_FormatUint (hT.mono H.base) _ _ hy1) ?_
 rintro _ w1 hb1 rfl
 have H := H.ext hb1
 refine As (.string t1) (Nl (Sq (Rg (Mv (.string t1) (Lt_ underlying9 ?_)))))
 obtain ⟨t2, hy2, hm⟩ := bind_some hm
 refine O.sliceS underlying9 hy2 R R R (.inl rfl) (.inr ⟨rfl, rfl⟩) (Mv (.string t1) ?_)
 obtain ⟨t3, ht3, hm⟩ := bind_some hm
 refine O.addS R R R R ht3 (As (.string t3) (Nl (Rt ?_)))
 obtain rfl := sj hm
 exact ends1 results31 rfl ⟨_, rfl, H.base, rfl⟩

theorem c_station_hash {w0 : World} (a0 : ByteArray) {r0 : Int} (hm : station_hash a0 = some r0) :
  Calls prog 32 #[(.string a0)] w0 (Ret w0 fun _ v => v = (.int .u64 r0)) := by
 unfold station_hash at hm
 refine cW func32 ntmps32 ?_
 have H := Inv.start (w := w0)
 refine Sq (Rg (As (.int .u64 0) (Nl (Sq (Rg (As (.int .u64 14695981039346656037) (Nl (Sq (Sq (Rg (Mv (.string a0) ?_)))))))))))
 obtain ⟨t1, ht1, hm⟩ := bind_some hm
 refine O.bytesHeld underlying9 underlying94 underlying5 ht1 H R R R fun v1 w1 b1 ob1 H hb1 hsl1 => Ln underlying94 (hsl1 _ (H.items _ (List.mem_of_getElem? (i := 0) rfl)).1) (Mv (vi 0) (Nl ?_))
 obtain ⟨s1, hm1, hm⟩ := bind_some hm
 refine Va (fun f w => f 3 = (.int .u64 s1) ∧ Inv w0 w []) ?_ ?_
 ·
  refine Bk ?_
  refine W.rangeL (i := 0) hm1 (fun rem ik1 s f w => ∃ z2 : Int, z2 = s ∧ t1.drop ik1 = rem ∧ f 9 = .int .i64 (ik1 : Int) ∧ f 8 = (vi ((t1.length : Nat) : Int)) ∧ f 3 = (.int .u64 z2) ∧ f 7 = v1 ∧ Inv w0 w [heldI b1 ob1]) ?_ ?_ ?_
  ·
   exact ⟨_, rfl, List.drop_zero, rfl, rfl, rfl, rfl, H⟩
  ·
   rintro yk1 xs ik1 _ st f w ⟨z2, rfl, hdropk1, hf9, hf8, hf3, hf7, H⟩ hm2
   have hltk1 := drop_lt hdropk1; have hixk1 := drop_idx hdropk1
   obtain ⟨u1, rfl⟩ := up4 hf9 hf8 hf3 hf7
   have hinck1 := addI_lt hltk1 (hsl1 _ (H.items _ (List.mem_of_getElem? (i := 0) rfl)).1).len_le
   refine Sq (Rg (Ls (Nl (Sq (Ct (cb (decide_eq_true hltk1)) (Sk (Sq (Bk (Sq (Rg (Ia underlying94 sz5 (hsl1 _ (H.items _ (List.mem_of_getElem? (i := 0) rfl)).1) hixk1 fun p1 hp1 => Ld _ sc5 (hp1.flat 0 _ rfl) ?_)))))))))))
   refine As (.int .u8 (yk1.toNat : Int)) (Nl (Rg (Mv (.int .u64 z2) (Mv (.int .u8 (yk1.toNat : Int)) ?_))))
   obtain ⟨t2, ht2, hm2⟩ := bind_some hm2
   refine O.convI (by rw [underlying5]; rfl) underlying63 ht2 R R R (O.xor R R R R (O.mulW R R R R (As (.int .u64 (wrU ((bits .xor .u64 z2 t2) * 1099511628211))) (Nl (Rg (Ad hinck1 (Mv (vi ((ik1 : Int) + 1)) (Nl ?_))))))))
   obtain rfl := sj hm2
   exact ⟨_, rfl, _, rfl, drop_next hdropk1, rfl, rfl, rfl, rfl, H⟩
  ·
   rintro ik1 _ f w ⟨z2, rfl, hdropk1, hf9, hf8, hf3, hf7, H⟩ hfin
   have hltk1 := drop_end hdropk1
   obtain ⟨u2, rfl⟩ := up4 hf9 hf8 hf3 hf7
   refine Sq (Rg (Ls (Nl (Sq (Cf (cb (decide_eq_false hltk1)) (Ex ?_))))))
   have hq : z2 = s1 := hfin
   subst hq
   have H := H.keep [] [] rfl (by decide)
   exact xT rfl ⟨rfl, H⟩
 ·
  rintro f w ⟨hf3, H⟩
  obtain ⟨u3, rfl⟩ := up1 hf3
  refine Sq (Rg (Mv (.int .u64 s1) (As (.int .u64 s1) (Nl (Rt ?_)))))
  obtain rfl := sj hm
  exact ends1 results32 rfl ⟨_, rfl, H.base, rfl⟩

theorem c_station_next {w0 : World} (hT : EnvS prog 0 4 5 7 w0) (va0 : Value) (a0 : (List GLine)) (ha0 : SliceR w0 va0 a0) (a1 : ByteArray) {r0 : GLine} (hm : station_next a0 a1 = some r0) :
  Calls prog 18 #[va0, (.string a1)] w0 (Ret w0 fun _ v => v = (.agg (Flat.cells r0).toArray)) := by
 unfold station_next at hm
 refine cW func18 ntmps18 ?_
 have H := Inv.start (w := w0)
 refine Sq (Rg (Al [(vi 0), (.string ByteArray.empty), (.int .u64 0)] ze65 H fun b1 w1 H hb1 => Nl (Sq (Rg (As (.string (bs [48, 48, 48, 48, 48, 48, 48, 48, 48, 48, 48, 48, 48, 48, 48, 48])) (Nl (Sq (Sq (Rg (Mv va0 (Ln underlying55 (H.arg ha0) ?_)))))))))))
 refine Gt_ (Nl ?_)
 obtain ⟨s1, hm1, hm⟩ := bind_some hm
 refine Va (fun f w => f 0 = va0 ∧ f 1 = (.string a1) ∧ f 4 = (pt b1) ∧ f 5 = (.string s1) ∧ Inv w0 w [boxI b1 65 [(vi 0), (.string ByteArray.empty), (.int .u64 0)]]) ?_ ?_
 ·
  rcases ite_some hm1 with ⟨hc1, hm1⟩ | ⟨hc1, hm1⟩
  ·
   refine Ct (cb hc1) (Rg (Mv va0 (Mv va0 (Ln underlying55 (H.arg ha0) ?_))))
   obtain ⟨t1, ht1, hm1⟩ := bind_some hm1
   refine Su ht1 ?_
   obtain ⟨x1, hx1, hm1⟩ := bind_some hm1
   obtain ⟨p1, hp1, hrp1⟩ := fix_indexAddr underlying55 sz65 ha0 hx1
   refine hrp1 R R R R (Fa fd65_2 rfl (Ld _ sc63 ((hp1.mono H.base).flat 2 _ rfl) ?_))
   obtain ⟨t2, hy1, hm1⟩ := bind_some hm1
   refine Ca call31 (c_station_hex (hT.mono H.base) _ hy1) ?_
   rintro _ w2 hb2 rfl
   have H := H.ext hb2
   refine As (.string t2) (Nl ?_)
   obtain rfl := sj hm1
   exact ⟨rfl, rfl, rfl, rfl, H⟩
  ·
   refine Cf (cb hc1) (Sk ?_)
   obtain rfl := sj hm1
   exact ⟨rfl, rfl, rfl, rfl, H⟩
 ·
  rintro f w ⟨hf0, hf1, hf4, hf5, H⟩
  obtain ⟨u1, rfl⟩ := up4 hf0 hf1 hf4 hf5
  refine Sq (Rg (Mv va0 (Ln underlying55 (H.arg ha0) (Mv (.string a1) (Mv (.string s1) ?_)))))
  obtain ⟨t3, ht3, hm⟩ := bind_some hm
  refine O.addS R R R R ht3 (Mv (.string a1) ?_)
  obtain ⟨t4, ht4, hm⟩ := bind_some hm
  refine O.addS R R R R ht4 ?_
  obtain ⟨t5, hy2, hm⟩ := bind_some hm
  refine Ca call32 (c_station_hash _ hy2) ?_
  rintro _ w3 hb3 rfl
  have H := H.ext hb3
  refine Bd (v := (.agg (Flat.cells (GLine.mk ((a0.length : Nat) : Int) a1 t5)).toArray)) (fun w => bd65_0_1_2 _ _ _ w) rfl (St 0 0 [(vi ((a0.length : Nat) : Int)), (.string a1), (.int .u64 t5)] [(vi ((a0.length : Nat) : Int)), (.string a1), (.int .u64 t5)] sz65 H R R (one_cons rfl (one_cons rfl (one_cons rfl one_nil))) fun w4 H => Nl (Rt ?_))
  obtain rfl := sj hm
  exact ends1 results18 ⟨_, rfl, run_loadVar_agg ag65 rfl (H.cell 0 rfl)⟩ ⟨_, rfl, H.base, rfl⟩

end Go.Proofs
namespace Go.Proofs
open Go.Fw Go.RowKit Go.Shelf Go.Maps
open Go.Proofs.Tryz
open Go.Fw.W renaming seq → Sq, region → Rg, skip → Sk, ret → Rt, cond_true → Ct, cond_false → Cf
open Go.Fw.WL renaming nil → Nl, reset → Rs, cut → Cu
open Go.Fw.PL renaming of → Pl
set_option maxRecDepth 20000 in
theorem c_station_Station_Do {w0 : World} (X0 : Nat → Prop) (b0 : Nat) (va0_0 : Value) (va0_1 : Value) (va0_2 : Value) (va0_3 : Value) (va0_4 : Value) (va0_5 : Value) (a0 : GStation) (H0 : InvD X0 w0 w0 [boxI b0 57 (cS a0.inside va0_0 va0_1 va0_2 va0_3 va0_4 va0_5), o3 va0_0 a0.inside.net.Rates, o92 va0_1 a0.inside.net.Sights, o70 va0_2 a0.inside.log, o3 va0_3 a0.inside.verdicts, o74 va0_4 a0.inside.ledger, o65 va0_5 a0.lines]) (hT : ∀ w', BelowX X0 w0 w' → EnvS prog 0 4 5 7 w') (a1 : ByteArray) {r0 : GStation × ByteArray × Int} (hm : station_Station_Do a0 a1 = some r0) :
  Calls prog 4 #[(pt b0), (.string a1)] w0 (OPost X0 w0 r0 (fun r v L1 => ∃ u0 u1 u2 u3 u4 u5 : Value, L1 = [boxI b0 57 (cS r.1.inside u0 u1 u2 u3 u4 u5), o3 u0 r.1.inside.net.Rates, o92 u1 r.1.inside.net.Sights, o70 u2 r.1.inside.log, o3 u3 r.1.inside.verdicts, o74 u4 r.1.inside.ledger, o65 u5 r.1.lines] ∧ v = .tuple #[(.string r.2.1), (vi r.2.2)])) := by
 unfold station_Station_Do at hm
 refine cW func4 ntmps4 ?_
 have H := H0
 refine Sq (Rg (As (.string (bs [])) (As (vi 0) (Nl (Sq (Sq (Rg (Mv (pt b0) (Ep pt22 (Rs (i := 13) (v := .bool false) rfl (Nl (Cf rfl (Sk ?_)))))))))))))
 refine Sq (Rg (Mv (.string a1) ?_))
 obtain ⟨o1, hy1, hm⟩ := bind_some hm
 rcases o1 with _ | ⟨t1, t2⟩
 ·
  refine Ca call15 (c_station_parsed (hT _ H.baseX) _ hy1) ?_
  rintro _ w1 hb1 rfl
  have H := H.ext hb1
  refine Mv (.tuple #[(.agg #[.slice none 0 0, .nilFunc]), (.slice none 0 0), (.bool false)]) (Xt (.agg #[.slice none 0 0, .nilFunc]) (Xt (.slice none 0 0) (Xt (.bool false) (Al [.slice none 0 0, .nilFunc] ze47 H fun b1 w2 H hb2 => St 7 0 [.slice none 0 0, .nilFunc] [.slice none 0 0, .nilFunc] sz47 H R R (one_cons rfl (one_cons rfl one_nil)) fun w3 H => As (.slice none 0 0) (As (.bool false) (Nl (Sq (W.block (Sq ?_)))))))))
  refine Rg (Mv (.bool false) (O.not R R R (Rs (i := 22) (v := .bool true) rfl (As (.bool true) (Nl (Ct rfl (Sq (Rg (As (.string (bs [])) (As (vi 12) (Nl (Rt ?_))))))))))))
  obtain rfl : (a0, (bs []), 12) = r0 := sj (show some (a0, (bs []), 12) = some r0 from hm)
  exact ends2 results4 R R ⟨_, _, rfl, H.pick [0, 1, 2, 3, 4, 5, 6] [boxI b0 57 (cS a0.inside va0_0 va0_1 va0_2 va0_3 va0_4 va0_5), o3 va0_0 a0.inside.net.Rates, o92 va0_1 a0.inside.net.Sights, o70 va0_2 a0.inside.log, o3 va0_3 a0.inside.verdicts, o74 va0_4 a0.inside.ledger, o65 va0_5 a0.lines] rfl (by decide), va0_0, va0_1, va0_2, va0_3, va0_4, va0_5, rfl, rfl⟩
 ·
  refine Ca call15 (c_station_parsed (hT _ H.baseX) _ hy1) ?_
  rintro _ w4 hb1 ⟨v1, v2, b2, ob1, rfl, hk1, hs1, _, hu1⟩
  have H := H.addHeld hb1 hk1
  refine Mv (.tuple #[(.agg #[v1, .func (.func (doF t1)) #[] #[]]), v2, (.bool true)]) (Xt (.agg #[v1, .func (.func (doF t1)) #[] #[]]) (Xt v2 (Xt (.bool true) (Al [.slice none 0 0, .nilFunc] ze47 H fun b3 w5 H hb3 => St 8 0 [v1, .func (.func (doF t1)) #[] #[]] [v1, .func (.func (doF t1)) #[] #[]] sz47 H R R (one_cons hu1 (one_cons rfl one_nil)) fun w6 H => As v2 (As (.bool true) (Nl (Sq (W.block (Sq ?_)))))))))
  refine Rg (Mv (.bool true) (O.not R R R (Rs (i := 22) (v := .bool false) rfl (As (.bool false) (Nl (Cf rfl (Sq (Rg (Mv (pt b0) (Nk rfl (Fa fd57_1 rfl (Ld _ sc55 (H.cell 0 rfl 17 _ rfl) (Ln underlying55 (H.own 6 rfl) ?_)))))))))))))
  refine Eq_ (As (.bool (((a0.lines.length : Nat) : Int) == 2000)) (Nl ?_))
  rcases ite_some hm with ⟨hc1, hm⟩ | ⟨hc1, hm⟩
  ·
   refine Ct (cb hc1) (Sq (Rg (As (.string (bs [])) (As (vi 4) (Nl (Rt ?_))))))
   obtain rfl : (a0, (bs []), 4) = r0 := sj (show some (a0, (bs []), 4) = some r0 from hm)
   exact ends2 results4 R R ⟨_, _, rfl, H.pick [0, 1, 2, 3, 4, 5, 6] [boxI b0 57 (cS a0.inside va0_0 va0_1 va0_2 va0_3 va0_4 va0_5), o3 va0_0 a0.inside.net.Rates, o92 va0_1 a0.inside.net.Sights, o70 va0_2 a0.inside.log, o3 va0_3 a0.inside.verdicts, o74 va0_4 a0.inside.ledger, o65 va0_5 a0.lines] rfl (by decide), va0_0, va0_1, va0_2, va0_3, va0_4, va0_5, rfl, rfl⟩
  ·
   refine Cf (cb hc1) (Sk (Sq (Rg (Mv (pt b0) (Nk rfl (Fa fd57_0 rfl (La (q := ⟨b0, 0, none⟩) (cI a0.inside va0_0 va0_1 va0_2 va0_3 va0_4) ag54 (cell_part (o := 0) (k := 17) (H.cell 0 rfl) rfl) ?_)))))))
   obtain ⟨t3, hy2, hm⟩ := bind_some hm
   refine Ca call16 (c_station_inside_copied _ _ _ _ _ (GInside.mk a0.inside.mast a0.inside.day (GNet.mk a0.inside.net.Rates a0.inside.net.Sights) a0.inside.log a0.inside.state a0.inside.verdicts a0.inside.ledger a0.inside.flags) (H.own 1 rfl) (H.own 2 rfl) (H.own 3 rfl) (H.own 4 rfl) (H.own 5 rfl) hy2) ?_
   rintro _ w7 hb4 ⟨v3, v4, v5, v6, v7, rfl, ho1⟩
   have H := H.addAll hb4 ho1
   obtain ⟨ad1, cap1, hvad1, _⟩ := (H.own 9 rfl).shape
   obtain ⟨ad2, cap2, hvad2, _⟩ := (H.own 10 rfl).shape
   obtain ⟨ad3, cap3, hvad3, _⟩ := (H.own 11 rfl).shape
   obtain ⟨ad4, cap4, hvad4, _⟩ := (H.own 12 rfl).shape
   obtain ⟨ad5, cap5, hvad5, _⟩ := (H.own 13 rfl).shape
   refine Bd (v := (.agg (cI t3 v3 v4 v5 v6 v7).toArray)) (fun w => by rw [hvad1, hvad2, hvad3, hvad4, hvad5]; exact bdx61_0 t3.mast t3.day _ _ _ _ _ _ _ _ _ t3.state _ _ _ _ _ _ t3.flags w) rfl (Bx (cI t3 v3 v4 v5 v6 v7) H fun b4 w8 H hb5 => As (pt b4) (Nl (Sq (Rg (Mv (pt b4) (La [v1, .func (.func (doF t1)) #[] #[]] ag47 (H.cell 8 rfl) (Mv v2 ?_)))))))
   have H := H.pick [0, 1, 2, 3, 4, 5, 6, 7, 8, 14, 9, 10, 11, 12, 13] [boxI b0 57 (cS a0.inside va0_0 va0_1 va0_2 va0_3 va0_4 va0_5), o3 va0_0 a0.inside.net.Rates, o92 va0_1 a0.inside.net.Sights, o70 va0_2 a0.inside.log, o3 va0_3 a0.inside.verdicts, o74 va0_4 a0.inside.ledger, o65 va0_5 a0.lines, heldI b2 ob1, boxI b3 47 [v1, .func (.func (doF t1)) #[] #[]], boxI b4 61 (cI t3 v3 v4 v5 v6 v7), o3 v3 t3.net.Rates, o92 v4 t3.net.Sights, o70 v5 t3.log, o3 v6 t3.verdicts, o74 v7 t3.ledger] rfl (by decide)
   have HF : InvD _ _ _ ([boxI b0 57 (cS a0.inside va0_0 va0_1 va0_2 va0_3 va0_4 va0_5), o3 va0_0 a0.inside.net.Rates, o92 va0_1 a0.inside.net.Sights, o70 va0_2 a0.inside.log, o3 va0_3 a0.inside.verdicts, o74 va0_4 a0.inside.ledger, o65 va0_5 a0.lines, heldI b2 ob1, boxI b3 47 [v1, .func (.func (doF t1)) #[] #[]]] ++ [boxI b4 61 (cI t3 v3 v4 v5 v6 v7), o3 v3 t3.net.Rates, o92 v4 t3.net.Sights, o70 v5 t3.log, o3 v6 t3.verdicts, o74 v7 t3.ledger]) := H
   obtain ⟨o2, hy3, hm⟩ := bind_some hm
   rcases o2 with ⟨t4, t5⟩ | t6
   ·
    refine O.callF [boxI b0 57 (cS a0.inside va0_0 va0_1 va0_2 va0_3 va0_4 va0_5), o3 va0_0 a0.inside.net.Rates, o92 va0_1 a0.inside.net.Sights, o70 va0_2 a0.inside.log, o3 va0_3 a0.inside.verdicts, o74 va0_4 a0.inside.ledger, o65 va0_5 a0.lines, heldI b2 ob1, boxI b3 47 [v1, .func (.func (doF t1)) #[] #[]]] [boxI b4 61 (cI t3 v3 v4 v5 v6 v7), o3 v3 t3.net.Rates, o92 v4 t3.net.Sights, o70 v5 t3.log, o3 v6 t3.verdicts, o74 v7 t3.ledger] HF call17 R R R (c_station_session_attempt _ _ _ _ _ _ _ (GSession.mk t3) HF.frame (fun _ hb => hT _ (HF.belowFX hb)) _ hu1 _ _ _ (fun _ hb => hs1 _ (HF.stayH hb 7 rfl)) hy3) ?_
    rintro _ w9 _ H ⟨v8, v9, v10, v11, v12, rfl, rfl⟩
    refine Mv (.tuple #[(.string t5), (vi 0)]) (Xt (.string t5) (Xt (vi 0) (As (.string t5) (As (vi 0) (Nl (Sq (Sq (Rg (Mv (vi 0) (Ne_ (Rs (i := 45) (v := .bool false) rfl (Nl (Cf rfl ?_)))))))))))))
    refine Sk (Sq (Rg (Mv (pt b0) (Mv (pt b4) (Nk rfl (Fa fd61_0 rfl (La (cI t4.inside v8 v9 v10 v11 v12) ag54 (H.cell 9 rfl) (Nk rfl (Fa fd57_0 rfl (St 0 0 (cI t4.inside v8 v9 v10 v11 v12) (cS t4.inside v8 v9 v10 v11 v12 va0_5) sz54 H R R (one_cons rfl (one_cons rfl (one_cons rfl (one_cons rfl (one_cons rfl (one_cons rfl (one_cons rfl (one_cons (SliceR.one (H.own 10 rfl)) (one_cons (SliceR.one (H.own 11 rfl)) (one_cons (SliceR.one (H.own 12 rfl)) (one_cons rfl (one_cons rfl (one_cons rfl (one_cons rfl (one_cons (SliceR.one (H.own 13 rfl)) (one_cons (SliceR.one (H.own 14 rfl)) (one_cons rfl one_nil))))))))))))))))) fun w10 H => Nl (Sq ?_)))))))))))
    obtain ⟨t7, hy4, hm⟩ := bind_some hm
    obtain ⟨t8, ht8, hm⟩ := bind_some hm
    have H := H.addGone
    refine W.drawD 13 [[], [], [1], [1, 2], [1, 2, 3], [], [5], [5, 6], [5, 6, 7], [], [5, 6, 7, 8, 9], [5, 6, 7, 8, 9, 10], [1, 2, 3, 4, 5, 6, 7, 8, 9, 10, 11]] [[], [2, 3, 4, 12], [3, 4, 12], [4, 12], [12], [6, 7, 8, 10, 11, 12], [7, 8, 10, 11, 12], [8, 10, 11, 12], [10, 11, 12], [10, 11, 12], [11, 12], [12], []] (fun S f w => ∃ v13 : Value, ∃ v14 : Value, (f 0 = (pt b0) ∧ f 1 = (.string a1) ∧ f 10 = (.string t5)) ∧ InvD X0 w0 w [boxI b0 57 (cS t4.inside v8 v9 v10 v11 v12 va0_5), o3 va0_0 a0.inside.net.Rates, o92 va0_1 a0.inside.net.Sights, o70 va0_2 a0.inside.log, o3 va0_3 a0.inside.verdicts, o74 va0_4 a0.inside.ledger, cond (S 12) (o65 v14 t8) (o65 va0_5 a0.lines), heldI b2 ob1, boxI b3 47 [v1, .func (.func (doF t1)) #[] #[]], boxI b4 61 (cI t4.inside v8 v9 v10 v11 v12), o3 v8 t4.inside.net.Rates, o92 v9 t4.inside.net.Sights, o70 v10 t4.inside.log, o3 v11 t4.inside.verdicts, o74 v12 t4.inside.ledger, cond (S 11) (o65 v13 ([t7] : List GLine)) goneI] ∧ (S 0 = true → f 54 = (pt b0)) ∧ (S 1 = true → f 55 = (pt b0)) ∧ (S 2 = true → f 56 = (pt b0)) ∧ (S 3 = true → f 57 = (.pointer (some (Addr.add (Addr.mk b0 0 none) 17)))) ∧ (S 4 = true → f 58 = va0_5) ∧ (S 5 = true → f 59 = (pt b0)) ∧ (S 6 = true → f 60 = (pt b0)) ∧ (S 7 = true → f 61 = (.pointer (some (Addr.add (Addr.mk b0 0 none) 17)))) ∧ (S 8 = true → f 62 = va0_5) ∧ (S 9 = true → f 63 = (.string a1)) ∧ (S 10 = true → f 64 = (.agg (Flat.cells t7).toArray)) ∧ (S 11 = true → f 65 = v13) ∧ (S 12 = true → f 66 = v14)) fol (by kernel_rfl) ?_ ?_ ?_
    ·
     exact fun d _ => ⟨.nilFunc, .nilFunc, ⟨rfl, rfl, rfl⟩, H.ext (below_drawn d), nF, nF, nF, nF, nF, nF, nF, nF, nF, nF, nF, nF, nF⟩
    ·
     refine ⟨?_, ⟨?_, ⟨?_, ⟨?_, ⟨?_, ⟨?_, ⟨?_, ⟨?_, ⟨?_, ⟨?_, ⟨?_, ⟨?_, ⟨?_, trivial⟩⟩⟩⟩⟩⟩⟩⟩⟩⟩⟩⟩⟩
     ·
      rintro S f w hS - - ⟨v13, v14, k, H, q0, t⟩
      obtain ⟨u1, rfl⟩ := up1 k.1
      exact Mv (pt b0) (Nl ⟨v13, v14, k, H, (fun _ => rfl), t⟩)
     ·
      rintro S f w hS - ⟨e2, e3, e4, e12, -⟩ ⟨v13, v14, k, H, q0, q1, t⟩
      obtain ⟨u2, rfl⟩ := up1 k.1
      exact Mv (pt b0) (Nl ⟨v13, v14, k, H, q0, (fun _ => rfl), t⟩)
     ·
      rintro S f w hS ⟨e1, -⟩ ⟨e3, e4, e12, -⟩ ⟨v13, v14, k, H, q0, q1, q2, t⟩
      obtain ⟨u3, rfl⟩ := up1 (q1 e1)
      exact Nk rfl (Nl ⟨v13, v14, k, H, q0, q1, (fun _ => rfl), t⟩)
     ·
      rintro S f w hS ⟨e1, e2, -⟩ ⟨e4, e12, -⟩ ⟨v13, v14, k, H, q0, q1, q2, q3, t⟩
      obtain ⟨u4, rfl⟩ := up1 (q2 e2)
      exact Fa fd57_1 rfl (Nl ⟨v13, v14, k, H, q0, q1, q2, (fun _ => rfl), t⟩)
     ·
      rintro S f w hS ⟨e1, e2, e3, -⟩ ⟨e12, -⟩ ⟨v13, v14, k, H, q0, q1, q2, q3, q4, t⟩
      obtain ⟨u5, rfl⟩ := up1 (q3 e3)
      exact Ld _ sc55 (H.cell 0 rfl 17 _ rfl) (Nl ⟨v13, v14, k, H, q0, q1, q2, q3, (fun _ => rfl), t⟩)
     ·
      rintro S f w hS - ⟨e6, e7, e8, e10, e11, e12, -⟩ ⟨v13, v14, k, H, q0, q1, q2, q3, q4, q5, t⟩
      obtain ⟨u6, rfl⟩ := up1 k.1
      exact Mv (pt b0) (Nl ⟨v13, v14, k, H, q0, q1, q2, q3, q4, (fun _ => rfl), t⟩)
     ·
      rintro S f w hS ⟨e5, -⟩ ⟨e7, e8, e10, e11, e12, -⟩ ⟨v13, v14, k, H, q0, q1, q2, q3, q4, q5, q6, t⟩
      obtain ⟨u7, rfl⟩ := up1 (q5 e5)
      exact Nk rfl (Nl ⟨v13, v14, k, H, q0, q1, q2, q3, q4, q5, (fun _ => rfl), t⟩)
     ·
      rintro S f w hS ⟨e5, e6, -⟩ ⟨e8, e10, e11, e12, -⟩ ⟨v13, v14, k, H, q0, q1, q2, q3, q4, q5, q6, q7, t⟩
      obtain ⟨u8, rfl⟩ := up1 (q6 e6)
      exact Fa fd57_1 rfl (Nl ⟨v13, v14, k, H, q0, q1, q2, q3, q4, q5, q6, (fun _ => rfl), t⟩)
     ·
      rintro S f w hS ⟨e5, e6, e7, -⟩ ⟨e10, e11, e12, -⟩ ⟨v13, v14, k, H, q0, q1, q2, q3, q4, q5, q6, q7, q8, t⟩
      obtain ⟨u9, rfl⟩ := up1 (q7 e7)
      exact Ld _ sc55 (H.cell 0 rfl 17 _ rfl) (Nl ⟨v13, v14, k, H, q0, q1, q2, q3, q4, q5, q6, q7, (fun _ => rfl), t⟩)
     ·
      rintro S f w hS - ⟨e10, e11, e12, -⟩ ⟨v13, v14, k, H, q0, q1, q2, q3, q4, q5, q6, q7, q8, q9, t⟩
      obtain ⟨u10, rfl⟩ := up1 k.2.1
      exact Mv (.string a1) (Nl ⟨v13, v14, k, H, q0, q1, q2, q3, q4, q5, q6, q7, q8, (fun _ => rfl), t⟩)
     ·
      rintro S f w hS ⟨e5, e6, e7, e8, e9, -⟩ ⟨e11, e12, -⟩ ⟨v13, v14, k, H, q0, q1, q2, q3, q4, q5, q6, q7, q8, q9, q10, t⟩
      obtain ⟨u11, rfl⟩ := up2 (q8 e8) (q9 e9)
      have G := H
      have H := H.cF 6 e12 rfl
      refine Ca call18 (c_station_next (hT _ H.baseX) _ _ (H.own 6 rfl) _ hy4) ?_
      rintro _ w11 hb6 rfl
      have H := H.ext hb6
      exact Nl ⟨v13, v14, k, (G.ext hb6), q0, q1, q2, q3, q4, q5, q6, q7, q8, q9, (fun _ => rfl), t⟩
     ·
      rintro S f w hS ⟨e5, e6, e7, e8, e9, e10, -⟩ ⟨e12, -⟩ ⟨_, v14, k, H, q0, q1, q2, q3, q4, q5, q6, q7, q8, q9, q10, q11, q12⟩
      obtain ⟨u12, rfl⟩ := up1 (q10 e10)
      have H := H.cF 15 hS rfl
      refine Bs (α := GLine) [(.agg (Flat.cells t7).toArray)] [t7] underlying55 el65 H fun v13 w12 H hb7 => ?_
      have H := H.pick [0, 1, 2, 3, 4, 5, 6, 7, 8, 9, 10, 11, 12, 13, 14, 16] [boxI b0 57 (cS t4.inside v8 v9 v10 v11 v12 va0_5), o3 va0_0 a0.inside.net.Rates, o92 va0_1 a0.inside.net.Sights, o70 va0_2 a0.inside.log, o3 va0_3 a0.inside.verdicts, o74 va0_4 a0.inside.ledger, cond (S 12) (o65 v14 t8) (o65 va0_5 a0.lines), heldI b2 ob1, boxI b3 47 [v1, .func (.func (doF t1)) #[] #[]], boxI b4 61 (cI t4.inside v8 v9 v10 v11 v12), o3 v8 t4.inside.net.Rates, o92 v9 t4.inside.net.Sights, o70 v10 t4.inside.log, o3 v11 t4.inside.verdicts, o74 v12 t4.inside.ledger, o65 v13 ([t7] : List GLine)] rfl (by decide)
      exact Nl ⟨v13, v14, k, H, q0, q1, q2, q3, q4, q5, q6, q7, q8, q9, q10, (fun _ => rfl), q12⟩
     ·
      rintro S f w hS ⟨e1, e2, e3, e4, e5, e6, e7, e8, e9, e10, e11, -⟩ - ⟨v13, _, k, H, q0, q1, q2, q3, q4, q5, q6, q7, q8, q9, q10, q11, q12⟩
      obtain ⟨u13, rfl⟩ := up2 (q4 e4) (q11 e11)
      have H := (H.cF 6 hS rfl).cT 15 e11 rfl
      exact Ap 6 underlying55 el65 H rfl (H.own 15 rfl) ht8 fun v14 w13 H => Nl ⟨v13, v14, k, (H.rT 15 e11 rfl), q0, q1, q2, q3, q4, q5, q6, q7, q8, q9, q10, q11, (fun _ => rfl)⟩
    ·
     rintro S f w ⟨e0, e1, e2, e3, e4, e5, e6, e7, e8, e9, e10, e11, e12, -⟩ ⟨v13, v14, k, H, q0, q1, q2, q3, q4, q5, q6, q7, q8, q9, q10, q11, q12⟩
     have H : InvD X0 w0 w [boxI b0 57 (cS t4.inside v8 v9 v10 v11 v12 va0_5), o3 va0_0 a0.inside.net.Rates, o92 va0_1 a0.inside.net.Sights, o70 va0_2 a0.inside.log, o3 va0_3 a0.inside.verdicts, o74 va0_4 a0.inside.ledger, o65 v14 t8, heldI b2 ob1, boxI b3 47 [v1, .func (.func (doF t1)) #[] #[]], boxI b4 61 (cI t4.inside v8 v9 v10 v11 v12), o3 v8 t4.inside.net.Rates, o92 v9 t4.inside.net.Sights, o70 v10 t4.inside.log, o3 v11 t4.inside.verdicts, o74 v12 t4.inside.ledger, o65 v13 ([t7] : List GLine)] := ((H.cT 6 e12 rfl).cT 15 e11 rfl)
     obtain ⟨u14, rfl⟩ := up4 k.1 k.2.2 (q0 e0) (q12 e12)
     refine Nk rfl (Fa fd57_1 rfl (O.store 0 17 [v14] (cS t4.inside v8 v9 v10 v11 v12 v14) sz55 H R R R R R (SliceR.cells1 (H.own 6 rfl)) ⟨⟨rfl, rfl⟩, rfl⟩ (one_cons (SliceR.one (H.own 6 rfl)) one_nil) fun w14 H => Nl (Sq (Rg (Mv (.string t5) (As (.string t5) (As (vi 0) (Nl (Rt ?_)))))))))
     obtain rfl : ((GStation.mk t4.inside t8), t5, 0) = r0 := sj (show some ((GStation.mk t4.inside t8), t5, 0) = some r0 from hm)
     exact ends2 results4 R R ⟨_, _, rfl, H.pick [0, 10, 11, 12, 13, 14, 6] [boxI b0 57 (cS t4.inside v8 v9 v10 v11 v12 v14), o3 v8 t4.inside.net.Rates, o92 v9 t4.inside.net.Sights, o70 v10 t4.inside.log, o3 v11 t4.inside.verdicts, o74 v12 t4.inside.ledger, o65 v14 t8] rfl (by decide), v8, v9, v10, v11, v12, v14, rfl, rfl⟩
   ·
    refine O.callF [boxI b0 57 (cS a0.inside va0_0 va0_1 va0_2 va0_3 va0_4 va0_5), o3 va0_0 a0.inside.net.Rates, o92 va0_1 a0.inside.net.Sights, o70 va0_2 a0.inside.log, o3 va0_3 a0.inside.verdicts, o74 va0_4 a0.inside.ledger, o65 va0_5 a0.lines, heldI b2 ob1, boxI b3 47 [v1, .func (.func (doF t1)) #[] #[]]] [boxI b4 61 (cI t3 v3 v4 v5 v6 v7), o3 v3 t3.net.Rates, o92 v4 t3.net.Sights, o70 v5 t3.log, o3 v6 t3.verdicts, o74 v7 t3.ledger] HF call17 R R R (c_station_session_attempt _ _ _ _ _ _ _ (GSession.mk t3) HF.frame (fun _ hb => hT _ (HF.belowFX hb)) _ hu1 _ _ _ (fun _ hb => hs1 _ (HF.stayH hb 7 rfl)) hy3) ?_
    rintro _ w15 _ H ⟨hz1, rfl, rfl⟩
    have H : InvD X0 w0 w15 [boxI b0 57 (cS a0.inside va0_0 va0_1 va0_2 va0_3 va0_4 va0_5), o3 va0_0 a0.inside.net.Rates, o92 va0_1 a0.inside.net.Sights, o70 va0_2 a0.inside.log, o3 va0_3 a0.inside.verdicts, o74 va0_4 a0.inside.ledger, o65 va0_5 a0.lines, heldI b2 ob1, boxI b3 47 [v1, .func (.func (doF t1)) #[] #[]]] := H
    refine Mv (.tuple #[(.string ByteArray.empty), (vi t6)]) (Xt (.string ByteArray.empty) (Xt (vi t6) (As (.string ByteArray.empty) (As (vi t6) (Nl (Sq (Sq (Rg (Mv (vi t6) (Ne_ (Rs (i := 45) (v := .bool true) (cb (bne_iff_ne.2 hz1)) (Nl (Ct rfl ?_)))))))))))))
    refine Sq (Rg (Mv (vi t6) (As (.string (bs [])) (As (vi t6) (Nl (Rt ?_))))))
    obtain rfl : (a0, (bs []), t6) = r0 := sj (show some (a0, (bs []), t6) = some r0 from hm)
    exact ends2 results4 R R ⟨_, _, rfl, H.pick [0, 1, 2, 3, 4, 5, 6] [boxI b0 57 (cS a0.inside va0_0 va0_1 va0_2 va0_3 va0_4 va0_5), o3 va0_0 a0.inside.net.Rates, o92 va0_1 a0.inside.net.Sights, o70 va0_2 a0.inside.log, o3 va0_3 a0.inside.verdicts, o74 va0_4 a0.inside.ledger, o65 va0_5 a0.lines] rfl (by decide), va0_0, va0_1, va0_2, va0_3, va0_4, va0_5, rfl, rfl⟩

theorem c_station_Station_Net {w0 : World} (pa0 : Addr) (va0_2 : Value) (va0_3 : Value) (va0_4 : Value) (va0_6 : Value) (va0_7 : Value) (va0_9 : Value) (a0 : GStation) (ha0 : ∀ j c, ((cS a0.inside va0_2 va0_3 va0_4 va0_6 va0_7 va0_9) : List Value)[j]? = some c → w0.cell? (pa0.add j) = some c) (ra0_2 : SliceR w0 va0_2 a0.inside.net.Rates) (ra0_3 : SliceR w0 va0_3 a0.inside.net.Sights) (ra0_4 : SliceR w0 va0_4 a0.inside.log) (ra0_6 : SliceR w0 va0_6 a0.inside.verdicts) (ra0_7 : SliceR w0 va0_7 a0.inside.ledger) (ra0_9 : SliceR w0 va0_9 a0.lines) {r0 : GNet} (hm : station_Station_Net a0 = some r0) :
  Calls prog 5 #[(.pointer (some pa0))] w0 (Ret w0 fun w v => ∃ vr0_0 : Value, ∃ vr0_1 : Value, v = (.agg #[vr0_0, vr0_1]) ∧ Inv w0 w [o3 vr0_0 r0.Rates, o92 vr0_1 r0.Sights]) := by
 unfold station_Station_Net at hm
 refine cW func5 ntmps5 ?_
 have H := Inv.start (w := w0)
 refine Sq (Rg (Al [(.slice none 0 0), (.slice none 0 0)] ze29 H fun b1 w1 H hb1 => ?_))
 have H := H.addNil (α := Int) (E := 3)
 have H := H.addNil (α := GSight) (E := 92)
 refine Nl (Sq (Sq (Rg (Mv (.pointer (some pa0)) (Ep pt22 (Rs (i := 4) (v := .bool false) rfl (Nl (Cf rfl (Sk (Sq (Rg (Mv (.pointer (some pa0)) (Nk rfl ?_)))))))))))))
 refine Fa fd57_0 rfl (Fa fd54_2 rfl (La [va0_2, va0_3] ag29 (cells_part 7 2 (cells_mono ha0 H.base) rfl) ?_))
 obtain ⟨t1, hy1, hm⟩ := bind_some hm
 refine Ca call19 (c_station_copyNet _ _ (GNet.mk a0.inside.net.Rates a0.inside.net.Sights) (H.arg ra0_2) (H.arg ra0_3) hy1) ?_
 rintro _ w2 hb2 ⟨v1, v2, rfl, ho1⟩
 have H := H.addAll hb2 ho1
 refine St 0 0 [v1, v2] [v1, v2] sz29 H R R (one_cons (SliceR.one (H.own 3 rfl)) (one_cons (SliceR.one (H.own 4 rfl)) one_nil)) fun w3 H => Nl (Rt ?_)
 obtain rfl := sj hm
 exact ends1 results5 ⟨_, rfl, run_loadVar_agg ag29 rfl (H.cell 0 rfl)⟩ ⟨_, rfl, H.base, ⟨_, _, rfl, H.pick [3, 4] [o3 v1 t1.Rates, o92 v2 t1.Sights] rfl (by decide)⟩⟩

theorem c_station_Station_Ball {w0 : World} (pa0 : Addr) (va0_2 : Value) (va0_3 : Value) (va0_4 : Value) (va0_6 : Value) (va0_7 : Value) (va0_9 : Value) (a0 : GStation) (ha0 : ∀ j c, ((cS a0.inside va0_2 va0_3 va0_4 va0_6 va0_7 va0_9) : List Value)[j]? = some c → w0.cell? (pa0.add j) = some c) (ra0_2 : SliceR w0 va0_2 a0.inside.net.Rates) (ra0_3 : SliceR w0 va0_3 a0.inside.net.Sights) (ra0_4 : SliceR w0 va0_4 a0.inside.log) (ra0_6 : SliceR w0 va0_6 a0.inside.verdicts) (ra0_7 : SliceR w0 va0_7 a0.inside.ledger) (ra0_9 : SliceR w0 va0_9 a0.lines) {r0 : GBall} (hm : station_Station_Ball a0 = some r0) :
  Calls prog 6 #[(.pointer (some pa0))] w0 (Ret w0 fun _ v => v = (.agg (Flat.cells r0).toArray)) := by
 unfold station_Station_Ball at hm
 refine cW func6 ntmps6 ?_
 have H := Inv.start (w := w0)
 refine Sq (Rg (Al [(vi 0), (vi 0), (.bool false), (vi 0)] ze32 H fun b1 w1 H hb1 => Nl (Sq (Sq (Rg (Mv (.pointer (some pa0)) (Ep pt22 (Rs (i := 4) (v := .bool false) rfl (Nl (Cf rfl (Sk ?_)))))))))))
 refine Sq (Rg (Mv (.pointer (some pa0)) (Nk rfl (Fa fd57_0 rfl (Fa fd54_4 rfl (La [(vi a0.inside.state.Place), (vi a0.inside.state.Wind), (.bool a0.inside.state.Flag), (vi a0.inside.state.At)] ag32 (cells_part 10 4 (cells_mono ha0 H.base) rfl) (St 0 0 [(vi a0.inside.state.Place), (vi a0.inside.state.Wind), (.bool a0.inside.state.Flag), (vi a0.inside.state.At)] [(vi a0.inside.state.Place), (vi a0.inside.state.Wind), (.bool a0.inside.state.Flag), (vi a0.inside.state.At)] sz32 H R R (one_cons rfl (one_cons rfl (one_cons rfl (one_cons rfl one_nil)))) fun w2 H => Nl (Rt ?_))))))))
 obtain rfl := sj hm
 exact ends1 results6 ⟨_, rfl, run_loadVar_agg ag32 rfl (H.cell 0 rfl)⟩ ⟨_, rfl, H.base, rfl⟩

theorem c_station_Station_Day {w0 : World} (pa0 : Addr) (va0_2 : Value) (va0_3 : Value) (va0_4 : Value) (va0_6 : Value) (va0_7 : Value) (va0_9 : Value) (a0 : GStation) (ha0 : ∀ j c, ((cS a0.inside va0_2 va0_3 va0_4 va0_6 va0_7 va0_9) : List Value)[j]? = some c → w0.cell? (pa0.add j) = some c) (ra0_2 : SliceR w0 va0_2 a0.inside.net.Rates) (ra0_3 : SliceR w0 va0_3 a0.inside.net.Sights) (ra0_4 : SliceR w0 va0_4 a0.inside.log) (ra0_6 : SliceR w0 va0_6 a0.inside.verdicts) (ra0_7 : SliceR w0 va0_7 a0.inside.ledger) (ra0_9 : SliceR w0 va0_9 a0.lines) {r0 : Int} (hm : station_Station_Day a0 = some r0) :
  Calls prog 7 #[(.pointer (some pa0))] w0 (Ret w0 fun _ v => v = (vi r0)) := by
 unfold station_Station_Day at hm
 refine cW func7 ntmps7 ?_
 have H := Inv.start (w := w0)
 refine Sq (Rg (As (vi 0) (Nl (Sq (Sq (Rg (Mv (.pointer (some pa0)) (Ep pt22 (Rs (i := 4) (v := .bool false) rfl (Nl (Cf rfl (Sk (Sq ?_)))))))))))))
 refine Rg (Mv (.pointer (some pa0)) (Nk rfl (Fa fd57_0 rfl (Fa fd54_1 rfl (Ld _ sc3 (cells_mono ha0 H.base 6 _ rfl) (As (vi a0.inside.day) (Nl (Rt ?_))))))))
 obtain rfl := sj hm
 exact ends1 results7 rfl ⟨_, rfl, H.base, rfl⟩

theorem c_station_Station_Log {w0 : World} (pa0 : Addr) (va0_2 : Value) (va0_3 : Value) (va0_4 : Value) (va0_6 : Value) (va0_7 : Value) (va0_9 : Value) (a0 : GStation) (ha0 : ∀ j c, ((cS a0.inside va0_2 va0_3 va0_4 va0_6 va0_7 va0_9) : List Value)[j]? = some c → w0.cell? (pa0.add j) = some c) (ra0_2 : SliceR w0 va0_2 a0.inside.net.Rates) (ra0_3 : SliceR w0 va0_3 a0.inside.net.Sights) (ra0_4 : SliceR w0 va0_4 a0.inside.log) (ra0_6 : SliceR w0 va0_6 a0.inside.verdicts) (ra0_7 : SliceR w0 va0_7 a0.inside.ledger) (ra0_9 : SliceR w0 va0_9 a0.lines) {r0 : (List GEvent)} (hm : station_Station_Log a0 = some r0) :
  Calls prog 8 #[(.pointer (some pa0))] w0 (Ret w0 fun w v => OwnR w0 w v 70 r0) := by
 unfold station_Station_Log at hm
 refine cW func8 ntmps8 ?_
 have H := Inv.start (w := w0)
 refine Sq (Rg ?_)
 have H := H.addNil (α := GEvent) (E := 70)
 refine As (.slice none 0 0) (Nl (Sq (Sq (Rg (Mv (.pointer (some pa0)) (Ep pt22 (Rs (i := 4) (v := .bool false) rfl (Nl (Cf rfl (Sk (Sq (Rg (Mv (.pointer (some pa0)) ?_)))))))))))))
 refine Nk rfl (Fa fd57_0 rfl (Fa fd54_3 rfl (Ld _ sc35 (cells_mono ha0 H.base 9 _ rfl) ?_)))
 obtain ⟨t1, hy1, hm⟩ := bind_some hm
 refine Ca call20 (c_slices_Clone_Event _ _ (H.arg ra0_4) hy1) ?_
 rintro v1 w1 hb1 ho1
 have H := H.addOwn hb1 ho1
 refine As v1 (Nl (Rt ?_))
 obtain rfl := sj hm
 exact ends1 results8 rfl ⟨_, rfl, H.base, H.ownR 1 rfl⟩

theorem c_station_Station_Verdicts {w0 : World} (pa0 : Addr) (va0_2 : Value) (va0_3 : Value) (va0_4 : Value) (va0_6 : Value) (va0_7 : Value) (va0_9 : Value) (a0 : GStation) (ha0 : ∀ j c, ((cS a0.inside va0_2 va0_3 va0_4 va0_6 va0_7 va0_9) : List Value)[j]? = some c → w0.cell? (pa0.add j) = some c) (ra0_2 : SliceR w0 va0_2 a0.inside.net.Rates) (ra0_3 : SliceR w0 va0_3 a0.inside.net.Sights) (ra0_4 : SliceR w0 va0_4 a0.inside.log) (ra0_6 : SliceR w0 va0_6 a0.inside.verdicts) (ra0_7 : SliceR w0 va0_7 a0.inside.ledger) (ra0_9 : SliceR w0 va0_9 a0.lines) {r0 : (List Int)} (hm : station_Station_Verdicts a0 = some r0) :
  Calls prog 9 #[(.pointer (some pa0))] w0 (Ret w0 fun w v => OwnR w0 w v 3 r0) := by
 unfold station_Station_Verdicts at hm
 refine cW func9 ntmps9 ?_
 have H := Inv.start (w := w0)
 refine Sq (Rg ?_)
 have H := H.addNil (α := Int) (E := 3)
 refine As (.slice none 0 0) (Nl (Sq (Sq (Rg (Mv (.pointer (some pa0)) (Ep pt22 (Rs (i := 4) (v := .bool false) rfl (Nl (Cf rfl (Sk (Sq (Rg (Mv (.pointer (some pa0)) ?_)))))))))))))
 refine Nk rfl (Fa fd57_0 rfl (Fa fd54_5 rfl (Ld _ sc26 (cells_mono ha0 H.base 14 _ rfl) ?_)))
 obtain ⟨t1, hy1, hm⟩ := bind_some hm
 refine Ca call21 (c_slices_Clone_int _ _ (H.arg ra0_6) hy1) ?_
 rintro v1 w1 hb1 ho1
 have H := H.addOwn hb1 ho1
 refine As v1 (Nl (Rt ?_))
 obtain rfl := sj hm
 exact ends1 results9 rfl ⟨_, rfl, H.base, H.ownR 1 rfl⟩

theorem c_station_Station_Ledger {w0 : World} (pa0 : Addr) (va0_2 : Value) (va0_3 : Value) (va0_4 : Value) (va0_6 : Value) (va0_7 : Value) (va0_9 : Value) (a0 : GStation) (ha0 : ∀ j c, ((cS a0.inside va0_2 va0_3 va0_4 va0_6 va0_7 va0_9) : List Value)[j]? = some c → w0.cell? (pa0.add j) = some c) (ra0_2 : SliceR w0 va0_2 a0.inside.net.Rates) (ra0_3 : SliceR w0 va0_3 a0.inside.net.Sights) (ra0_4 : SliceR w0 va0_4 a0.inside.log) (ra0_6 : SliceR w0 va0_6 a0.inside.verdicts) (ra0_7 : SliceR w0 va0_7 a0.inside.ledger) (ra0_9 : SliceR w0 va0_9 a0.lines) {r0 : (List GEntry)} (hm : station_Station_Ledger a0 = some r0) :
  Calls prog 10 #[(.pointer (some pa0))] w0 (Ret w0 fun w v => OwnR w0 w v 74 r0) := by
 unfold station_Station_Ledger at hm
 refine cW func10 ntmps10 ?_
 have H := Inv.start (w := w0)
 refine Sq (Rg ?_)
 have H := H.addNil (α := GEntry) (E := 74)
 refine As (.slice none 0 0) (Nl (Sq (Sq (Rg (Mv (.pointer (some pa0)) (Ep pt22 (Rs (i := 4) (v := .bool false) rfl (Nl (Cf rfl (Sk (Sq (Rg (Mv (.pointer (some pa0)) ?_)))))))))))))
 refine Nk rfl (Fa fd57_0 rfl (Fa fd54_6 rfl (Ld _ sc38 (cells_mono ha0 H.base 15 _ rfl) ?_)))
 obtain ⟨t1, hy1, hm⟩ := bind_some hm
 refine Ca call22 (c_slices_Clone_Entry _ _ (H.arg ra0_7) hy1) ?_
 rintro v1 w1 hb1 ho1
 have H := H.addOwn hb1 ho1
 refine As v1 (Nl (Rt ?_))
 obtain rfl := sj hm
 exact ends1 results10 rfl ⟨_, rfl, H.base, H.ownR 1 rfl⟩

theorem c_station_Station_Flags {w0 : World} (pa0 : Addr) (va0_2 : Value) (va0_3 : Value) (va0_4 : Value) (va0_6 : Value) (va0_7 : Value) (va0_9 : Value) (a0 : GStation) (ha0 : ∀ j c, ((cS a0.inside va0_2 va0_3 va0_4 va0_6 va0_7 va0_9) : List Value)[j]? = some c → w0.cell? (pa0.add j) = some c) (ra0_2 : SliceR w0 va0_2 a0.inside.net.Rates) (ra0_3 : SliceR w0 va0_3 a0.inside.net.Sights) (ra0_4 : SliceR w0 va0_4 a0.inside.log) (ra0_6 : SliceR w0 va0_6 a0.inside.verdicts) (ra0_7 : SliceR w0 va0_7 a0.inside.ledger) (ra0_9 : SliceR w0 va0_9 a0.lines) {r0 : Int} (hm : station_Station_Flags a0 = some r0) :
  Calls prog 11 #[(.pointer (some pa0))] w0 (Ret w0 fun _ v => v = (vi r0)) := by
 unfold station_Station_Flags at hm
 refine cW func11 ntmps11 ?_
 have H := Inv.start (w := w0)
 refine Sq (Rg (As (vi 0) (Nl (Sq (Sq (Rg (Mv (.pointer (some pa0)) (Ep pt22 (Rs (i := 4) (v := .bool false) rfl (Nl (Cf rfl (Sk (Sq ?_)))))))))))))
 refine Rg (Mv (.pointer (some pa0)) (Nk rfl (Fa fd57_0 rfl (Fa fd54_7 rfl (Ld _ sc3 (cells_mono ha0 H.base 16 _ rfl) (As (vi a0.inside.flags) (Nl (Rt ?_))))))))
 obtain rfl := sj hm
 exact ends1 results11 rfl ⟨_, rfl, H.base, rfl⟩

theorem c_station_written {w0 : World} (hT : EnvS prog 0 4 5 7 w0) (a0 : GLine) {r0 : ByteArray} (hm : station_written a0 = some r0) :
  Calls prog 35 #[(.agg (Flat.cells a0).toArray)] w0 (Ret w0 fun _ v => v = (.string r0)) := by
 unfold station_written at hm
 refine cW func35 ntmps35 ?_
 have H := Inv.start (w := w0)
 refine Sq (Rg (Bx [(vi a0.Number), (.string a0.Text), (.int .u64 a0.Sum)] H fun b1 w1 H hb1 => As (.string (bs [])) (Nl (Sq ?_))))
 obtain ⟨t1, hy1, hm⟩ := bind_some hm
 obtain ⟨t2, ht2, hm⟩ := bind_some hm
 obtain ⟨t3, hy2, hm⟩ := bind_some hm
 obtain ⟨t4, ht4, hm⟩ := bind_some hm
 obtain ⟨t5, ht5, hm⟩ := bind_some hm
 refine W.drawN 11 (fun f => f 11 = (.string t5) ∧ f 13 = (.string a0.Text)) fol (by kernel_rfl) ?_ ?_
 ·
  exact Pl (fun _ w8 _ hx => Fa fd65_0 rfl (Nl ⟨rfl, hx⟩)) (Pl (fun _ w8 _ hx => by have H := H.ext hx; exact Ld _ sc3 (H.cell 0 rfl 0 _ rfl) (Nl ⟨rfl, hx⟩)) (Pl (fun _ w8 _ hx => by have H := H.ext hx; exact Ca call55 (c_strconv_Itoa (hT.mono H.base) _ hy1) (by rintro _ _ hb rfl; exact Nl ⟨rfl, hx.trans (hb.mono hx.size)⟩)) (Pl (fun _ w8 _ hx => O.addS R R R R ht2 (Nl ⟨rfl, hx⟩)) (Pl (fun _ w8 _ hx => Fa fd65_2 rfl (Nl ⟨rfl, hx⟩)) (Pl (fun _ w8 _ hx => by have H := H.ext hx; exact Ld _ sc63 (H.cell 0 rfl 2 _ rfl) (Nl ⟨rfl, hx⟩)) (Pl (fun _ w8 _ hx => by have H := H.ext hx; exact Ca call31 (c_station_hex (hT.mono H.base) _ hy2) (by rintro _ _ hb rfl; exact Nl ⟨rfl, hx.trans (hb.mono hx.size)⟩)) (Pl (fun _ w8 _ hx => O.addS R R R R ht4 (Nl ⟨rfl, hx⟩)) (Pl (fun _ w8 _ hx => O.addS R R R R ht5 (Nl ⟨rfl, hx⟩)) (Pl (fun _ w8 _ hx => Fa fd65_1 rfl (Nl ⟨rfl, hx⟩)) (Pl (fun _ w8 _ hx => by have H := H.ext hx; exact Ld _ sc9 (H.cell 0 rfl 1 _ rfl) (Nl ⟨rfl, hx⟩)) (PL.nil ⟨rfl, rfl⟩)))))))))))
 ·
  rintro f w ⟨hf11, hf13⟩ hmd hx
  have H := H.ext hx
  obtain ⟨u1, rfl⟩ := up2 hf11 hf13
  obtain ⟨t6, ht6, hm⟩ := bind_some hm
  refine O.addS R R R R ht6 ?_
  obtain ⟨t7, ht7, hm⟩ := bind_some hm
  refine O.addS R R R R ht7 (As (.string t7) (Nl (Rt ?_)))
  obtain rfl := sj hm
  exact ends1 results35 rfl ⟨_, rfl, H.base, rfl⟩

theorem c_station_bound {w0 : World} (hT : EnvS prog 0 4 5 7 w0) (va0 : Value) (a0 : (List GLine)) (ha0 : SliceR w0 va0 a0) {r0 : ByteArray} (hm : station_bound a0 = some r0) :
  Calls prog 23 #[va0] w0 (Ret w0 fun _ v => v = (.string r0)) := by
 unfold station_bound at hm
 refine cW func23 ntmps23 ?_
 have H := Inv.start (w := w0)
 refine Sq (Rg (As (.string (bs [])) (Nl (Sq (Rg (Al [(.pointer none), (.slice none 0 0)] ze96 H fun b1 w1 H hb1 => ?_))))))
 have H := H.bldStart 0 5 rfl
 refine Nl (Sq (Sq (Rg (Mv va0 (Ln underlying55 (H.arg ha0) (Mv (vi 0) (Nl ?_)))))))
 obtain ⟨s1, hm1, hm⟩ := bind_some hm
 refine W.via (fun f w => ∃ v4 : Value, f 3 = (pt b1) ∧ Inv w0 w [bldI b1 96 v4 5 s1]) ?_ ?_
 ·
  refine W.block ?_
  refine W.rangeL (i := 0) hm1 (fun rem ik1 s f w => ∃ z2 : (List UInt8), ∃ v2 : Value, z2 = s ∧ a0.drop ik1 = rem ∧ f 8 = .int .i64 (ik1 : Int) ∧ f 7 = (vi ((a0.length : Nat) : Int)) ∧ f 3 = (pt b1) ∧ f 6 = va0 ∧ Inv w0 w [bldI b1 96 v2 5 z2]) ?_ ?_ ?_
  ·
   exact ⟨_, (.slice none 0 0), rfl, List.drop_zero, rfl, rfl, rfl, rfl, H⟩
  ·
   rintro yk1 xs ik1 _ st f w ⟨z2, v2, rfl, hdropk1, hf8, hf7, hf3, hf6, H⟩ hm2
   have hltk1 := drop_lt hdropk1; have hixk1 := drop_idx hdropk1
   obtain ⟨u1, rfl⟩ := up4 hf8 hf7 hf3 hf6
   have hinck1 := addI_lt hltk1 (H.arg ha0).len_le
   refine Sq (Rg (Ls (Nl (Sq (Ct (cb (decide_eq_true hltk1)) (Sk (Sq (W.block (Sq (Rg ?_))))))))))
   obtain ⟨p1, hp1, hrp1⟩ := fix_indexAddr underlying55 sz65 ha0 hixk1
   refine hrp1 R R R R (La [(vi yk1.Number), (.string yk1.Text), (.int .u64 yk1.Sum)] ag65 ((hp1.mono H.base).flat) (Al [(vi 0), (.string ByteArray.empty), (.int .u64 0)] ze65 H fun b2 w2 H hb2 => St 1 0 [(vi yk1.Number), (.string yk1.Text), (.int .u64 yk1.Sum)] [(vi yk1.Number), (.string yk1.Text), (.int .u64 yk1.Sum)] sz65 H R R (one_cons rfl (one_cons rfl (one_cons rfl one_nil))) fun w3 H => Nl (Rg (La [(vi yk1.Number), (.string yk1.Text), (.int .u64 yk1.Sum)] ag65 (H.cell 1 rfl) ?_))))
   obtain ⟨t1, hy1, hm2⟩ := bind_some hm2
   refine Ca call35 (c_station_written (hT.mono H.base) yk1 hy1) ?_
   rintro _ w4 hb3 rfl
   have H := H.ext hb3
   obtain ⟨t2, ht2, hm2⟩ := bind_some hm2
   refine O.writeB 0 1 bldOk H rfl ht2 call34 R R R R fun v5 w5 H => ?_
   have H : Inv w0 w5 [bldI b1 96 v5 5 t2, goneI] := H
   refine Nl (Rg (Ad hinck1 (Mv (vi ((ik1 : Int) + 1)) (Nl ?_))))
   have H := H.keep [0] [bldI b1 96 v5 5 t2] rfl (by decide)
   obtain rfl := sj hm2
   exact ⟨_, rfl, _, v5, rfl, drop_next hdropk1, rfl, rfl, rfl, rfl, H⟩
  ·
   rintro ik1 _ f w ⟨z2, v2, rfl, hdropk1, hf8, hf7, hf3, hf6, H⟩ hfin
   have hltk1 := drop_end hdropk1
   obtain ⟨u2, rfl⟩ := up4 hf8 hf7 hf3 hf6
   refine Sq (Rg (Ls (Nl (Sq (Cf (cb (decide_eq_false hltk1)) (W.exit ?_))))))
   have hq : z2 = s1 := hfin
   subst hq
   exact xT rfl ⟨v2, rfl, H⟩
 ·
  rintro f w ⟨v4, hf3, H⟩
  obtain ⟨u3, rfl⟩ := up1 hf3
  refine Sq (Rg (O.strB 0 1 bldOk H rfl call36 R R R fun w6 H => ?_))
  have H : Inv w0 w6 [goneI] := H
  refine As (.string (⟨List.toArray s1⟩ : ByteArray)) (Nl (Rt ?_))
  obtain rfl := sj hm
  exact ends1 results23 rfl ⟨_, rfl, H.base, rfl⟩

theorem c_station_Station_Book {w0 : World} (hT : EnvS prog 0 4 5 7 w0) (pa0 : Addr) (va0_2 : Value) (va0_3 : Value) (va0_4 : Value) (va0_6 : Value) (va0_7 : Value) (va0_9 : Value) (a0 : GStation) (ha0 : ∀ j c, ((cS a0.inside va0_2 va0_3 va0_4 va0_6 va0_7 va0_9) : List Value)[j]? = some c → w0.cell? (pa0.add j) = some c) (ra0_2 : SliceR w0 va0_2 a0.inside.net.Rates) (ra0_3 : SliceR w0 va0_3 a0.inside.net.Sights) (ra0_4 : SliceR w0 va0_4 a0.inside.log) (ra0_6 : SliceR w0 va0_6 a0.inside.verdicts) (ra0_7 : SliceR w0 va0_7 a0.inside.ledger) (ra0_9 : SliceR w0 va0_9 a0.lines) {r0 : ByteArray} (hm : station_Station_Book a0 = some r0) :
  Calls prog 12 #[(.pointer (some pa0))] w0 (Ret w0 fun _ v => v = (.string r0)) := by
 unfold station_Station_Book at hm
 refine cW func12 ntmps12 ?_
 have H := Inv.start (w := w0)
 refine Sq (Rg (As (.string (bs [])) (Nl (Sq (Sq (Rg (Mv (.pointer (some pa0)) (Ep pt22 (Rs (i := 4) (v := .bool false) rfl (Nl (Cf rfl (Sk (Sq ?_)))))))))))))
 refine Rg (Mv (.pointer (some pa0)) (Nk rfl (Fa fd57_1 rfl (Ld _ sc55 (cells_mono ha0 H.base 17 _ rfl) ?_))))
 obtain ⟨t1, hy1, hm⟩ := bind_some hm
 refine Ca call23 (c_station_bound (hT.mono H.base) _ _ (H.arg ra0_9) hy1) ?_
 rintro _ w1 hb1 rfl
 have H := H.ext hb1
 refine As (.string t1) (Nl (Rt ?_))
 obtain rfl := sj hm
 exact ends1 results12 rfl ⟨_, rfl, H.base, rfl⟩

theorem c_slices_Clone_Line {w0 : World} (va0 : Value) (a0 : (List GLine)) (ha0 : SliceR w0 va0 a0) {r0 : (List GLine)} (hm : slices_Clone_Line a0 = some r0) :
  Calls prog 24 #[va0] w0 (Ret w0 fun w v => OwnR w0 w v 65 r0) := by
 unfold slices_Clone_Line at hm
 refine cW func24 ntmps24 ?_
 have H := Inv.start (w := w0)
 refine Sq (Rg ?_)
 have H := H.addNil (α := GLine) (E := 65)
 refine As (.slice none 0 0) (Nl (Sq (Sq (Rg (Mv va0 ?_)))))
 rcases ha0.nil_or with ⟨rfl, rfl⟩ | ⟨ad, cap, rfl⟩
 ·
  replace hm : (some ([] : List GLine)) = some r0 := by simpa [appI] using hm
  refine En underlying55 (Rs (i := 4) (v := .bool true) rfl (Nl (Ct rfl (Sq (Rg ?_)))))
  have H := H.addNil (α := GLine) (E := 65)
  refine As (.slice none 0 0) (Nl (Rt ?_))
  obtain rfl := sj hm
  exact ends1 results24 rfl ⟨_, rfl, H.base, H.ownR 1 rfl⟩
 ·
  refine En underlying55 (Rs (i := 4) (v := .bool false) rfl (Nl (Cf rfl (Sk (Sq (Rg (O.buildEmpty (α := GLine) underlying55 el65 H R R fun b1 w1 H hb1 => Mv (.slice (some ad) a0.length cap) ?_)))))))
  obtain ⟨t1, ht1, hm⟩ := bind_some hm
  refine Ap 1 underlying55 el65 H rfl (H.arg ha0) ht1 fun v1 w2 H => As v1 (Nl (Rt ?_))
  obtain rfl := sj hm
  exact ends1 results24 rfl ⟨_, rfl, H.base, H.ownR 1 rfl⟩

theorem c_station_Station_Copy {w0 : World} (pa0 : Addr) (va0_2 : Value) (va0_3 : Value) (va0_4 : Value) (va0_6 : Value) (va0_7 : Value) (va0_9 : Value) (a0 : GStation) (ha0 : ∀ j c, ((cS a0.inside va0_2 va0_3 va0_4 va0_6 va0_7 va0_9) : List Value)[j]? = some c → w0.cell? (pa0.add j) = some c) (ra0_2 : SliceR w0 va0_2 a0.inside.net.Rates) (ra0_3 : SliceR w0 va0_3 a0.inside.net.Sights) (ra0_4 : SliceR w0 va0_4 a0.inside.log) (ra0_6 : SliceR w0 va0_6 a0.inside.verdicts) (ra0_7 : SliceR w0 va0_7 a0.inside.ledger) (ra0_9 : SliceR w0 va0_9 a0.lines) {r0 : GStation} (hm : station_Station_Copy a0 = some r0) :
  Calls prog 13 #[(.pointer (some pa0))] w0 (fun e w => ∃ v L1, e = .returned v ∧ InvD (fpOf []) w0 w L1 ∧ (fun (b : GStation) v L1 => ∃ bo : Nat, ∃ vu_0 : Value, ∃ vu_1 : Value, ∃ vu_2 : Value, ∃ vu_3 : Value, ∃ vu_4 : Value, ∃ vu_5 : Value, L1 = [boxI bo 57 (cS b.inside vu_0 vu_1 vu_2 vu_3 vu_4 vu_5), o3 vu_0 b.inside.net.Rates, o92 vu_1 b.inside.net.Sights, o70 vu_2 b.inside.log, o3 vu_3 b.inside.verdicts, o74 vu_4 b.inside.ledger, o65 vu_5 b.lines] ∧ v = (.pointer (some ⟨bo, 0, none⟩))) r0 v L1) := by
 unfold station_Station_Copy at hm
 refine cW func13 ntmps13 ?_
 have H := Inv.start (w := w0)
 refine Sq (Rg (As (.pointer none) (Nl (Sq (Sq (Rg (Mv (.pointer (some pa0)) (Ep pt22 (Rs (i := 4) (v := .bool false) rfl (Nl (Cf rfl (Sk (Sq ?_)))))))))))))
 obtain ⟨t1, hy1, hm⟩ := bind_some hm
 have H := H.addGone
 have H := H.addGone
 have H := H.addGone
 have H := H.addGone
 have H := H.addGone
 refine W.drawD 9 [[], [0], [0, 1], [0, 1, 2], [0, 1, 2, 3], [], [5], [5, 6], [5, 6, 7]] [[1, 2, 3, 4], [2, 3, 4], [3, 4], [4], [], [6, 7, 8], [7, 8], [8], []] (fun S f w => ∃ v1 : Value, ∃ v2 : Value, ∃ v3 : Value, ∃ v4 : Value, ∃ v5 : Value, (f 0 = (.pointer (some pa0))) ∧ Inv w0 w [cond (S 4) (o3 v1 t1.net.Rates) goneI, cond (S 4) (o92 v2 t1.net.Sights) goneI, cond (S 4) (o70 v3 t1.log) goneI, cond (S 4) (o3 v4 t1.verdicts) goneI, cond (S 4) (o74 v5 t1.ledger) goneI] ∧ (S 0 = true → f 5 = (.pointer (some pa0))) ∧ (S 1 = true → f 6 = (.pointer (some pa0))) ∧ (S 2 = true → f 7 = (.pointer (some (Addr.add pa0 0)))) ∧ (S 3 = true → f 8 = (.agg (cI a0.inside va0_2 va0_3 va0_4 va0_6 va0_7).toArray)) ∧ (S 4 = true → f 9 = (.agg (cI t1 v1 v2 v3 v4 v5).toArray)) ∧ (S 5 = true → f 10 = (.pointer (some pa0))) ∧ (S 6 = true → f 11 = (.pointer (some pa0))) ∧ (S 7 = true → f 12 = (.pointer (some (Addr.add pa0 17)))) ∧ (S 8 = true → f 13 = va0_9)) fol (by kernel_rfl) ?_ ?_ ?_
 ·
  exact fun d _ => ⟨.nilFunc, .nilFunc, .nilFunc, .nilFunc, .nilFunc, rfl, H.ext (below_drawn d), nF, nF, nF, nF, nF, nF, nF, nF, nF⟩
 ·
  refine ⟨?_, ⟨?_, ⟨?_, ⟨?_, ⟨?_, ⟨?_, ⟨?_, ⟨?_, ⟨?_, trivial⟩⟩⟩⟩⟩⟩⟩⟩⟩
  ·
   rintro S f w hS - ⟨e1, e2, e3, e4, -⟩ ⟨v1, v2, v3, v4, v5, k, H, q0, t⟩
   obtain ⟨u1, rfl⟩ := up1 k
   exact Mv (.pointer (some pa0)) (Nl ⟨v1, v2, v3, v4, v5, k, H, (fun _ => rfl), t⟩)
  ·
   rintro S f w hS ⟨e0, -⟩ ⟨e2, e3, e4, -⟩ ⟨v1, v2, v3, v4, v5, k, H, q0, q1, t⟩
   obtain ⟨u2, rfl⟩ := up1 (q0 e0)
   exact Nk rfl (Nl ⟨v1, v2, v3, v4, v5, k, H, q0, (fun _ => rfl), t⟩)
  ·
   rintro S f w hS ⟨e0, e1, -⟩ ⟨e3, e4, -⟩ ⟨v1, v2, v3, v4, v5, k, H, q0, q1, q2, t⟩
   obtain ⟨u3, rfl⟩ := up1 (q1 e1)
   exact Fa fd57_0 rfl (Nl ⟨v1, v2, v3, v4, v5, k, H, q0, q1, (fun _ => rfl), t⟩)
  ·
   rintro S f w hS ⟨e0, e1, e2, -⟩ ⟨e4, -⟩ ⟨v1, v2, v3, v4, v5, k, H, q0, q1, q2, q3, t⟩
   obtain ⟨u4, rfl⟩ := up1 (q2 e2)
   exact La (cI a0.inside va0_2 va0_3 va0_4 va0_6 va0_7) ag54 (cells_part 0 17 (cells_mono ha0 H.base) rfl) (Nl ⟨v1, v2, v3, v4, v5, k, H, q0, q1, q2, (fun _ => rfl), t⟩)
  ·
   rintro S f w hS ⟨e0, e1, e2, e3, -⟩ - ⟨_, _, _, _, _, k, H, q0, q1, q2, q3, q4, t⟩
   obtain ⟨u5, rfl⟩ := up1 (q3 e3)
   have H := ((((H.cF 0 hS rfl).cF 1 hS rfl).cF 2 hS rfl).cF 3 hS rfl).cF 4 hS rfl
   refine Ca call16 (c_station_inside_copied _ _ _ _ _ (GInside.mk a0.inside.mast a0.inside.day (GNet.mk a0.inside.net.Rates a0.inside.net.Sights) a0.inside.log a0.inside.state a0.inside.verdicts a0.inside.ledger a0.inside.flags) (H.arg ra0_2) (H.arg ra0_3) (H.arg ra0_4) (H.arg ra0_6) (H.arg ra0_7) hy1) ?_
   rintro _ w1 hb1 ⟨v1, v2, v3, v4, v5, rfl, ho1⟩
   have H := H.addAll hb1 ho1
   have H := H.pick [5, 6, 7, 8, 9] [o3 v1 t1.net.Rates, o92 v2 t1.net.Sights, o70 v3 t1.log, o3 v4 t1.verdicts, o74 v5 t1.ledger] rfl (by decide)
   exact Nl ⟨v1, v2, v3, v4, v5, k, H, q0, q1, q2, q3, (fun _ => rfl), t⟩
  ·
   rintro S f w hS - ⟨e6, e7, e8, -⟩ ⟨v1, v2, v3, v4, v5, k, H, q0, q1, q2, q3, q4, q5, t⟩
   obtain ⟨u6, rfl⟩ := up1 k
   exact Mv (.pointer (some pa0)) (Nl ⟨v1, v2, v3, v4, v5, k, H, q0, q1, q2, q3, q4, (fun _ => rfl), t⟩)
  ·
   rintro S f w hS ⟨e5, -⟩ ⟨e7, e8, -⟩ ⟨v1, v2, v3, v4, v5, k, H, q0, q1, q2, q3, q4, q5, q6, t⟩
   obtain ⟨u7, rfl⟩ := up1 (q5 e5)
   exact Nk rfl (Nl ⟨v1, v2, v3, v4, v5, k, H, q0, q1, q2, q3, q4, q5, (fun _ => rfl), t⟩)
  ·
   rintro S f w hS ⟨e5, e6, -⟩ ⟨e8, -⟩ ⟨v1, v2, v3, v4, v5, k, H, q0, q1, q2, q3, q4, q5, q6, q7, q8⟩
   obtain ⟨u8, rfl⟩ := up1 (q6 e6)
   exact Fa fd57_1 rfl (Nl ⟨v1, v2, v3, v4, v5, k, H, q0, q1, q2, q3, q4, q5, q6, (fun _ => rfl), q8⟩)
  ·
   rintro S f w hS ⟨e5, e6, e7, -⟩ - ⟨v1, v2, v3, v4, v5, k, H, q0, q1, q2, q3, q4, q5, q6, q7, q8⟩
   obtain ⟨u9, rfl⟩ := up1 (q7 e7)
   exact Ld _ sc55 (cells_mono ha0 H.base 17 _ rfl) (Nl ⟨v1, v2, v3, v4, v5, k, H, q0, q1, q2, q3, q4, q5, q6, q7, (fun _ => rfl)⟩)
 ·
  rintro S f w ⟨e0, e1, e2, e3, e4, e5, e6, e7, e8, -⟩ ⟨v1, v2, v3, v4, v5, k, H, q0, q1, q2, q3, q4, q5, q6, q7, q8⟩
  have H : Inv w0 w [o3 v1 t1.net.Rates, o92 v2 t1.net.Sights, o70 v3 t1.log, o3 v4 t1.verdicts, o74 v5 t1.ledger] := (((((H.cT 0 e4 rfl).cT 1 e4 rfl).cT 2 e4 rfl).cT 3 e4 rfl).cT 4 e4 rfl)
  obtain ⟨u10, rfl⟩ := up2 (q4 e4) (q8 e8)
  obtain ⟨t2, hy2, hm⟩ := bind_some hm
  refine Ca call24 (c_slices_Clone_Line _ _ (H.arg ra0_9) hy2) ?_
  rintro v6 w2 hb2 ho2
  have H := H.addOwn hb2 ho2
  obtain ⟨ad1, cap1, hvad1, _⟩ := (H.own 0 rfl).shape
  obtain ⟨ad2, cap2, hvad2, _⟩ := (H.own 1 rfl).shape
  obtain ⟨ad3, cap3, hvad3, _⟩ := (H.own 2 rfl).shape
  obtain ⟨ad4, cap4, hvad4, _⟩ := (H.own 3 rfl).shape
  obtain ⟨ad5, cap5, hvad5, _⟩ := (H.own 4 rfl).shape
  obtain ⟨ad6, cap6, hvad6, _⟩ := (H.own 5 rfl).shape
  refine Bd (v := (.agg (cS t1 v1 v2 v3 v4 v5 v6).toArray)) (fun w => by rw [hvad1, hvad2, hvad3, hvad4, hvad5, hvad6]; exact bdx57_0_1 t1.mast t1.day _ _ _ _ _ _ _ _ _ t1.state _ _ _ _ _ _ t1.flags _ _ _ w) rfl (Bx (cS t1 v1 v2 v3 v4 v5 v6) H fun b1 w3 H hb3 => As (pt b1) (Nl (Rt ?_)))
  obtain rfl : (GStation.mk t1 t2) = r0 := sj (show some (GStation.mk t1 t2) = some r0 from hm)
  exact ends1 results13 rfl ⟨_, _, rfl, (H.pick [6, 0, 1, 2, 3, 4, 5] [boxI b1 57 (cS t1 v1 v2 v3 v4 v5 v6), o3 v1 t1.net.Rates, o92 v2 t1.net.Sights, o70 v3 t1.log, o3 v4 t1.verdicts, o74 v5 t1.ledger, o65 v6 t2] rfl (by decide)).toF, b1, v1, v2, v3, v4, v5, v6, rfl, rfl⟩

theorem c_noongunlaw10_mast {w0 : World}  {r0 : GMast} (hm : noongunlaw10_mast  = some r0) :
  Calls prog 26 #[] w0 (Ret w0 fun _ v => v = (.agg (Flat.cells r0).toArray)) := by
 unfold noongunlaw10_mast at hm
 refine cW func26 ntmps26 ?_
 have H := Inv.start (w := w0)
 refine Sq (Rg (Al [(vi 0), (vi 0), (vi 0), (vi 0), (vi 0), (vi 0)] ze52 H fun b1 w1 H hb1 => Nl (Sq (Rg (Bd (v := (.agg (Flat.cells (GMast.mk 43200000 300000 120000 200 3600000 60)).toArray)) (fun w => bd52_0_1_2_3_4_5 _ _ _ _ _ _ w) rfl (St 0 0 [(vi 43200000), (vi 300000), (vi 120000), (vi 200), (vi 3600000), (vi 60)] [(vi 43200000), (vi 300000), (vi 120000), (vi 200), (vi 3600000), (vi 60)] sz52 H R R (one_cons rfl (one_cons rfl (one_cons rfl (one_cons rfl (one_cons rfl (one_cons rfl one_nil)))))) fun w2 H => Nl (Rt ?_)))))))
 obtain rfl := sj hm
 exact ends1 results26 ⟨_, rfl, run_loadVar_agg ag52 rfl (H.cell 0 rfl)⟩ ⟨_, rfl, H.base, rfl⟩

theorem c_station_New {w0 : World} (a0 : GMast) (va1 : Value) (a1 : (List Int)) (ha1 : SliceR w0 va1 a1) {r0 : Got (Int) (GStation)} (hm : station_New a0 a1 = some r0) :
  Calls prog 25 #[(.agg (Flat.cells a0).toArray), va1] w0 (GPost w0 r0 (fun a w v => v = .tuple #[(.pointer none), (vi a)] ∧ a ≠ 0) (fun b v L1 => ∃ bo : Nat, ∃ vu_0 : Value, ∃ vu_1 : Value, ∃ vu_2 : Value, ∃ vu_3 : Value, ∃ vu_4 : Value, ∃ vu_5 : Value, L1 = [boxI bo 57 (cS b.inside vu_0 vu_1 vu_2 vu_3 vu_4 vu_5), o3 vu_0 b.inside.net.Rates, o92 vu_1 b.inside.net.Sights, o70 vu_2 b.inside.log, o3 vu_3 b.inside.verdicts, o74 vu_4 b.inside.ledger, o65 vu_5 b.lines] ∧ v = .tuple #[(.pointer (some ⟨bo, 0, none⟩)), (vi 0)])) := by
 unfold station_New at hm
 refine cW func25 ntmps25 ?_
 have H := Inv.start (w := w0)
 refine Sq (Rg (Bx [(vi a0.Noon), (vi a0.Half), (vi a0.Full), (vi a0.Late), (vi a0.Again), (vi a0.Wind)] H fun b1 w1 H hb1 => As (.pointer none) (As (vi 0) (Nl (Sq (Rg (Mv va1 ?_)))))))
 obtain ⟨t1, hy1, hm⟩ := bind_some hm
 refine Ca call21 (c_slices_Clone_int _ _ (H.arg ha1) hy1) ?_
 rintro v1 w2 hb2 ho1
 have H := H.addOwn hb2 ho1
 obtain ⟨ad1, cap1, hvad1, _⟩ := (H.own 1 rfl).shape
 refine Bd (v := (.agg #[v1, (.slice none 0 0)])) (fun w => by rw [hvad1]; exact bd29_0 _ _ _ w) rfl (Al [(.slice none 0 0), (.slice none 0 0)] ze29 H fun b2 w3 H hb3 => ?_)
 have H := H.addNil (α := Int) (E := 3)
 have H := H.addNil (α := GSight) (E := 92)
 have H := H.addNil (α := GSight) (E := 92)
 refine St 2 0 [v1, (.slice none 0 0)] [v1, (.slice none 0 0)] sz29 H R R (one_cons (SliceR.one (H.own 1 rfl)) (one_cons rfl one_nil)) fun w4 H => Nl (Sq (Sq (Rg (La [(vi a0.Noon), (vi a0.Half), (vi a0.Full), (vi a0.Late), (vi a0.Again), (vi a0.Wind)] ag52 (H.cell 0 rfl) ?_))))
 obtain ⟨t2, hy2, hm⟩ := bind_some hm
 refine Ca call37 (c_ball_ValidMast a0 hy2) ?_
 rintro _ w5 hb4 rfl
 have H := H.ext hb4
 refine O.not R R R (Mv (.bool (!t2)) ?_)
 obtain ⟨b3, hm1, hm⟩ := bind_some hm
 refine Cu 4 (fun f w => f 2 = (pt b1) ∧ f 6 = (pt b2) ∧ f 17 = .bool b3 ∧ Inv w0 w [boxI b1 52 [(vi a0.Noon), (vi a0.Half), (vi a0.Full), (vi a0.Late), (vi a0.Again), (vi a0.Wind)], o3 v1 t1, boxI b2 29 [v1, (.slice none 0 0)], o3 (.slice none 0 0) ([] : List Int), o92 (.slice none 0 0) ([] : List GSight), o92 (.slice none 0 0) ([] : List GSight)]) ?_ ?_
 ·
  rcases ite_some hm1 with ⟨hc1, hm1⟩ | ⟨hc1, hm1⟩
  ·
   refine Rs (i := 13) (v := .bool true) (cb hc1) (Sp (Sp (Sp (Pt (.bool true) (Nl ?_)))))
   obtain rfl := sj hm1
   exact ⟨rfl, rfl, rfl, H⟩
  ·
   refine Rs (i := 13) (v := .bool false) (cb hc1) (La [v1, (.slice none 0 0)] ag29 (H.cell 2 rfl) ?_)
   obtain ⟨t3, hy3, hm1⟩ := bind_some hm1
   refine Ca call38 (c_sight_Valid _ _ (GNet.mk t1 ([] : List GSight)) (H.own 1 rfl) (H.own 5 rfl) hy3) ?_
   rintro _ w6 hb5 rfl
   have H := H.ext hb5
   refine O.not R R R (Pf (.bool (!t3)) (Nl ?_))
   obtain rfl := sj hm1
   exact ⟨rfl, rfl, rfl, H⟩
 ·
  rintro f w ⟨hf2, hf6, hf17, H⟩
  obtain ⟨u1, rfl⟩ := up3 hf2 hf6 hf17
  refine Nl ?_
  rcases ite_some hm with ⟨hc2, hm⟩ | ⟨hc2, hm⟩
  ·
   refine Ct (cb hc2) (Sq (Rg (As (.pointer none) (As (vi 1) (Nl (Rt ?_))))))
   obtain rfl : (Got.nil 1) = r0 := sj (show some (Got.nil 1) = some r0 from hm)
   exact ends2 results25 R R ⟨_, rfl, H.base, rfl, (by decide)⟩
  ·
   refine Cf (cb hc2) (Sk (Sq (Rg (La [(vi a0.Noon), (vi a0.Half), (vi a0.Full), (vi a0.Late), (vi a0.Again), (vi a0.Wind)] ag52 (H.cell 0 rfl) (La [v1, (.slice none 0 0)] ag29 (H.cell 2 rfl) ?_)))))
   obtain ⟨ad2, cap2, hvad2, _⟩ := (H.own 1 rfl).shape
   refine Bd (v := (.agg #[(vi a0.Noon), (vi a0.Half), (vi a0.Full), (vi a0.Late), (vi a0.Again), (vi a0.Wind), (vi 0), v1, (.slice none 0 0), (.slice none 0 0), (vi 0), (vi 0), (.bool false), (vi 0), (.slice none 0 0), (.slice none 0 0), (vi 8191)])) (fun w => by rw [hvad2]; exact bdx54_0_2_7 a0 _ _ _ _ _ _ 8191 w) rfl ?_
   obtain ⟨ad3, cap3, hvad3, _⟩ := (H.own 1 rfl).shape
   refine Bd (v := (.agg #[(vi a0.Noon), (vi a0.Half), (vi a0.Full), (vi a0.Late), (vi a0.Again), (vi a0.Wind), (vi 0), v1, (.slice none 0 0), (.slice none 0 0), (vi 0), (vi 0), (.bool false), (vi 0), (.slice none 0 0), (.slice none 0 0), (vi 8191), (.slice none 0 0)])) (fun w => by rw [hvad3]; exact bdx57_0 a0 0 _ _ _ _ _ _ _ _ _ (GBall.mk 0 0 false 0) _ _ _ _ _ _ 8191 w) rfl (Bx [(vi a0.Noon), (vi a0.Half), (vi a0.Full), (vi a0.Late), (vi a0.Again), (vi a0.Wind), (vi 0), v1, (.slice none 0 0), (.slice none 0 0), (vi 0), (vi 0), (.bool false), (vi 0), (.slice none 0 0), (.slice none 0 0), (vi 8191), (.slice none 0 0)] H fun b4 w7 H hb6 => ?_)
   have H := H.addNil (α := GEvent) (E := 70)
   have H := H.addNil (α := Int) (E := 3)
   have H := H.addNil (α := GEntry) (E := 74)
   have H := H.addNil (α := GLine) (E := 65)
   refine As (pt b4) (As (vi 0) (Nl (Rt ?_)))
   obtain rfl : (Got.got (GStation.mk (GInside.mk a0 0 (GNet.mk t1 ([] : List GSight)) ([] : List GEvent) (GBall.mk 0 0 false 0) ([] : List Int) ([] : List GEntry) 8191) ([] : List GLine))) = r0 := sj (show some (Got.got (GStation.mk (GInside.mk a0 0 (GNet.mk t1 ([] : List GSight)) ([] : List GEvent) (GBall.mk 0 0 false 0) ([] : List Int) ([] : List GEntry) 8191) ([] : List GLine))) = some r0 from hm)
   exact ends2 results25 R R ⟨_, _, rfl, (H.pick [6, 1, 5, 7, 8, 9, 10] [boxI b4 57 [(vi a0.Noon), (vi a0.Half), (vi a0.Full), (vi a0.Late), (vi a0.Again), (vi a0.Wind), (vi 0), v1, (.slice none 0 0), (.slice none 0 0), (vi 0), (vi 0), (.bool false), (vi 0), (.slice none 0 0), (.slice none 0 0), (vi 8191), (.slice none 0 0)], o3 v1 t1, o92 (.slice none 0 0) ([] : List GSight), o70 (.slice none 0 0) ([] : List GEvent), o3 (.slice none 0 0) ([] : List Int), o74 (.slice none 0 0) ([] : List GEntry), o65 (.slice none 0 0) ([] : List GLine)] rfl (by decide)).toF, b4, v1, (.slice none 0 0), (.slice none 0 0), (.slice none 0 0), (.slice none 0 0), (.slice none 0 0), rfl, rfl⟩

set_option maxRecDepth 20000 in
theorem c_noongunlaw10_awake {w0 : World} (hT : EnvS prog 0 4 5 7 w0) {r0 : Bool} (hm : noongunlaw10_awake  = some r0) :
  Calls prog 14 #[] w0 (Ret w0 fun _ v => v = (.bool r0)) := by
 unfold noongunlaw10_awake at hm
 refine cW func14 ntmps14 ?_
 have H := Inv.start (w := w0)
 refine Sq (Rg (As (.bool false) (Nl (Sq (Rg ?_)))))
 obtain ⟨t1, hy1, hm⟩ := bind_some hm
 refine Ca call26 (c_noongunlaw10_mast  hy1) ?_
 rintro _ w1 hb1 rfl
 have H := H.ext hb1
 refine Bs (α := Int) [(vi 0), (vi 10000)] [0, 10000] underlying26 el3 H fun v1 w2 H hb2 => ?_
 obtain ⟨o1, hy2, hm⟩ := bind_some hm
 rcases o1 with t2 | t3
 ·
  have HF : InvD _ _ _ ([o3 v1 ([0, 10000] : List Int)] ++ []) := H
  refine O.callF [o3 v1 ([0, 10000] : List Int)] [] HF call25 R R R (c_station_New t1 _ _ (H.own 0 rfl) hy2) ?_
  rintro _ w3 _ H ⟨b1, v2, v3, v4, v5, v6, v7, rfl, rfl⟩
  have H : Inv w0 w3 [o3 v1 ([0, 10000] : List Int), boxI b1 57 (cS t2.inside v2 v3 v4 v5 v6 v7), o3 v2 t2.inside.net.Rates, o92 v3 t2.inside.net.Sights, o70 v4 t2.inside.log, o3 v5 t2.inside.verdicts, o74 v6 t2.inside.ledger, o65 v7 t2.lines] := H
  refine Mv (.tuple #[(pt b1), (vi 0)]) (Xt (pt b1) (Xt (vi 0) (As (pt b1) (As (vi 0) (Nl (Sq (Sq (Rg (Mv (vi 0) (Ne_ (Rs (i := 20) (v := .bool false) rfl (Nl (Cf rfl ?_)))))))))))))
  refine Sk (Sq (Rg (Mv (pt b1) ?_)))
  have HF : InvD _ _ _ ([o3 v1 ([0, 10000] : List Int)] ++ [boxI b1 57 (cS t2.inside v2 v3 v4 v5 v6 v7), o3 v2 t2.inside.net.Rates, o92 v3 t2.inside.net.Sights, o70 v4 t2.inside.log, o3 v5 t2.inside.verdicts, o74 v6 t2.inside.ledger, o65 v7 t2.lines]) := H
  obtain ⟨⟨t4, t5, t6⟩, hy3, hm⟩ := bind_some hm
  refine O.callF [o3 v1 ([0, 10000] : List Int)] [boxI b1 57 (cS t2.inside v2 v3 v4 v5 v6 v7), o3 v2 t2.inside.net.Rates, o92 v3 t2.inside.net.Sights, o70 v4 t2.inside.log, o3 v5 t2.inside.verdicts, o74 v6 t2.inside.ledger, o65 v7 t2.lines] HF call4 R R R (c_station_Station_Do _ _ _ _ _ _ _ _ t2 HF.frame (fun _ hb => hT.mono (Go.Fw.Inv.belowF HF hb)) _ hy3) ?_
  rintro _ w4 _ H ⟨v8, v9, v10, v11, v12, v13, rfl, rfl⟩
  refine Mv (.tuple #[(.string t5), (vi t6)]) (Xt (.string t5) (Xt (vi t6) (As (.string t5) (As (vi t6) (Nl (Sq (Rg (Mv (pt b1) ?_))))))))
  have HF : InvD _ _ _ ([o3 v1 ([0, 10000] : List Int)] ++ [boxI b1 57 (cS t4.inside v8 v9 v10 v11 v12 v13), o3 v8 t4.inside.net.Rates, o92 v9 t4.inside.net.Sights, o70 v10 t4.inside.log, o3 v11 t4.inside.verdicts, o74 v12 t4.inside.ledger, o65 v13 t4.lines]) := H
  obtain ⟨⟨t7, t8, t9⟩, hy4, hm⟩ := bind_some hm
  refine O.callF [o3 v1 ([0, 10000] : List Int)] [boxI b1 57 (cS t4.inside v8 v9 v10 v11 v12 v13), o3 v8 t4.inside.net.Rates, o92 v9 t4.inside.net.Sights, o70 v10 t4.inside.log, o3 v11 t4.inside.verdicts, o74 v12 t4.inside.ledger, o65 v13 t4.lines] HF call4 R R R (c_station_Station_Do _ _ _ _ _ _ _ _ t4 HF.frame (fun _ hb => hT.mono (Go.Fw.Inv.belowF HF hb)) _ hy4) ?_
  rintro _ w5 _ H ⟨v14, v15, v16, v17, v18, v19, rfl, rfl⟩
  refine Mv (.tuple #[(.string t8), (vi t9)]) (Xt (.string t8) (Xt (vi t9) (As (.string t8) (As (vi t9) (Nl (Sq (Rg (Mv (pt b1) ?_))))))))
  have HF : InvD _ _ _ ([o3 v1 ([0, 10000] : List Int)] ++ [boxI b1 57 (cS t7.inside v14 v15 v16 v17 v18 v19), o3 v14 t7.inside.net.Rates, o92 v15 t7.inside.net.Sights, o70 v16 t7.inside.log, o3 v17 t7.inside.verdicts, o74 v18 t7.inside.ledger, o65 v19 t7.lines]) := H
  obtain ⟨⟨t10, t11, t12⟩, hy5, hm⟩ := bind_some hm
  refine O.callF [o3 v1 ([0, 10000] : List Int)] [boxI b1 57 (cS t7.inside v14 v15 v16 v17 v18 v19), o3 v14 t7.inside.net.Rates, o92 v15 t7.inside.net.Sights, o70 v16 t7.inside.log, o3 v17 t7.inside.verdicts, o74 v18 t7.inside.ledger, o65 v19 t7.lines] HF call4 R R R (c_station_Station_Do _ _ _ _ _ _ _ _ t7 HF.frame (fun _ hb => hT.mono (Go.Fw.Inv.belowF HF hb)) _ hy5) ?_
  rintro _ w6 _ H ⟨v20, v21, v22, v23, v24, v25, rfl, rfl⟩
  refine Mv (.tuple #[(.string t11), (vi t12)]) (Xt (.string t11) (Xt (vi t12) (As (.string t11) (As (vi t12) (Nl (Sq (Rg (Mv (pt b1) ?_))))))))
  have HF : InvD _ _ _ ([o3 v1 ([0, 10000] : List Int)] ++ [boxI b1 57 (cS t10.inside v20 v21 v22 v23 v24 v25), o3 v20 t10.inside.net.Rates, o92 v21 t10.inside.net.Sights, o70 v22 t10.inside.log, o3 v23 t10.inside.verdicts, o74 v24 t10.inside.ledger, o65 v25 t10.lines]) := H
  obtain ⟨⟨t13, t14, t15⟩, hy6, hm⟩ := bind_some hm
  refine O.callF [o3 v1 ([0, 10000] : List Int)] [boxI b1 57 (cS t10.inside v20 v21 v22 v23 v24 v25), o3 v20 t10.inside.net.Rates, o92 v21 t10.inside.net.Sights, o70 v22 t10.inside.log, o3 v23 t10.inside.verdicts, o74 v24 t10.inside.ledger, o65 v25 t10.lines] HF call4 R R R (c_station_Station_Do _ _ _ _ _ _ _ _ t10 HF.frame (fun _ hb => hT.mono (Go.Fw.Inv.belowF HF hb)) _ hy6) ?_
  rintro _ w7 _ H ⟨v26, v27, v28, v29, v30, v31, rfl, rfl⟩
  refine Mv (.tuple #[(.string t14), (vi t15)]) (Xt (.string t14) (Xt (vi t15) (As (.string t14) (As (vi t15) (Nl (Sq (Rg (Mv (pt b1) ?_))))))))
  have HF : InvD _ _ _ ([o3 v1 ([0, 10000] : List Int)] ++ [boxI b1 57 (cS t13.inside v26 v27 v28 v29 v30 v31), o3 v26 t13.inside.net.Rates, o92 v27 t13.inside.net.Sights, o70 v28 t13.inside.log, o3 v29 t13.inside.verdicts, o74 v30 t13.inside.ledger, o65 v31 t13.lines]) := H
  obtain ⟨⟨t16, t17, t18⟩, hy7, hm⟩ := bind_some hm
  refine O.callF [o3 v1 ([0, 10000] : List Int)] [boxI b1 57 (cS t13.inside v26 v27 v28 v29 v30 v31), o3 v26 t13.inside.net.Rates, o92 v27 t13.inside.net.Sights, o70 v28 t13.inside.log, o3 v29 t13.inside.verdicts, o74 v30 t13.inside.ledger, o65 v31 t13.lines] HF call4 R R R (c_station_Station_Do _ _ _ _ _ _ _ _ t13 HF.frame (fun _ hb => hT.mono (Go.Fw.Inv.belowF HF hb)) _ hy7) ?_
  rintro _ w8 _ H ⟨v32, v33, v34, v35, v36, v37, rfl, rfl⟩
  refine Mv (.tuple #[(.string t17), (vi t18)]) (Xt (.string t17) (Xt (vi t18) (As (.string t17) (As (vi t18) (Nl (Sq (Rg (Mv (.string t5) (Es (Mv (.bool (decide (t5 = (bs [115, 105, 103, 104, 116, 115, 32, 49])))) ?_))))))))))
  refine Cu 3 (fun f w => f 8 = (vi t12) ∧ f 9 = (.string t14) ∧ f 12 = (vi t18) ∧ f 51 = .bool ((decide (t5 = (bs [115, 105, 103, 104, 116, 115, 32, 49]))) && (decide (t8 = (bs [101, 114, 114, 111, 114, 32, 57, 48, 32, 49, 49, 48])))) ∧ Inv w0 w [o3 v1 ([0, 10000] : List Int), boxI b1 57 (cS t16.inside v32 v33 v34 v35 v36 v37), o3 v32 t16.inside.net.Rates, o92 v33 t16.inside.net.Sights, o70 v34 t16.inside.log, o3 v35 t16.inside.verdicts, o74 v36 t16.inside.ledger, o65 v37 t16.lines]) ?_ ?_
  ·
   rcases bool_ft (decide (t5 = (bs [115, 105, 103, 104, 116, 115, 32, 49]))) with hc1 | hc1
   ·
    exact Rs (i := 48) (v := .bool false) (cb hc1) (Sp (Sp (Pf (.bool false) (Nl ⟨rfl, rfl, rfl, cb (and_f hc1), H⟩))))
   ·
    exact Rs (i := 48) (v := .bool true) (cb hc1) (Mv (.string t8) (Es (Pt (.bool (decide (t8 = (bs [101, 114, 114, 111, 114, 32, 57, 48, 32, 49, 49, 48])))) (Nl ⟨rfl, rfl, rfl, cb (and_t hc1), H⟩))))
  ·
   rintro f w ⟨hf8, hf9, hf12, hf51, H⟩
   obtain ⟨u1, rfl⟩ := up4 hf8 hf9 hf12 hf51
   refine Mv (.bool ((decide (t5 = (bs [115, 105, 103, 104, 116, 115, 32, 49]))) && (decide (t8 = (bs [101, 114, 114, 111, 114, 32, 57, 48, 32, 49, 49, 48]))))) ?_
   refine Cu 3 (fun f w => f 9 = (.string t14) ∧ f 12 = (vi t18) ∧ f 55 = .bool (((decide (t5 = (bs [115, 105, 103, 104, 116, 115, 32, 49]))) && (decide (t8 = (bs [101, 114, 114, 111, 114, 32, 57, 48, 32, 49, 49, 48])))) && (t12 == 9)) ∧ Inv w0 w [o3 v1 ([0, 10000] : List Int), boxI b1 57 (cS t16.inside v32 v33 v34 v35 v36 v37), o3 v32 t16.inside.net.Rates, o92 v33 t16.inside.net.Sights, o70 v34 t16.inside.log, o3 v35 t16.inside.verdicts, o74 v36 t16.inside.ledger, o65 v37 t16.lines]) ?_ ?_
   ·
    rcases bool_ft ((decide (t5 = (bs [115, 105, 103, 104, 116, 115, 32, 49]))) && (decide (t8 = (bs [101, 114, 114, 111, 114, 32, 57, 48, 32, 49, 49, 48])))) with hc2 | hc2
    ·
     exact Rs (i := 52) (v := .bool false) (cb hc2) (Sp (Sp (Pf (.bool false) (Nl ⟨rfl, rfl, cb (and_f hc2), H⟩))))
    ·
     exact Rs (i := 52) (v := .bool true) (cb hc2) (Mv (vi t12) (Eq_ (Pt (.bool (t12 == 9)) (Nl ⟨rfl, rfl, cb (and_t hc2), H⟩))))
   ·
    rintro f w ⟨hf9, hf12, hf55, H⟩
    obtain ⟨u2, rfl⟩ := up3 hf9 hf12 hf55
    refine Mv (.bool (((decide (t5 = (bs [115, 105, 103, 104, 116, 115, 32, 49]))) && (decide (t8 = (bs [101, 114, 114, 111, 114, 32, 57, 48, 32, 49, 49, 48])))) && (t12 == 9))) ?_
    refine Cu 3 (fun f w => f 12 = (vi t18) ∧ f 59 = .bool ((((decide (t5 = (bs [115, 105, 103, 104, 116, 115, 32, 49]))) && (decide (t8 = (bs [101, 114, 114, 111, 114, 32, 57, 48, 32, 49, 49, 48])))) && (t12 == 9)) && (decide (t14 = (bs [102, 108, 97, 103, 115, 32, 49, 50])))) ∧ Inv w0 w [o3 v1 ([0, 10000] : List Int), boxI b1 57 (cS t16.inside v32 v33 v34 v35 v36 v37), o3 v32 t16.inside.net.Rates, o92 v33 t16.inside.net.Sights, o70 v34 t16.inside.log, o3 v35 t16.inside.verdicts, o74 v36 t16.inside.ledger, o65 v37 t16.lines]) ?_ ?_
    ·
     rcases bool_ft (((decide (t5 = (bs [115, 105, 103, 104, 116, 115, 32, 49]))) && (decide (t8 = (bs [101, 114, 114, 111, 114, 32, 57, 48, 32, 49, 49, 48])))) && (t12 == 9)) with hc3 | hc3
     ·
      exact Rs (i := 56) (v := .bool false) (cb hc3) (Sp (Sp (Pf (.bool false) (Nl ⟨rfl, cb (and_f hc3), H⟩))))
     ·
      exact Rs (i := 56) (v := .bool true) (cb hc3) (Mv (.string t14) (Es (Pt (.bool (decide (t14 = (bs [102, 108, 97, 103, 115, 32, 49, 50])))) (Nl ⟨rfl, cb (and_t hc3), H⟩))))
    ·
     rintro f w ⟨hf12, hf59, H⟩
     obtain ⟨u3, rfl⟩ := up2 hf12 hf59
     refine Mv (.bool ((((decide (t5 = (bs [115, 105, 103, 104, 116, 115, 32, 49]))) && (decide (t8 = (bs [101, 114, 114, 111, 114, 32, 57, 48, 32, 49, 49, 48])))) && (t12 == 9)) && (decide (t14 = (bs [102, 108, 97, 103, 115, 32, 49, 50]))))) ?_
     refine Cu 3 (fun f w => f 63 = .bool (((((decide (t5 = (bs [115, 105, 103, 104, 116, 115, 32, 49]))) && (decide (t8 = (bs [101, 114, 114, 111, 114, 32, 57, 48, 32, 49, 49, 48])))) && (t12 == 9)) && (decide (t14 = (bs [102, 108, 97, 103, 115, 32, 49, 50])))) && (t18 == 10)) ∧ Inv w0 w [o3 v1 ([0, 10000] : List Int), boxI b1 57 (cS t16.inside v32 v33 v34 v35 v36 v37), o3 v32 t16.inside.net.Rates, o92 v33 t16.inside.net.Sights, o70 v34 t16.inside.log, o3 v35 t16.inside.verdicts, o74 v36 t16.inside.ledger, o65 v37 t16.lines]) ?_ ?_
     ·
      rcases bool_ft ((((decide (t5 = (bs [115, 105, 103, 104, 116, 115, 32, 49]))) && (decide (t8 = (bs [101, 114, 114, 111, 114, 32, 57, 48, 32, 49, 49, 48])))) && (t12 == 9)) && (decide (t14 = (bs [102, 108, 97, 103, 115, 32, 49, 50])))) with hc4 | hc4
      ·
       exact Rs (i := 60) (v := .bool false) (cb hc4) (Sp (Sp (Pf (.bool false) (Nl ⟨cb (and_f hc4), H⟩))))
      ·
       exact Rs (i := 60) (v := .bool true) (cb hc4) (Mv (vi t18) (Eq_ (Pt (.bool (t18 == 10)) (Nl ⟨cb (and_t hc4), H⟩))))
     ·
      rintro f w ⟨hf63, H⟩
      obtain ⟨u4, rfl⟩ := up1 hf63
      refine As (.bool (((((decide (t5 = (bs [115, 105, 103, 104, 116, 115, 32, 49]))) && (decide (t8 = (bs [101, 114, 114, 111, 114, 32, 57, 48, 32, 49, 49, 48])))) && (t12 == 9)) && (decide (t14 = (bs [102, 108, 97, 103, 115, 32, 49, 50])))) && (t18 == 10))) (Nl (Rt ?_))
      obtain rfl := sj hm
      exact ends1 results14 rfl ⟨_, rfl, H.base, rfl⟩
 ·
  refine Ca call25 (c_station_New t1 _ _ (H.own 0 rfl) hy2) ?_
  rintro _ w9 hb3 ⟨rfl, hz1⟩
  have H := H.ext hb3
  refine Mv (.tuple #[(.pointer none), (vi t3)]) (Xt (.pointer none) (Xt (vi t3) (As (.pointer none) (As (vi t3) (Nl (Sq (Sq (Rg (Mv (vi t3) (Ne_ (Rs (i := 20) (v := .bool true) (cb (bne_iff_ne.2 hz1)) (Nl (Ct rfl ?_)))))))))))))
  refine Sq (Rg (As (.bool false) (Nl (Rt ?_))))
  obtain rfl := sj hm
  exact ends1 results14 rfl ⟨_, rfl, H.base, rfl⟩

theorem c_station_Station_Do_nil {w0 : World} (a1 : ByteArray) {r0 : ByteArray} {r1 : Int} (hm : station_Station_Do_nil a1 = some (r0, r1)) :
  Calls prog 4 #[(.pointer none), (.string a1)] w0 (Ret w0 fun _ v => v = .tuple #[(.string r0), (vi r1)]) := by
 unfold station_Station_Do_nil at hm
 refine cW func4 ntmps4 ?_
 have H := Inv.start (w := w0)
 refine Sq (Rg (As (.string (bs [])) (As (vi 0) (Nl (Sq (Sq (Rg (Mv (.pointer none) (Ep pt22 (Rs (i := 13) (v := .bool true) rfl (Nl (Ct rfl (Sq ?_)))))))))))))
 refine Rg (As (.string (bs [])) (As (vi 9) (Nl (Rt ?_))))
 obtain ⟨rfl, rfl⟩ := j2 hm
 exact ends2 results4 R R ⟨_, rfl, H.base, rfl⟩

theorem c_station_Station_Net_nil {w0 : World}  {r0 : GNet} (hm : station_Station_Net_nil  = some r0) :
  Calls prog 5 #[(.pointer none)] w0 (Ret w0 fun w v => ∃ vr0_0 : Value, ∃ vr0_1 : Value, v = (.agg #[vr0_0, vr0_1]) ∧ Inv w0 w [o3 vr0_0 r0.Rates, o92 vr0_1 r0.Sights]) := by
 unfold station_Station_Net_nil at hm
 refine cW func5 ntmps5 ?_
 have H := Inv.start (w := w0)
 refine Sq (Rg (Al [(.slice none 0 0), (.slice none 0 0)] ze29 H fun b1 w1 H hb1 => ?_))
 have H := H.addNil (α := Int) (E := 3)
 have H := H.addNil (α := GSight) (E := 92)
 refine Nl (Sq (Sq (Rg (Mv (.pointer none) (Ep pt22 (Rs (i := 4) (v := .bool true) rfl (Nl (Ct rfl (Sq (Rg (Bd (v := (.agg #[(.slice none 0 0), (.slice none 0 0)])) (fun w => bd29_  w) rfl ?_)))))))))))
 have H := H.addNil (α := Int) (E := 3)
 have H := H.addNil (α := GSight) (E := 92)
 refine St 0 0 [(.slice none 0 0), (.slice none 0 0)] [(.slice none 0 0), (.slice none 0 0)] sz29 H R R (one_cons rfl (one_cons rfl one_nil)) fun w2 H => Nl (Rt ?_)
 obtain rfl := sj hm
 exact ends1 results5 ⟨_, rfl, run_loadVar_agg ag29 rfl (H.cell 0 rfl)⟩ ⟨_, rfl, H.base, ⟨_, _, rfl, H.pick [3, 4] [o3 (.slice none 0 0) ([] : List Int), o92 (.slice none 0 0) ([] : List GSight)] rfl (by decide)⟩⟩

theorem c_station_Station_Ball_nil {w0 : World}  {r0 : GBall} (hm : station_Station_Ball_nil  = some r0) :
  Calls prog 6 #[(.pointer none)] w0 (Ret w0 fun _ v => v = (.agg (Flat.cells r0).toArray)) := by
 unfold station_Station_Ball_nil at hm
 refine cW func6 ntmps6 ?_
 have H := Inv.start (w := w0)
 refine Sq (Rg (Al [(vi 0), (vi 0), (.bool false), (vi 0)] ze32 H fun b1 w1 H hb1 => Nl (Sq (Sq (Rg (Mv (.pointer none) (Ep pt22 (Rs (i := 4) (v := .bool true) rfl (Nl (Ct rfl (Sq ?_)))))))))))
 refine Rg (Bd (v := (.agg (Flat.cells (GBall.mk 0 0 false 0)).toArray)) (fun w => bd32_  w) rfl (St 0 0 [(vi 0), (vi 0), (.bool false), (vi 0)] [(vi 0), (vi 0), (.bool false), (vi 0)] sz32 H R R (one_cons rfl (one_cons rfl (one_cons rfl (one_cons rfl one_nil)))) fun w2 H => Nl (Rt ?_)))
 obtain rfl := sj hm
 exact ends1 results6 ⟨_, rfl, run_loadVar_agg ag32 rfl (H.cell 0 rfl)⟩ ⟨_, rfl, H.base, rfl⟩

theorem c_station_Station_Day_nil {w0 : World}  {r0 : Int} (hm : station_Station_Day_nil  = some r0) :
  Calls prog 7 #[(.pointer none)] w0 (Ret w0 fun _ v => v = (vi r0)) := by
 unfold station_Station_Day_nil at hm
 refine cW func7 ntmps7 ?_
 have H := Inv.start (w := w0)
 refine Sq (Rg (As (vi 0) (Nl (Sq (Sq (Rg (Mv (.pointer none) (Ep pt22 (Rs (i := 4) (v := .bool true) rfl (Nl (Ct rfl (Sq (Rg ?_)))))))))))))
 refine As (vi 0) (Nl (Rt ?_))
 obtain rfl := sj hm
 exact ends1 results7 rfl ⟨_, rfl, H.base, rfl⟩

theorem c_station_Station_Log_nil {w0 : World}  {r0 : (List GEvent)} (hm : station_Station_Log_nil  = some r0) :
  Calls prog 8 #[(.pointer none)] w0 (Ret w0 fun w v => OwnR w0 w v 70 r0) := by
 unfold station_Station_Log_nil at hm
 refine cW func8 ntmps8 ?_
 have H := Inv.start (w := w0)
 refine Sq (Rg ?_)
 have H := H.addNil (α := GEvent) (E := 70)
 refine As (.slice none 0 0) (Nl (Sq (Sq (Rg (Mv (.pointer none) (Ep pt22 (Rs (i := 4) (v := .bool true) rfl (Nl (Ct rfl (Sq (Rg ?_)))))))))))
 have H := H.addNil (α := GEvent) (E := 70)
 refine As (.slice none 0 0) (Nl (Rt ?_))
 obtain rfl := sj hm
 exact ends1 results8 rfl ⟨_, rfl, H.base, H.ownR 1 rfl⟩

theorem c_station_Station_Verdicts_nil {w0 : World}  {r0 : (List Int)} (hm : station_Station_Verdicts_nil  = some r0) :
  Calls prog 9 #[(.pointer none)] w0 (Ret w0 fun w v => OwnR w0 w v 3 r0) := by
 unfold station_Station_Verdicts_nil at hm
 refine cW func9 ntmps9 ?_
 have H := Inv.start (w := w0)
 refine Sq (Rg ?_)
 have H := H.addNil (α := Int) (E := 3)
 refine As (.slice none 0 0) (Nl (Sq (Sq (Rg (Mv (.pointer none) (Ep pt22 (Rs (i := 4) (v := .bool true) rfl (Nl (Ct rfl (Sq (Rg ?_)))))))))))
 have H := H.addNil (α := Int) (E := 3)
 refine As (.slice none 0 0) (Nl (Rt ?_))
 obtain rfl := sj hm
 exact ends1 results9 rfl ⟨_, rfl, H.base, H.ownR 1 rfl⟩

theorem c_station_Station_Ledger_nil {w0 : World}  {r0 : (List GEntry)} (hm : station_Station_Ledger_nil  = some r0) :
  Calls prog 10 #[(.pointer none)] w0 (Ret w0 fun w v => OwnR w0 w v 74 r0) := by
 unfold station_Station_Ledger_nil at hm
 refine cW func10 ntmps10 ?_
 have H := Inv.start (w := w0)
 refine Sq (Rg ?_)
 have H := H.addNil (α := GEntry) (E := 74)
 refine As (.slice none 0 0) (Nl (Sq (Sq (Rg (Mv (.pointer none) (Ep pt22 (Rs (i := 4) (v := .bool true) rfl (Nl (Ct rfl (Sq (Rg ?_)))))))))))
 have H := H.addNil (α := GEntry) (E := 74)
 refine As (.slice none 0 0) (Nl (Rt ?_))
 obtain rfl := sj hm
 exact ends1 results10 rfl ⟨_, rfl, H.base, H.ownR 1 rfl⟩

theorem c_station_Station_Flags_nil {w0 : World}  {r0 : Int} (hm : station_Station_Flags_nil  = some r0) :
  Calls prog 11 #[(.pointer none)] w0 (Ret w0 fun _ v => v = (vi r0)) := by
 unfold station_Station_Flags_nil at hm
 refine cW func11 ntmps11 ?_
 have H := Inv.start (w := w0)
 refine Sq (Rg (As (vi 0) (Nl (Sq (Sq (Rg (Mv (.pointer none) (Ep pt22 (Rs (i := 4) (v := .bool true) rfl (Nl (Ct rfl (Sq (Rg ?_)))))))))))))
 refine As (vi 0) (Nl (Rt ?_))
 obtain rfl := sj hm
 exact ends1 results11 rfl ⟨_, rfl, H.base, rfl⟩

theorem c_station_Station_Book_nil {w0 : World}  {r0 : ByteArray} (hm : station_Station_Book_nil  = some r0) :
  Calls prog 12 #[(.pointer none)] w0 (Ret w0 fun _ v => v = (.string r0)) := by
 unfold station_Station_Book_nil at hm
 refine cW func12 ntmps12 ?_
 have H := Inv.start (w := w0)
 refine Sq (Rg (As (.string (bs [])) (Nl (Sq (Sq (Rg (Mv (.pointer none) (Ep pt22 (Rs (i := 4) (v := .bool true) rfl (Nl (Ct rfl (Sq (Rg ?_)))))))))))))
 refine As (.string (bs [])) (Nl (Rt ?_))
 obtain rfl := sj hm
 exact ends1 results12 rfl ⟨_, rfl, H.base, rfl⟩

theorem c_station_Station_Copy_nil {w0 : World} : Calls prog 13 #[.pointer none] w0 (Ret w0 fun _ v => v = .pointer none) := by
 refine cW func13 ntmps13 ?_
 have H := Inv.start (w := w0)
 refine Sq (Rg (As (.pointer none) (Nl (Sq (Sq (Rg (Mv (.pointer none) (Ep (p := none) (show prog.underlying 22 = some (.pointer (prog.pointee 22)) by kernel_rfl) (Nl (Ct rfl (Sq (Rg (As (.pointer none) ?_)))))))))))))
 exact Nl (Rt (ends1 results13 rfl ⟨_, rfl, H.base, rfl⟩))

set_option maxRecDepth 20000 in
theorem c_noongunlaw10_StationNil {w0 : World} (hT : EnvS prog 0 4 5 7 w0) (a0 : ByteArray) {r0 : Bool} (hm : noongunlaw10_StationNil a0 = some r0) :
  Calls prog 3 #[(.string a0)] w0 (Ret w0 fun _ v => v = (.bool r0)) := by
 unfold noongunlaw10_StationNil at hm
 refine cW func3 ntmps3 ?_
 have H := Inv.start (w := w0)
 refine Sq (Rg (As (.bool false) (Nl (Sq (Rg (As (.pointer none) (Nl (Sq (Rg (Mv (.pointer none) (Mv (.string a0) ?_)))))))))))
 obtain ⟨⟨t1, t2⟩, hy1, hm⟩ := bind_some hm
 refine Ca call4 (c_station_Station_Do_nil _ hy1) ?_
 rintro _ w1 hb1 rfl
 have H := H.ext hb1
 refine Mv (.tuple #[(.string t1), (vi t2)]) (Xt (.string t1) (Xt (vi t2) (As (.string t1) (As (vi t2) (Nl (Sq (Rg (Mv (.pointer none) ?_))))))))
 obtain ⟨t3, hy2, hm⟩ := bind_some hm
 refine Ca call5 (c_station_Station_Net_nil  hy2) ?_
 rintro _ w2 hb2 ⟨v1, v2, rfl, ho1⟩
 have H := H.addAll hb2 ho1
 refine Al [(.slice none 0 0), (.slice none 0 0)] ze29 H fun b1 w3 H hb3 => ?_
 have H := H.addNil (α := Int) (E := 3)
 have H := H.addNil (α := GSight) (E := 92)
 refine St 2 0 [v1, v2] [v1, v2] sz29 H R R (one_cons (SliceR.one (H.own 0 rfl)) (one_cons (SliceR.one (H.own 1 rfl)) one_nil)) fun w4 H => Nl (Sq (Sq (Rg (Mv (.string t1) (O.neqS R R R R (Mv (.bool (!(decide (t1 = (bs []))))) ?_))))))
 refine Cu 3 (fun f w => f 3 = (.pointer none) ∧ f 6 = (pt b1) ∧ f 20 = .bool ((!(decide (t1 = (bs [])))) || (t2 != 9)) ∧ Inv w0 w [o3 v1 t3.Rates, o92 v2 t3.Sights, boxI b1 29 [v1, v2], o3 (.slice none 0 0) ([] : List Int), o92 (.slice none 0 0) ([] : List GSight)]) ?_ ?_
 ·
  rcases bool_ft (!(decide (t1 = (bs [])))) with hc1 | hc1
  ·
   exact Rs (i := 17) (v := .bool false) (cb hc1) (Mv (vi t2) (Ne_ (Pf (.bool (t2 != 9)) (Nl ⟨rfl, rfl, cb (or_f hc1), H⟩))))
  ·
   exact Rs (i := 17) (v := .bool true) (cb hc1) (Sp (Sp (Pt (.bool true) (Nl ⟨rfl, rfl, cb (or_t hc1), H⟩))))
 ·
  rintro f w ⟨hf3, hf6, hf20, H⟩
  obtain ⟨u1, rfl⟩ := up3 hf3 hf6 hf20
  refine Mv (.bool ((!(decide (t1 = (bs [])))) || (t2 != 9))) ?_
  obtain ⟨b2, hm1, hm⟩ := bind_some hm
  refine Cu 9 (fun f w => f 3 = (.pointer none) ∧ f 30 = .bool b2 ∧ Inv w0 w [o3 v1 t3.Rates, o92 v2 t3.Sights, boxI b1 29 [v1, v2], o3 (.slice none 0 0) ([] : List Int), o92 (.slice none 0 0) ([] : List GSight)]) ?_ ?_
  ·
   rcases ite_some hm1 with ⟨hc2, hm1⟩ | ⟨hc2, hm1⟩
   ·
    refine Rs (i := 21) (v := .bool true) (cb hc2) (Sp (Sp (Sp (Sp (Sp (Sp (Sp (Sp (Pt (.bool true) (Nl ?_))))))))))
    obtain rfl := sj hm1
    exact ⟨rfl, rfl, H⟩
   ·
    refine Rs (i := 21) (v := .bool false) (cb hc2) (Fa fd29_0 rfl (Ld _ sc26 (H.cell 2 rfl 0 _ rfl) (Ln underlying26 (H.own 0 rfl) (Fa fd29_1 rfl (Ld _ sc27 (H.cell 2 rfl 1 _ rfl) (Ln underlying27 (H.own 1 rfl) ?_))))))
    obtain ⟨t4, ht4, hm1⟩ := bind_some hm1
    refine Ad ht4 (Ne_ (Pf (.bool (t4 != 0)) (Nl ?_)))
    obtain rfl := sj hm1
    exact ⟨rfl, rfl, H⟩
  ·
   rintro f w ⟨hf3, hf30, H⟩
   obtain ⟨u2, rfl⟩ := up2 hf3 hf30
   refine Mv (.bool b2) ?_
   obtain ⟨b3, hm2, hm⟩ := bind_some hm
   refine Cu 5 (fun f w => f 3 = (.pointer none) ∧ f 36 = .bool b3 ∧ Inv w0 w [o3 v1 t3.Rates, o92 v2 t3.Sights, boxI b1 29 [v1, v2], o3 (.slice none 0 0) ([] : List Int), o92 (.slice none 0 0) ([] : List GSight)]) ?_ ?_
   ·
    rcases ite_some hm2 with ⟨hc3, hm2⟩ | ⟨hc3, hm2⟩
    ·
     refine Rs (i := 31) (v := .bool true) (cb hc3) (Sp (Sp (Sp (Sp (Pt (.bool true) (Nl ?_))))))
     obtain rfl := sj hm2
     exact ⟨rfl, rfl, H⟩
    ·
     refine Rs (i := 31) (v := .bool false) (cb hc3) (Mv (.pointer none) ?_)
     obtain ⟨t5, hy3, hm2⟩ := bind_some hm2
     refine Ca call6 (c_station_Station_Ball_nil  hy3) ?_
     rintro _ w5 hb4 rfl
     have H := H.ext hb4
     refine Bd (v := (.agg (Flat.cells (GBall.mk 0 0 false 0)).toArray)) (fun w => bd32_  w) rfl (O.neqSt t5 (GBall.mk 0 0 false 0) eq32 R R R R (Pf (.bool (!(t5 == (GBall.mk 0 0 false 0)))) (Nl ?_)))
     obtain rfl := sj hm2
     exact ⟨rfl, rfl, H⟩
   ·
    rintro f w ⟨hf3, hf36, H⟩
    obtain ⟨u3, rfl⟩ := up2 hf3 hf36
    refine Nl ?_
    rcases ite_some hm with ⟨hc4, hm⟩ | ⟨hc4, hm⟩
    ·
     refine Ct (cb hc4) (Sq (Rg (As (.bool false) (Nl (Rt ?_)))))
     obtain rfl := sj hm
     exact ends1 results3 rfl ⟨_, rfl, H.base, rfl⟩
    ·
     refine Cf (cb hc4) (Sk (Sq (Rg (Mv (.pointer none) ?_))))
     obtain ⟨t6, hy4, hm⟩ := bind_some hm
     refine Ca call7 (c_station_Station_Day_nil  hy4) ?_
     rintro _ w6 hb5 rfl
     have H := H.ext hb5
     refine Eq_ (Mv (.bool (t6 == 0)) ?_)
     obtain ⟨b4, hm3, hm⟩ := bind_some hm
     refine Cu 5 (fun f w => f 3 = (.pointer none) ∧ f 45 = .bool b4 ∧ Inv w0 w [o3 v1 t3.Rates, o92 v2 t3.Sights, boxI b1 29 [v1, v2], o3 (.slice none 0 0) ([] : List Int), o92 (.slice none 0 0) ([] : List GSight)]) ?_ ?_
     ·
      rcases ite_some hm3 with ⟨hc5, hm3⟩ | ⟨hc5, hm3⟩
      ·
       refine Rs (i := 40) (v := .bool true) (cb hc5) (Mv (.pointer none) ?_)
       obtain ⟨t7, hy5, hm3⟩ := bind_some hm3
       refine Ca call8 (c_station_Station_Log_nil  hy5) ?_
       rintro v3 w7 hb6 ho2
       have H := H.addOwn hb6 ho2
       refine Ln underlying35 (H.own 5 rfl) (Eq_ (Pt (.bool (((t7.length : Nat) : Int) == 0)) (Nl ?_)))
       have H := H.keep [0, 1, 2, 3, 4] [o3 v1 t3.Rates, o92 v2 t3.Sights, boxI b1 29 [v1, v2], o3 (.slice none 0 0) ([] : List Int), o92 (.slice none 0 0) ([] : List GSight)] rfl (by decide)
       obtain rfl := sj hm3
       exact ⟨rfl, rfl, H⟩
      ·
       refine Rs (i := 40) (v := .bool false) (cb hc5) (Sp (Sp (Sp (Sp (Pf (.bool false) (Nl ?_))))))
       obtain rfl := sj hm3
       exact ⟨rfl, rfl, H⟩
     ·
      rintro f w ⟨hf3, hf45, H⟩
      obtain ⟨u4, rfl⟩ := up2 hf3 hf45
      refine Mv (.bool b4) ?_
      obtain ⟨b5, hm4, hm⟩ := bind_some hm
      refine Cu 5 (fun f w => f 3 = (.pointer none) ∧ f 51 = .bool b5 ∧ Inv w0 w [o3 v1 t3.Rates, o92 v2 t3.Sights, boxI b1 29 [v1, v2], o3 (.slice none 0 0) ([] : List Int), o92 (.slice none 0 0) ([] : List GSight)]) ?_ ?_
      ·
       rcases ite_some hm4 with ⟨hc6, hm4⟩ | ⟨hc6, hm4⟩
       ·
        refine Rs (i := 46) (v := .bool true) (cb hc6) (Mv (.pointer none) ?_)
        obtain ⟨t8, hy6, hm4⟩ := bind_some hm4
        refine Ca call9 (c_station_Station_Verdicts_nil  hy6) ?_
        rintro v4 w8 hb7 ho3
        have H := H.addOwn hb7 ho3
        refine Ln underlying26 (H.own 5 rfl) (Eq_ (Pt (.bool (((t8.length : Nat) : Int) == 0)) (Nl ?_)))
        have H := H.keep [0, 1, 2, 3, 4] [o3 v1 t3.Rates, o92 v2 t3.Sights, boxI b1 29 [v1, v2], o3 (.slice none 0 0) ([] : List Int), o92 (.slice none 0 0) ([] : List GSight)] rfl (by decide)
        obtain rfl := sj hm4
        exact ⟨rfl, rfl, H⟩
       ·
        refine Rs (i := 46) (v := .bool false) (cb hc6) (Sp (Sp (Sp (Sp (Pf (.bool false) (Nl ?_))))))
        obtain rfl := sj hm4
        exact ⟨rfl, rfl, H⟩
      ·
       rintro f w ⟨hf3, hf51, H⟩
       obtain ⟨u5, rfl⟩ := up2 hf3 hf51
       refine Mv (.bool b5) ?_
       obtain ⟨b6, hm5, hm⟩ := bind_some hm
       refine Cu 5 (fun f w => f 3 = (.pointer none) ∧ f 57 = .bool b6 ∧ Inv w0 w [o3 v1 t3.Rates, o92 v2 t3.Sights, boxI b1 29 [v1, v2], o3 (.slice none 0 0) ([] : List Int), o92 (.slice none 0 0) ([] : List GSight)]) ?_ ?_
       ·
        rcases ite_some hm5 with ⟨hc7, hm5⟩ | ⟨hc7, hm5⟩
        ·
         refine Rs (i := 52) (v := .bool true) (cb hc7) (Mv (.pointer none) ?_)
         obtain ⟨t9, hy7, hm5⟩ := bind_some hm5
         refine Ca call10 (c_station_Station_Ledger_nil  hy7) ?_
         rintro v5 w9 hb8 ho4
         have H := H.addOwn hb8 ho4
         refine Ln underlying38 (H.own 5 rfl) (Eq_ (Pt (.bool (((t9.length : Nat) : Int) == 0)) (Nl ?_)))
         have H := H.keep [0, 1, 2, 3, 4] [o3 v1 t3.Rates, o92 v2 t3.Sights, boxI b1 29 [v1, v2], o3 (.slice none 0 0) ([] : List Int), o92 (.slice none 0 0) ([] : List GSight)] rfl (by decide)
         obtain rfl := sj hm5
         exact ⟨rfl, rfl, H⟩
        ·
         refine Rs (i := 52) (v := .bool false) (cb hc7) (Sp (Sp (Sp (Sp (Pf (.bool false) (Nl ?_))))))
         obtain rfl := sj hm5
         exact ⟨rfl, rfl, H⟩
       ·
        rintro f w ⟨hf3, hf57, H⟩
        obtain ⟨u6, rfl⟩ := up2 hf3 hf57
        refine Mv (.bool b6) ?_
        obtain ⟨b7, hm6, hm⟩ := bind_some hm
        refine Cu 4 (fun f w => f 3 = (.pointer none) ∧ f 62 = .bool b7 ∧ Inv w0 w [o3 v1 t3.Rates, o92 v2 t3.Sights, boxI b1 29 [v1, v2], o3 (.slice none 0 0) ([] : List Int), o92 (.slice none 0 0) ([] : List GSight)]) ?_ ?_
        ·
         rcases ite_some hm6 with ⟨hc8, hm6⟩ | ⟨hc8, hm6⟩
         ·
          refine Rs (i := 58) (v := .bool true) (cb hc8) (Mv (.pointer none) ?_)
          obtain ⟨t10, hy8, hm6⟩ := bind_some hm6
          refine Ca call11 (c_station_Station_Flags_nil  hy8) ?_
          rintro _ w10 hb9 rfl
          have H := H.ext hb9
          refine Eq_ (Pt (.bool (t10 == 0)) (Nl ?_))
          obtain rfl := sj hm6
          exact ⟨rfl, rfl, H⟩
         ·
          refine Rs (i := 58) (v := .bool false) (cb hc8) (Sp (Sp (Sp (Pf (.bool false) (Nl ?_)))))
          obtain rfl := sj hm6
          exact ⟨rfl, rfl, H⟩
        ·
         rintro f w ⟨hf3, hf62, H⟩
         obtain ⟨u7, rfl⟩ := up2 hf3 hf62
         refine Mv (.bool b7) ?_
         obtain ⟨b8, hm7, hm⟩ := bind_some hm
         refine Cu 4 (fun f w => f 3 = (.pointer none) ∧ f 67 = .bool b8 ∧ Inv w0 w [o3 v1 t3.Rates, o92 v2 t3.Sights, boxI b1 29 [v1, v2], o3 (.slice none 0 0) ([] : List Int), o92 (.slice none 0 0) ([] : List GSight)]) ?_ ?_
         ·
          rcases ite_some hm7 with ⟨hc9, hm7⟩ | ⟨hc9, hm7⟩
          ·
           refine Rs (i := 63) (v := .bool true) (cb hc9) (Mv (.pointer none) ?_)
           obtain ⟨t11, hy9, hm7⟩ := bind_some hm7
           refine Ca call12 (c_station_Station_Book_nil  hy9) ?_
           rintro _ w11 hb10 rfl
           have H := H.ext hb10
           refine Es (Pt (.bool (decide (t11 = (bs [])))) (Nl ?_))
           obtain rfl := sj hm7
           exact ⟨rfl, rfl, H⟩
          ·
           refine Rs (i := 63) (v := .bool false) (cb hc9) (Sp (Sp (Sp (Pf (.bool false) (Nl ?_)))))
           obtain rfl := sj hm7
           exact ⟨rfl, rfl, H⟩
         ·
          rintro f w ⟨hf3, hf67, H⟩
          obtain ⟨u8, rfl⟩ := up2 hf3 hf67
          refine Mv (.bool b8) ?_
          refine Cu 4 (fun f w => f 72 = .bool b8 ∧ Inv w0 w [o3 v1 t3.Rates, o92 v2 t3.Sights, boxI b1 29 [v1, v2], o3 (.slice none 0 0) ([] : List Int), o92 (.slice none 0 0) ([] : List GSight)]) ?_ ?_
          ·
           rcases bool_ft b8 with hc10 | hc10
           ·
            exact Rs (i := 68) (v := .bool false) (cb hc10) (Sp (Sp (Sp (Pf (.bool false) (Nl ⟨cb (eq_b hc10), H⟩)))))
           ·
            refine Rs (i := 68) (v := .bool true) (cb hc10) (Mv (.pointer none) (Ca call13 c_station_Station_Copy_nil ?_))
            rintro _ w12 hb11 rfl
            have H := H.ext hb11
            exact Ep pt22 (Rs (i := 71) (v := .bool true) rfl (Pt (.bool true) (Nl ⟨cb (eq_b hc10), H⟩)))
          ·
           rintro f w ⟨hf72, H⟩
           obtain ⟨u9, rfl⟩ := up1 hf72
           refine Mv (.bool b8) ?_
           obtain ⟨b9, hm8, hm⟩ := bind_some hm
           refine Cu 2 (fun f w => f 75 = .bool b9 ∧ Inv w0 w [o3 v1 t3.Rates, o92 v2 t3.Sights, boxI b1 29 [v1, v2], o3 (.slice none 0 0) ([] : List Int), o92 (.slice none 0 0) ([] : List GSight)]) ?_ ?_
           ·
            rcases ite_some hm8 with ⟨hc11, hm8⟩ | ⟨hc11, hm8⟩
            ·
             refine Rs (i := 73) (v := .bool true) (cb hc11) ?_
             obtain ⟨t12, hy10, hm8⟩ := bind_some hm8
             refine Ca call14 (c_noongunlaw10_awake (hT.mono H.base)  hy10) ?_
             rintro _ w13 hb12 rfl
             have H := H.ext hb12
             refine Pt (.bool t12) (Nl ?_)
             obtain rfl := sj hm8
             exact ⟨rfl, H⟩
            ·
             refine Rs (i := 73) (v := .bool false) (cb hc11) (Sp (Pf (.bool false) (Nl ?_)))
             obtain rfl := sj hm8
             exact ⟨rfl, H⟩
           ·
            rintro f w ⟨hf75, H⟩
            obtain ⟨u10, rfl⟩ := up1 hf75
            refine As (.bool b9) (Nl (Rt ?_))
            obtain rfl := sj hm
            exact ends1 results3 rfl ⟨_, rfl, H.base, rfl⟩

end Go.Proofs
