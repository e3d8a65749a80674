/-
  FlagBooks, plain: its model gives true for whatever comes in. No condition.
-/
import Derived.Test.YtecedifkjafneaaDoorBookLib
namespace Go.Fw
def fitM (x : GMeaning) : Bool := !decide (100 < ((x.Text.size : Nat) : Int))
theorem fitB_eq (l : List GMeaning) : noongunlaw07_fit l = some (l.all fitM && (decide (((l.length : Nat) : Int) ≤ 40) || (decide (200 ≤ ((l.length : Nat) : Int)) && decide (((l.length : Nat) : Int) ≤ 203)))) := by
  unfold noongunlaw07_fit
  rw [rangeL_search (p := fun x => !fitM x) (y := Ctl.ret false)]
  · have := not_any fitM l
    cases hh : l.any (fun x => !fitM x) with
    | true => rw [hh] at this; simp [← this]
    | false => rw [hh] at this; simp [← this]
  · intro i x s _
    unfold fitM
    rw [Bool.not_not]
    cases decide (100 < ((x.Text.size : Nat) : Int)) <;> rfl
theorem digitsB_eq {n : Int} (h : isN n = true) : flag_Digits n = some (digsOf n.toNat, 0) := by
  unfold flag_Digits
  rw [isNumber_eq, Option.bind_some, h, digitsOf_eq h]
  rfl
theorem usual_means {n : Int} (h : isN n = true) : ∃ x, flag_Hoist (digsOf n.toNat) = some (x, 0) ∧ vH x = true ∧ meansL [] x = digsOf n.toNat := by
  have hn := isN_le' h
  have hv : vD (digsOf n.toNat) = true := vD_mk (digsOf_len _ (by omega)) (digsOf_dig _)
  have hmem := hoistP_mem _ hv
  have hR := (mem_RH (digsOf n.toNat) 8191 (hoistP (digsOf n.toNat))).1 hmem
  have hl := vD_len hv
  have hrow := RH_row (digsOf n.toNat) 8191 hmem
  refine ⟨hoistP (digsOf n.toNat), ?_, (vH_iff _).2 ⟨by omega, hR.1⟩, hR.2.1⟩
  rw [Hoist_eq]
  unfold hoistR
  rw [if_pos hv]
theorem pair_uniq : ∀ {l : List GMeaning}, l.Pairwise (fun x y => x.Number < y.Number) → ∀ {x y : GMeaning}, x ∈ l → y ∈ l → x.Number = y.Number → x = y
  | [], _, _, _, h, _, _ => by simp at h
  | a :: l, hp, x, y, hx, hy, e => by
    obtain ⟨h1, h2⟩ := List.pairwise_cons.1 hp
    rcases List.mem_cons.1 hx with hxa | hxl
    · rcases List.mem_cons.1 hy with hya | hyl
      · rw [hxa, hya]
      · have := h1 y hyl; rw [hxa] at e; omega
    · rcases List.mem_cons.1 hy with hya | hyl
      · have := h1 x hxl; rw [hya] at e; omega
      · exact pair_uniq h2 hxl hyl e
theorem law_noongunlaw07_FlagBooks (a0 : (List GMeaning)) (_ : ∀ a ∈ a0, okGMeaning a) (_ : a0.length ≤ maxLen) (a1 : (List Int)) (_ : ∀ a ∈ a1, (fun a => inI a = true) a) (_ : a1.length ≤ maxLen) (a2 : ByteArray) (_ : a2.size ≤ maxLen) : noongunlaw07_FlagBooks a0 a1 a2 = some true := by
  unfold noongunlaw07_FlagBooks
  rw [fitB_eq, Option.bind_some]
  split
  · rw [awake_eq]; rfl
  · rename_i hg
    simp only [Bool.or_eq_true, Bool.not_eq_true', not_or, Bool.not_eq_false, Bool.and_eq_true, decide_eq_true_eq] at hg
    obtain ⟨⟨⟨hall, hlen⟩, _⟩, _⟩ := hg
    have hl : a0.length ≤ 1000 := by omega
    have ht : ∀ x ∈ a0, x.Text.size ≤ 1000 := by
      intro x hx
      have := List.all_eq_true.1 hall x hx
      unfold fitM at this
      simp only [Bool.not_eq_true', decide_eq_false_iff_not] at this
      omega
    have hL : ∀ h, flag_Look a0 h = some (lookS a0 h) := fun h => Look_eq a0 h hl ht
    rw [hL, rLook_eq a0 a1 hl ht, Find_eq a0 a2 hl ht, rFind_eq a0 a2 hl ht, ValidBook_eq a0 hl ht, rValidBook_eq a0 hl ht]
    simp only [Option.bind_some, bne_self_eq_false, decide_true, Bool.not_true, Bool.or_self, Bool.false_eq_true, if_false]
    split
    · rw [awake_eq]; rfl
    · rename_i hb
      simp only [Bool.or_eq_true, Bool.not_eq_true', not_or, Bool.not_eq_false] at hb
      have hbk := hb.1
      obtain ⟨hm, hp⟩ := book_facts hbk
      have hlook : ∀ x ∈ a0, ∀ h, vH h = true → meansL [] h = digsOf x.Number.toNat → lookS a0 h = (x.Text, 0) := by
        intro x hx h hv he
        unfold lookS
        rw [hbk, hv, he]
        simp only [Bool.and_self, if_true]
        have hf : a0.find? (fun y => decide (digsOf y.Number.toNat = digsOf x.Number.toNat)) = some x := by
          have huniq : ∀ y ∈ a0, digsOf y.Number.toNat = digsOf x.Number.toNat → y = x := by
            intro y hy e
            have n1 := numF_digs y.Number.toNat
            have n2 := numF_digs x.Number.toNat
            rw [e] at n1
            have b1 := isN_le' (vM_num (hm y hy))
            have b2 := isN_le' (vM_num (hm x hx))
            have en : y.Number = x.Number := by omega
            exact pair_uniq hp hy hx en
          cases hfd : a0.find? (fun y => decide (digsOf y.Number.toNat = digsOf x.Number.toNat)) with
          | none =>
            have := List.find?_eq_none.1 hfd x hx
            simp at this
          | some y =>
            have h1 := List.find?_some hfd
            have h2 := List.mem_of_find?_eq_some hfd
            rw [huniq y h2 (by simpa using h1)]
        rw [hf]
      have key : ∀ (m : List GMeaning) (i : Int), (∀ x ∈ m, x ∈ a0) → rangeL (α := GMeaning) (S := Unit) (X := Ctl (Unit) (Bool)) (fun _ yk1 _ =>
                          (flag_Digits yk1.Number).bind (fun o => match o with
                            | (t15, t16) =>
                              (flag_Hoist t15).bind (fun o => match o with
                                | (t17, t18) =>
                                  (flag_Look a0 t17).bind (fun o => match o with
                                    | (t19, t20) =>
                                      (if ((((t16 != 0) || (t18 != 0)) || (t20 != 0)) || (!(decide (t19 = yk1.Text)))) = true then
                                        some (Step.done (Ctl.ret false))
                                      else
                                        some (Step.cont ())))))) (fun _ => Ctl.next ()) m i () = some (Ctl.next ()) := by
        intro m
        induction m with
        | nil => intro i _; rfl
        | cons x m ih =>
          intro i hx
          have hxm := hx x (by simp)
          have hN := vM_num (hm x hxm)
          obtain ⟨h, g1, g2, g3⟩ := usual_means hN
          rw [rangeL, digitsB_eq hN]
          simp only [Option.bind_some, g1, hL h, hlook x hxm h g2 g3]
          simp only [bne_self_eq_false, decide_true, Bool.not_true, Bool.or_self, Bool.false_eq_true, if_false, Option.bind_some]
          exact ih (i + 1) fun y hy => hx y (by simp [hy])
      erw [key a0 0 (fun _ h => h)]
      rw [Option.bind_some, awake_eq]
      rfl
end Go.Fw
