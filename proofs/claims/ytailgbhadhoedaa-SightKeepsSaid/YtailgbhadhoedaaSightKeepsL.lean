/-
  SightKeeps, plain: the tight net and that of the needed sights alone have the same bounds; the tight net is its own.
-/
import Derived.Test.YtailgbhadhoedaaNeedLib
namespace Go.Fw
open Go.Gr
def getS (x : GNet) (i : Int) : GSight := (idx x.Sights i).getD ⟨0, 0, 0, 0, 0⟩
theorem getS_nat {x : GNet} {k : Nat} (h : k < x.Sights.length) : getS x (k : Int) = x.Sights[k] := by
  unfold getS
  rw [idx_at (List.getElem?_eq_getElem h), Option.getD_some]
/-- What holds of the sights gone through. -/
structure RunOk (x : GNet) (k : Nat) (rest : GNet) (out : List Int) : Prop where
  val : vNet rest = true
  rates : rest.Rates = x.Rates
  sights : rest.Sights = x.Sights.take k ++ out.map (getS x)
  rng : ∀ i ∈ out, 0 ≤ i ∧ i < (x.Sights.length : Int)
  dom1 : Dom (ENx x) (ENx rest)
  dom2 : Dom (ENx rest) (ENx x)
theorem runN_ok {x : GNet} : ∀ (k : Nat) (rest : GNet) (out : List Int), k ≤ x.Sights.length → RunOk x k rest out → RunOk x 0 (runN k rest out).2 (runN k rest out).1
  | 0, _, _, _, h => h
  | k + 1, rest, out, hk, h => by
    have hlt : k < x.Sights.length := hk
    have hs : rest.Sights = x.Sights.take k ++ (x.Sights[k] :: out.map (getS x)) := by
      rw [h.sights, List.take_succ_eq_append_getElem hlt, List.append_assoc]
      rfl
    rw [runN]
    by_cases hi : impF rest k = true
    · rw [if_pos hi]
      refine runN_ok k (woNet rest k) out (by omega) ⟨wo_valid h.val k, h.rates, ?_, h.rng, h.dom1.trans (imp_dom hi), (wo_dom rest k).trans h.dom2⟩
      show rest.Sights.eraseIdx k = _
      have hl : (x.Sights.take k).length = k := by rw [List.length_take]; omega
      rw [hs, List.eraseIdx_append_of_length_le (by omega), hl, Nat.sub_self]
      rfl
    · rw [if_neg hi]
      refine runN_ok k rest ((k : Int) :: out) (by omega) ⟨h.val, h.rates, ?_, fun i hi => ?_, h.dom1, h.dom2⟩
      · rw [hs, List.map_cons, getS_nat hlt]
      · rcases List.mem_cons.1 hi with rfl | hi
        · omega
        · exact h.rng i hi
theorem tight_step {x : GNet} (hx : vNet x = true) (hn : NoNeg (ENx x)) {s : GSight} (hs : s ∈ x.Sights) : ∃ hi lo, BetOk x s.A s.B s.At hi lo ∧ hi ≤ s.Hi ∧ lo ≤ -s.Lo ∧ tgtS x s = ⟨s.At, s.A, s.B, -lo, hi⟩ := by
  obtain ⟨hi, lo, ok, h1, h2⟩ := sight_bet hx hn hs
  refine ⟨hi, lo, ok, h1, h2, ?_⟩
  unfold tgtS
  rw [ok.eq]
theorem tight_valid {x : GNet} (hx : vNet x = true) (hn : NoNeg (ENx x)) : vNet (tightF x) = true := by
  refine vNet_sub hx rfl ?_ fun s' hs' => ?_
  · show (x.Sights.map (tgtS x)).length ≤ 30
    rw [List.length_map]
    exact (vNet_iff.1 hx).2.2.2.1
  · obtain ⟨s, hs, rfl⟩ := List.mem_map.1 hs'
    obtain ⟨hi, lo, ok, h1, h2, e⟩ := tight_step hx hn hs
    obtain ⟨v1, v2, v3, v4, v5, v6, v7, v8, v9, v10⟩ := vSight_iff.1 ((vNet_iff.1 hx).2.2.2.2.2 s hs)
    have := hn _ _ (ok.up.1.append ok.down.1)
    rw [e]
    exact vSight_iff.2 ⟨v1, v2, v3, v4, v5, v6, v7, by dsimp only; omega, by dsimp only; omega, by dsimp only; omega⟩
theorem tight_dom1 {x : GNet} (hx : vNet x = true) (hn : NoNeg (ENx x)) : Dom (ENx x) (ENx (tightF x)) := by
  intro p q c hE
  rcases hE with hE | ⟨s, hs, hE⟩
  · exact ⟨c, Int.le_refl _, Wy.one (.inl hE)⟩
  · obtain ⟨hi, lo, ok, h1, h2, e⟩ := tight_step hx hn hs
    have hm : (⟨s.At, s.A, s.B, -lo, hi⟩ : GSight) ∈ (tightF x).Sights := by rw [← e]; exact List.mem_map_of_mem hs
    rcases hE with ⟨rfl, rfl, rfl⟩ | ⟨rfl, rfl, rfl⟩
    · exact ⟨hi, h1, Wy.one (.inr ⟨_, hm, .inl ⟨rfl, rfl, rfl⟩⟩)⟩
    · exact ⟨lo, h2, Wy.one (.inr ⟨_, hm, .inr ⟨rfl, rfl, by dsimp only; omega⟩⟩)⟩
theorem tight_dom2 {x : GNet} (hx : vNet x = true) (hn : NoNeg (ENx x)) : Dom (ENx (tightF x)) (ENx x) := by
  intro p q c hE
  rcases hE with hE | ⟨s', hs', hE⟩
  · exact ⟨c, Int.le_refl _, Wy.one (.inl hE)⟩
  · obtain ⟨s, hs, rfl⟩ := List.mem_map.1 hs'
    obtain ⟨hi, lo, ok, h1, h2, e⟩ := tight_step hx hn hs
    rw [e] at hE
    rcases hE with ⟨rfl, rfl, rfl⟩ | ⟨rfl, rfl, rfl⟩
    · exact ⟨_, Int.le_refl _, ok.up.1⟩
    · exact ⟨lo, by dsimp only; omega, ok.down.1⟩
theorem tight_tight {x : GNet} (hx : vNet x = true) (hn : NoNeg (ENx x)) : tightF (tightF x) = tightF x := by
  have hb := betweenF_congr hx (tight_valid hx hn) (show (tightF x).Rates = x.Rates from rfl) (tight_dom1 hx hn) (tight_dom2 hx hn)
  show GNet.mk x.Rates ((x.Sights.map (tgtS x)).map (tgtS (tightF x))) = ⟨x.Rates, x.Sights.map (tgtS x)⟩
  rw [List.map_map]
  congr 1
  refine List.map_congr_left fun s _ => ?_
  show tgtS (tightF x) (tgtS x s) = tgtS x s
  unfold tgtS
  rw [hb]
theorem law_noongunlaw02_SightKeeps (a0 : GNet) (_ : okGNet a0) (a1 : GArr3) (_ : okGArr3 a1) : noongunlaw02_SightKeeps a0 a1 = some true := by
  unfold noongunlaw02_SightKeeps
  obtain ⟨L, hL⟩ : ∃ L, noongunlaw02_Light (GNet.mk a0.Rates a0.Sights) = some L := ⟨_, rfl⟩
  rw [hL, Option.bind_some, awake_eq, eta]
  cases L with
  | false => rfl
  | true =>
    rw [if_neg (by decide)]
    refine (bindS (Between_eq _ _ _ _)).trans ?_
    by_cases hc : vNet a0 = true ∧ NoNeg (ENx a0)
    · obtain ⟨hx, hn⟩ := hc
      obtain ⟨sp, e, hB⟩ : ∃ sp e, betweenF a0 a1.x0 a1.x1 a1.x2 = (sp, e) := ⟨_, _, rfl⟩
      have hc1 := (consF_noNeg hx).2 hn
      have ht := sTight_eq a0
      rw [if_pos hx, if_pos hc1] at ht
      have hvt := tight_valid hx hn
      have hnt := (tight_dom2 hx hn).noNeg hn
      have htt := sTight_eq (tightF a0)
      rw [if_pos hvt, if_pos ((consF_noNeg hvt).2 hnt), tight_tight hx hn] at htt
      have hne := sNeeded_eq a0
      rw [if_pos hx, if_pos hc1] at hne
      have hbt := Between_eq (tightF a0) a1.x0 a1.x1 a1.x2
      rw [betweenF_congr hx hvt (show (tightF a0).Rates = a0.Rates from rfl) (tight_dom1 hx hn) (tight_dom2 hx hn), hB] at hbt
      have hrun := runN_ok (x := a0) a0.Sights.length a0 [] (Nat.le_refl _) ⟨hx, rfl, by simp, by simp, fun p q c h => ⟨c, Int.le_refl _, Wy.one h⟩, fun p q c h => ⟨c, Int.le_refl _, Wy.one h⟩⟩
      obtain ⟨l, r, hlr⟩ : ∃ l r, runN a0.Sights.length a0 [] = (l, r) := ⟨_, _, rfl⟩
      rw [hlr] at hne hrun
      have hrs : r.Sights = l.map (getS a0) := by have := hrun.sights; simpa using this
      have hr : r = ⟨a0.Rates, l.map (getS a0)⟩ := by
        have := hrun.rates
        obtain ⟨r1, r2⟩ := r
        dsimp only at this hrs ⊢
        rw [this, hrs]
      have hll : l.length ≤ 30 := by
        have h := (vNet_iff.1 hrun.val).2.2.2.1
        dsimp only at h
        rw [hrs, List.length_map] at h
        exact h
      have hbr := Between_eq r a1.x0 a1.x1 a1.x2
      rw [betweenF_congr hx hrun.val hrun.rates hrun.dom1 hrun.dom2, hB] at hbr
      rw [hB]
      dsimp only
      by_cases he : ((e != 0) && (e != 8)) = true
      · rw [if_pos he]; rfl
      · rw [if_neg he]
        have hR : appI ([] : List Int) a0.Rates = some a0.Rates := by
          have := vNet_iff.1 hx
          unfold appI; rw [if_pos (by simp only [List.length_nil]; omega)]; rfl
        refine (bindS ht).trans ((bindS htt).trans ((bindS hne).trans ?_))
        dsimp only
        rw [eta, refSame_self]
        simp only [bne_self_eq_false, Bool.or_false, Bool.false_eq_true, if_false, Option.bind_some, Bool.not_true]
        refine (bindS hbt).trans ?_
        dsimp only
        rw [if_neg (by simp), hR, Option.bind_some]
        refine (bindS (rangeL_map (X := Ctl (List GSight) Bool) (getS a0) l 0 [] (by simp only [List.length_nil]; omega) fun i y acc hy hacc => ?_)).trans ?_
        · obtain ⟨y1, y2⟩ := hrun.rng y hy
          obtain ⟨k, rfl⟩ := Int.eq_ofNat_of_zero_le y1
          rw [decide_eq_false (by omega), decide_eq_false (by omega), if_neg (by decide), idx_at (List.getElem?_eq_getElem (by omega)), Option.bind_some, app1 (by omega), Option.bind_some, getS_nat (by omega)]
        · rw [List.nil_append]
          dsimp only
          rw [← hr]
          refine (bindS hbr).trans ?_
          dsimp only
          rw [beq_self_eq_true, beq_self_eq_true]
          rfl
    · have he : (betweenF a0 a1.x0 a1.x1 a1.x2).2 ≠ 0 ∧ (betweenF a0 a1.x0 a1.x1 a1.x2).2 ≠ 8 := by
        unfold betweenF
        by_cases hv : vNet a0 = true
        · rw [if_pos hv]
          split
          · split
            · rw [if_neg fun h => hc ⟨hv, h⟩]
              exact ⟨by decide, by decide⟩
            · exact ⟨by dsimp only; decide, by dsimp only; decide⟩
          · exact ⟨by dsimp only; decide, by dsimp only; decide⟩
        · rw [if_neg hv]
          exact ⟨by decide, by decide⟩
      generalize betweenF a0 a1.x0 a1.x1 a1.x2 = b at he
      obtain ⟨b1, b2⟩ := b
      dsimp only at he ⊢
      rw [if_pos (by simp [he.1, he.2])]
      rfl
end Go.Fw
