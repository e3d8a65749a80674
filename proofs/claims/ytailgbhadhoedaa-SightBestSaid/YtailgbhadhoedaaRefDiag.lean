/-
  The document's table, plain: what its diagonal tells; small nets. No program in it.
-/
import Derived.Test.YtailgbhadhoedaaRefWays2
namespace Go.Fw
open Go.Gr
theorem huntN {X : Type} (y : X) (p : Nat → Bool) {body : Int → Unit → Option (Step Unit X)} {fin : Unit → X} : ∀ (k i : Nat), (∀ j, i ≤ j → j < i + k → body (j : Int) () = some (if p j = true then .done y else .cont ())) →
    (rangeN body fin k (i : Int) () = some y ∧ ∃ j, i ≤ j ∧ j < i + k ∧ p j = true) ∨ (rangeN body fin k (i : Int) () = some (fin ()) ∧ ∀ j, i ≤ j → j < i + k → p j = false)
  | 0, i, _ => .inr ⟨rfl, fun j h1 h2 => by omega⟩
  | k + 1, i, h => by
    rw [rangeN, h i (Nat.le_refl _) (by omega), Option.bind_some]
    cases hp : p i with
    | true => exact .inl ⟨rfl, i, Nat.le_refl _, by omega, hp⟩
    | false =>
      rcases huntN y p (body := body) (fin := fin) k (i + 1) (fun j h1 h2 => h j (by omega) (by omega)) with ⟨h', j, j1, j2, j3⟩ | ⟨h', h2⟩
      · exact .inl ⟨h', j, by omega, by omega, j3⟩
      · refine .inr ⟨h', fun j j1 j2 => ?_⟩
        rcases Nat.eq_or_lt_of_le j1 with rfl | j1
        · exact hp
        · exact h2 j (by omega) (by omega)
theorem diag_eq {ks : List GPoint} {z : Zt} (hz : Shape ks.length z) : ∃ b, noongunref02_graph_consistent (GRefgraph.mk ks z) = some b ∧ (b = true ↔ ∀ i, i < ks.length → 0 ≤ tb z i i) := by
  unfold noongunref02_graph_consistent
  rw [Int.toNat_natCast]
  have h := huntN (X := Ctl Unit Bool) (Ctl.ret false) (fun j => decide (tb z j j < 0)) (body := fun ik1 _ =>
    (idx (GRefgraph.mk ks z).cost (ik1 : Int)).bind (fun x1 =>
    (idx x1 (ik1 : Int)).bind (fun x2 =>
    (if (decide (x2 < 0)) = true then
      some (Step.done (Ctl.ret false))
    else
      some (Step.cont ()))))) (fin := fun _ => Ctl.next ()) ks.length 0 (fun j _ hj => by
      obtain ⟨row, e1, e2, e3⟩ := hz.row (i := j) (by omega)
      have c := hz.cell e2 e3 (j := j) (by omega)
      show (idx z (j : Int)).bind _ = _
      rw [e1, Option.bind_some, c, Option.bind_some]
      cases decide (tb z j j < 0) <;> rfl)
  rcases h with ⟨h, j, _, j2, j3⟩ | ⟨h, hall⟩
  · refine ⟨false, (bindS h).trans rfl, ⟨fun h => (by cases h), fun h => ?_⟩⟩
    have := h j (by omega)
    rw [decide_eq_true_eq] at j3
    omega
  · refine ⟨true, (bindS h).trans rfl, ⟨fun _ i hi => ?_, fun _ => rfl⟩⟩
    have := hall i (by omega) (by omega)
    rw [decide_eq_false_iff_not] at this
    omega
theorem light_8 {x : GNet} (h : noongunlaw02_Light x = some true) (hx : vNet x = true) : x.Sights.length ≤ 8 := by
  have h30 := (vNet_iff.1 hx).2.2.2.1
  unfold noongunlaw02_Light at h
  have h := Option.some.inj h
  simp only [Bool.and_eq_true, Bool.or_eq_true, decide_eq_true_eq] at h
  omega
end Go.Fw
