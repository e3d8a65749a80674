import Derived.Test.YtailgbhadhoedaaTabLib
import Derived.Test.YtailgbhadhoedaaRefCarry
/-
  The document's table of least costs, plain. No program in it.
-/
namespace Go.Fw
open Go.Gr
theorem buildR {α β X : Type} (g : α → β) {body : Int → α → List β → Option (Step (List β) X)} {fin : List β → X} : ∀ (l : List α) (i : Int) (acc : List β), acc.length + l.length ≤ 1000 →
    (∀ i x s, x ∈ l → s.length ≤ 999 → body i x s = some (.cont (s ++ [g x]))) → rangeL body fin l i acc = some (fin (acc ++ l.map g))
  | [], i, acc, _, _ => by rw [rangeL]; simp
  | x :: l, i, acc, hl, h => by
    rw [List.length_cons] at hl
    rw [rangeL, h i x acc (List.mem_cons_self ..) (by omega), Option.bind_some]
    have := buildR g (fin := fin) l (i + 1) (acc ++ [g x]) (by simp; omega) fun i x s hx => h i x s (List.mem_cons_of_mem _ hx)
    rw [List.map_cons, show acc ++ g x :: l.map g = (acc ++ [g x]) ++ l.map g by simp]
    exact this
theorem spot_eq (c t : Int) : noongunref02_spot c t = some (spot c t) := by
  unfold noongunref02_spot spot
  by_cases h : c = 0
  · subst h; rfl
  · have : (c == 0) = false := by simpa using h
    rw [this, if_neg h]; rfl
theorem findIdx_idx (p : GPoint) : ∀ (l : List GPoint), l.findIdx? (fun q => p == q) = if p ∈ l then some (l.idxOf p) else none
  | [] => by simp
  | a :: l => by
    rw [List.findIdx?_cons, findIdx_idx p l, List.idxOf_cons]
    by_cases h : a = p
    · subst h; simp
    · have h1 : (a == p) = false := by simpa using h
      have h2 : (p == a) = false := by simpa using Ne.symm h
      rw [h1, h2]
      by_cases hm : p ∈ l
      · simp [hm]
      · simp [hm, Ne.symm h]
theorem index_eq (ks : List GPoint) (z : List (List Int)) (p : GPoint) : noongunref02_graph_index (GRefgraph.mk ks z) p = some (if p ∈ ks then ((ks.idxOf p : Nat) : Int) else -1) := by
  unfold noongunref02_graph_index
  rw [index_loop (fun q => p == q)]
  · rw [findIdx_idx]
    by_cases h : p ∈ ks <;> simp [h]
  · intro i q hq
    simp only [idx_at hq, Option.bind_some]
    cases p == q <;> rfl
def askedL (S : List GSight) (more : List GPoint) : List GPoint := more ++ S.flatMap fun s => [spot s.A s.At, spot s.B s.At]
theorem points_loop {x : GNet} (l : List GPoint) (hl : l.length ≤ 500) (hg : ∀ p ∈ l, Good x p) (h0 : Good x (spot 0 0)) : ∃ ks, rangeL (α := GPoint) (S := (List GPoint)) (X := (List GPoint)) (fun _ yk2 z5 =>
    ((
      (noongunref02_graph_index (GRefgraph.mk z5 ([] : List (List Int))) yk2).bind (fun t5 =>
      ((
        (if (decide (t5 < 0)) = true then
          (appI z5 ([yk2] : List GPoint)).bind (fun t6 =>
          some t6)
        else
          some z5)) : Option ((List GPoint))).bind (fun s4 =>
      some s4))) : Option ((List GPoint))).bind (fun s3 =>
    some (Step.cont s3))) (fun z5 => z5) l 0 ([spot 0 0] : List GPoint) = some ks ∧ ks.Nodup ∧ (∀ p ∈ l, p ∈ ks) ∧ (∀ p ∈ ks, Good x p) ∧ ks.length ≤ l.length + 1 := by
  obtain ⟨ks, h1, h2, h3, h4, h5⟩ := rangeL_inv (α := GPoint) (S := (List GPoint)) (X := (List GPoint)) (body := fun _ yk2 z5 =>
    ((
      (noongunref02_graph_index (GRefgraph.mk z5 ([] : List (List Int))) yk2).bind (fun t5 =>
      ((
        (if (decide (t5 < 0)) = true then
          (appI z5 ([yk2] : List GPoint)).bind (fun t6 =>
          some t6)
        else
          some z5)) : Option ((List GPoint))).bind (fun s4 =>
      some s4))) : Option ((List GPoint))).bind (fun s3 =>
    some (Step.cont s3))) (fin := fun z5 => z5) (fun j z => z.Nodup ∧ (∀ i p, i < j → l[i]? = some p → p ∈ z) ∧ (∀ p ∈ z, Good x p) ∧ z.length ≤ j + 1) l [spot 0 0] (fun j p z hp ⟨q1, q2, q3, q4⟩ => by
      have hj := (List.getElem?_eq_some_iff.1 hp).1
      refine ⟨addK z p, ?_, addK_nodup q1, fun i q hi hq => ?_, fun q hq => ?_, by have := addK_len z p; omega⟩
      · rw [index_eq, Option.bind_some]
        unfold addK
        by_cases hm : p ∈ z
        · rw [if_pos hm, if_pos hm, if_neg (by rw [decide_eq_true_eq]; omega)]
          rfl
        · rw [if_neg hm, if_neg hm, if_pos (by decide)]
          unfold appI
          rw [if_pos (by simp; omega)]
          rfl
      · rcases Nat.lt_or_ge i j with h | h
        · exact addK_sub (q2 i q h hq)
        · rw [show i = j by omega, hp] at hq
          cases hq
          exact addK_mem z p
      · rcases addK_or hq with h | rfl
        · exact q3 q h
        · exact hg _ (List.mem_of_getElem? hp)) ⟨by simp, fun i p hi => by omega, fun p hp => by rw [List.mem_singleton.1 hp]; exact h0, by simp⟩
  refine ⟨ks, h1, h2, fun p hp => ?_, h4, h5⟩
  obtain ⟨i, hi⟩ := List.getElem?_of_mem hp
  exact h3 i p (List.getElem?_eq_some_iff.1 hi).1 hi
def entry (x : GNet) (p q : GPoint) : Int := if p = q then 0 else if p.clock = q.clock then carryV (rateF x p.clock) (p.at_ - q.at_) else NN
def EI (x : GNet) (ks : List GPoint) (i j : Nat) (d : Int) : Prop := ∃ p ∈ ks, ∃ q ∈ ks, ks.idxOf p = i ∧ ks.idxOf q = j ∧ EVx x ks p q d
theorem EI.to {x : GNet} {ks : List GPoint} {p q : GPoint} {c : Int} (hw : Wy (EVx x ks) p q c) : Wy (EI x ks) (ks.idxOf p) (ks.idxOf q) c := by
  induction hw with
  | nil p => exact .nil _
  | cons e _ ih => exact Wy.cons ⟨_, e.1, _, e.2.1, rfl, rfl, e⟩ ih
theorem EI.of {x : GNet} {ks : List GPoint} {i j : Nat} {c : Int} (hw : Wy (EI x ks) i j c) : ∀ p ∈ ks, ks.idxOf p = i → ∃ q ∈ ks, ks.idxOf q = j ∧ Wy (EVx x ks) p q c := by
  induction hw with
  | nil i => intro p hp hi; exact ⟨p, hp, hi, .nil _⟩
  | cons e _ ih =>
    intro p hp hi
    obtain ⟨p', hp', q', hq', h1, h2, h3⟩ := e
    have := idx_inj hp hp' (by omega)
    subst this
    obtain ⟨q, hq, k1, k2⟩ := ih q' hq' h2
    exact ⟨q, hq, k1, Wy.cons h3 k2⟩
theorem EI.wy {x : GNet} {ks : List GPoint} {p q : GPoint} (hp : p ∈ ks) (hq : q ∈ ks) (c : Int) : Wy (EI x ks) (ks.idxOf p) (ks.idxOf q) c ↔ Wy (EVx x ks) p q c := by
  refine ⟨fun hw => ?_, EI.to⟩
  obtain ⟨q', hq', h1, h2⟩ := EI.of hw p hp rfl
  rw [idx_inj hq hq' h1.symm]
  exact h2
theorem EI.noNeg {x : GNet} {ks : List GPoint} (hx : vNet x = true) (hc : Covers x.Sights (· ∈ ks)) : NoNeg (EI x ks) ↔ NoNeg (ENx x) := by
  rw [← noNeg_iff (GSpec.rates hx) hc]
  constructor
  · exact fun hn p c hw => hn _ _ (EI.to hw)
  · intro hn i c hw
    cases hw with
    | nil => exact Int.le_refl _
    | cons e hw' =>
      obtain ⟨p, hp, _, _, h1, _⟩ := id e
      obtain ⟨q, hq, k1, k2⟩ := EI.of (Wy.cons e hw') p hp h1
      rw [← idx_inj hp hq (by omega)] at k2
      exact hn p _ k2
theorem EI.least {x : GNet} {ks : List GPoint} (hx : vNet x = true) (hc : Covers x.Sights (· ∈ ks)) {p q : GPoint} (hp : p ∈ ks) (hq : q ∈ ks) (c : Int) : Least (EI x ks) (ks.idxOf p) (ks.idxOf q) c ↔ Least (ENx x) p q c := by
  rw [← least_iff (GSpec.rates hx) hc hp hq]
  unfold Least
  simp only [EI.wy hp hq]
theorem EI.noway {x : GNet} {ks : List GPoint} (hx : vNet x = true) (hc : Covers x.Sights (· ∈ ks)) {p q : GPoint} (hp : p ∈ ks) (hq : q ∈ ks) : (∀ c, ¬ Wy (EI x ks) (ks.idxOf p) (ks.idxOf q) c) ↔ ∀ c, ¬ Wy (ENx x) p q c := by
  rw [← noway_iff (GSpec.rates hx) hc hp hq]
  simp only [EI.wy hp hq]
abbrev BB : Int := 1000000001
structure TOk (n : Nat) (E : Nat → Nat → Int → Prop) (c0 c : Tb) : Prop where
  inN : InN NN c
  bound : BoundT NN BB n c
  sound : SoundT NN n E c
  le : ∀ a b, c a b ≤ c0 a b
theorem TOk.lower {n : Nat} {E : Nat → Nat → Int → Prop} {c0 c : Tb} (h : TOk n E c0 c) {a b : Nat} {w : Int} (hw : -BB ≤ w ∧ w ≤ BB) (he : E a b w) :
    TOk n E c0 (upd2 c a b (min (c a b) w)) ∧ upd2 c a b (min (c a b) w) a b ≤ w ∧ ∀ i j, upd2 c a b (min (c a b) w) i j ≤ c i j := by
  have hle : ∀ i j, upd2 c a b (min (c a b) w) i j ≤ c i j := by
    intro i j
    unfold upd2
    split
    · rename_i h; rw [h.1, h.2]; omega
    · exact Int.le_refl _
  have hw' : -1000000001 ≤ w ∧ w ≤ 1000000001 := hw
  refine ⟨⟨fun i j => ?_, fun i j hi hj => ?_, fun i j hi hj hlt => ?_, fun i j => Int.le_trans (hle i j) (h.le i j)⟩, ?_, hle⟩
  · have h1 : -1152921504606846976 ≤ c i j ∧ c i j ≤ 1152921504606846976 := h.inN i j
    show -1152921504606846976 ≤ _ ∧ _ ≤ 1152921504606846976
    unfold upd2
    split
    · rename_i e; rw [← e.1, ← e.2]; omega
    · exact h1
  · have h1 : c i j = 1152921504606846976 ∨ (-1000000001 ≤ c i j ∧ c i j ≤ 1000000001) := h.bound i j hi hj
    show _ = 1152921504606846976 ∨ (-1000000001 ≤ _ ∧ _ ≤ 1000000001)
    unfold upd2
    split
    · rename_i e; rw [← e.1, ← e.2]; omega
    · exact h1
  · unfold upd2 at hlt ⊢
    split
    · rename_i e
      rw [if_pos e] at hlt
      obtain ⟨rfl, rfl⟩ := e
      by_cases hm : c i j ≤ w
      · have hmin : min (c i j) w = c i j := by omega
        rw [hmin] at hlt ⊢
        exact h.sound i j hi hj hlt
      · exact ⟨w, Wy.one he, by omega⟩
    · rename_i e
      rw [if_neg e] at hlt
      exact h.sound i j hi hj hlt
  · unfold upd2
    rw [if_pos ⟨rfl, rfl⟩]
    omega
end Go.Fw
/-
  The document's table of least costs, plain: what it is. No program in it.
-/
namespace Go.Fw
open Go.Gr
theorem bind_inv {α β : Type} {o : Option α} {f : α → Option β} {I : α → Prop} {Q : β → Prop} (h : ∃ a, o = some a ∧ I a) (k : ∀ a, I a → ∃ r, f a = some r ∧ Q r) : ∃ r, o.bind f = some r ∧ Q r := by
  obtain ⟨a, h1, h2⟩ := h
  obtain ⟨r, h3, h4⟩ := k a h2
  exact ⟨r, (bindS h1).trans h3, h4⟩
theorem app_ok {α : Type} {z : List α} {v : α} (h : z.length ≤ 100000) : appI z [v] = some (z ++ [v]) := by unfold appI; rw [if_pos (by simp; omega)]
theorem tb_rows {x : GNet} {ks : List GPoint} (i j : Nat) : tb (ks.map fun p => ks.map (entry x p)) i j = match ks[i]?, ks[j]? with | some p, some q => entry x p q | _, _ => 0 := by
  unfold tb
  rw [List.getElem?_map]
  cases ks[i]? with
  | none => rfl
  | some p =>
    show ((ks.map (entry x p))[j]?).getD 0 = _
    rw [List.getElem?_map]
    cases ks[j]? <;> rfl
theorem idx_get {ks : List GPoint} (hn : ks.Nodup) {i : Nat} {p : GPoint} (h : ks[i]? = some p) : ks.idxOf p = i := by
  obtain ⟨hi, rfl⟩ := List.getElem?_eq_some_iff.1 h
  have h1 := List.getElem_idxOf (List.idxOf_lt_length_iff.2 (List.getElem_mem hi))
  exact (List.getElem_inj hn).1 h1
theorem rows_ok {x : GNet} {ks : List GPoint} (hx : vNet x = true) (hn : ks.Nodup) (hg : ∀ p ∈ ks, Good x p) : TOk ks.length (EI x ks) (tb (ks.map fun p => ks.map (entry x p))) (tb (ks.map fun p => ks.map (entry x p))) := by
  have hent : ∀ p ∈ ks, ∀ q ∈ ks, entry x p q = 1152921504606846976 ∨ (-1000000001 ≤ entry x p q ∧ entry x p q ≤ 1000000001) := by
    intro p hp q hq
    unfold entry
    obtain ⟨_, _, p3, p4⟩ := hg p hp
    obtain ⟨_, _, q3, q4⟩ := hg q hq
    split
    · exact .inr (by omega)
    · split
      · have := carryV_in (rateF_in hx p.clock) (d := p.at_ - q.at_) (by omega)
        exact .inr (by omega)
      · exact .inl rfl
  refine ⟨fun i j => ?_, fun i j hi hj => ?_, fun i j hi hj hlt => ?_, fun _ _ => Int.le_refl _⟩
  · rw [tb_rows]
    show -1152921504606846976 ≤ _ ∧ _ ≤ 1152921504606846976
    cases h1 : ks[i]? with
    | none =>
      show -1152921504606846976 ≤ (0 : Int) ∧ (0 : Int) ≤ 1152921504606846976
      omega
    | some p =>
      cases h2 : ks[j]? with
      | none =>
        show -1152921504606846976 ≤ (0 : Int) ∧ (0 : Int) ≤ 1152921504606846976
        omega
      | some q =>
        have := hent p (List.mem_of_getElem? h1) q (List.mem_of_getElem? h2)
        show -1152921504606846976 ≤ entry x p q ∧ entry x p q ≤ 1152921504606846976
        omega
  · rw [tb_rows, List.getElem?_eq_getElem hi, List.getElem?_eq_getElem hj]
    exact hent _ (List.getElem_mem hi) _ (List.getElem_mem hj)
  · rw [tb_rows, List.getElem?_eq_getElem hi, List.getElem?_eq_getElem hj] at hlt ⊢
    dsimp only at hlt ⊢
    have mi := List.getElem_mem hi
    have mj := List.getElem_mem hj
    have ii := idx_get hn (List.getElem?_eq_getElem hi)
    have ij := idx_get hn (List.getElem?_eq_getElem hj)
    generalize ks[i] = p at hlt mi ii
    generalize ks[j] = q at hlt mj ij
    unfold entry at hlt ⊢
    by_cases hpq : p = q
    · subst hpq
      rw [if_pos rfl]
      rw [← ii, ← ij]
      exact ⟨0, .nil _, Int.le_refl _⟩
    · rw [if_neg hpq] at hlt ⊢
      by_cases hc : p.clock = q.clock
      · rw [if_pos hc]
        exact ⟨_, Wy.one ⟨p, mi, q, mj, ii, ij, mi, mj, .inl ⟨hc, rfl⟩⟩, Int.le_refl _⟩
      · rw [if_neg hc] at hlt
        exact absurd hlt (Int.lt_irrefl _)
/-- What the document's graph is. -/
structure RSpec (x : GNet) (more ks : List GPoint) (z : Zt) : Prop where
  nodup : ks.Nodup
  sub : ∀ p ∈ more, p ∈ ks
  good : ∀ p ∈ ks, Good x p
  shape : Shape ks.length z
  diag : (∀ i, i < ks.length → 0 ≤ tb z i i) ↔ NoNeg (ENx x)
  least : NoNeg (ENx x) → ∀ p ∈ ks, ∀ q ∈ ks, (tb z (ks.idxOf p) (ks.idxOf q) < NN → Least (ENx x) p q (tb z (ks.idxOf p) (ks.idxOf q))) ∧ (¬ tb z (ks.idxOf p) (ks.idxOf q) < NN → tb z (ks.idxOf p) (ks.idxOf q) = NN ∧ ∀ d, ¬ Wy (ENx x) p q d)
theorem pow_small : ∀ n : Nat, n < 20 → (1000000001 : Int) * 2 ^ n * 2 < 1152921504606846976 := by decide
theorem ways_spec {x : GNet} (hx : vNet x = true) (hs8 : x.Sights.length ≤ 8) {more : List GPoint} (hm : ∀ p ∈ more, Good x p) (hl : more.length ≤ 2) : ∃ r, noongunref02_ways x more = some r ∧ RSpec x more r.1 r.2 := by
  have hv := vNet_iff.1 hx
  have g0 : Good x (spot 0 0) := spot_good ⟨Int.le_refl _, by omega⟩ ⟨Int.le_refl _, by decide⟩
  have hsg : ∀ s ∈ x.Sights, Good x (spot s.A s.At) ∧ Good x (spot s.B s.At) := fun s hs => stp_good (hv.2.2.2.2.2 s hs) false
  have hal : (x.Sights.flatMap fun s => [spot s.A s.At, spot s.B s.At]).length = 2 * x.Sights.length := by
    induction x.Sights with
    | nil => rfl
    | cons s l ih => rw [List.flatMap_cons, List.length_append, ih, List.length_cons]; simp; omega
  have hlen : (askedL x.Sights more).length ≤ 18 := by unfold askedL; rw [List.length_append, hal]; omega
  obtain ⟨ks, k1, k2, k3, k4, k5⟩ := points_loop (x := x) (askedL x.Sights more) (by omega) (fun p hp => by
    rcases List.mem_append.1 hp with h | h
    · exact hm p h
    · obtain ⟨s, hs, h⟩ := List.mem_flatMap.1 h
      rcases List.mem_cons.1 h with rfl | h
      · exact (hsg s hs).1
      · rw [List.mem_singleton.1 h]; exact (hsg s hs).2) g0
  have hcov : Covers x.Sights (· ∈ ks) := fun s hs => ⟨k3 _ (List.mem_append_right _ (List.mem_flatMap.2 ⟨s, hs, by simp⟩)), k3 _ (List.mem_append_right _ (List.mem_flatMap.2 ⟨s, hs, by simp⟩))⟩
  have hr0 := rows_ok hx k2 k4
  unfold noongunref02_ways
  rw [spot_eq, Option.bind_some]
  refine bind_inv (I := fun a => a = askedL x.Sights more) ⟨_, ?_, rfl⟩ fun a ha => ?_
  · refine (rangeL_congr (body' := fun _ (s : GSight) z => (appI z [spot s.A s.At, spot s.B s.At]).bind fun t => some (.cont t)) (fun _ => rfl) _ _ _ fun i s z _ => by rw [spot_eq, Option.bind_some, spot_eq, Option.bind_some]).trans (rangeL_app (fun s : GSight => [spot s.A s.At, spot s.B s.At]) x.Sights 0 more (by rw [hal]; omega))
  subst ha
  refine bind_inv (I := fun a => a = ks) ⟨_, k1, rfl⟩ fun a ha => ?_
  subst ha
  refine bind_inv (I := fun z => z = a.map fun p => a.map (entry x p)) ⟨_, ?_, rfl⟩ fun z hz => ?_
  · refine (buildR (fun p => a.map (entry x p)) a 0 [] (by simp; omega) fun i p z hp hz => ?_).trans (by rw [List.nil_append])
    refine (congrArg (fun o => Option.bind (Option.bind o _) _) (?_ : _ = some (a.map (entry x p)))).trans ?_
    · refine (buildR (entry x p) a 0 [] (by simp; omega) fun i q z hq hz => ?_).trans (by rw [List.nil_append])
      unfold entry
      by_cases hpq : p = q
      · subst hpq
        simp only [beq_self_eq_true, if_true, app_ok (show z.length ≤ 100000 by omega), Option.bind_some]
      · have hb : (p == q) = false := by simpa using hpq
        simp only [hb, hpq, if_false, Bool.false_eq_true]
        by_cases hc : p.clock = q.clock
        · have hcb : (p.clock == q.clock) = true := by simpa using hc
          obtain ⟨p1, p2, p3, p4⟩ := k4 p hp
          obtain ⟨_, _, q3, q4⟩ := k4 q hq
          have hi := idx_int p1 p2
          have hrr : rateF x p.clock = x.Rates[p.clock.toNat]'(by omega) := by unfold rateF; rw [hi]; rfl
          have hb2 := rateF_in hx p.clock
          rw [if_pos hcb, if_pos hc, hi, Option.bind_some, subI_ok (by omega), Option.bind_some, refCarry_eq (by rw [← hrr]; exact hb2) (by omega), ← hrr]
          simp only [app_ok (show z.length ≤ 100000 by omega), Option.bind_some]
          rfl
        · have hcb : (p.clock == q.clock) = false := by simpa using hc
          simp only [hcb, hc, if_false, Bool.false_eq_true, app_ok (show z.length ≤ 100000 by omega), Option.bind_some]
    · simp only [app_ok (show z.length ≤ 100000 by omega), Option.bind_some]
  subst hz
  have hsh0 : Shape a.length (a.map fun p => a.map (entry x p)) := ⟨by simp, fun i row hi => by
    obtain ⟨p, _, rfl⟩ := List.mem_map.1 (List.mem_of_getElem? hi)
    simp⟩
  have hget : ∀ p ∈ a, a[a.idxOf p]? = some p := fun p hp => by rw [List.getElem?_eq_getElem (List.idxOf_lt_length_iff.2 hp), List.getElem_idxOf]
  have hrow : ∀ p ∈ a, ∀ q ∈ a, tb (a.map fun p => a.map (entry x p)) (a.idxOf p) (a.idxOf q) = entry x p q := fun p hp q hq => by rw [tb_rows, hget p hp, hget q hq]
  refine bind_inv (I := fun z => Shape a.length z ∧ TOk a.length (EI x a) (tb (a.map fun p => a.map (entry x p))) (tb z) ∧ ∀ (i : Nat) s, i < x.Sights.length → x.Sights[i]? = some s → tb z (a.idxOf (spot s.B s.At)) (a.idxOf (spot s.A s.At)) ≤ s.Hi ∧ tb z (a.idxOf (spot s.A s.At)) (a.idxOf (spot s.B s.At)) ≤ -s.Lo)
    (rangeL_inv (fun j z => Shape a.length z ∧ TOk a.length (EI x a) (tb (a.map fun p => a.map (entry x p))) (tb z) ∧ ∀ (i : Nat) s, i < j → x.Sights[i]? = some s → tb z (a.idxOf (spot s.B s.At)) (a.idxOf (spot s.A s.At)) ≤ s.Hi ∧ tb z (a.idxOf (spot s.A s.At)) (a.idxOf (spot s.B s.At)) ≤ -s.Lo) _ _ (fun j s z hs ⟨q1, q2, q3⟩ => ?_) ⟨hsh0, hr0, fun i s hi => absurd hi (Nat.not_lt_zero _)⟩) fun z ⟨z1, z2, z3⟩ => ?_
  · have hsm := List.mem_of_getElem? hs
    obtain ⟨_, _, _, _, _, _, _, l1, l2, l3⟩ := vSight_iff.1 (hv.2.2.2.2.2 s hsm)
    obtain ⟨hA, hB⟩ := hcov s hsm
    have ia := List.idxOf_lt_length_iff.2 hA
    have ib := List.idxOf_lt_length_iff.2 hB
    obtain ⟨rb, e1, e2, e3⟩ := q1.row ib
    have c1 := q1.cell e2 e3 ia
    obtain ⟨s1, s2⟩ := q1.set e2 ib ia (min (tb z (a.idxOf (spot s.B s.At)) (a.idxOf (spot s.A s.At))) s.Hi)
    obtain ⟨m1, m2, m3⟩ := q2.lower (w := s.Hi) (show -1000000001 ≤ s.Hi ∧ s.Hi ≤ 1000000001 by omega) (show EI x a (a.idxOf (spot s.B s.At)) (a.idxOf (spot s.A s.At)) s.Hi from ⟨_, hB, _, hA, rfl, rfl, hB, hA, .inr ⟨s, hsm, .inl ⟨rfl, rfl, rfl⟩⟩⟩)
    rw [← s2] at m1 m2 m3
    obtain ⟨ra, f1, f2, f3⟩ := s1.row ia
    have c2 := s1.cell f2 f3 ib
    obtain ⟨t1, t2⟩ := s1.set f2 ia ib (min (tb (z.set (a.idxOf (spot s.B s.At)) (rb.set (a.idxOf (spot s.A s.At)) (min (tb z (a.idxOf (spot s.B s.At)) (a.idxOf (spot s.A s.At))) s.Hi))) (a.idxOf (spot s.A s.At)) (a.idxOf (spot s.B s.At))) (-s.Lo))
    obtain ⟨n1, n2, n3⟩ := m1.lower (w := -s.Lo) (show -1000000001 ≤ -s.Lo ∧ -s.Lo ≤ 1000000001 by omega) (show EI x a (a.idxOf (spot s.A s.At)) (a.idxOf (spot s.B s.At)) (-s.Lo) from ⟨_, hA, _, hB, rfl, rfl, hA, hB, .inr ⟨s, hsm, .inr ⟨rfl, rfl, rfl⟩⟩⟩)
    rw [← t2] at n1 n2 n3
    have hneg : negI s.Lo = some (-s.Lo) := if_pos (inI_iff.2 (by omega))
    rw [spot_eq, Option.bind_some, index_eq, if_pos hA, Option.bind_some, spot_eq, Option.bind_some, index_eq, if_pos hB, Option.bind_some]
    simp only [e1, c1, Option.bind_some, Int.toNat_natCast, f1, c2, hneg]
    refine ⟨_, rfl, t1, n1, fun i s' hi hs' => ?_⟩
    rcases Nat.lt_or_ge i j with h | h
    · obtain ⟨g1, g2⟩ := q3 i s' h hs'
      exact ⟨Int.le_trans (n3 _ _) (Int.le_trans (m3 _ _) g1), Int.le_trans (n3 _ _) (Int.le_trans (m3 _ _) g2)⟩
    · rw [show i = j by omega, hs] at hs'
      cases hs'
      exact ⟨Int.le_trans (n3 _ _) m2, n2⟩
  · obtain ⟨z', w1, w2, w3, w4⟩ := kloop z1 z2.inN
    have hE : ∀ i j d, EI x a i j d → i < a.length ∧ j < a.length ∧ tb z i j < NN ∧ tb z i j ≤ d := by
      rintro i j d ⟨p, hp, q, hq, rfl, rfl, _, _, ⟨hc, hd⟩ | ⟨s, hsm, hS⟩⟩
      · have hle := z2.le (a.idxOf p) (a.idxOf q)
        rw [hrow p hp q hq] at hle
        have hed : entry x p q = d := by
          unfold entry
          by_cases hpq : p = q
          · subst hpq
            rw [if_pos rfl, hd, Int.sub_self, carry_zero]
          · rw [if_neg hpq, if_pos hc, hd]
        obtain ⟨_, _, p3, p4⟩ := k4 p hp
        obtain ⟨_, _, q3, q4⟩ := k4 q hq
        have := carryV_in (rateF_in hx p.clock) (d := p.at_ - q.at_) (by omega)
        rw [hed] at hle
        exact ⟨List.idxOf_lt_length_iff.2 hp, List.idxOf_lt_length_iff.2 hq, show _ < (1152921504606846976 : Int) by omega, hle⟩
      · obtain ⟨i, hi⟩ := List.getElem?_of_mem hsm
        obtain ⟨_, _, _, _, _, _, _, l1, l2, l3⟩ := vSight_iff.1 (hv.2.2.2.2.2 s hsm)
        obtain ⟨g1, g2⟩ := z3 i s (List.getElem?_eq_some_iff.1 hi).1 hi
        rcases hS with ⟨rfl, rfl, rfl⟩ | ⟨rfl, rfl, rfl⟩
        · exact ⟨List.idxOf_lt_length_iff.2 hp, List.idxOf_lt_length_iff.2 hq, show _ < (1152921504606846976 : Int) by omega, g1⟩
        · exact ⟨List.idxOf_lt_length_iff.2 hp, List.idxOf_lt_length_iff.2 hq, show _ < (1152921504606846976 : Int) by omega, g2⟩
    have F := floyd (N := NN) (B := BB) (n := a.length) (E := EI x a) (c := tb z) (by decide) (pow_small _ (by omega)) z2.inN z2.bound z2.sound (fun i hi => by
      have := z2.le i i
      rw [tb_rows, List.getElem?_eq_getElem hi] at this
      have h0 : entry x a[i] a[i] = 0 := if_pos rfl
      dsimp only at this
      omega) hE
    refine bind_inv (I := fun y => y = z') ⟨z', ?_, rfl⟩ fun y hy => ?_
    · rw [Int.toNat_natCast]
      refine (rangeN_congr (body' := fun k z => (rangeN (S := Zt) (X := Zt) (fun i z => (rangeN (S := Zt) (X := Zt) (fun j z => (jbody k.toNat i.toNat j.toNat z).bind fun s => some (Step.cont s)) (fun z => z) a.length 0 z).bind fun s => some (Step.cont s)) (fun z => z) a.length 0 z).bind fun s => some (Step.cont s)) (fin' := fun z => z) (fun _ => rfl) _ _ _ fun k z hk _ => ?_).trans w1
      obtain ⟨k', rfl⟩ := Int.eq_ofNat_of_zero_le hk
      refine (congrArg (fun o => Option.bind (Option.bind o _) _) (rangeN_congr (body' := fun i z => (rangeN (S := Zt) (X := Zt) (fun j z => (jbody (k' : Int).toNat i.toNat j.toNat z).bind fun s => some (Step.cont s)) (fun z => z) a.length 0 z).bind fun s => some (Step.cont s)) (fin' := fun z => z) (fun _ => rfl) _ _ _ fun i z hi _ => ?_)).trans ?_
      · obtain ⟨i', rfl⟩ := Int.eq_ofNat_of_zero_le hi
        refine (congrArg (fun o => Option.bind (Option.bind o _) _) (rangeN_congr (body' := fun j z => (jbody (k' : Int).toNat (i' : Int).toNat j.toNat z).bind fun s => some (Step.cont s)) (fin' := fun z => z) (fun _ => rfl) _ _ _ fun j z hj _ => ?_)).trans ?_
        · obtain ⟨j', rfl⟩ := Int.eq_ofNat_of_zero_le hj
          rfl
        · generalize rangeN (S := Zt) (X := Zt) (fun j z => (jbody (k' : Int).toNat (i' : Int).toNat j.toNat z).bind fun s => some (Step.cont s)) (fun z => z) a.length 0 z = o
          cases o <;> rfl
      · generalize rangeN (S := Zt) (X := Zt) (fun i z => (rangeN (S := Zt) (X := Zt) (fun j z => (jbody (k' : Int).toNat i.toNat j.toNat z).bind fun s => some (Step.cont s)) (fun z => z) a.length 0 z).bind fun s => some (Step.cont s)) (fun z => z) a.length 0 z = o
        cases o <;> rfl
    · subst hy
      refine ⟨(a, y), rfl, k2, fun p hp => k3 p (List.mem_append_left _ hp), k4, w2, ?_, fun hn p hp q hq => ?_⟩
      · rw [w4]
        exact F.1.trans (EI.noNeg hx hcov)
      · obtain ⟨f1, f2⟩ := F.2 ((EI.noNeg hx hcov).2 hn) _ _ (List.idxOf_lt_length_iff.2 hp) (List.idxOf_lt_length_iff.2 hq)
        rw [w4]
        exact ⟨fun h => (EI.least hx hcov hp hq _).1 (f1 h), fun h => ⟨(f2 h).1, (EI.noway hx hcov hp hq).1 (f2 h).2⟩⟩
end Go.Fw
