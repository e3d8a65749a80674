/-
  The graph of a net, plain: its points are numbered in the order in which they come, its steps are the sights' and the carries. No program in it.
-/
import Derived.Test.YtailgbhadhoedaaValLib
import Derived.Test.YtailgbhadhoedaaSemCore
namespace Go.Fw
open Go.Gr
def kvF : Nat → List GPoint → List (GPoint × Int)
  | _, [] => []
  | i, p :: l => (p, (i : Int)) :: kvF (i + 1) l
theorem kvF_len : ∀ (l : List GPoint) (i : Nat), (kvF i l).length = l.length
  | [], _ => rfl
  | _ :: l, i => congrArg (· + 1) (kvF_len l (i + 1))
theorem kvF_get : ∀ (l : List GPoint) (i : Nat) (p : GPoint), mget (kvF i l) p = if p ∈ l then some ((i + l.idxOf p : Nat) : Int) else none
  | [], _, _ => rfl
  | q :: l, i, p => by
    have ih := kvF_get l (i + 1) p
    unfold mget at ih ⊢
    rw [kvF, List.find?_cons]
    by_cases h : q = p
    · subst h
      simp
    · have h1 : ((q, (i : Int)).1 == p) = false := by simpa using h
      have h2 : (q == p) = false := by simpa using h
      rw [h1]
      dsimp only
      rw [ih, List.idxOf_cons, h2]
      by_cases hm : p ∈ l
      · rw [if_pos hm, if_pos (List.mem_cons_of_mem _ hm)]
        simp only [cond_false]
        congr 2
        omega
      · rw [if_neg hm, if_neg (by simp [hm, Ne.symm h])]
theorem kvF_app : ∀ (l : List GPoint) (i : Nat) (p : GPoint), kvF i (l ++ [p]) = kvF i l ++ [(p, ((i + l.length : Nat) : Int))]
  | [], _, _ => rfl
  | q :: l, i, p => by
    rw [List.cons_append, kvF, kvF_app l (i + 1) p, kvF, List.cons_append, List.length_cons]
    congr 4
    omega
theorem kvF_mem : ∀ (l : List GPoint) (i : Nat) (a : GPoint × Int), a ∈ kvF i l → a.1 ∈ l ∧ (i : Int) ≤ a.2
  | [], _, _, h => by cases h
  | q :: l, i, a, h => by
    rcases List.mem_cons.1 h with rfl | h
    · exact ⟨List.mem_cons_self .., Int.le_refl _⟩
    · obtain ⟨h1, h2⟩ := kvF_mem l (i + 1) a h
      exact ⟨List.mem_cons_of_mem _ h1, by omega⟩
theorem kvF_lt : ∀ (l : List GPoint) (i : Nat), (kvF i l).Pairwise fun a b => a.2 < b.2
  | [], _ => .nil
  | q :: l, i => .cons (fun b hb => by have := (kvF_mem l (i + 1) b hb).2; show (i : Int) < b.2; omega) (kvF_lt l (i + 1))
theorem kvF_idx : ∀ (l : List GPoint) (i : Nat), l.Nodup → ∀ a, a ∈ kvF i l ↔ a.1 ∈ l ∧ a.2 = ((i + l.idxOf a.1 : Nat) : Int)
  | [], _, _, a => by simp [kvF]
  | q :: l, i, hn, a => by
    obtain ⟨h1, h2⟩ := List.nodup_cons.1 hn
    have ih := kvF_idx l (i + 1) h2 a
    obtain ⟨p, n⟩ := a
    rw [kvF, List.mem_cons, ih, List.mem_cons, List.idxOf_cons]
    by_cases h : q = p
    · subst h
      simp [h1]
    · have h3 : (q == p) = false := by simpa using h
      rw [h3]
      simp only [Prod.mk.injEq, Ne.symm h, false_and, false_or, cond_false]
      constructor
      · rintro ⟨k1, k2⟩; exact ⟨k1, by omega⟩
      · rintro ⟨k1, k2⟩; exact ⟨k1, by omega⟩
def addK (l : List GPoint) (p : GPoint) : List GPoint := if p ∈ l then l else l ++ [p]
theorem addK_mem (l : List GPoint) (p : GPoint) : p ∈ addK l p := by unfold addK; split <;> simp [*]
theorem addK_sub {l : List GPoint} {p q : GPoint} (h : q ∈ l) : q ∈ addK l p := by unfold addK; split <;> simp [h]
theorem addK_or {l : List GPoint} {p q : GPoint} (h : q ∈ addK l p) : q ∈ l ∨ q = p := by
  unfold addK at h
  split at h
  · exact .inl h
  · simpa using h
theorem addK_idx {l : List GPoint} {p q : GPoint} (h : q ∈ l) : (addK l p).idxOf q = l.idxOf q := by
  unfold addK
  split
  · rfl
  · rw [List.idxOf_append, if_pos h]
theorem addK_nodup {l : List GPoint} {p : GPoint} (h : l.Nodup) : (addK l p).Nodup := by
  unfold addK
  split
  · exact h
  · rename_i hp
    rw [List.nodup_append]
    exact ⟨h, by simp, fun a ha b hb => by rw [List.mem_singleton.1 hb]; exact fun e => hp (e ▸ ha)⟩
theorem addK_len (l : List GPoint) (p : GPoint) : (addK l p).length ≤ l.length + 1 := by
  unfold addK
  split
  · omega
  · simp
theorem num_eq (l : List GPoint) (p : GPoint) : sight_num (kvF 0 l) p = ((((addK l p).idxOf p : Nat) : Int), kvF 0 (addK l p)) := by
  unfold sight_num
  rw [kvF_get]
  by_cases h : p ∈ l
  · rw [if_pos h]
    unfold addK
    rw [if_pos h]
    simp
  · rw [if_neg h]
    unfold addK mput
    rw [if_neg h, kvF_app, if_neg, kvF_len, List.idxOf_append, if_neg h]
    · simp
    · intro ha
      obtain ⟨a, h1, h2⟩ := List.any_eq_true.1 ha
      have := (kvF_mem l 0 a h1).1
      rw [eq_of_beq h2] at this
      exact h this
def rateF (x : GNet) (c : Int) : Int := (idx x.Rates c).getD 0
def Good (x : GNet) (p : GPoint) : Prop := 0 ≤ p.clock ∧ p.clock < (x.Rates.length : Int) ∧ 0 ≤ p.at_ ∧ p.at_ ≤ 1000000000000
theorem rateF_in {x : GNet} (hx : vNet x = true) (c : Int) : 0 ≤ rateF x c ∧ rateF x c ≤ 1000000 := by
  unfold rateF
  cases h : idx x.Rates c with
  | none => simp
  | some r =>
    obtain ⟨_, _, h2⟩ := idx_some h
    have := (vNet_iff.1 hx).2.2.2.2.1 r (List.mem_of_getElem? h2)
    simpa using this
theorem spot_good {x : GNet} {c t : Int} (hc : 0 ≤ c ∧ c < (x.Rates.length : Int)) (ht : 0 ≤ t ∧ t ≤ 1000000000000) : Good x (spot c t) := by
  unfold Good spot
  dsimp only
  split <;> omega
theorem pointOf_eq (c t : Int) : sight_pointOf c t = some (spot c t) := by
  unfold sight_pointOf spot
  by_cases h : c = 0
  · subst h; rfl
  · have : (c == 0) = false := by simpa using h
    rw [this, if_neg h]; rfl
def stp (s : GSight) (b : Bool) : GPoint × GPoint × Int := if b = true then (spot s.B s.At, spot s.A s.At, s.Hi) else (spot s.A s.At, spot s.B s.At, -s.Lo)
theorem taken_eq {x : GNet} {k : Nat} {s : GSight} (hs : x.Sights[k / 2]? = some s) (hk : k ≤ 1000) (hl : -86400000 ≤ s.Lo ∧ s.Lo ≤ 86400000) : sight_taken x (k : Int) = some (stp s (k % 2 == 0)) := by
  have h1 : (k : Int).tdiv 2 = ((k / 2 : Nat) : Int) := by rw [Int.tdiv_eq_ediv_of_nonneg (by omega)]; omega
  have h2 : (k : Int).tmod 2 = ((k % 2 : Nat) : Int) := by rw [Int.tmod_eq_emod_of_nonneg (by omega)]; omega
  unfold sight_taken quoI remI negI
  rw [if_neg (by decide), h1, if_pos (inI_iff.2 (by omega)), Option.bind_some, idx_at hs, Option.bind_some, if_neg (by decide), h2, Option.bind_some]
  simp only [pointOf_eq, Option.bind_some]
  rw [if_pos (inI_iff.2 (by omega)), Option.bind_some]
  unfold stp
  rcases (by omega : k % 2 = 0 ∨ k % 2 = 1) with h | h <;> rw [h] <;> rfl
theorem stp_stepS {S : List GSight} {s : GSight} (h : s ∈ S) (b : Bool) : StepS S (stp s b).1 (stp s b).2.1 (stp s b).2.2 := by
  cases b
  · exact ⟨s, h, .inr ⟨rfl, rfl, rfl⟩⟩
  · exact ⟨s, h, .inl ⟨rfl, rfl, rfl⟩⟩
end Go.Fw
