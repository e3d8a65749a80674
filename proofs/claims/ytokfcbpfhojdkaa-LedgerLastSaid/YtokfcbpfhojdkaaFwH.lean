/-
  THE FRAMEWORK, PART H: a region that draws its order: operations that only read, call or make memory come in any order, those behind them in one.
-/
import Derived.Test.YtokfcbpfhojdkaaFwG
import Derived.Orders
namespace Go.Fw
open Go.RowKit

/-- The edges that bind. -/
def bE (o : Oper) : List Edge := o.after.toList.filter fun e => Region.binds .any e
def maskF (l : List Oper) : Nat → Nat → Nat
  | 0, _ => 0
  | k + 1, i => match l[i]? with
    | some o => (bE o).foldr (fun e s => (2 ^ e.on ||| maskF l k e.on) ||| s) 0
    | none => 0

theorem mask_sound {l : List Oper} {S : Nat → Prop} (hlt : ∀ (i : Nat) (o : Oper), l[i]? = some o → ∀ e ∈ bE o, e.on < i) (hcl : ∀ (i : Nat) (o : Oper), l[i]? = some o → S i → ∀ e ∈ bE o, S e.on) :
    ∀ (k i : Nat) (o : Oper), l[i]? = some o → (∀ e ∈ bE o, S e.on) → ∀ j, (maskF l k i).testBit j = true → S j := by
  intro k
  induction k with
  | zero => intro i o _ _ j h; simp [maskF] at h
  | succ k ih =>
    intro i o ho he j h
    simp only [maskF, ho] at h
    have hi : i < l.length := (List.getElem?_eq_some_iff.1 ho).1
    have key : ∀ es : List Edge, (∀ e ∈ es, S e.on ∧ e.on < i) → (es.foldr (fun e s => (2 ^ e.on ||| maskF l k e.on) ||| s) 0).testBit j = true → S j := by
      intro es
      induction es with
      | nil => intro _ h; simp at h
      | cons e es ih2 =>
        intro h1 h3
        simp only [List.foldr_cons, Nat.testBit_or, Bool.or_eq_true] at h3
        obtain ⟨hS, hl⟩ := h1 e (by simp)
        rcases h3 with (h3 | h3) | h3
        · rw [Nat.testBit_two_pow] at h3
          have : e.on = j := by simpa using h3
          rw [← this]; exact hS
        · have ho2 : l[e.on]? = some (l[e.on]'(by omega)) := List.getElem?_eq_getElem (by omega)
          exact ih e.on _ ho2 (hcl e.on _ ho2 hS) j h3
        · exact ih2 (fun e he => h1 e (by simp [he])) h3
    exact key _ (fun e hm => ⟨he e hm, hlt i o ho e hm⟩) h

def dstOf (l : List Oper) (k : Nat) : Nat := ((l[k]?).bind (·.dst)).getD 0
def dstsOf' (l : List Oper) (m : Nat) : List Nat := (l.take m).filterMap (·.dst)
def edgeB (l : List Oper) (k j : Nat) : Bool := ((l[k]?).map fun o => (bE o).any fun e => Nat.beq e.on j).getD false
def nodupB : List Nat → Bool
  | [] => true
  | x :: xs => !xs.contains x && nodupB xs
def drawOk (l : List Oper) (m : Nat) : Bool :=
  (List.range l.length).all (fun i => ((l[i]?).map fun o => (bE o).all fun e => Nat.blt e.on i).getD false) &&
  (List.range l.length).all (fun i => Nat.blt i m || (List.range i).all fun j => (maskF l l.length i).testBit j) &&
  Nat.ble m l.length && (l.take m).all (fun o => o.dst.isSome) && nodupB (dstsOf' l m)
def allBelow (m : Nat) (G : Nat → Prop) : Prop := match m with
  | 0 => True
  | m + 1 => allBelow m G ∧ G m
theorem nodupB_nodup : ∀ {l : List Nat}, nodupB l = true → l.Nodup
  | [], _ => List.nodup_nil
  | x :: xs, h => by
    simp only [nodupB, Bool.and_eq_true, Bool.not_eq_true'] at h
    rw [List.nodup_cons]
    refine ⟨fun hm => ?_, nodupB_nodup h.2⟩
    rw [List.contains_iff_mem.2 hm] at h
    exact absurd h.1 (by simp)

theorem dst_inj {l : List Oper} {m : Nat} (hs : ∀ o ∈ l.take m, o.dst.isSome = true) (hn : (dstsOf' l m).Nodup) {i j : Nat} (hi : i < m) (hj : j < m) (hil : i < l.length) (hjl : j < l.length) (e : dstOf l i = dstOf l j) : i = j := by
  have hmap : dstsOf' l m = (l.take m).map (fun o => o.dst.getD 0) := by
    unfold dstsOf'
    revert hs
    generalize l.take m = L
    intro hs
    induction L with
    | nil => rfl
    | cons o L ih =>
      have h1 := hs o (by simp)
      cases hd : o.dst with
      | none => rw [hd] at h1; cases h1
      | some d => simp [hd, ih (fun o ho => hs o (by simp [ho]))]
  rw [hmap] at hn
  have hd : ∀ k, k < m → k < l.length → ((l.take m).map (fun o => o.dst.getD 0))[k]? = some (dstOf l k) := by
    intro k hk hkl
    rw [List.getElem?_map, List.getElem?_take, if_pos hk, List.getElem?_eq_getElem hkl]
    simp [dstOf, List.getElem?_eq_getElem hkl]
  have h1 := hd i hi hil
  have h2 := hd j hj hjl
  obtain ⟨a1, b1⟩ := List.getElem?_eq_some_iff.1 h1
  obtain ⟨a2, b2⟩ := List.getElem?_eq_some_iff.1 h2
  have hp := List.pairwise_iff_getElem.1 hn
  rcases Nat.lt_trichotomy i j with h | h | h
  · exact absurd (b1.trans (e.trans b2.symm)) (hp i j a1 a2 h)
  · exact h
  · exact absurd (b2.trans (e.symm.trans b1.symm)) (hp j i a2 a1 h)

section
variable {P : Program} {n : Nat} {ds : Md} {Kn : Fr → World → Prop} {Kx : Nat → Fr → World → Prop} {Kr : Fr → World → Prop} {f0 : Fr} {w1 : World}

end
end Go.Fw
