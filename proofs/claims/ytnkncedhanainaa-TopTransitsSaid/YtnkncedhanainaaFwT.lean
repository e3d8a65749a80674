/-
  THE FRAMEWORK, PART T: slices of slices that the call owns; their rows are read, and not written. No program in it.
-/
import Derived.Test.YtnkncedhanainaaFwS
namespace Go.Fw
open Go.RowKit

/-- A value that fills one cell. -/
structure C1 where
  v : Value
  one : v.oneCell' = true
theorem cells_one {v : Value} (h : v.oneCell' = true) : v.cells = #[v] := by
  cases v <;> first | rfl | (simp [Value.oneCell'] at h)
instance : Flat C1 := ⟨1, fun a => a.1, fun a => [a.1], fun a => by rw [cells_one a.2], fun _ => rfl, fun a c hc => by rw [List.mem_singleton.1 hc]; exact a.2, by decide⟩
/-- Pairs, one at a time. -/
def repP {α β : Type} [Flat α] [Flat β] (_ : World) (a : α × β) (vs : List Value) : Prop := vs = [Flat.val a.1, Flat.val a.2]
theorem Grew.refl (w : World) : Grew w w := ⟨rfl, rfl, rfl, Nat.le_refl _⟩
theorem Grew.trans {a b c : World} (h : Grew a b) (k : Grew b c) : Grew a c := ⟨k.os.trans h.os, k.tape.trans h.tape, k.output.trans h.output, Nat.le_trans h.size k.size⟩
/-- A slice that stands on the blocks of F alone. -/
def RepIn {α : Type} [Ty α] (F : Nat → Prop) (w : World) (v : Value) (xs : List α) : Prop := ∀ w', Grew w w' → (∀ b, F b → w'.heap[b]? = w.heap[b]?) → SliceR w' v xs
theorem RepIn.stable {α : Type} [Ty α] {F : Nat → Prop} {w w' : World} {v : Value} {xs : List α} (h : RepIn F w v xs) (hg : Grew w w') (hs : ∀ b, F b → w'.heap[b]? = w.heap[b]?) : RepIn F w' v xs :=
  fun w2 h1 h2 => h w2 (hg.trans h1) fun b hb => (h2 b hb).trans (hs b hb)
/-- A slice of slices that the call owns, with the blocks of its rows. -/
def ownRI {α : Type} [Ty α] (F : Nat → Prop) (v : Value) (E : TypeId) (cs : List C1) (xs : List (List α)) : Item :=
  ⟨fun b => v.ownBlock = some b ∨ F b, fun w => (ownI v E cs).ok w ∧ (∀ b, v.ownBlock = some b → ¬ F b) ∧ cs.length = xs.length ∧ ∀ (i : Nat) (c : C1) (x : List α), cs[i]? = some c → xs[i]? = some x → RepIn F w c.1 x,
   fun w w' hg hs h => ⟨(ownI v E cs).loc w w' hg (fun b hb => hs b (.inl hb)) h.1, h.2.1, h.2.2.1, fun i c x hc hx => (h.2.2.2 i c x hc hx).stable hg fun b hb => hs b (.inr hb)⟩⟩
/-- Nothing. -/
def goneI : Item := ⟨fun _ => False, fun _ => True, fun _ _ _ _ _ => trivial⟩
def RowAt {α : Type} (cs : List C1) (xs : List (List α)) (c : C1) (x : List α) : Prop := ∃ k : Nat, cs[k]? = some c ∧ xs[k]? = some x

section
variable {Dq : Nat → Prop} {w0 w w' : World} {L : List Item}
/-- Two items become one. -/
theorem InvD.merge (H : InvD Dq w0 w L) (i j : Nat) {it it' itj : Item} (hij : i ≠ j) (hi : L[i]? = some it) (hj : L[j]? = some itj) (hfp : ∀ b, it'.fp b → it.fp b ∨ itj.fp b)
    (hok : it.ok w → itj.ok w → (∀ b, it.fp b → ¬ itj.fp b) → it'.ok w) : InvD Dq w0 w ((L.set i it').set j goneI) := by
  obtain ⟨li, ei⟩ := List.getElem?_eq_some_iff.1 hi
  obtain ⟨lj, ej⟩ := List.getElem?_eq_some_iff.1 hj
  have hp := List.pairwise_iff_getElem.1 H.apart
  have hap : ∀ a b (ha : a < L.length) (hb : b < L.length), a ≠ b → ∀ x, (L[a]).fp x → ¬ (L[b]).fp x := by
    intro a b ha hb hne x h1 h2
    rcases Nat.lt_or_gt_of_ne hne with h | h
    · exact hp a b ha hb h x h1 h2
    · exact hp b a hb ha h x h2 h1
  have hI := H.items it (List.mem_of_getElem? hi)
  have hJ := H.items itj (List.mem_of_getElem? hj)
  have hget : ∀ a (ha : a < ((L.set i it').set j goneI).length), ((L.set i it').set j goneI)[a] = if j = a then goneI else if i = a then it' else L[a]'(by simpa using ha) := by
    intro a ha
    rw [List.getElem_set, List.getElem_set]
  refine ⟨H.baseX, fun x hx => ?_, List.pairwise_iff_getElem.2 fun a b ha hb hab x h1 h2 => ?_⟩
  · obtain ⟨a, ha, rfl⟩ := List.mem_iff_getElem.1 hx
    rw [hget a ha]
    split
    · exact ⟨trivial, fun _ h => h.elim⟩
    · split
      · refine ⟨hok hI.1 hJ.1 (fun b h1 h2 => ?_), fun b hb => ?_⟩
        · exact hap i j li lj hij b (by rw [ei]; exact h1) (by rw [ej]; exact h2)
        · rcases hfp b hb with h | h
          · exact hI.2 b h
          · exact hJ.2 b h
      · exact H.items _ (List.getElem_mem _)
  · have ha' : a < L.length := by simpa using ha
    have hb' : b < L.length := by simpa using hb
    rw [hget a ha] at h1
    rw [hget b hb] at h2
    by_cases e1 : j = a
    · rw [if_pos e1] at h1; exact h1
    · by_cases e2 : j = b
      · rw [if_pos e2] at h2; exact h2
      · rw [if_neg e1] at h1
        rw [if_neg e2] at h2
        by_cases e3 : i = a
        · rw [if_pos e3] at h1
          rw [if_neg (by omega)] at h2
          rcases hfp x h1 with h | h
          · exact hap i b li hb' (by omega) x (by rw [ei]; exact h) h2
          · exact hap j b lj hb' e2 x (by rw [ej]; exact h) h2
        · rw [if_neg e3] at h1
          by_cases e4 : i = b
          · rw [if_pos e4] at h2
            rcases hfp x h2 with h | h
            · exact hap i a li ha' e3 x (by rw [ei]; exact h) h1
            · exact hap j a lj ha' e1 x (by rw [ej]; exact h) h1
          · rw [if_neg e4] at h2
            exact hap a b ha' hb' (by omega) x h1 h2
/-- An item is another one's, in the same world. -/
theorem InvD.turn (H : InvD Dq w0 w L) (i : Nat) {it it' : Item} (hi : L[i]? = some it) (hfp : ∀ b, it'.fp b → it.fp b) (hok : it.ok w → it'.ok w) : InvD Dq w0 w (L.set i it') :=
  H.weak i it it' hi hfp hok
end
section
variable {P : Program} {n : Nat} {ds : Md} {ops : Array Oper} {rest : List Oper} {K : Fr → World → Prop} {f : Fr} {Dq : Nat → Prop} {w w0 : World} {L : List Item} {T T0 : TypeId} {pos : String} {aft : Array Edge} {g : Option (Nat × Bool)} {d : Nat}
end
end Go.Fw
