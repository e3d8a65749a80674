/-
  THE FRAMEWORK, PART U: ranges over maps, in whatever order; a map of ints as the library's contracts read it. No program in it.
-/
import Derived.Test.YtmoofcflfbnceaaGreatDoorFwT
import Derived.Maps.RangeRun
import Derived.Maps.Own
import Derived.Lib.SlKeysI
namespace Go.Fw
open Go.RowKit

def mapX (r : Nat) (es : Array MapEntry) (clock : Nat) : Item := ⟨fun b => b = r, fun w => w.heap[r]? = some (.map es clock), fun _ _ _ h h' => (h r rfl).trans h'⟩
def iterX (b r since : Nat) (seen : Array Nat) (c0 : Nat) : Item := ⟨fun x => x = b, fun w => w.heap[b]? = some (.mapIter (some r) since seen c0), fun _ _ _ h h' => (h b rfl).trans h'⟩
section
variable {P : Program} {n : Nat} {ds : Md} {ops : Array Oper} {rest : List Oper} {K : Fr → World → Prop} {f : Fr} {Dq : Nat → Prop} {w w0 : World} {L : List Item} {T T0 : TypeId} {pos : String} {aft : Array Edge} {g : Option (Nat × Bool)} {d : Nat}
theorem O.range {kT eT : TypeId} {x : Operand} {r : Nat} {es : Array MapEntry} {clock : Nat} (hT : P.underlying T = some (.map kT eT)) (hb : w.heap[r]? = some (.map es clock)) (H : InvD Dq w0 w L) (hg : want ops g f = true) (hd : Nat.blt d n = true)
    (hx : ev f x = .map (some r)) (h : ∀ b w', InvD Dq w0 w' (L ++ [iterX b r clock #[] clock]) → Below w.heap.size w w' → WL P n ds ops rest K (upd f d (.pointer (some ⟨b, 0, none⟩))) w') :
    WL P n ds ops (⟨some d, .range T x, T0, pos, aft, g⟩ :: rest) K f w := by
  refine WL.val hg hd (w' := w.alloc (.mapIter (some r) clock #[] clock)) (v := .pointer (some ⟨w.heap.size, 0, none⟩)) ?_ (h _ _ (H.add (below_alloc _ _) _ (alloc_at _ _) (alloc_fp _ _)) (below_alloc _ _))
  simp only [execOp, hx, Sem.run_bind, run_range_map w T kT eT r es clock hT hb, Result.andThen_ok, Sem.run_pure]
theorem O.next {x : Operand} {b r since c0 : Nat} {seen : Array Nat} {es : Array MapEntry} {clock : Nat} (i : Nat) (H : InvD Dq w0 w L) (hi : L[i]? = some (iterX b r since seen c0)) (hb : w.heap[r]? = some (.map es clock))
    (hold : ∀ x ∈ es.toList, x.born < since) (hsc : since ≤ c0) (hg : want ops g f = true) (hd : Nat.blt d n = true) (hx : ev f x = .pointer (some ⟨b, 0, none⟩))
    (hn : (leftOf es seen).size = 0 → WL P n ds ops rest K (upd f d (.tuple #[.bool false])) w)
    (hs : ∀ e ∈ (leftOf es seen).toList, ∀ w', InvD Dq w0 w' (L.set i (iterX b r since (seen.push e.born) clock)) → w'.heap[r]? = some (.map es clock) → WL P n ds ops rest K (upd f d (.tuple #[.bool true, e.key, e.val])) w') :
    WL P n ds ops (⟨some d, .next x false, T0, pos, aft, g⟩ :: rest) K f w := by
  have hbk : w.heap[b]? = some (.mapIter (some r) since seen c0) := (H.items _ (List.mem_of_getElem? hi)).1
  have hlt := heap_lt hbk
  have hbr : b ≠ r := by intro e; subst e; rw [hbk] at hb; cases hb
  rcases run_next_at (P := P) w T0 b r since c0 seen es clock hbk hb hold hsc with ⟨h0, hrun⟩ | ⟨e, he, w1, hw1, hrun⟩
  · refine WL.val hg hd (w' := w) (v := .tuple #[.bool false]) ?_ (hn h0)
    simp only [execOp, hx, Sem.run_bind, hrun, Result.andThen_ok, Sem.run_pure]
  · have hw : w1.os = w.os ∧ w1.tape = w.tape ∧ w1.output = w.output ∧ w1.heap = w.heap := by rcases hw1 with rfl | rfl <;> exact ⟨rfl, rfl, rfl, rfl⟩
    have hheap : (Go.ChangeMaps.setBlock w1 b (.mapIter (some r) since (seen.push e.born) clock)).heap = w.heap.setIfInBounds b (.mapIter (some r) since (seen.push e.born) clock) := by
      show w1.heap.setIfInBounds b _ = _
      rw [hw.2.2.2]
    have hsame : (Go.ChangeMaps.setBlock w1 b (.mapIter (some r) since (seen.push e.born) clock)).heap[b]? = some (.mapIter (some r) since (seen.push e.born) clock) := by rw [hheap]; exact heap_set hlt
    have hoth : ∀ k, k ≠ b → (Go.ChangeMaps.setBlock w1 b (.mapIter (some r) since (seen.push e.born) clock)).heap[k]? = w.heap[k]? := by
      intro k hk
      rw [hheap]
      simp [Ne.symm hk]
    have hsz : (Go.ChangeMaps.setBlock w1 b (.mapIter (some r) since (seen.push e.born) clock)).heap.size = w.heap.size := by rw [hheap]; simp
    refine WL.val hg hd (w' := Go.ChangeMaps.setBlock w1 b (.mapIter (some r) since (seen.push e.born) clock)) (v := .tuple #[.bool true, e.key, e.val]) ?_ (hs e he _ (H.upd i _ _ hi ⟨hw.1, hw.2.1, hw.2.2.1, by omega, fun k _ hk => hoth k hk⟩ hsame (fun x hx => ⟨by
      obtain rfl : x = b := hx
      omega, .inl hx⟩)) ((hoth r (Ne.symm hbr)).trans hb))
    simp only [execOp, hx, Sem.run_bind, hrun, Result.andThen_ok, Sem.run_pure]
theorem O.entry {x : Operand} {b r since : Nat} {seen : Array Nat} {es : Array MapEntry} {clock : Nat} {e : MapEntry} (i : Nat) (H : InvD Dq w0 w L) (hi : L[i]? = some (iterX b r since (seen.push e.born) clock)) (hb : w.heap[r]? = some (.map es clock))
    (he : e ∈ es.toList) (hnd : (es.toList.map (·.born)).Nodup) (hg : want ops g f = true) (hd : Nat.blt d n = true) (hx : ev f x = .pointer (some ⟨b, 0, none⟩)) (h : WL P n ds ops rest K (upd f d (.tuple #[e.key, e.val])) w) :
    WL P n ds ops (⟨some d, .entry x, T0, pos, aft, g⟩ :: rest) K f w := by
  refine WL.val hg hd ?_ h
  simp only [execOp, hx, Sem.run_bind, run_entry_at (P := P) w b r since seen es clock e (H.items _ (List.mem_of_getElem? hi)).1 hb he hnd, Result.andThen_ok, Sem.run_pure]
end

/-! What has been handed out. -/
def doneL {α β : Type} (es : List MapEntry) (kv : List (α × β)) (seen : Array Nat) : List (α × β) := ((es.zip kv).filter fun x => seen.contains x.1.born).map (·.2)
section
variable {α β : Type}
theorem doneL_nil (es : List MapEntry) (kv : List (α × β)) : doneL es kv #[] = [] := by
  unfold doneL
  simp
theorem doneL_le (es : List MapEntry) (kv : List (α × β)) (seen : Array Nat) : (doneL es kv seen).length ≤ kv.length := by
  unfold doneL
  rw [List.length_map]
  exact Nat.le_trans (List.length_filter_le _ _) (by rw [List.length_zip]; omega)
theorem doneL_all (es : List MapEntry) (kv : List (α × β)) (seen : Array Nat) (hl : es.length = kv.length) (h : ∀ e ∈ es, seen.contains e.born = true) : doneL es kv seen = kv := by
  unfold doneL
  rw [List.filter_eq_self.2 fun x hx => h _ (List.of_mem_zip hx).1]
  exact List.map_snd_zip (by omega)
section
variable [Flat α] [Flat β]
theorem doneL_push (seen : Array Nat) (e : MapEntry) (hs : seen.contains e.born = false) : ∀ (es : List MapEntry) (kv : List (α × β)), es.map (fun e => (e.key, e.val)) = kv.map (fun p => (Flat.val p.1, Flat.val p.2)) → (es.map (·.born)).Nodup → e ∈ es →
    ∃ p ∈ kv, e.key = Flat.val p.1 ∧ e.val = Flat.val p.2 ∧ (doneL es kv (seen.push e.born)).Perm (p :: doneL es kv seen)
  | [], _, _, _, h => by simp at h
  | a :: es, [], h, _, _ => by simp at h
  | a :: es, p :: kv, h, hnd, he => by
    simp only [List.map_cons, List.cons.injEq, Prod.mk.injEq] at h
    have hnd' : a.born ∉ es.map (·.born) ∧ (es.map (·.born)).Nodup := List.nodup_cons.1 hnd
    have hpush : ∀ b : Nat, (seen.push e.born).contains b = (seen.contains b || (b == e.born)) := by
      intro b
      simp only [Array.contains_push]
    by_cases hae : a = e
    · subst hae
      refine ⟨p, by simp, h.1.1, h.1.2, ?_⟩
      have hrest : doneL es kv (seen.push a.born) = doneL es kv seen := by
        unfold doneL
        congr 1
        refine List.filter_congr fun x hx => ?_
        have hne : x.1.born ≠ a.born := fun e => hnd'.1 (by rw [← e]; exact List.mem_map.2 ⟨_, (List.of_mem_zip hx).1, rfl⟩)
        rw [hpush, beq_eq_false_iff_ne.2 hne, Bool.or_false]
      have h1 : doneL (a :: es) (p :: kv) (seen.push a.born) = p :: doneL es kv (seen.push a.born) := by
        unfold doneL
        rw [List.zip_cons_cons, List.filter_cons, hpush]
        simp
      have h2 : doneL (a :: es) (p :: kv) seen = doneL es kv seen := by
        unfold doneL
        rw [List.zip_cons_cons, List.filter_cons, hs]
        simp
      rw [h1, h2, hrest]
    · have he' : e ∈ es := by
        rcases List.mem_cons.1 he with h | h
        · exact absurd h.symm hae
        · exact h
      obtain ⟨q, q1, q2, q3, q4⟩ := doneL_push seen e hs es kv h.2 hnd'.2 he'
      refine ⟨q, by simp [q1], q2, q3, ?_⟩
      have hne : a.born ≠ e.born := fun x => hnd'.1 (by rw [x]; exact List.mem_map.2 ⟨_, he', rfl⟩)
      have hc : (seen.push e.born).contains a.born = seen.contains a.born := by rw [hpush, beq_eq_false_iff_ne.2 hne, Bool.or_false]
      have h1 : ∀ s : Array Nat, doneL (a :: es) (p :: kv) s = if s.contains a.born = true then p :: doneL es kv s else doneL es kv s := by
        intro s
        unfold doneL
        rw [List.zip_cons_cons, List.filter_cons]
        split <;> simp_all
      rw [h1, h1, hc]
      split
      · exact (q4.cons p).trans (List.Perm.swap q p _)
      · exact q4
end
theorem left_mem {es : Array MapEntry} {seen : Array Nat} {e : MapEntry} (h : e ∈ (leftOf es seen).toList) : e ∈ es.toList ∧ seen.contains e.born = false := by
  unfold leftOf at h
  simp at h
  exact ⟨by simpa using h.1, by simpa using h.2⟩
theorem left_none {es : Array MapEntry} {seen : Array Nat} (h : (leftOf es seen).size = 0) : ∀ e ∈ es.toList, seen.contains e.born = true := by
  intro e he
  have h0 := Array.eq_empty_of_size_eq_zero h
  unfold leftOf at h0
  rw [Array.filter_eq_empty_iff] at h0
  have := h0 e (by simpa using he)
  simpa using this
end

/-! A map of ints, for the library's contracts. -/
end Go.Fw
