/-
  THE FRAMEWORK, PART E: small lemmas that the written walks use; stores into boxes.
-/
import Derived.Test.YtmoofcflfbnceaaGreatDoorFwD
namespace Go.Fw
open Go.RowKit

theorem upd_self {f : Fr} {i : Nat} {v : Value} (h : f i = v) : upd f i v = f := by
  obtain ⟨g, m⟩ := f
  show Fr.mk (fun j => cond (Nat.beq j i) v (g j)) m = ⟨g, m⟩
  congr 1
  funext j
  cases e : Nat.beq j i
  · rfl
  · rw [Nat.eq_of_beq_eq_true e]; exact h.symm
theorem bool_ft (b : Bool) : b = false ∨ b = true := by cases b <;> simp
theorem xT {b : Bool} {X Y : Prop} (hb : b = true) (h : X) : cond b X Y := by subst hb; exact h
theorem xF {b : Bool} {X Y : Prop} (hb : b = false) (h : Y) : cond b X Y := by subst hb; exact h
theorem and_t {a b : Bool} (h : a = true) : b = (a && b) := by subst h; rfl
theorem and_f {a b : Bool} (h : a = false) : false = (a && b) := by subst h; rfl
theorem or_t {a b : Bool} (h : a = true) : true = (a || b) := by subst h; rfl
theorem or_f {a b : Bool} (h : a = false) : b = (a || b) := by subst h; rfl
theorem eq_b {a b : Bool} (h : a = b) : b = a := h.symm

theorem drop_lt {α : Type} {l : List α} {i : Nat} {x : α} {xs : List α} (h : l.drop i = x :: xs) : (i : Int) < ((l.length : Nat) : Int) := by
  have := congrArg List.length h
  simp at this
  omega
theorem drop_idx {α : Type} {l : List α} {i : Nat} {x : α} {xs : List α} (h : l.drop i = x :: xs) : idx l (i : Int) = some x := by
  rw [idx_nat]
  have := congrArg (fun m => m[0]?) h
  simpa using this
theorem drop_next {α : Type} {l : List α} {i : Nat} {x : α} {xs : List α} (h : l.drop i = x :: xs) : l.drop (i + 1) = xs := by
  rw [← List.tail_drop, h]; rfl
theorem drop_end {α : Type} {l : List α} {i : Nat} (h : l.drop i = []) : ¬ (i : Int) < ((l.length : Nat) : Int) := by
  have := List.drop_eq_nil_iff.1 h
  omega
theorem addI_lt {i : Nat} {n : Int} (h : (i : Int) < n) (hn : n ≤ 9223372036854775807) : addI (i : Int) 1 = some ((i : Int) + 1) := by
  unfold addI
  rw [if_pos (by rw [inI_iff]; omega)]
def chkI {α : Type} (n : Int) (o : Option α) : Option α := if inI n = true then o else none
theorem chk_some {α : Type} {n : Int} {o : Option α} {r : α} (h : chkI n o = some r) : inI n = true ∧ o = some r := by
  unfold chkI at h
  split at h
  · rename_i hi; exact ⟨hi, h⟩
  · cases h
theorem rangeN_start {n : Int} : ((0 : Nat) : Int) + (Int.toNat n : Int) = max 0 n := by omega
theorem rangeN_lt {i k : Nat} {n : Int} (h : (i : Int) + ((k + 1 : Nat) : Int) = max 0 n) : (i : Int) < n := by omega
theorem rangeN_next {i k : Nat} {n : Int} (h : (i : Int) + ((k + 1 : Nat) : Int) = max 0 n) : ((i + 1 : Nat) : Int) + (k : Int) = max 0 n := by omega
theorem rangeN_end {i : Nat} {n : Int} (h : (i : Int) + ((0 : Nat) : Int) = max 0 n) : ¬ (i : Int) < n := by omega

section
variable {P : Program} {n : Nat} {ds : Md} {ops : Array Oper} {rest : List Oper} {K : Fr → World → Prop} {f : Fr} {Dq : Nat → Prop} {w w0 : World} {L : List Item} {T T' T0 : TypeId} {pos : String} {aft : Array Edge}
  {g : Option (Nat × Bool)} {d : Nat}

theorem WL.reset {l : List Oper} {i : Nat} {v : Value} (hv : f i = v) (h : WL P n ds ops l K (upd f i v) w) : WL P n ds ops l K f w := by
  rw [upd_self hv] at h; exact h

theorem run_storeCells (a : Addr) : ∀ (vs : List Value) (i : Nat) (w : World) (b : Nat) (c : Array Value) (E : TypeId) (o : Nat), a = ⟨b, o, none⟩ → w.heap[b]? = some (.cells c E (0, 0)) →
    o + i + vs.length ≤ c.size → (∀ v ∈ vs, v.oneCell' = true) →
    ∃ w', (storeCells a vs i).run P w = .ok () w' ∧ w'.os = w.os ∧ w'.tape = w.tape ∧ w'.output = w.output ∧ w'.heap.size = w.heap.size ∧ (∀ k, k ≠ b → w'.heap[k]? = w.heap[k]?) ∧
      w'.heap[b]? = some (.cells (c.toList.take (o + i) ++ vs ++ c.toList.drop (o + i + vs.length)).toArray E (0, 0)) := by
  intro vs
  induction vs with
  | nil =>
    intro i w b c E o ha hb _ _
    refine ⟨w, by simp [storeCells], rfl, rfl, rfl, rfl, fun _ _ => rfl, ?_⟩
    rw [hb]
    simp
  | cons v vs ih =>
    intro i w b c E o ha hb hlen hone
    subst ha
    have hv : v.oneCell' = true := hone v (by simp)
    have hsz : o + i < c.size := by simp at hlen; omega
    have hcell : w.cell? ((Addr.mk b o none).add i) = some c[o + i] := by
      rw [Addr.add_lit]; simp [World.cell?, hb, hsz]
    have hfr : w.frozen? ((Addr.mk b o none).add i) = false := by
      rw [Addr.add_lit]; simp [World.frozen?, hb]
    have hst := run_store P w ((Addr.mk b o none).add i) v .plain hv
    rw [hcell] at hst
    simp only [hfr, Bool.false_eq_true, if_false] at hst
    have hb2 : (w.setCell ((Addr.mk b o none).add i) v).heap[b]? = some (.cells (c.setIfInBounds (o + i) v) E (0, 0)) := by
      rw [Addr.add_lit]
      simp [World.setCell, Array.getElem?_modify, hb]
    obtain ⟨w', h1, h2, h3, h4, h5, h6, h7⟩ := ih (i + 1) _ b _ E o rfl hb2 (by simp at hlen ⊢; omega) (fun u hu => hone u (by simp [hu]))
    refine ⟨w', ?_, h2, h3, h4, ?_, ?_, ?_⟩
    · simp only [storeCells, Sem.run_bind, hst, Result.andThen_ok]
      exact h1
    · rw [h5]; simp [World.setCell]
    · intro k hk
      rw [h6 k hk]
      exact Below.heap_setCell _ _ _ _ (by rw [Addr.add_lit]; exact hk)
    · rw [h7]
      congr 2
      have hsz' : o + i < c.toList.length := by simpa using hsz
      simp only [Array.toList_setIfInBounds]
      rw [show o + (i + 1) = o + i + 1 from rfl, List.take_succ_eq_append_getElem (by simpa using hsz'), List.take_set_of_le (Nat.le_refl _), List.getElem_set_self,
        List.drop_set_of_lt (by omega)]
      simp [Nat.add_assoc, Nat.add_comm 1]

theorem run_storeVar {w : World} {b o : Nat} {cs vs new : List Value} {E : TypeId} {v : Value} (hT : SizeT P T vs.length) (hv : v.cells = vs.toArray) (hb : w.heap[b]? = some (.cells cs.toArray E (0, 0)))
    (hlen : o + vs.length ≤ cs.length) (hone : ∀ u ∈ vs, u.oneCell' = true) (hnew : cs.take o ++ vs ++ cs.drop (o + vs.length) = new) :
    ∃ w', (storeVar T ⟨b, o, none⟩ v).run P w = .ok () w' ∧ Chg (fun k => k = b) w w' ∧ w'.heap[b]? = some (.cells new.toArray E (0, 0)) := by
  obtain ⟨w', h1, h2, h3, h4, h5, h6, h7⟩ := run_storeCells (P := P) ⟨b, o, none⟩ vs 0 w b cs.toArray E o rfl hb (by simpa using hlen) hone
  refine ⟨w', ?_, ⟨h2, h3, h4, by rw [h5]; exact Nat.le_refl _, fun k _ hk => h6 k hk⟩, ?_⟩
  · simp only [storeVar, Sem.run_bind, run_sizeOf' hT, Result.andThen_ok, hv]
    rw [if_neg (by simp)]
    exact h1
  · rw [h7]; simp only [Nat.add_zero]; rw [hnew]

theorem O.store {p x : Operand} {b : Nat} {E : TypeId} {k : Nat} {cs : List Value} {v : Value} {q : Addr} (i o : Nat) (vs new : List Value) (hT : SizeT P T k) (H : InvD Dq w0 w L) (hg : want ops g f = true)
    (hi : L[i]? = some (boxI b E cs)) (hp : ev f p = .pointer (some q)) (hq : q = ⟨b, o, none⟩) (hx : ev f x = v) (hv : v.cells = vs.toArray) (hk : (vs.length = k ∧ Nat.ble (o + vs.length) cs.length = true) ∧ cs.take o ++ vs ++ cs.drop (o + vs.length) = new)
    (hone : ∀ u ∈ vs, u.oneCell' = true)
    (h : ∀ w', InvD Dq w0 w' (L.set i (boxI b E new)) → WL P n ds ops rest K f w') : WL P n ds ops (⟨none, .store T p x, T0, pos, aft, g⟩ :: rest) K f w := by
  obtain ⟨⟨rfl, hlen⟩, hnew⟩ := hk
  subst hq
  obtain ⟨w', h1, h2, h3⟩ := run_storeVar (P := P) hT hv (H.box hi) (Nat.le_of_ble_eq_true hlen) hone hnew
  refine WL.eff hg rfl (w' := w') ?_ (h w' (H.upd i _ _ hi h2 h3 ?_))
  · simp only [execOp, hp, hx, Instr.storeAt, Instr.sureAddr, Sem.run_bind, Sem.run_pure, Result.andThen_ok, h1]
  · intro k hk
    refine ⟨?_, .inl hk⟩
    subst hk
    exact (Array.getElem?_eq_some_iff.1 h3).1
end
end Go.Fw
