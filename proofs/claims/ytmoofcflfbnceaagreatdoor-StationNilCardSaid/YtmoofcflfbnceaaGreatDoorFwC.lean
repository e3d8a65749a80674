/-
  THE FRAMEWORK, PART C: memory: how Go's values read as Lean's, the call's own blocks (Inv), loads, stores, boxes, appends.
-/
import Derived.Test.YtmoofcflfbnceaaGreatDoorFwB
namespace Go.Fw
open Go.RowKit

class Flat (α : Type) where
  size : Nat
  val : α → Value
  cells : α → List Value
  hval : ∀ a, (val a).cells.toList = cells a
  len : ∀ a, (cells a).length = size
  one : ∀ a, ∀ c ∈ cells a, c.oneCell' = true
  pos : 0 < size

instance : Flat Int := ⟨1, fun a => .int .i64 a, fun a => [.int .i64 a], fun _ => rfl, fun _ => rfl, by simp [Value.oneCell'], by decide⟩
instance : Flat Bool := ⟨1, fun a => .bool a, fun a => [.bool a], fun _ => rfl, fun _ => rfl, by simp [Value.oneCell'], by decide⟩
instance : Flat ByteArray := ⟨1, fun a => .string a, fun a => [.string a], fun _ => rfl, fun _ => rfl, by simp [Value.oneCell'], by decide⟩

class Ty (α : Type) where
  size : Nat
  rep : World → List Value → α → Prop
  len : ∀ {w cs a}, rep w cs a → cs.length = size
  one : ∀ {w cs a}, rep w cs a → ∀ c ∈ cs, c.oneCell' = true
  monoC : ∀ {w w' : World} {cs a}, rep w cs a → (∀ p c, w.cell? p = some c → w'.cell? p = some c) → rep w' cs a
  pos : 0 < size

instance (priority := high) instTyFlat {α : Type} [Flat α] : Ty α where
  size := Flat.size α
  rep _ cs a := cs = Flat.cells a
  len h := by subst h; exact Flat.len _
  one h := by subst h; exact Flat.one _
  monoC h _ := h
  pos := Flat.pos

def idx {α : Type} (l : List α) (i : Int) : Option α := if 0 ≤ i then l[i.toNat]? else none
theorem idx_some {α : Type} {l : List α} {i : Int} {x : α} (h : idx l i = some x) : 0 ≤ i ∧ i < l.length ∧ l[i.toNat]? = some x := by
  unfold idx at h; split at h
  · rename_i h0
    have := (List.getElem?_eq_some_iff.1 h).1
    exact ⟨h0, by omega, h⟩
  · cases h
theorem idx_nat {α : Type} {l : List α} {i : Nat} : idx l (i : Int) = l[i]? := by simp [idx]

theorem cell_lt {w : World} {p : Addr} {c : Value} (h : w.cell? p = some c) : p.block < w.heap.size := by
  unfold World.cell? at h
  cases hb : w.heap[p.block]? with
  | none => rw [hb] at h; cases h
  | some o => exact (Array.getElem?_eq_some_iff.1 hb).1
theorem cell_mono {w w' : World} {p : Addr} {c : Value} (h : w.cell? p = some c) (hb : Below w.heap.size w w') : w'.cell? p = some c := by
  rw [hb.cell (cell_lt h)]; exact h

theorem Ty.mono {α : Type} [Ty α] {w w' : World} {cs : List Value} {a : α} (h : Ty.rep w cs a) (hb : Below w.heap.size w w') : Ty.rep w' cs a := Ty.monoC h fun _ _ hc => cell_mono hc hb
def ElemAt {α : Type} [Ty α] (w : World) (p : Addr) (x : α) : Prop := p.spot = none ∧ ∃ cs, Ty.rep w cs x ∧ ∀ j c, cs[j]? = some c → w.cell? (p.add j) = some c

def SliceR {α : Type} [Ty α] (w : World) (v : Value) (xs : List α) : Prop :=
  xs.length ≤ maxLen ∧
  ((v = .slice none 0 0 ∧ xs = []) ∨ ∃ a cap, v = .slice (some a) xs.length cap ∧ xs.length ≤ cap ∧ cap ≤ maxLen ∧
    ∀ i x, xs[i]? = some x → ElemAt w (a.add (i * Ty.size α)) x)

theorem ElemAt.monoC {α : Type} [Ty α] {w w' : World} {p : Addr} {x : α} (h : ElemAt w p x) (hb : ∀ p c, w.cell? p = some c → w'.cell? p = some c) : ElemAt w' p x := by
  obtain ⟨h1, cs, h2, h3⟩ := h
  exact ⟨h1, cs, Ty.monoC h2 hb, fun j c hj => hb _ _ (h3 j c hj)⟩
theorem SliceR.monoC {α : Type} [Ty α] {w w' : World} {v : Value} {xs : List α} (h : SliceR w v xs) (hb : ∀ p c, w.cell? p = some c → w'.cell? p = some c) : SliceR w' v xs := by
  obtain ⟨h0, h⟩ := h
  refine ⟨h0, ?_⟩
  rcases h with h | ⟨a, cap, h1, h2, h3, h4⟩
  · exact .inl h
  · exact .inr ⟨a, cap, h1, h2, h3, fun i x hi => (h4 i x hi).monoC hb⟩
theorem ElemAt.mono {α : Type} [Ty α] {w w' : World} {p : Addr} {x : α} (h : ElemAt w p x) (hb : Below w.heap.size w w') : ElemAt w' p x := by
  obtain ⟨h1, cs, h2, h3⟩ := h
  exact ⟨h1, cs, Ty.mono h2 hb, fun j c hj => cell_mono (h3 j c hj) hb⟩
theorem SliceR.mono {α : Type} [Ty α] {w w' : World} {v : Value} {xs : List α} (h : SliceR w v xs) (hb : Below w.heap.size w w') : SliceR w' v xs := by
  obtain ⟨h0, h⟩ := h
  refine ⟨h0, ?_⟩
  rcases h with h | ⟨a, cap, h1, h2, h3, h4⟩
  · exact .inl h
  · exact .inr ⟨a, cap, h1, h2, h3, fun i x hi => (h4 i x hi).mono hb⟩
theorem SliceR.nil {α : Type} [Ty α] {w : World} : SliceR (α := α) w (.slice none 0 0) [] := ⟨by simp, .inl ⟨rfl, rfl⟩⟩
theorem SliceR.shape {α : Type} [Ty α] {w : World} {v : Value} {xs : List α} (h : SliceR w v xs) : ∃ a cap, v = .slice a xs.length cap ∧ xs.length ≤ cap ∧ cap ≤ maxLen := by
  obtain ⟨_, ⟨rfl, rfl⟩ | ⟨a, cap, rfl, h1, h2, _⟩⟩ := h
  · exact ⟨none, 0, rfl, Nat.le_refl _, by simp [maxLen]⟩
  · exact ⟨_, _, rfl, h1, h2⟩
theorem SliceR.len_le {α : Type} [Ty α] {w : World} {v : Value} {xs : List α} (h : SliceR w v xs) : (xs.length : Int) ≤ 9223372036854775807 := by
  have := h.1; unfold maxLen at this; omega
theorem ElemAt.flat {α : Type} [Flat α] {w : World} {p : Addr} {x : α} (h : ElemAt w p x) : ∀ j c, (Flat.cells x)[j]? = some c → w.cell? (p.add j) = some c := by
  obtain ⟨_, cs, h2, h3⟩ := h
  cases h2; exact h3

/-! The tables' facts that the operations ask. -/
def aggB : TypeDesc → Bool
  | .struct _ | .array _ _ => true
  | _ => false
def ScalarT (P : Program) (T : TypeId) : Prop := ∃ d, P.underlying T = some d ∧ aggB d = false
def AggT (P : Program) (T : TypeId) (k : Nat) : Prop := (∃ d, P.underlying T = some d ∧ aggB d = true) ∧ ∃ i, P.info? T = some i ∧ i.size = k
def SizeT (P : Program) (T : TypeId) (k : Nat) : Prop := ∃ i, P.info? T = some i ∧ i.size = k
def FieldT (P : Program) (S j o : Nat) : Prop := ∃ fs fld i, P.underlying S = some (.struct fs) ∧ fs[j]? = some fld ∧ fld.offset = o ∧ P.info? fld.type = some i ∧ i.size ≠ 0
def ElemT (P : Program) (E : TypeId) (size bytes : Nat) : Prop := ∃ i z, P.info? E = some i ∧ i.zero = some z ∧ i.size = size ∧ i.bytes = bytes ∧ z.cells.size = size
def ZeroT (P : Program) (T : TypeId) (z : Value) : Prop := ∃ i, P.info? T = some i ∧ i.zero = some z

theorem SizeT.mk {P : Program} {T k : Nat} (h : (P.info? T).map (·.size) = some k) : SizeT P T k := by
  obtain ⟨i, hi, e⟩ := Option.map_eq_some_iff.1 h; exact ⟨i, hi, e⟩
theorem ElemT.mk {P : Program} {E size bytes : Nat} {z : Value} (h : (P.info? E).map (fun i => (i.zero, i.size, i.bytes)) = some (some z, size, bytes)) (hz : z.cells.size = size) : ElemT P E size bytes := by
  obtain ⟨i, hi, e⟩ := Option.map_eq_some_iff.1 h
  simp only [Prod.mk.injEq] at e
  exact ⟨i, z, hi, e.1, e.2.1, e.2.2, hz⟩
theorem ScalarT.mk {P : Program} {T : Nat} {d : TypeDesc} (h : P.underlying T = some d) (hd : aggB d = false) : ScalarT P T := ⟨d, h, hd⟩
theorem AggT.mk {P : Program} {T k : Nat} {d : TypeDesc} (h : P.underlying T = some d) (hd : aggB d = true) (hk : (P.info? T).map (·.size) = some k) : AggT P T k :=
  ⟨⟨d, h, hd⟩, SizeT.mk hk⟩
theorem FieldT.mk {P : Program} {S j o k : Nat} {fs : Array Field} {fld : Field} (h : P.underlying S = some (.struct fs)) (hf : fs[j]? = some fld) (ho : fld.offset = o) (hk : (P.info? fld.type).map (·.size) = some k) (h0 : k ≠ 0) :
    FieldT P S j o := by
  obtain ⟨i, hi, rfl⟩ := SizeT.mk hk
  exact ⟨fs, fld, i, h, hf, ho, hi, h0⟩
theorem ZeroT.mk {P : Program} {T : Nat} {z : Value} (h : (P.info? T).bind (·.zero) = some z) : ZeroT P T z := by
  obtain ⟨i, hi, e⟩ := Option.bind_eq_some_iff.1 h; exact ⟨i, hi, e⟩

theorem run_sizeOf' {P : Program} {T k : Nat} {w : World} (h : SizeT P T k) : (sizeOf T).run P w = .ok k w := by
  obtain ⟨i, hi, rfl⟩ := h
  simp [sizeOf, typeInfo, program, Sem.run, hi]
theorem run_zeroValue' {P : Program} {T : Nat} {z : Value} {w : World} (h : ZeroT P T z) : (zeroValue T).run P w = .ok z w := by
  obtain ⟨i, hi, hz⟩ := h
  simp [zeroValue, typeInfo, program, Sem.run, hi, hz]
theorem run_isAgg_scalar {P : Program} {T : Nat} {w : World} (h : ScalarT P T) : (isAgg T).run P w = .ok false w := by
  obtain ⟨d, hd, hk⟩ := h
  simp only [isAgg, Sem.run_bind, run_underlying hd, Result.andThen_ok]
  cases d <;> first | rfl | cases hk
theorem run_isAgg_agg {P : Program} {T k : Nat} {w : World} (h : AggT P T k) : (isAgg T).run P w = .ok true w := by
  obtain ⟨⟨d, hd, hk⟩, _⟩ := h
  simp only [isAgg, Sem.run_bind, run_underlying hd, Result.andThen_ok]
  cases d <;> first | rfl | cases hk
theorem AggT.size {P : Program} {T k : Nat} (h : AggT P T k) : SizeT P T k := h.2

theorem run_load_cell {P : Program} {w : World} {q : Addr} {v : Value} (h : w.cell? q = some v) : (load q).run P w = .ok v w := by
  simp [load, Sem.run, h]
theorem run_loadVar_scalar {P : Program} {T : Nat} {w : World} {q : Addr} {v : Value} (hs : ScalarT P T) (h : w.cell? q = some v) : (loadVar T q).run P w = .ok v w := by
  simp only [loadVar, Sem.run_bind, run_isAgg_scalar hs, Result.andThen_ok, Bool.false_eq_true, if_false]
  exact run_load_cell h
theorem run_loadVar_agg {P : Program} {T k : Nat} {w : World} {q : Addr} {cs : List Value} (hs : AggT P T k) (hl : cs.length = k) (h : ∀ j c, cs[j]? = some c → w.cell? (q.add j) = some c) :
    (loadVar T q).run P w = .ok (.agg cs.toArray) w := by
  subst hl
  simp only [loadVar, Sem.run_bind, run_isAgg_agg hs, Result.andThen_ok, if_true, run_sizeOf' hs.size, run_loadCells_list (P := P) w q cs h]
  rfl

/-! The call's own blocks. -/
structure Grew (w w' : World) : Prop where
  os : w'.os = w.os
  tape : w'.tape = w.tape
  output : w'.output = w.output
  size : w.heap.size ≤ w'.heap.size
structure Item where
  fp : Nat → Prop
  ok : World → Prop
  loc : ∀ w w' : World, Grew w w' → (∀ b, fp b → w'.heap[b]? = w.heap[b]?) → ok w → ok w'

def boxI (b : Nat) (T : TypeId) (cs : List Value) : Item :=
  ⟨fun x => x = b, fun w => w.heap[b]? = some (.cells cs.toArray T (0, 0)), fun _ _ _ h h' => (h b rfl).trans h'⟩
def ownI {α : Type} [Flat α] (v : Value) (E : TypeId) (xs : List α) : Item :=
  ⟨fun b => v.ownBlock = some b, fun w => w.ownsRow 0 E (Flat.size α) v xs.length (xs.flatMap Flat.cells), by
    intro w w' _ h ⟨h1, h2⟩
    refine ⟨h1, ?_⟩
    rcases h2 with h2 | ⟨gb, cap, cur, hv, hb, hh, r⟩
    · exact .inl h2
    · exact .inr ⟨gb, cap, cur, hv, hb, by rw [h gb (by rw [hv]; rfl)]; exact hh, r⟩⟩

structure BelowX (X : Nat → Prop) (w w' : World) : Prop where
  os : w'.os = w.os
  tape : w'.tape = w.tape
  output : w'.output = w.output
  size : w.heap.size ≤ w'.heap.size
  block : ∀ k, k < w.heap.size → ¬ X k → w'.heap[k]? = w.heap[k]?
theorem BelowX.trans {X : Nat → Prop} {a b c : World} (h : BelowX X a b) (k : BelowX X b c) : BelowX X a c :=
  ⟨k.os.trans h.os, k.tape.trans h.tape, k.output.trans h.output, Nat.le_trans h.size k.size, fun i hi hx => (k.block i (Nat.lt_of_lt_of_le hi h.size) hx).trans (h.block i hi hx)⟩
theorem below_x {X : Nat → Prop} {a b : World} (h : Below a.heap.size a b) : BelowX X a b := ⟨h.os, h.tape, h.output, h.size, fun k hk _ => h.block k hk⟩

structure InvD (X : Nat → Prop) (w0 w : World) (L : List Item) : Prop where
  baseX : BelowX X w0 w
  items : ∀ it ∈ L, it.ok w ∧ ∀ b, it.fp b → (w0.heap.size ≤ b ∨ X b) ∧ b < w.heap.size
  apart : L.Pairwise fun x y => ∀ b, x.fp b → ¬ y.fp b
abbrev Inv (w0 w : World) (L : List Item) : Prop := InvD (fun _ => False) w0 w L

section
variable {Dq : Nat → Prop} {w0 w w' : World} {L : List Item}

theorem Inv.start : Inv w w [] := ⟨⟨rfl, rfl, rfl, Nat.le_refl _, fun _ _ _ => rfl⟩, by simp, List.Pairwise.nil⟩
theorem InvD.base (H : Inv w0 w L) : Below w0.heap.size w0 w := ⟨H.baseX.os, H.baseX.tape, H.baseX.output, H.baseX.size, fun k hk => H.baseX.block k hk id⟩
theorem InvD.arg {α : Type} [Ty α] (H : Inv w0 w L) {v : Value} {xs : List α} (h : SliceR w0 v xs) : SliceR w v xs := h.mono H.base
theorem InvD.ext (H : InvD Dq w0 w L) (hb : Below w.heap.size w w') : InvD Dq w0 w' L := by
  refine ⟨H.baseX.trans (below_x hb), fun it hi => ?_, H.apart⟩
  obtain ⟨h1, h2⟩ := H.items it hi
  exact ⟨it.loc w w' ⟨hb.os, hb.tape, hb.output, hb.size⟩ (fun b hf => hb.block b (h2 b hf).2) h1, fun b hf => ⟨(h2 b hf).1, Nat.lt_of_lt_of_le (h2 b hf).2 hb.size⟩⟩
theorem InvD.add (H : InvD Dq w0 w L) (hb : Below w.heap.size w w') (it : Item) (hok : it.ok w') (hfp : ∀ b, it.fp b → w.heap.size ≤ b ∧ b < w'.heap.size) : InvD Dq w0 w' (L ++ [it]) := by
  have H' := H.ext hb
  refine ⟨H'.baseX, fun x hx => ?_, ?_⟩
  · rcases List.mem_append.1 hx with hx | hx
    · exact H'.items x hx
    · obtain rfl := List.mem_singleton.1 hx
      exact ⟨hok, fun b hf => ⟨.inl (Nat.le_trans H.baseX.size (hfp b hf).1), (hfp b hf).2⟩⟩
  · refine List.pairwise_append.2 ⟨H.apart, List.pairwise_singleton _ _, fun x hx y hy b hf hg => ?_⟩
    obtain rfl := List.mem_singleton.1 hy
    have h1 := ((H.items x hx).2 b hf).2
    have h2 := (hfp b hg).1
    omega

structure Chg (fp : Nat → Prop) (w w' : World) : Prop where
  os : w'.os = w.os
  tape : w'.tape = w.tape
  output : w'.output = w.output
  size : w.heap.size ≤ w'.heap.size
  block : ∀ k, k < w.heap.size → ¬ fp k → w'.heap[k]? = w.heap[k]?

theorem InvD.upd (H : InvD Dq w0 w L) (i : Nat) (it it' : Item) (hi : L[i]? = some it) (hc : Chg it.fp w w') (hok : it'.ok w')
    (hfp : ∀ b, it'.fp b → b < w'.heap.size ∧ (it.fp b ∨ w.heap.size ≤ b)) : InvD Dq w0 w' (L.set i it') := by
  have hmem : it ∈ L := List.mem_of_getElem? hi
  have hit := H.items it hmem
  have hlen : i < L.length := (List.getElem?_eq_some_iff.1 hi).1
  have hLi : L[i] = it := (List.getElem?_eq_some_iff.1 hi).2
  refine ⟨?_, ?_, ?_⟩
  · refine ⟨hc.os.trans H.baseX.os, hc.tape.trans H.baseX.tape, hc.output.trans H.baseX.output, Nat.le_trans H.baseX.size hc.size, fun k hk hx => ?_⟩
    refine (hc.block k (Nat.lt_of_lt_of_le hk H.baseX.size) (fun hf => ?_)).trans (H.baseX.block k hk hx)
    rcases (hit.2 k hf).1 with h | h
    · omega
    · exact hx h
  · intro x hx
    obtain ⟨j, hj, rfl⟩ := List.mem_iff_getElem.1 hx
    rw [List.getElem_set]
    split
    · rename_i e
      subst e
      refine ⟨hok, fun b hf => ?_⟩
      obtain ⟨h1, h2⟩ := hfp b hf
      refine ⟨?_, h1⟩
      rcases h2 with h2 | h2
      · exact (hit.2 b h2).1
      · exact .inl (Nat.le_trans H.baseX.size h2)
    · rename_i e
      have hj' : j < L.length := by simpa using hj
      obtain ⟨h1, h2⟩ := H.items L[j] (List.getElem_mem hj')
      refine ⟨L[j].loc w w' ⟨hc.os, hc.tape, hc.output, hc.size⟩ (fun b hf => hc.block b (h2 b hf).2 ?_) h1, fun b hf => ⟨(h2 b hf).1, Nat.lt_of_lt_of_le (h2 b hf).2 hc.size⟩⟩
      intro hg
      have hp := List.pairwise_iff_getElem.1 H.apart
      rcases Nat.lt_or_gt_of_ne e with hlt | hlt
      · exact hp i j hlen hj' hlt b (by rw [hLi]; exact hg) hf
      · exact hp j i hj' hlen hlt b hf (by rw [hLi]; exact hg)
  · rw [List.pairwise_iff_getElem]
    intro a b ha hb hab k hf hg
    have ha' : a < L.length := by simpa using ha
    have hb' : b < L.length := by simpa using hb
    have hp := List.pairwise_iff_getElem.1 H.apart
    rw [List.getElem_set] at hf hg
    split at hf
    · rename_i e
      rw [if_neg (by omega)] at hg
      rcases (hfp k hf).2 with h2 | h2
      · exact hp a b ha' hb' hab k (by subst e; rw [hLi]; exact h2) hg
      · have := ((H.items L[b] (List.getElem_mem hb')).2 k hg).2; omega
    · split at hg
      · rename_i e
        rcases (hfp k hg).2 with h2 | h2
        · exact hp a b ha' hb' hab k hf (by subst e; rw [hLi]; exact h2)
        · have := ((H.items L[a] (List.getElem_mem ha')).2 k hf).2; omega
      · exact hp a b ha' hb' hab k hf hg

theorem InvD.keep (H : InvD Dq w0 w L) (l : List Nat) (L' : List Item) (hl : l.map (fun i => L[i]?) = L'.map some) (hs : l.Pairwise (· < ·)) : InvD Dq w0 w L' := by
  have hlen : l.length = L'.length := by simpa using congrArg List.length hl
  have key : ∀ j (h : j < L'.length), ∃ h1 : j < l.length, L[l[j]]? = some L'[j] := by
    intro j h
    have h1 : j < l.length := by omega
    refine ⟨h1, ?_⟩
    have := congrArg (fun (x : List (Option Item)) => x[j]?) hl
    simpa [h, h1] using this
  refine ⟨H.baseX, fun it hi => ?_, ?_⟩
  · obtain ⟨j, hj, rfl⟩ := List.mem_iff_getElem.1 hi
    obtain ⟨h1, h2⟩ := key j hj
    exact H.items _ (List.mem_of_getElem? h2)
  · rw [List.pairwise_iff_getElem]
    intro a b ha hb hab
    obtain ⟨h1, h2⟩ := key a ha
    obtain ⟨h3, h4⟩ := key b hb
    have hlt := List.pairwise_iff_getElem.1 hs a b h1 h3 hab
    obtain ⟨h5, h6⟩ := List.getElem?_eq_some_iff.1 h2
    obtain ⟨h7, h8⟩ := List.getElem?_eq_some_iff.1 h4
    rw [← h6, ← h8]
    exact List.pairwise_iff_getElem.1 H.apart _ _ h5 h7 hlt

theorem InvD.box (H : InvD Dq w0 w L) {i b : Nat} {T : TypeId} {cs : List Value} (hi : L[i]? = some (boxI b T cs)) : w.heap[b]? = some (.cells cs.toArray T (0, 0)) :=
  (H.items _ (List.mem_of_getElem? hi)).1
theorem InvD.cell (H : InvD Dq w0 w L) (i : Nat) {b : Nat} {T : TypeId} {cs : List Value} (hi : L[i]? = some (boxI b T cs)) : ∀ j c, cs[j]? = some c → w.cell? ((Addr.mk b 0 none).add j) = some c := by
  intro j c hj
  have := H.box hi
  rw [Addr.add_lit]
  simp [World.cell?, this, hj]

theorem flat_getElem {α : Type} [Flat α] (xs : List α) (i : Nat) (x : α) (hi : xs[i]? = some x) (j : Nat) (c : Value) (hj : (Flat.cells x)[j]? = some c) :
    (xs.flatMap Flat.cells)[i * Flat.size α + j]? = some c := by
  induction xs generalizing i with
  | nil => simp at hi
  | cons y ys ih =>
    rw [List.flatMap_cons]
    cases i with
    | zero =>
      simp only [List.getElem?_cons_zero, Option.some.injEq] at hi
      subst hi
      have hl := (List.getElem?_eq_some_iff.1 hj).1
      rw [Nat.zero_mul, Nat.zero_add, List.getElem?_append_left hl]
      exact hj
    | succ i =>
      simp only [List.getElem?_cons_succ] at hi
      have hle : (Flat.cells y).length = Flat.size α := Flat.len y
      rw [List.getElem?_append_right (by rw [hle, Nat.succ_mul]; omega), hle]
      have : (i + 1) * Flat.size α + j - Flat.size α = i * Flat.size α + j := by rw [Nat.succ_mul]; omega
      rw [this]
      exact ih i hi
theorem flat_length {α : Type} [Flat α] (xs : List α) : (xs.flatMap Flat.cells).length = xs.length * Flat.size α := by
  induction xs with
  | nil => simp
  | cons y ys ih => rw [List.flatMap_cons, List.length_append, ih, Flat.len, List.length_cons, Nat.succ_mul]; omega

theorem ownsRow_sliceR {α : Type} [Flat α] {B : Nat} {v : Value} {E : TypeId} {xs : List α} (h : w.ownsRow B E (Flat.size α) v xs.length (xs.flatMap Flat.cells)) : SliceR w v xs := by
  obtain ⟨_, ⟨rfl, h2⟩ | ⟨gb, cap, cur, rfl, _, hh, hn, hm, hcs, ht⟩⟩ := h
  · obtain rfl := List.eq_nil_of_length_eq_zero h2
    exact SliceR.nil
  · refine ⟨Nat.le_trans hn hm, .inr ⟨⟨gb, 0, none⟩, cap, rfl, hn, hm, fun i x hi => ?_⟩⟩
    rw [Addr.add_lit]
    refine ⟨rfl, Flat.cells x, rfl, fun j c hj => ?_⟩
    have h1 := flat_getElem xs i x hi j c hj
    rw [← ht, List.getElem?_take] at h1
    split at h1
    · rw [Addr.add_lit]
      show w.cell? ⟨gb, 0 + i * Flat.size α + j, none⟩ = some c
      simpa [World.cell?, hh, Nat.zero_add] using h1
    · cases h1
theorem InvD.own {α : Type} [Flat α] (H : InvD Dq w0 w L) (i : Nat) {v : Value} {E : TypeId} {xs : List α} (hi : L[i]? = some (ownI v E xs)) : SliceR w v xs :=
  ownsRow_sliceR (H.items _ (List.mem_of_getElem? hi)).1

def OwnR {α : Type} [Flat α] (w0 w : World) (v : Value) (E : TypeId) (xs : List α) : Prop := w.ownsRow w0.heap.size E (Flat.size α) v xs.length (xs.flatMap Flat.cells)

theorem InvD.ownR {α : Type} [Flat α] (H : Inv w0 w L) (i : Nat) {v : Value} {E : TypeId} {xs : List α} (hi : L[i]? = some (ownI v E xs)) : OwnR w0 w v E xs := by
  obtain ⟨⟨h1, h2⟩, hf⟩ := H.items _ (List.mem_of_getElem? hi)
  refine ⟨h1, ?_⟩
  rcases h2 with h2 | ⟨gb, cap, cur, rfl, _, r⟩
  · exact .inl h2
  · exact .inr ⟨gb, cap, cur, rfl, (hf gb rfl).1.resolve_right id, r⟩
theorem OwnR.nil {α : Type} [Flat α] {E : TypeId} : OwnR (α := α) w0 w (.slice none 0 0) E [] := ⟨by simp, .inl ⟨rfl, rfl⟩⟩
theorem InvD.addOwn {α : Type} [Flat α] (H : InvD Dq w0 w L) (hb : Below w.heap.size w w') {v : Value} {E : TypeId} {xs : List α} (h : OwnR w w' v E xs) : InvD Dq w0 w' (L ++ [ownI v E xs]) := by
  obtain ⟨h1, h2⟩ := h
  refine H.add hb _ ⟨h1, ?_⟩ ?_
  · rcases h2 with h2 | ⟨gb, cap, cur, hv, _, r⟩
    · exact .inl h2
    · exact .inr ⟨gb, cap, cur, hv, Nat.zero_le _, r⟩
  · intro b hf
    rcases h2 with ⟨rfl, _⟩ | ⟨gb, cap, cur, rfl, hg, hh, r⟩
    · cases hf
    · cases hf
      exact ⟨hg, (Array.getElem?_eq_some_iff.1 hh).1⟩
theorem InvD.addNil {α : Type} [Flat α] (H : InvD Dq w0 w L) {E : TypeId} : InvD Dq w0 w (L ++ [ownI (α := α) (.slice none 0 0) E []]) :=
  H.addOwn (Below.refl _ _) OwnR.nil
end

section
variable {P : Program} {n : Nat} {ds : Md} {ops : Array Oper} {rest : List Oper} {K : Fr → World → Prop} {f : Fr} {Dq : Nat → Prop} {w w0 : World} {L : List Item} {T T' T0 : TypeId} {pos : String} {aft : Array Edge}
  {g : Option (Nat × Bool)} {d : Nat}

theorem O.load {x : Operand} {q : Addr} {v : Value} (hT : ScalarT P T) (hg : want ops g f = true) (hd : Nat.blt d n = true) (hx : ev f x = .pointer (some q)) (hc : w.cell? q = some v)
    (h : WL P n ds ops rest K (upd f d v) w) : WL P n ds ops (⟨some d, .load T x, T0, pos, aft, g⟩ :: rest) K f w :=
  WL.val hg hd (by simp only [execOp, hx, Instr.loadAt, Instr.sureAddr, Sem.run_bind, Sem.run_pure, Result.andThen_ok, run_loadVar_scalar hT hc]) h
theorem O.loadA {x : Operand} {q : Addr} {k : Nat} (cs : List Value) (hT : AggT P T k) (hg : want ops g f = true) (hd : Nat.blt d n = true) (hx : ev f x = .pointer (some q)) (hl : cs.length = k)
    (hc : ∀ j c, cs[j]? = some c → w.cell? (q.add j) = some c) (h : WL P n ds ops rest K (upd f d (.agg cs.toArray)) w) : WL P n ds ops (⟨some d, .load T x, T0, pos, aft, g⟩ :: rest) K f w :=
  WL.val hg hd (by simp only [execOp, hx, Instr.loadAt, Instr.sureAddr, Sem.run_bind, Sem.run_pure, Result.andThen_ok, run_loadVar_agg hT hl hc]) h
theorem O.fieldAddr {x : Operand} {q : Addr} {S j o : Nat} (hS : FieldT P S j o) (hg : want ops g f = true) (hd : Nat.blt d n = true) (hx : ev f x = .pointer (some q))
    (h : WL P n ds ops rest K (upd f d (.pointer (some (q.add o)))) w) : WL P n ds ops (⟨some d, .fieldAddr S x j, T0, pos, aft, g⟩ :: rest) K f w := by
  refine WL.val hg hd ?_ h
  obtain ⟨fs, fld, i, h1, h2, rfl, h4, h5⟩ := hS
  simp only [execOp, hx, Instr.fieldAt, Sem.run_bind, run_underlying h1, Result.andThen_ok, h2, Instr.sureAddr, Sem.run_pure, fieldPlace, run_sizeOf' ⟨i, h4, rfl⟩, if_neg h5]
theorem O.nilCheck {x : Operand} {q : Addr} (hg : want ops g f = true) (hd : Nat.blt d n = true) (hx : ev f x = .pointer (some q))
    (h : WL P n ds ops rest K (upd f d (.pointer (some q))) w) : WL P n ds ops (⟨some d, .nilCheck x, T0, pos, aft, g⟩ :: rest) K f w :=
  WL.val hg hd (by simp [execOp, hx]) h

theorem O.indexAddr {α : Type} [Ty α] {s ix : Operand} {v : Value} {l : List α} {i : Int} {x : α} {E : TypeId} (hT : P.underlying T = some (.slice E)) (hE : SizeT P E (Ty.size α))
    (hR : SliceR w v l) (hi : idx l i = some x) (hg : want ops g f = true) (hd : Nat.blt d n = true) (hs : ev f s = v) (hx : ev f ix = .int .i64 i)
    (h : ∀ p, ElemAt w p x → WL P n ds ops rest K (upd f d (.pointer (some p))) w) : WL P n ds ops (⟨some d, .indexAddr T s ix, T0, pos, aft, g⟩ :: rest) K f w := by
  obtain ⟨h0, h1, h2⟩ := idx_some hi
  obtain ⟨_, ⟨_, rfl⟩ | ⟨a, cap, rfl, _, _, h3⟩⟩ := hR
  · simp at h2
  · refine WL.val hg hd ?_ (h _ (h3 _ _ h2))
    simp only [execOp, hs, hx, Instr.indexAt, asIntOf, Sem.run_bind, Sem.run_pure, Result.andThen_ok, run_underlying hT, h0, h1, and_self, if_true, run_sizeOf' hE]

theorem O.lenS {α : Type} [Ty α] {s : Operand} {v : Value} {l : List α} {E : TypeId} (hT : P.underlying T = some (.slice E)) (hR : SliceR w v l) (hg : want ops g f = true) (hd : Nat.blt d n = true)
    (hs : ev f s = v) (h : WL P n ds ops rest K (upd f d (.int .i64 (l.length : Int))) w) : WL P n ds ops (⟨some d, .call ⟨.builtin .len, #[s], #[T]⟩, T0, pos, aft, g⟩ :: rest) K f w := by
  obtain ⟨a, cap, rfl, _⟩ := hR.shape
  refine WL.val hg hd ?_ h
  simp [execOp, resolve, invoke, builtin, hs, Builtin.len_, run_underlying hT, goInt]

theorem run_newRow {P : Program} {w : World} {T : TypeId} {cs : Array Value} : (newRow T cs).run P w = .ok ⟨w.heap.size, 0, none⟩ (w.alloc (.cells cs T)) := rfl
theorem alloc_at (w : World) (o : Obj) : (w.alloc o).heap[w.heap.size]? = some o := by
  show (w.heap.push _)[w.heap.size]? = _
  simp
theorem alloc_fp (w : World) (o : Obj) : ∀ b, b = w.heap.size → w.heap.size ≤ b ∧ b < (w.alloc o).heap.size := by
  rintro b rfl
  exact ⟨Nat.le_refl _, by show _ < (w.heap.push o).size; simp⟩
theorem below_alloc (w : World) (o : Obj) : Below w.heap.size w (w.alloc o) := (Below.refl _ _).alloc (Nat.le_refl _) o

theorem O.box {x : Operand} {v : Value} (cs : List Value) (H : InvD Dq w0 w L) (hg : want ops g f = true) (hd : Nat.blt d n = true) (hx : ev f x = v) (hcs : v.cells = cs.toArray)
    (h : ∀ b w', InvD Dq w0 w' (L ++ [boxI b T cs]) → Below w.heap.size w w' → WL P n ds ops rest K (upd f d (.pointer (some ⟨b, 0, none⟩))) w') : WL P n ds ops (⟨some d, .box T x, T0, pos, aft, g⟩ :: rest) K f w := by
  refine WL.val hg hd (w' := w.alloc (.cells cs.toArray T)) (v := .pointer (some ⟨w.heap.size, 0, none⟩)) ?_ (h w.heap.size _ (H.add (below_alloc _ _) _ ?_ ?_) (below_alloc _ _))
  · simp only [execOp, hx, Instr.box, newVar, hcs, Sem.run_bind, run_newRow, Result.andThen_ok, Sem.run_pure]
  · exact alloc_at _ _
  · exact alloc_fp _ _
theorem O.alloc {z : Value} (cs : List Value) (hz : ZeroT P T z) (H : InvD Dq w0 w L) (hg : want ops g f = true) (hd : Nat.blt d n = true) (hcs : z.cells = cs.toArray)
    (h : ∀ b w', InvD Dq w0 w' (L ++ [boxI b T cs]) → Below w.heap.size w w' → WL P n ds ops rest K (upd f d (.pointer (some ⟨b, 0, none⟩))) w') : WL P n ds ops (⟨some d, .alloc T, T0, pos, aft, g⟩ :: rest) K f w := by
  refine WL.val hg hd (w' := w.alloc (.cells cs.toArray T)) (v := .pointer (some ⟨w.heap.size, 0, none⟩)) ?_ (h w.heap.size _ (H.add (below_alloc _ _) _ ?_ ?_) (below_alloc _ _))
  · simp only [execOp, Instr.alloc, run_zeroValue' hz, newVar, hcs, Sem.run_bind, run_newRow, Result.andThen_ok, Sem.run_pure]
  · exact alloc_at _ _
  · exact alloc_fp _ _
end
end Go.Fw
