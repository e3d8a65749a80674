/-
  THE FRAMEWORK, PART L: slices against nil; slices of slices; parts of slices; stores into the elements of a slice that the call owns.
-/
import Derived.Test.YtnkncedhanainaaFwI
namespace Go.Fw
open Go.RowKit

theorem SliceR.nil_or {α : Type} [Ty α] {w : World} {v : Value} {xs : List α} (h : SliceR w v xs) : (v = .slice none 0 0 ∧ xs = []) ∨ ∃ a cap, v = .slice (some a) xs.length cap := by
  obtain ⟨_, h | ⟨a, cap, h, _⟩⟩ := h
  · exact .inl h
  · exact .inr ⟨a, cap, h⟩

/-- Slices are elements, too. -/
instance instTyList {α : Type} [Ty α] : Ty (List α) where
  size := 1
  rep w cs xs := ∃ v, cs = [v] ∧ SliceR w v xs
  len h := by obtain ⟨v, rfl, _⟩ := h; rfl
  one h := by
    obtain ⟨v, rfl, h⟩ := h
    intro c hc
    obtain rfl := List.mem_singleton.1 hc
    obtain ⟨a, cap, rfl, _⟩ := h.shape
    rfl
  monoC h hb := by obtain ⟨v, rfl, h⟩ := h; exact ⟨v, rfl, h.monoC hb⟩
  pos := by decide

def shlI (a b : Int) : Option Int := if (0 ≤ b ∧ b ≤ 64) ∧ inI (a * 2 ^ b.toNat) = true then some (a * 2 ^ b.toNat) else none
def shrI (a b : Int) : Option Int := if 0 ≤ b ∧ b ≤ 64 then some (a / 2 ^ b.toNat) else none
section
variable {P : Program} {n : Nat} {ds : Md} {ops : Array Oper} {rest : List Oper} {K : Fr → World → Prop} {f : Fr} {Dq : Nat → Prop} {w w0 : World} {T T' T0 : TypeId} {pos : String} {aft : Array Edge} {g : Option (Nat × Bool)} {d : Nat} {L : List Item}

theorem O.eqlNil {x y : Operand} {E : TypeId} {a : Option Addr} {len cap : Nat} (hT : P.underlying T = some (.slice E)) (hg : want ops g f = true) (hd : Nat.blt d n = true) (hx : ev f x = .slice a len cap) (hy : ev f y = .slice none 0 0)
    (h : WL P n ds ops rest K (upd f d (.bool a.isNone)) w) : WL P n ds ops (⟨some d, .binOp .eql T x y T', T0, pos, aft, g⟩ :: rest) K f w :=
  WL.val hg hd (by
    simp only [execOp, eqGuard, hx, hy]
    simp [binOp, Op.equal, Op.maxDepth, Lib.run_equalIn_slice_nil w 9999 T E a len cap 0 0 hT]) h
theorem O.neqNil {x y : Operand} {E : TypeId} {a : Option Addr} {len cap : Nat} (hT : P.underlying T = some (.slice E)) (hg : want ops g f = true) (hd : Nat.blt d n = true) (hx : ev f x = .slice a len cap) (hy : ev f y = .slice none 0 0)
    (h : WL P n ds ops rest K (upd f d (.bool (!a.isNone))) w) : WL P n ds ops (⟨some d, .binOp .neq T x y T', T0, pos, aft, g⟩ :: rest) K f w :=
  WL.val hg hd (by
    simp only [execOp, eqGuard, hx, hy]
    simp [binOp, Op.equal, Op.maxDepth, Lib.run_equalIn_slice_nil w 9999 T E a len cap 0 0 hT]) h

/-! A slice read as an element. -/
/-! Parts of slices. -/
def cutI {α : Type} (xs : List α) (lo hi : Int) : Option (List α) := if 0 ≤ lo ∧ lo ≤ hi ∧ hi ≤ (xs.length : Int) then some ((xs.take hi.toNat).drop lo.toNat) else none
/-! Shifts and bits. -/
theorem take_splice {α : Type} (c vs : List α) (m n : Nat) (h : m + vs.length ≤ n) (hn : n ≤ c.length) :
    (c.take m ++ vs ++ c.drop (m + vs.length)).take n = (c.take n).take m ++ vs ++ (c.take n).drop (m + vs.length) := by
  rw [List.take_append, List.take_append, List.take_of_length_le (l := c.take m) (by rw [List.length_take]; omega), List.take_of_length_le (l := vs) (by rw [List.length_take]; omega),
    List.take_take, Nat.min_eq_left (by omega), List.drop_take, List.length_append, List.length_take, Nat.min_eq_left (by omega)]

/-! Elements of a slice that the call owns: their addresses; stores. -/
theorem flat_set {α : Type} [Flat α] : ∀ (xs : List α) (i : Nat) (x y : α) (o : Nat) (vs : List Value), xs[i]? = some x → o + vs.length ≤ Flat.size α → (Flat.cells x).take o ++ vs ++ (Flat.cells x).drop (o + vs.length) = Flat.cells y →
    (xs.set i y).flatMap Flat.cells = (xs.flatMap Flat.cells).take (i * Flat.size α + o) ++ vs ++ (xs.flatMap Flat.cells).drop (i * Flat.size α + o + vs.length)
  | [], i, x, y, o, vs, h, _, _ => by simp at h
  | z :: xs, 0, x, y, o, vs, h, ho, he => by
    simp only [List.getElem?_cons_zero, Option.some.injEq] at h
    subst h
    have hl : (Flat.cells z).length = Flat.size α := Flat.len z
    rw [List.set_cons_zero, List.flatMap_cons, List.flatMap_cons, ← he, Nat.zero_mul, Nat.zero_add, List.take_append_of_le_length (by omega), List.drop_append_of_le_length (by omega)]
    simp [List.append_assoc]
  | z :: xs, i + 1, x, y, o, vs, h, ho, he => by
    simp only [List.getElem?_cons_succ] at h
    have hl : (Flat.cells z).length = Flat.size α := Flat.len z
    have ih := flat_set xs i x y o vs h ho he
    rw [List.set_cons_succ, List.flatMap_cons, List.flatMap_cons, ih]
    have e1 : (i + 1) * Flat.size α + o = (Flat.cells z).length + (i * Flat.size α + o) := by rw [hl, Nat.succ_mul]; omega
    rw [e1, List.take_length_add_append, Nat.add_assoc (Flat.cells z).length, List.drop_length_add_append]
    simp [List.append_assoc]
theorem O.indexOwn {α : Type} [Flat α] {s ix : Operand} {v : Value} {xs : List α} {i : Int} {x : α} {E : TypeId} (k : Nat) (hT : P.underlying T = some (.slice E)) (hE : SizeT P E (Flat.size α)) (H : InvD Dq w0 w L) (hk : L[k]? = some (ownI v E xs))
    (hi : idx xs i = some x) (hg : want ops g f = true) (hd : Nat.blt d n = true) (hs : ev f s = v) (hx : ev f ix = .int .i64 i)
    (h : ∀ b, v.ownBlock = some b → ElemAt w ⟨b, i.toNat * Flat.size α, none⟩ x → WL P n ds ops rest K (upd f d (.pointer (some ⟨b, i.toNat * Flat.size α, none⟩))) w) :
    WL P n ds ops (⟨some d, .indexAddr T s ix, T0, pos, aft, g⟩ :: rest) K f w := by
  have hown : w.ownsRow 0 E (Flat.size α) v xs.length (xs.flatMap Flat.cells) := (H.items _ (List.mem_of_getElem? hk)).1
  have hR : SliceR w v xs := ownsRow_sliceR hown
  obtain ⟨h0, h1, h2⟩ := idx_some hi
  obtain ⟨_, ⟨rfl, h3⟩ | ⟨gb, cap, cur, rfl, _⟩⟩ := hown
  · exfalso; omega
  · have hel : ElemAt w ⟨gb, i.toNat * Flat.size α, none⟩ x := by
      obtain ⟨_, ⟨h4, _⟩ | ⟨a, cap', h4, _, _, h5⟩⟩ := hR
      · cases h4
      · cases h4
        have := h5 _ _ h2
        rw [Addr.add_lit, Nat.zero_add] at this
        exact this
    refine WL.val hg hd ?_ (h gb rfl hel)
    simp only [execOp, hs, hx, Instr.indexAt, asIntOf, Sem.run_bind, Sem.run_pure, Result.andThen_ok, run_underlying hT, h0, h1, and_self, if_true, run_sizeOf' hE, Addr.add_lit, Nat.zero_add]
theorem O.storeOwn {α : Type} [Flat α] {p x : Operand} {v0 v : Value} {xs : List α} {i0 : Int} {x0 : α} {b m : Nat} {E : TypeId} {q : Addr} (k o : Nat) (y : α) (vs : List Value) (hT : SizeT P T m) (H : InvD Dq w0 w L) (hk : L[k]? = some (ownI v0 E xs))
    (hb : v0.ownBlock = some b) (hi : idx xs i0 = some x0) (hg : want ops g f = true) (hp : ev f p = .pointer (some q)) (hq : q = Addr.add ⟨b, i0.toNat * Flat.size α, none⟩ o) (hx : ev f x = v) (hv : v.cells = vs.toArray) (hlen : vs.length = m)
    (hle : Nat.ble (o + vs.length) (Flat.size α) = true) (hnew : (Flat.cells x0).take o ++ vs ++ (Flat.cells x0).drop (o + vs.length) = Flat.cells y) (hone : ∀ u ∈ vs, u.oneCell' = true)
    (h : ∀ w', InvD Dq w0 w' (L.set k (ownI v0 E (xs.set i0.toNat y))) → WL P n ds ops rest K f w') : WL P n ds ops (⟨none, .store T p x, T0, pos, aft, g⟩ :: rest) K f w := by
  subst hlen
  have hle := Nat.le_of_ble_eq_true hle
  obtain ⟨h0, h1, h2⟩ := idx_some hi
  have hlt : i0.toNat < xs.length := by omega
  have hqq : q = ⟨b, i0.toNat * Flat.size α + o, none⟩ := by rw [hq, Addr.add_lit]
  subst hqq
  have hown : w.ownsRow 0 E (Flat.size α) v0 xs.length (xs.flatMap Flat.cells) := (H.items _ (List.mem_of_getElem? hk)).1
  obtain ⟨_, ⟨rfl, h3⟩ | ⟨gb, cap, cur, rfl, hgb, hh, hn, hm, hcs, ht⟩⟩ := hown
  · exfalso; omega
  · obtain rfl : gb = b := Option.some.inj hb
    have hmul : (i0.toNat + 1) * Flat.size α ≤ xs.length * Flat.size α := Nat.mul_le_mul_right _ hlt
    have hmul2 : xs.length * Flat.size α ≤ cap * Flat.size α := Nat.mul_le_mul_right _ hn
    rw [Nat.succ_mul] at hmul
    have hcl : cur.toList.length = cap * Flat.size α := by simpa using hcs
    have hh' : w.heap[gb]? = some (.cells cur.toList.toArray E (0, 0)) := by simpa using hh
    obtain ⟨w', h4, h5, h6⟩ := run_storeVar (P := P) hT hv hh' (o := i0.toNat * Flat.size α + o) (by omega) hone rfl
    refine WL.eff hg rfl (w' := w') ?_ (h w' (H.upd k _ _ hk ?_ ?_ ?_))
    · simp only [execOp, hp, hx, Instr.storeAt, Instr.sureAddr, Sem.run_bind, Sem.run_pure, Result.andThen_ok, h4]
    · exact ⟨h5.os, h5.tape, h5.output, h5.size, fun k hk hf => h5.block k hk (fun e => hf (by subst e; rfl))⟩
    · have hf := flat_set xs i0.toNat x0 y o vs h2 hle hnew
      refine ⟨by rw [List.length_set, flat_length, List.length_set], .inr ⟨gb, cap, _, ?_, Nat.zero_le _, h6, ?_, hm, ?_, ?_⟩⟩
      · rw [List.length_set]
      · rw [List.length_set]; exact hn
      · simp only [List.size_toArray, List.length_append, List.length_take, List.length_drop]
        rw [Nat.min_eq_left (by omega)]
        omega
      · rw [List.length_set, hf, ← ht]
        simp only
        exact take_splice _ _ _ _ (by omega) (by omega)
    · intro b' hf
      have : gb = b' := Option.some.inj hf
      subst this
      exact ⟨(Array.getElem?_eq_some_iff.1 h6).1, .inl rfl⟩
end
end Go.Fw
