/-
  THE FRAMEWORK, PART L: slices against nil; slices of slices; parts of slices; stores into the elements of a slice that the call owns.
-/
import Derived.Test.YtmoofcflfbnceaaGreatDoorFwI
namespace Go.Fw
open Go.RowKit

theorem SliceR.nil_or {α : Type} [Ty α] {w : World} {v : Value} {xs : List α} (h : SliceR w v xs) : (v = .slice none 0 0 ∧ xs = []) ∨ ∃ a cap, v = .slice (some a) xs.length cap := by
  obtain ⟨_, h | ⟨a, cap, h, _⟩⟩ := h
  · exact .inl h
  · exact .inr ⟨a, cap, h⟩

instance instTyList {α : Type} [Ty α] : Ty (List α) where
  size := 1
  rep w cs xs := ∃ v, cs = [v] ∧ SliceR w v xs
  len h := by obtain ⟨v, rfl, _⟩ := h; rfl
  one h := by
    obtain ⟨v, rfl, h⟩ := h
    intro c hc
    obtain rfl := List.mem_singleton.1 hc
    obtain ⟨a, cap, rfl, _⟩ := h.shape
    rfl
  monoC h hb := by obtain ⟨v, rfl, h⟩ := h; exact ⟨v, rfl, h.monoC hb⟩
  pos := by decide

def shlI (a b : Int) : Option Int := if (0 ≤ b ∧ b ≤ 64) ∧ inI (a * 2 ^ b.toNat) = true then some (a * 2 ^ b.toNat) else none
def shrI (a b : Int) : Option Int := if 0 ≤ b ∧ b ≤ 64 then some (a / 2 ^ b.toNat) else none
theorem shlI_some {a b c : Int} (h : shlI a b = some c) : 0 ≤ b ∧ b ≤ 64 ∧ inI (a * 2 ^ b.toNat) = true ∧ a * 2 ^ b.toNat = c := by
  unfold shlI at h
  split at h
  · rename_i hl; exact ⟨hl.1.1, hl.1.2, hl.2, Option.some.inj h⟩
  · cases h
theorem shrI_some {a b c : Int} (h : shrI a b = some c) : 0 ≤ b ∧ b ≤ 64 ∧ a / 2 ^ b.toNat = c := by
  unfold shrI at h
  split at h
  · rename_i hl; exact ⟨hl.1, hl.2, Option.some.inj h⟩
  · cases h
theorem wrap_inI {a : Int} (h : inI a = true) : IntKind.i64.wrap a = a := by
  simp only [inI, Bool.and_eq_true, decide_eq_true_eq] at h
  simp only [IntKind.wrap, IntKind.bits, IntKind.signed]
  simp only [Bool.true_and, decide_eq_true_eq, ge_iff_le]
  split <;> omega

section
variable {P : Program} {n : Nat} {ds : Md} {ops : Array Oper} {rest : List Oper} {K : Fr → World → Prop} {f : Fr} {Dq : Nat → Prop} {w w0 : World} {T T' T0 : TypeId} {pos : String} {aft : Array Edge} {g : Option (Nat × Bool)} {d : Nat} {L : List Item}

theorem O.eqlNil {x y : Operand} {E : TypeId} {a : Option Addr} {len cap : Nat} (hT : P.underlying T = some (.slice E)) (hg : want ops g f = true) (hd : Nat.blt d n = true) (hx : ev f x = .slice a len cap) (hy : ev f y = .slice none 0 0)
    (h : WL P n ds ops rest K (upd f d (.bool a.isNone)) w) : WL P n ds ops (⟨some d, .binOp .eql T x y T', T0, pos, aft, g⟩ :: rest) K f w :=
  WL.val hg hd (by
    simp only [execOp, eqGuard, hx, hy]
    simp [binOp, Op.equal, Op.maxDepth, Lib.run_equalIn_slice_nil w 9999 T E a len cap 0 0 hT]) h
theorem O.neqNil {x y : Operand} {E : TypeId} {a : Option Addr} {len cap : Nat} (hT : P.underlying T = some (.slice E)) (hg : want ops g f = true) (hd : Nat.blt d n = true) (hx : ev f x = .slice a len cap) (hy : ev f y = .slice none 0 0)
    (h : WL P n ds ops rest K (upd f d (.bool (!a.isNone))) w) : WL P n ds ops (⟨some d, .binOp .neq T x y T', T0, pos, aft, g⟩ :: rest) K f w :=
  WL.val hg hd (by
    simp only [execOp, eqGuard, hx, hy]
    simp [binOp, Op.equal, Op.maxDepth, Lib.run_equalIn_slice_nil w 9999 T E a len cap 0 0 hT]) h

/-! A slice read as an element. -/
/-! Parts of slices. -/
def cutI {α : Type} (xs : List α) (lo hi : Int) : Option (List α) := if 0 ≤ lo ∧ lo ≤ hi ∧ hi ≤ (xs.length : Int) then some ((xs.take hi.toNat).drop lo.toNat) else none
theorem cutI_some {α : Type} {xs ys : List α} {lo hi : Int} (h : cutI xs lo hi = some ys) : 0 ≤ lo ∧ lo ≤ hi ∧ hi ≤ (xs.length : Int) ∧ ys = (xs.take hi.toNat).drop lo.toNat := by
  unfold cutI at h
  split at h
  · rename_i hl; exact ⟨hl.1, hl.2.1, hl.2.2, (Option.some.inj h).symm⟩
  · cases h
theorem sliced_sliceR {α : Type} [Ty α] {v : Value} {xs ys : List α} {lo hi : Int} (hR : SliceR w v xs) (h : cutI xs lo hi = some ys) :
    ∃ a len cap, v = .slice a len cap ∧ xs.length = len ∧ len ≤ cap ∧ SliceR w (sliced a lo.toNat hi.toNat cap (Ty.size α)) ys := by
  obtain ⟨h0, h1, h2, rfl⟩ := cutI_some h
  obtain ⟨hm, ⟨rfl, rfl⟩ | ⟨a, cap, rfl, h3, h4, h5⟩⟩ := hR
  · simp only [List.length_nil, Int.natCast_zero] at h2
    have e1 : lo.toNat = 0 := by omega
    have e2 : hi.toNat = 0 := by omega
    refine ⟨none, 0, 0, rfl, rfl, Nat.le_refl _, ?_⟩
    rw [e1, e2]
    exact SliceR.nil
  · have e3 : ((xs.take hi.toNat).drop lo.toNat).length = hi.toNat - lo.toNat := by rw [List.length_drop, List.length_take]; omega
    refine ⟨some a, xs.length, cap, rfl, rfl, h3, ?_, .inr ?_⟩
    · rw [e3]; omega
    · by_cases hcap : cap = lo.toNat
      · refine ⟨a, cap - lo.toNat, ?_, by rw [e3]; omega, by omega, fun i x hi' => ?_⟩
        · unfold sliced; rw [if_pos hcap, e3]
        · have := (List.getElem?_eq_some_iff.1 hi').1
          omega
      · refine ⟨a.add (lo.toNat * Ty.size α), cap - lo.toNat, ?_, by rw [e3]; omega, by omega, fun i x hi' => ?_⟩
        · unfold sliced; rw [if_neg hcap, e3]; rfl
        · have hl := (List.getElem?_eq_some_iff.1 hi').1
          rw [e3] at hl
          rw [List.getElem?_drop, List.getElem?_take, if_pos (by omega)] at hi'
          have := h5 _ _ hi'
          rwa [Nat.add_mul, ← addr_add_add] at this
theorem elem_of {E : TypeId} (hT : P.underlying T = some (.slice E)) : P.elem T = E := by simp [Program.elem, hT]
/-! Shifts and bits. -/
theorem O.shl {yk : IntKind} {x y : Operand} {a b c : Int} (hg : want ops g f = true) (hd : Nat.blt d n = true) (hx : ev f x = .int .i64 a) (hy : ev f y = .int yk b) (hc : shlI a b = some c)
    (h : WL P n ds ops rest K (upd f d (.int .i64 c)) w) : WL P n ds ops (⟨some d, .binOp .shl T x y T', T0, pos, aft, g⟩ :: rest) K f w := by
  obtain ⟨h0, h1, h2, rfl⟩ := shlI_some hc
  refine WL.val hg hd ?_ h
  have hw : IntKind.i64.wrap (a * 2 ^ b.toNat) = a * 2 ^ b.toNat := wrap_inI h2
  simp only [execOp, eqGuard, hx, hy, binOp_shl, shift_shl .i64 yk a b h0 h1, hw, Sem.run_bind, Sem.run_pure]
  rfl
theorem O.shr {yk : IntKind} {x y : Operand} {a b c : Int} (hg : want ops g f = true) (hd : Nat.blt d n = true) (hx : ev f x = .int .i64 a) (hy : ev f y = .int yk b) (hc : shrI a b = some c)
    (h : WL P n ds ops rest K (upd f d (.int .i64 c)) w) : WL P n ds ops (⟨some d, .binOp .shr T x y T', T0, pos, aft, g⟩ :: rest) K f w := by
  obtain ⟨h0, h1, rfl⟩ := shrI_some hc
  refine WL.val hg hd ?_ h
  simp only [execOp, eqGuard, hx, hy, binOp_shr, shift_shr .i64 yk a b h0 h1, Sem.run_bind, Sem.run_pure]
  rfl
theorem O.and {k : IntKind} {x y : Operand} {a b : Int} (hg : want ops g f = true) (hd : Nat.blt d n = true) (hx : ev f x = .int k a) (hy : ev f y = .int k b)
    (h : WL P n ds ops rest K (upd f d (.int k (bits .and k a b))) w) : WL P n ds ops (⟨some d, .binOp .and T x y T', T0, pos, aft, g⟩ :: rest) K f w :=
  WL.val hg hd (by simp only [execOp, eqGuard, hx, hy, binOp_and, intBits_and, Sem.run_bind, Sem.run_pure]; rfl) h
theorem O.or {k : IntKind} {x y : Operand} {a b : Int} (hg : want ops g f = true) (hd : Nat.blt d n = true) (hx : ev f x = .int k a) (hy : ev f y = .int k b)
    (h : WL P n ds ops rest K (upd f d (.int k (bits .or k a b))) w) : WL P n ds ops (⟨some d, .binOp .or T x y T', T0, pos, aft, g⟩ :: rest) K f w :=
  WL.val hg hd (by simp only [execOp, eqGuard, hx, hy, binOp_or, intBits_or, Sem.run_bind, Sem.run_pure]; rfl) h
theorem O.xor {k : IntKind} {x y : Operand} {a b : Int} (hg : want ops g f = true) (hd : Nat.blt d n = true) (hx : ev f x = .int k a) (hy : ev f y = .int k b)
    (h : WL P n ds ops rest K (upd f d (.int k (bits .xor k a b))) w) : WL P n ds ops (⟨some d, .binOp .xor T x y T', T0, pos, aft, g⟩ :: rest) K f w :=
  WL.val hg hd (by simp only [execOp, eqGuard, hx, hy, binOp_xor, intBits_xor, Sem.run_bind, Sem.run_pure]; rfl) h
theorem O.andNot {k : IntKind} {x y : Operand} {a b : Int} (hg : want ops g f = true) (hd : Nat.blt d n = true) (hx : ev f x = .int k a) (hy : ev f y = .int k b)
    (h : WL P n ds ops rest K (upd f d (.int k (bits .andNot k a b))) w) : WL P n ds ops (⟨some d, .binOp .andNot T x y T', T0, pos, aft, g⟩ :: rest) K f w :=
  WL.val hg hd (by simp only [execOp, eqGuard, hx, hy, binOp_andNot, intBits_andNot, Sem.run_bind, Sem.run_pure]; rfl) h

theorem take_splice {α : Type} (c vs : List α) (m n : Nat) (h : m + vs.length ≤ n) (hn : n ≤ c.length) :
    (c.take m ++ vs ++ c.drop (m + vs.length)).take n = (c.take n).take m ++ vs ++ (c.take n).drop (m + vs.length) := by
  rw [List.take_append, List.take_append, List.take_of_length_le (l := c.take m) (by rw [List.length_take]; omega), List.take_of_length_le (l := vs) (by rw [List.length_take]; omega),
    List.take_take, Nat.min_eq_left (by omega), List.drop_take, List.length_append, List.length_take, Nat.min_eq_left (by omega)]

/-! Elements of a slice that the call owns: their addresses; stores. -/
theorem flat_set {α : Type} [Flat α] : ∀ (xs : List α) (i : Nat) (x y : α) (o : Nat) (vs : List Value), xs[i]? = some x → o + vs.length ≤ Flat.size α → (Flat.cells x).take o ++ vs ++ (Flat.cells x).drop (o + vs.length) = Flat.cells y →
    (xs.set i y).flatMap Flat.cells = (xs.flatMap Flat.cells).take (i * Flat.size α + o) ++ vs ++ (xs.flatMap Flat.cells).drop (i * Flat.size α + o + vs.length)
  | [], i, x, y, o, vs, h, _, _ => by simp at h
  | z :: xs, 0, x, y, o, vs, h, ho, he => by
    simp only [List.getElem?_cons_zero, Option.some.injEq] at h
    subst h
    have hl : (Flat.cells z).length = Flat.size α := Flat.len z
    rw [List.set_cons_zero, List.flatMap_cons, List.flatMap_cons, ← he, Nat.zero_mul, Nat.zero_add, List.take_append_of_le_length (by omega), List.drop_append_of_le_length (by omega)]
    simp [List.append_assoc]
  | z :: xs, i + 1, x, y, o, vs, h, ho, he => by
    simp only [List.getElem?_cons_succ] at h
    have hl : (Flat.cells z).length = Flat.size α := Flat.len z
    have ih := flat_set xs i x y o vs h ho he
    rw [List.set_cons_succ, List.flatMap_cons, List.flatMap_cons, ih]
    have e1 : (i + 1) * Flat.size α + o = (Flat.cells z).length + (i * Flat.size α + o) := by rw [hl, Nat.succ_mul]; omega
    rw [e1, List.take_length_add_append, Nat.add_assoc (Flat.cells z).length, List.drop_length_add_append]
    simp [List.append_assoc]
theorem O.indexOwn {α : Type} [Flat α] {s ix : Operand} {v : Value} {xs : List α} {i : Int} {x : α} {E : TypeId} (k : Nat) (hT : P.underlying T = some (.slice E)) (hE : SizeT P E (Flat.size α)) (H : InvD Dq w0 w L) (hk : L[k]? = some (ownI v E xs))
    (hi : idx xs i = some x) (hg : want ops g f = true) (hd : Nat.blt d n = true) (hs : ev f s = v) (hx : ev f ix = .int .i64 i)
    (h : ∀ b, v.ownBlock = some b → ElemAt w ⟨b, i.toNat * Flat.size α, none⟩ x → WL P n ds ops rest K (upd f d (.pointer (some ⟨b, i.toNat * Flat.size α, none⟩))) w) :
    WL P n ds ops (⟨some d, .indexAddr T s ix, T0, pos, aft, g⟩ :: rest) K f w := by
  have hown : w.ownsRow 0 E (Flat.size α) v xs.length (xs.flatMap Flat.cells) := (H.items _ (List.mem_of_getElem? hk)).1
  have hR : SliceR w v xs := ownsRow_sliceR hown
  obtain ⟨h0, h1, h2⟩ := idx_some hi
  obtain ⟨_, ⟨rfl, h3⟩ | ⟨gb, cap, cur, rfl, _⟩⟩ := hown
  · exfalso; omega
  · have hel : ElemAt w ⟨gb, i.toNat * Flat.size α, none⟩ x := by
      obtain ⟨_, ⟨h4, _⟩ | ⟨a, cap', h4, _, _, h5⟩⟩ := hR
      · cases h4
      · cases h4
        have := h5 _ _ h2
        rw [Addr.add_lit, Nat.zero_add] at this
        exact this
    refine WL.val hg hd ?_ (h gb rfl hel)
    simp only [execOp, hs, hx, Instr.indexAt, asIntOf, Sem.run_bind, Sem.run_pure, Result.andThen_ok, run_underlying hT, h0, h1, and_self, if_true, run_sizeOf' hE, Addr.add_lit, Nat.zero_add]
theorem O.storeOwn {α : Type} [Flat α] {p x : Operand} {v0 v : Value} {xs : List α} {i0 : Int} {x0 : α} {b m : Nat} {E : TypeId} {q : Addr} (k o : Nat) (y : α) (vs : List Value) (hT : SizeT P T m) (H : InvD Dq w0 w L) (hk : L[k]? = some (ownI v0 E xs))
    (hb : v0.ownBlock = some b) (hi : idx xs i0 = some x0) (hg : want ops g f = true) (hp : ev f p = .pointer (some q)) (hq : q = Addr.add ⟨b, i0.toNat * Flat.size α, none⟩ o) (hx : ev f x = v) (hv : v.cells = vs.toArray) (hlen : vs.length = m)
    (hle : Nat.ble (o + vs.length) (Flat.size α) = true) (hnew : (Flat.cells x0).take o ++ vs ++ (Flat.cells x0).drop (o + vs.length) = Flat.cells y) (hone : ∀ u ∈ vs, u.oneCell' = true)
    (h : ∀ w', InvD Dq w0 w' (L.set k (ownI v0 E (xs.set i0.toNat y))) → WL P n ds ops rest K f w') : WL P n ds ops (⟨none, .store T p x, T0, pos, aft, g⟩ :: rest) K f w := by
  subst hlen
  have hle := Nat.le_of_ble_eq_true hle
  obtain ⟨h0, h1, h2⟩ := idx_some hi
  have hlt : i0.toNat < xs.length := by omega
  have hqq : q = ⟨b, i0.toNat * Flat.size α + o, none⟩ := by rw [hq, Addr.add_lit]
  subst hqq
  have hown : w.ownsRow 0 E (Flat.size α) v0 xs.length (xs.flatMap Flat.cells) := (H.items _ (List.mem_of_getElem? hk)).1
  obtain ⟨_, ⟨rfl, h3⟩ | ⟨gb, cap, cur, rfl, hgb, hh, hn, hm, hcs, ht⟩⟩ := hown
  · exfalso; omega
  · obtain rfl : gb = b := Option.some.inj hb
    have hmul : (i0.toNat + 1) * Flat.size α ≤ xs.length * Flat.size α := Nat.mul_le_mul_right _ hlt
    have hmul2 : xs.length * Flat.size α ≤ cap * Flat.size α := Nat.mul_le_mul_right _ hn
    rw [Nat.succ_mul] at hmul
    have hcl : cur.toList.length = cap * Flat.size α := by simpa using hcs
    have hh' : w.heap[gb]? = some (.cells cur.toList.toArray E (0, 0)) := by simpa using hh
    obtain ⟨w', h4, h5, h6⟩ := run_storeVar (P := P) hT hv hh' (o := i0.toNat * Flat.size α + o) (by omega) hone rfl
    refine WL.eff hg rfl (w' := w') ?_ (h w' (H.upd k _ _ hk ?_ ?_ ?_))
    · simp only [execOp, hp, hx, Instr.storeAt, Instr.sureAddr, Sem.run_bind, Sem.run_pure, Result.andThen_ok, h4]
    · exact ⟨h5.os, h5.tape, h5.output, h5.size, fun k hk hf => h5.block k hk (fun e => hf (by subst e; rfl))⟩
    · have hf := flat_set xs i0.toNat x0 y o vs h2 hle hnew
      refine ⟨by rw [List.length_set, flat_length, List.length_set], .inr ⟨gb, cap, _, ?_, Nat.zero_le _, h6, ?_, hm, ?_, ?_⟩⟩
      · rw [List.length_set]
      · rw [List.length_set]; exact hn
      · simp only [List.size_toArray, List.length_append, List.length_take, List.length_drop]
        rw [Nat.min_eq_left (by omega)]
        omega
      · rw [List.length_set, hf, ← ht]
        simp only
        exact take_splice _ _ _ _ (by omega) (by omega)
    · intro b' hf
      have : gb = b' := Option.some.inj hf
      subst this
      exact ⟨(Array.getElem?_eq_some_iff.1 h6).1, .inl rfl⟩
end
end Go.Fw
