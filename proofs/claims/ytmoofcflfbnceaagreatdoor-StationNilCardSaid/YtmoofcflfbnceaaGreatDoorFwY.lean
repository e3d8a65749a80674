/-
  THE FRAMEWORK, PART Y: strings.Builder, as a box of two cells and a slice of bytes that the call owns. No program in it.
-/
import Derived.Test.YtmoofcflfbnceaaGreatDoorFwX
import Derived.Shelf.Strings.Builder1
namespace Go.Fw
open Go.RowKit
theorem c_ItoaZ {P : Program} {ρ : Go.Shelf.Ren} (L : Go.Proofs.LaysM.n171 P ρ) {w0 : World} (hT : TabH P w0) (a : Int) (h0 : -9223372036854775808 ≤ a) (h1 : a ≤ 9223372036854775807) :
    Calls P (ρ.f 171) #[.int .i64 a] w0 (Ret w0 fun _ v => v = .string ⟨(Lib.itoa a).toArray⟩) := by
  refine (Go.Proofs.Any.strconv_Itoa L a h0 h1 w0 hT).mono ?_
  rintro e w' ⟨rfl, k, os, rfl⟩
  exact ⟨_, rfl, below_grown _ _ _, rfl⟩
theorem bytes_flat (xs : List UInt8) : xs.flatMap Flat.cells = Lib.byteCells xs := by
  induction xs with
  | nil => rfl
  | cons a xs ih => rw [List.flatMap_cons, ih]; rfl
theorem owns_base {w : World} {B E n k : Nat} {v : Value} {xs : List Value} (h : w.ownsRow B E k v n xs) : w.ownsRow 0 E k v n xs := by
  refine ⟨h.1, ?_⟩
  rcases h.2 with h2 | ⟨g, cap, cur, h1, h2, h3⟩
  · exact .inl h2
  · exact .inr ⟨g, cap, cur, h1, Nat.zero_le _, h3⟩
section
variable {w0 w : World} {L : List Item}
theorem isBuilder_of (H : Inv w0 w L) {b : Nat} {T E : TypeId} {p v : Value} {xs : List UInt8} (i j : Nat) (hi : L[i]? = some (boxI b T [p, v])) (hj : L[j]? = some (ownI v E xs)) (hij : i < j) (hp : p = .pointer none ∨ p = .pointer (some ⟨b, 0, none⟩)) :
    Lib.IsBuilder T E w0.heap.size b (Lib.byteCells xs) w := by
  have h1 := H.items _ (List.mem_of_getElem? hi)
  have hb : w0.heap.size ≤ b := ((h1.2 b rfl).1).resolve_right id
  have hrow : OwnR w0 w v E xs := H.ownR j hj
  have hne : v.ownBlock ≠ some b := by
    intro e
    obtain ⟨hi1, hi2⟩ := List.getElem?_eq_some_iff.1 hi
    obtain ⟨hj1, hj2⟩ := List.getElem?_eq_some_iff.1 hj
    have := List.pairwise_iff_getElem.1 H.apart i j hi1 hj1 hij b
    rw [hi2, hj2] at this
    exact this rfl e
  have hat : ∀ q, q = p → Lib.BuilderAt T E w0.heap.size b q (Lib.byteCells xs) w := by
    rintro q rfl
    refine ⟨hb, v, h1.1, ?_, hne⟩
    unfold OwnR at hrow
    rw [bytes_flat] at hrow
    rw [Lib.byteCells_length]
    exact hrow
  rcases hp with rfl | rfl
  · exact .inl (hat _ rfl)
  · exact .inr (hat _ rfl)
theorem builder_inv (H : Inv w0 w L) {w' : World} {b : Nat} {T E : TypeId} {p : Value} {xs : List UInt8} (hb : Lib.BuilderAt T E w0.heap.size b p (Lib.byteCells xs) w') (hbl : Below w0.heap.size w w') : ∃ v, Inv w0 w' [boxI b T [p, v], ownI v E xs] := by
  obtain ⟨h1, v, h2, h3, h4⟩ := hb
  have hbase : Below w0.heap.size w0 w' := ⟨hbl.os.trans H.base.os, hbl.tape.trans H.base.tape, hbl.output.trans H.base.output, Nat.le_trans H.base.size hbl.size, fun k hk => (hbl.block k hk).trans (H.base.block k hk)⟩
  rw [Lib.byteCells_length] at h3
  refine ⟨v, ⟨⟨hbase.os, hbase.tape, hbase.output, hbase.size, fun k hk _ => hbase.block k hk⟩, ?_, ?_⟩⟩
  · intro it hit
    rcases List.mem_cons.1 hit with rfl | hit
    · exact ⟨h2, fun x hx => by
        obtain rfl : x = b := hx
        exact ⟨.inl h1, (Array.getElem?_eq_some_iff.1 h2).1⟩⟩
    · obtain rfl := List.mem_singleton.1 hit
      refine ⟨?_, fun x hx => ?_⟩
      · show w'.ownsRow 0 E (Flat.size UInt8) v xs.length (xs.flatMap Flat.cells)
        rw [bytes_flat]
        exact owns_base h3
      · rcases h3.2 with ⟨rfl, _⟩ | ⟨g, cap, cur, rfl, hg, hh, _⟩
        · cases hx
        · have : x = g := by
            have hx' : some g = some x := hx
            exact (Option.some.inj hx').symm
          subst this
          exact ⟨.inl hg, (Array.getElem?_eq_some_iff.1 hh).1⟩
  · refine List.pairwise_cons.2 ⟨fun it hit x hx hf => ?_, List.pairwise_singleton _ _⟩
    obtain rfl := List.mem_singleton.1 hit
    obtain rfl : x = b := hx
    exact h4 hf
end
section
variable {P : Program} {n : Nat} {ds : Md} {ops : Array Oper} {rest : List Oper} {K : Fr → World → Prop} {f : Fr} {w w0 : World} {L : List Item} {T0 : TypeId} {pos : String} {aft : Array Edge} {g : Option (Nat × Bool)} {d : Nat}
structure BuilderOk (P : Program) (kw ks : FuncId) (T E : TypeId) : Prop where
  write : ∀ (B b : Nat) (bs : List Value) (s : ByteArray) (w : World), Lib.IsBuilder T E B b bs w → bs.length + s.size ≤ 140737488355328 → B ≤ w.heap.size →
    Calls P kw #[.pointer (some ⟨b, 0, none⟩), .string s] w fun e w' => e = .returned (.tuple #[.int .i64 s.size, .nilIface]) ∧ (Lib.BuilderAt T E B b (.pointer (some ⟨b, 0, none⟩)) (bs ++ Lib.strCells s) w' ∧ Below B w w')
  str : ∀ (B b : Nat) (l : List UInt8) (w : World), Lib.IsBuilder T E B b (Lib.byteCells l) w → B ≤ w.heap.size → Calls P ks #[.pointer (some ⟨b, 0, none⟩)] w fun e w' => e = .returned (.string ⟨l.toArray⟩) ∧ Below B w w'
theorem builderOk {ρ1 ρ2 : Go.Shelf.Ren} (L1 : Go.Proofs.Lays.n166 P ρ1) (X1 : Go.Proofs.Builder.Extra P ρ1) (L2 : Go.Proofs.Lays.n169 P ρ2) (X2 : Go.Proofs.Builder.Extra P ρ2) (h72 : ρ2.t 72 = ρ1.t 72) (h5 : ρ2.t 5 = ρ1.t 5) : BuilderOk P (ρ1.f 166) (ρ2.f 169) (ρ1.t 72) (ρ1.t 5) :=
  ⟨fun B b bs s w h h1 h2 => Go.Proofs.Any.Builder_WriteString L1 X1 B b bs s w h h1 h2, fun B b l w h h1 => Go.Proofs.Any.Builder_String_any L2 X2 B b l w (by rw [h72, h5]; exact h) h1⟩
def wU (a : Int) : Int := IntKind.u64.wrap a
theorem O.writeS {kw ks : FuncId} {T E : TypeId} {x y : Operand} {at_ : Array TypeId} {b : Nat} {p v : Value} {xs : List UInt8} {s : ByteArray} (i j : Nat) (hB : BuilderOk P kw ks T E) (H : Inv w0 w L) (hi : L[i]? = some (boxI b T [p, v])) (hj : L[j]? = some (ownI v E xs)) (hij : i < j)
    (hp : p = .pointer none ∨ p = .pointer (some ⟨b, 0, none⟩)) (hlen : xs.length + s.size ≤ 1099511627776) (hcb : Callable P kw) (hg : want ops g f = true) (hd : Nat.blt d n = true) (hx : ev f x = .pointer (some ⟨b, 0, none⟩)) (hy : ev f y = .string s)
    (h : ∀ v' w', Inv w0 w' [boxI b T [.pointer (some ⟨b, 0, none⟩), v'], ownI v' E (xs ++ bytes s)] → WL P n ds ops rest K (upd f d (.tuple #[.int .i64 s.size, .nilIface])) w') :
    WL P n ds ops (⟨some d, .call ⟨.value (.func kw), #[x, y], at_⟩, T0, pos, aft, g⟩ :: rest) K f w := by
  have hbld := isBuilder_of H i j hi hj hij hp
  refine WL.enter hg hd (k := kw) (args := #[.pointer (some ⟨b, 0, none⟩), .string s]) ?_ ((hB.write _ b _ s w hbld (by rw [Lib.byteCells_length]; omega) H.base.size).mono ?_)
  · simp only [execOp, resolve, ev, Deferred.ofValue, List.map_toArray, Sem.run_bind, Sem.run_pure, Result.andThen_ok, invoke]
    simpa [hx, hy] using hcb _ _
  · rintro e w' ⟨rfl, h1, h2⟩
    rw [Lib.strCells_eq, show Lib.byteCells xs ++ Lib.byteCells s.data.toList = Lib.byteCells (xs ++ bytes s) by simp [Lib.byteCells, bytes]] at h1
    obtain ⟨v', hI⟩ := builder_inv H h1 h2
    exact ⟨_, rfl, h v' w' hI⟩
theorem O.strS {kw ks : FuncId} {T E : TypeId} {x : Operand} {at_ : Array TypeId} {b : Nat} {p v : Value} {xs : List UInt8} (i j : Nat) (hB : BuilderOk P kw ks T E) (H : Inv w0 w L) (hi : L[i]? = some (boxI b T [p, v])) (hj : L[j]? = some (ownI v E xs)) (hij : i < j)
    (hp : p = .pointer none ∨ p = .pointer (some ⟨b, 0, none⟩)) (hcb : Callable P ks) (hg : want ops g f = true) (hd : Nat.blt d n = true) (hx : ev f x = .pointer (some ⟨b, 0, none⟩))
    (h : ∀ w', Inv w0 w' [] → WL P n ds ops rest K (upd f d (.string ⟨xs.toArray⟩)) w') :
    WL P n ds ops (⟨some d, .call ⟨.value (.func ks), #[x], at_⟩, T0, pos, aft, g⟩ :: rest) K f w := by
  have hbld := isBuilder_of H i j hi hj hij hp
  refine WL.enter hg hd (k := ks) (args := #[.pointer (some ⟨b, 0, none⟩)]) ?_ ((hB.str _ b _ w hbld H.base.size).mono ?_)
  · simp only [execOp, resolve, ev, Deferred.ofValue, List.map_toArray, Sem.run_bind, Sem.run_pure, Result.andThen_ok, invoke]
    simpa [hx] using hcb _ _
  · rintro e w' ⟨rfl, hbl⟩
    have hbase : Below w0.heap.size w0 w' := ⟨hbl.os.trans H.base.os, hbl.tape.trans H.base.tape, hbl.output.trans H.base.output, Nat.le_trans H.base.size hbl.size, fun k hk => (hbl.block k hk).trans (H.base.block k hk)⟩
    exact ⟨_, rfl, h w' ⟨⟨hbase.os, hbase.tape, hbase.output, hbase.size, fun k hk _ => hbase.block k hk⟩, by simp, List.Pairwise.nil⟩⟩
end
end Go.Fw
