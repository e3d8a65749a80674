/-
  THE FRAMEWORK, PART Z: strings.Cut, strings.Split, strings.HasPrefix, strconv.Atoi. No program in it.
-/
import Derived.Test.YtijjocfjgpibjaaDoorFwY
import Derived.Shelf.Strconv.AtoiAll
import Derived.Shelf.Strings.Prefix
import Derived.Shelf.Strings.Split
import Derived.Shelf.Strings.Cut
namespace Go.Fw
open Go.RowKit
theorem cell_below {w w' : World} (hb : Below w.heap.size w w') {p : Addr} {v : Value} (h : w.cell? p = some v) : w'.cell? p = some v := by
  unfold World.cell? at *
  cases hc : w.heap[p.block]? with
  | none => rw [hc] at h; cases h
  | some o => rw [hb.block p.block (heap_lt hc)]; exact h
/-- What the library's functions of texts ask of the world. -/
structure EnvH (P : Program) (ml es er : Nat) (w : World) : Prop where
  tab : TabH P w
  most : ∃ m, w.cell? ⟨ml, 0, none⟩ = some (.int .i64 m)
  syn : ∃ v, w.cell? ⟨es, 0, none⟩ = some v ∧ (v = .nilIface ∨ ∃ te pe, v = .iface te pe)
  rng : ∃ v, w.cell? ⟨er, 0, none⟩ = some v ∧ (v = .nilIface ∨ ∃ te pe, v = .iface te pe)
theorem EnvH.mono {P : Program} {ml es er : Nat} {w w' : World} (h : EnvH P ml es er w) (hb : Below w.heap.size w w') : EnvH P ml es er w' := by
  obtain ⟨h1, ⟨m, h2⟩, ⟨v, h3, h4⟩, ⟨u, h5, h6⟩⟩ := h
  exact ⟨h1.mono hb, ⟨m, cell_below hb h2⟩, ⟨v, cell_below hb h3, h4⟩, ⟨u, cell_below hb h5, h6⟩⟩
def atoiV (s : ByteArray) : Int := match Lib.atoiAll s.data.toList with | .ok v => v | .range => Lib.atoiSat s.data.toList | _ => 0
theorem c_Atoi {P : Program} {ρ : Go.Shelf.Ren} (L : Go.Proofs.LaysC.n172 P ρ) {w0 : World} {ml : Nat} (hT : EnvH P ml (ρ.g 15) (ρ.g 16) w0) (s : ByteArray) (hs : s.size ≤ 1099511627776) :
    Calls P (ρ.f 172) #[.string s] w0 (Ret w0 fun _ v => ∃ e, v = .tuple #[.int .i64 (atoiV s), e]) := by
  obtain ⟨_, _, ⟨ev, h3, h4⟩, ⟨er, h5, h6⟩⟩ := hT
  cases h : Lib.atoiAll s.data.toList with
  | ok v =>
    refine (Go.Proofs.Any.strconv_Atoi_ok L s (by omega) v h w0).mono ?_
    rintro e w' ⟨rfl, hw⟩
    refine ⟨_, rfl, ?_, _, by rw [atoiV, h]⟩
    rcases hw with rfl | ⟨t, rfl⟩
    · exact Below.refl _ _
    · exact Lib.bytesWorld_below _ _ _
  | range =>
    refine (Go.Proofs.Any.strconv_Atoi_range L s (by omega) h er w0 h5 h6).mono ?_
    rintro e w' ⟨N, rfl, _, _, hb⟩
    exact ⟨_, rfl, hb, _, by rw [atoiV, h]⟩
  | _ =>
    refine (Go.Proofs.Any.strconv_Atoi_syntax L s (by omega) h ev w0 h3 h4).mono ?_
    rintro e w' ⟨N, rfl, _, _, hb⟩
    exact ⟨_, rfl, hb, _, by rw [atoiV, h]⟩
theorem c_Pref {P : Program} {ρ : Go.Shelf.Ren} (L : Go.Proofs.Lays.n99 P ρ) {w0 : World} (s p : ByteArray) :
    Calls P (ρ.f 99) #[.string s, .string p] w0 (Ret w0 fun _ v => v = .bool (Lib.hasPrefix (bytes s) (bytes p))) := by
  refine (Go.Proofs.Any.strings_HasPrefix L s p w0).mono ?_
  rintro e w' ⟨rfl, rfl⟩
  exact ⟨_, rfl, Below.refl _ _, rfl⟩
theorem c_Cut {P : Program} {ρ : Go.Shelf.Ren} (L : Go.Proofs.Lays.n145 P ρ) {w0 : World} {es er : Nat} (hT : EnvH P (ρ.g 1) es er w0) (s sep : ByteArray) (hs : s.size < 4294967281) :
    Calls P (ρ.f 145) #[.string s, .string sep] w0 (Ret w0 fun _ v => v = .tuple #[.string ⟨(Lib.cut (bytes s) (bytes sep)).1.toArray⟩, .string ⟨(Lib.cut (bytes s) (bytes sep)).2.1.toArray⟩, .bool (Lib.cut (bytes s) (bytes sep)).2.2]) := by
  obtain ⟨m, hm⟩ := hT.most
  refine (Go.Proofs.Any.strings_Cut L s sep m w0 hs hm).mono ?_
  rintro e w' ⟨rfl, k, rfl⟩
  exact ⟨_, rfl, ⟨rfl, rfl, rfl, Nat.le_refl _, fun _ _ => rfl⟩, rfl⟩
theorem c_Split {P : Program} {ρ : Go.Shelf.Ren} (L : Go.Proofs.LaysM.n146 P ρ) {w0 : World} {es er : Nat} (hT : EnvH P (ρ.g 1) es er w0) (s sep : ByteArray) (hs : s.size < 4294967281) (h1 : 1 ≤ sep.size) :
    Calls P (ρ.f 146) #[.string s, .string sep] w0 (Ret w0 fun w v => SliceR w v (Lib.splitB sep 0 (Lib.countB s sep) s)) := by
  obtain ⟨m, hm⟩ := hT.most
  have hle := Lib.countB_le sep h1 s.size s (Nat.le_refl _)
  have hlen := Lib.splitB_all sep h1 0 _ s rfl
  refine (Go.Proofs.Any.strings_Split { L with } L.i9 s sep m w0 hs hm h1).mono ?_
  rintro e w' ⟨rfl, rfl⟩
  refine ⟨_, rfl, below_alloc _ _, ?_⟩
  have hc : Lib.countB s sep + 1 ≤ maxLen := by unfold maxLen; omega
  refine ⟨by rw [hlen]; exact hc, .inr ⟨_, _, by rw [hlen], by rw [hlen]; exact Nat.le_refl _, hc, fun i x hi => ?_⟩⟩
  rw [Addr.add_lit]
  refine ⟨rfl, Flat.cells x, rfl, fun j c hj => ?_⟩
  have hj0 : j = 0 ∧ c = .string x := by
    cases j with
    | zero => simp [Flat.cells] at hj; exact ⟨rfl, hj.symm⟩
    | succ j => simp [Flat.cells] at hj
  obtain ⟨rfl, rfl⟩ := hj0
  rw [Addr.add_lit]
  have hnew := alloc_at w0 (Obj.cells ((Lib.splitB sep 0 (Lib.countB s sep) s).map Value.string).toArray (ρ.t 9))
  have hsz : Ty.size ByteArray = 1 := rfl
  simp only [World.cell?, hnew, hsz, Nat.mul_one, Nat.zero_add, Nat.add_zero]
  simp [hi]
theorem c_SplitO {P : Program} {ρ : Go.Shelf.Ren} (L : Go.Proofs.LaysM.n146 P ρ) {w0 : World} {es er : Nat} (hT : EnvH P (ρ.g 1) es er w0) (s sep : ByteArray) (hs : s.size < 4294967281) (h1 : 1 ≤ sep.size) :
    Calls P (ρ.f 146) #[.string s, .string sep] w0 (Ret w0 fun w v => OwnR w0 w v (ρ.t 9) (Lib.splitB sep 0 (Lib.countB s sep) s)) := by
  obtain ⟨m, hm⟩ := hT.most
  have hle := Lib.countB_le sep h1 s.size s (Nat.le_refl _)
  have hlen := Lib.splitB_all sep h1 0 _ s rfl
  refine (Go.Proofs.Any.strings_Split { L with } L.i9 s sep m w0 hs hm h1).mono ?_
  rintro e w' ⟨rfl, rfl⟩
  refine ⟨_, rfl, below_alloc _ _, ?_⟩
  have hc : Lib.countB s sep + 1 ≤ maxLen := by unfold maxLen; omega
  have hfl : ∀ l : List ByteArray, l.flatMap Flat.cells = l.map Value.string := by
    intro l
    induction l with
    | nil => rfl
    | cons a l ih => rw [List.flatMap_cons, ih]; rfl
  have hsz : Flat.size ByteArray = 1 := rfl
  have hnew := alloc_at w0 (Obj.cells ((Lib.splitB sep 0 (Lib.countB s sep) s).map Value.string).toArray (ρ.t 9))
  unfold OwnR
  rw [hfl, hsz]
  refine ⟨by rw [List.length_map, Nat.mul_one], .inr ⟨_, _, _, by rw [hlen], Nat.le_refl _, hnew, by rw [hlen]; exact Nat.le_refl _, hc, by rw [List.size_toArray, List.length_map, hlen, Nat.mul_one], ?_⟩⟩
  rw [List.take_of_length_le (by simp)]
/-! What these functions compute, where the world has room for it. -/
def cutSI (s sep : ByteArray) : Option (ByteArray × ByteArray × Bool) :=
  if s.size < 4294967281 then some (⟨(Lib.cut (bytes s) (bytes sep)).1.toArray⟩, ⟨(Lib.cut (bytes s) (bytes sep)).2.1.toArray⟩, (Lib.cut (bytes s) (bytes sep)).2.2) else none
def splitI (s sep : ByteArray) : Option (List ByteArray) := if s.size < 4294967281 ∧ 1 ≤ sep.size then some (Lib.splitB sep 0 (Lib.countB s sep) s) else none
def atoiI (s : ByteArray) : Option Int := if s.size ≤ 1099511627776 then some (atoiV s) else none
end Go.Fw
