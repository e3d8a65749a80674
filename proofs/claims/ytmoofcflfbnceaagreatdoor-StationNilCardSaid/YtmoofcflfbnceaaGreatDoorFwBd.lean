/-
  THE FRAMEWORK, PART BD: strings.Builder as one thing that the call owns: a box of two cells and a row of bytes. No program in it.
-/
import Derived.Test.YtmoofcflfbnceaaGreatDoorFwY
import Derived.Shelf.Strings.Builder2
namespace Go.Fw
open Go.RowKit
def bldI (b : Nat) (T : TypeId) (v : Value) (E : TypeId) (xs : List UInt8) : Item :=
  ⟨fun x => x = b ∨ v.ownBlock = some x, fun w => (∃ p, (p = .pointer none ∨ p = .pointer (some ⟨b, 0, none⟩)) ∧ (boxI b T [p, v]).ok w) ∧ (ownI v E xs).ok w ∧ v.ownBlock ≠ some b, fun w w' hg hs h => by
    obtain ⟨⟨p, h1, h2⟩, h3, h4⟩ := h
    exact ⟨⟨p, h1, (boxI b T [p, v]).loc w w' hg (fun x hx => hs x (.inl hx)) h2⟩, (ownI v E xs).loc w w' hg (fun x hx => hs x (.inr hx)) h3, h4⟩⟩
section
variable {w0 w : World} {L : List Item}
theorem InvD.bldStart {Dq : Nat → Prop} (H : InvD Dq w0 w L) (i : Nat) {b : Nat} {T : TypeId} (E : TypeId) (hi : L[i]? = some (boxI b T [.pointer none, .slice none 0 0])) : InvD Dq w0 w (L.set i (bldI b T (.slice none 0 0) E [])) :=
  H.weak i _ _ hi (fun x hx => hx.elim id fun h => by cases h) fun h => ⟨⟨_, .inl rfl, h⟩, ⟨by simp, .inl ⟨rfl, rfl⟩⟩, fun h => by cases h⟩
theorem bld_parts (H : Inv w0 w L) (i : Nat) {b : Nat} {T : TypeId} {v : Value} {E : TypeId} {xs : List UInt8} (hi : L[i]? = some (bldI b T v E xs)) : ∃ p, (p = .pointer none ∨ p = .pointer (some ⟨b, 0, none⟩)) ∧ Inv w0 w [boxI b T [p, v], ownI v E xs] := by
  obtain ⟨⟨⟨p, h1, h2⟩, h3, h4⟩, h5⟩ := H.items _ (List.mem_of_getElem? hi)
  refine ⟨p, h1, H.baseX, fun it hit => ?_, List.pairwise_cons.2 ⟨fun it hit x hx hf => ?_, List.pairwise_singleton _ _⟩⟩
  · rcases List.mem_cons.1 hit with rfl | hit
    · exact ⟨h2, fun x hx => h5 x (.inl hx)⟩
    · rw [List.mem_singleton.1 hit]
      exact ⟨h3, fun x hx => h5 x (.inr hx)⟩
  · rw [List.mem_singleton.1 hit] at hf
    have e : x = b := hx
    subst e
    exact h4 hf
theorem bld_whole {b : Nat} {T : TypeId} {p v : Value} {E : TypeId} {xs : List UInt8} (hp : p = .pointer none ∨ p = .pointer (some ⟨b, 0, none⟩)) (H : Inv w0 w [boxI b T [p, v], ownI v E xs]) : Inv w0 w [bldI b T v E xs] := by
  have h1 := H.items (boxI b T [p, v]) (by simp)
  have h2 := H.items (ownI v E xs) (by simp)
  have h3 := (List.pairwise_cons.1 H.apart).1 (ownI v E xs) (by simp)
  refine ⟨H.baseX, fun it hit => ?_, List.pairwise_singleton _ _⟩
  rw [List.mem_singleton.1 hit]
  exact ⟨⟨⟨p, hp, h1.1⟩, h2.1, fun h => h3 b rfl h⟩, fun x hx => hx.elim (h1.2 x) (h2.2 x)⟩
theorem Inv.gones (H : Inv w0 w L) (i k : Nat) : Inv w0 w (List.replicate i goneI ++ L ++ List.replicate k goneI) := by
  refine ⟨H.baseX, fun it hit => ?_, ?_⟩
  · rcases List.mem_append.1 hit with hit | hit
    · rcases List.mem_append.1 hit with hit | hit
      · rw [(List.mem_replicate.1 hit).2]; exact ⟨trivial, fun _ h => h.elim⟩
      · exact H.items it hit
    · rw [(List.mem_replicate.1 hit).2]; exact ⟨trivial, fun _ h => h.elim⟩
  · refine List.pairwise_append.2 ⟨List.pairwise_append.2 ⟨List.pairwise_replicate.2 (.inr fun _ h => h.elim), H.apart, fun x hx y _ b hb => ?_⟩, List.pairwise_replicate.2 (.inr fun _ h => h.elim), fun x _ y hy b _ hb => ?_⟩
    · rw [(List.mem_replicate.1 hx).2] at hb; exact hb.elim
    · rw [(List.mem_replicate.1 hy).2] at hb; exact hb.elim
end
section
variable {P : Program} {n : Nat} {ds : Md} {ops : Array Oper} {rest : List Oper} {K : Fr → World → Prop} {f : Fr} {w w0 : World} {L : List Item} {T0 : TypeId} {pos : String} {aft : Array Edge} {g : Option (Nat × Bool)} {d : Nat}
def addL' (xs : List UInt8) (s : ByteArray) : Option (List UInt8) := if xs.length + s.size ≤ 1099511627776 then some (xs ++ bytes s) else none
theorem O.writeB {kw ks : FuncId} {T E : TypeId} {x y : Operand} {at_ : Array TypeId} {b : Nat} {v : Value} {xs zs : List UInt8} {s : ByteArray} (i k : Nat) (hB : BuilderOk P kw ks T E) (H : Inv w0 w L) (hi : L[i]? = some (bldI b T v E xs)) (hz : addL' xs s = some zs)
    (hcb : Callable P kw) (hg : want ops g f = true) (hd : Nat.blt d n = true) (hx : ev f x = .pointer (some ⟨b, 0, none⟩)) (hy : ev f y = .string s)
    (h : ∀ v' w', Inv w0 w' (List.replicate i goneI ++ [bldI b T v' E zs] ++ List.replicate k goneI) → WL P n ds ops rest K (upd f d (.tuple #[.int .i64 s.size, .nilIface])) w') :
    WL P n ds ops (⟨some d, .call ⟨.value (.func kw), #[x, y], at_⟩, T0, pos, aft, g⟩ :: rest) K f w := by
  unfold addL' at hz
  split at hz
  case isFalse => cases hz
  rename_i hlen
  obtain rfl := Option.some.inj hz
  obtain ⟨p, hp, H2⟩ := bld_parts H i hi
  exact O.writeS 0 1 hB H2 rfl rfl (by omega) hp hlen hcb hg hd hx hy fun v' w' H' => h v' w' ((bld_whole (.inr rfl) H').gones i k)
theorem O.strB {kw ks : FuncId} {T E : TypeId} {x : Operand} {at_ : Array TypeId} {b : Nat} {v : Value} {xs : List UInt8} (i : Nat) (k : Nat) (hB : BuilderOk P kw ks T E) (H : Inv w0 w L) (hi : L[i]? = some (bldI b T v E xs)) (hcb : Callable P ks)
    (hg : want ops g f = true) (hd : Nat.blt d n = true) (hx : ev f x = .pointer (some ⟨b, 0, none⟩))
    (h : ∀ w', Inv w0 w' (List.replicate k goneI) → WL P n ds ops rest K (upd f d (.string ⟨xs.toArray⟩)) w') :
    WL P n ds ops (⟨some d, .call ⟨.value (.func ks), #[x], at_⟩, T0, pos, aft, g⟩ :: rest) K f w := by
  obtain ⟨p, hp, H2⟩ := bld_parts H i hi
  exact O.strS 0 1 hB H2 rfl rfl (by omega) hp hcb hg hd hx fun w' H' => h w' (by have := H'.gones k 0; simpa using this)
def GrowOk (P : Program) (kg : FuncId) (T E : TypeId) : Prop := ∀ (B b m : Nat) (w : World), B ≤ b → w.heap[b]? = some (.cells #[.pointer none, .slice none 0 0] T (0, 0)) → B ≤ w.heap.size → m ≤ 281474976710656 →
  Calls P kg #[.pointer (some ⟨b, 0, none⟩), .int .i64 m] w fun e w' => e = .returned (.tuple #[]) ∧ (Lib.BuilderAt T E B b (.pointer (some ⟨b, 0, none⟩)) [] w' ∧ Below B w w')
theorem growOk {ρ : Go.Shelf.Ren} (L : Go.Proofs.Lays.n165 P ρ) (X : Go.Proofs.Builder.Extra P ρ) : GrowOk P (ρ.f 165) (ρ.t 72) (ρ.t 5) :=
  fun B b m w h1 h2 h3 h4 => Go.Proofs.Any.Builder_Grow_fresh L X B b m w h1 h2 h3 h4
def growI (m : Int) : Option Unit := if 0 ≤ m ∧ m ≤ 281474976710656 then some () else none
theorem O.growB {kg : FuncId} {T E : TypeId} {x y : Operand} {at_ : Array TypeId} {b : Nat} {m : Int} {u : Unit} (i k : Nat) (hG : GrowOk P kg T E) (H : Inv w0 w L) (hi : L[i]? = some (boxI b T [.pointer none, .slice none 0 0])) (hz : growI m = some u)
    (hcb : Callable P kg) (hg : want ops g f = true) (hd : Nat.blt d n = true) (hx : ev f x = .pointer (some ⟨b, 0, none⟩)) (hy : ev f y = .int .i64 m)
    (h : ∀ v' w', Inv w0 w' (List.replicate i goneI ++ [bldI b T v' E []] ++ List.replicate k goneI) → WL P n ds ops rest K (upd f d (.tuple #[])) w') :
    WL P n ds ops (⟨some d, .call ⟨.value (.func kg), #[x, y], at_⟩, T0, pos, aft, g⟩ :: rest) K f w := by
  unfold growI at hz
  split at hz
  case isFalse => cases hz
  rename_i hm
  have hbx := H.items _ (List.mem_of_getElem? hi)
  have hb : w0.heap.size ≤ b := ((hbx.2 b rfl).1).resolve_right id
  obtain ⟨q, hq⟩ := Int.eq_ofNat_of_zero_le hm.1
  subst hq
  have hc := hG w0.heap.size b q w hb hbx.1 H.base.size (by omega)
  refine WL.enter hg hd (k := kg) (args := #[.pointer (some ⟨b, 0, none⟩), .int .i64 (q : Int)]) ?_ (hc.mono ?_)
  · simp only [execOp, resolve, ev, Deferred.ofValue, List.map_toArray, Sem.run_bind, Sem.run_pure, Result.andThen_ok, invoke]
    simpa [hx, hy] using hcb _ _
  · rintro e w' ⟨rfl, h1, h2⟩
    obtain ⟨v', hI⟩ := builder_inv (xs := []) H h1 h2
    exact ⟨_, rfl, h v' w' ((bld_whole (.inr rfl) hI).gones i k)⟩
end
end Go.Fw
