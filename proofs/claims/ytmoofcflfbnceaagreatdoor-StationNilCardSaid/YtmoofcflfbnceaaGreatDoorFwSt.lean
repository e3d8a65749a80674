/-
  THE FRAMEWORK, PART ST: errors against nil, methods of interface values, strings.SplitN, digits to the base of 16. No program in it.
-/
import Derived.Test.YtmoofcflfbnceaaGreatDoorFwZ
import Derived.Test.YtmoofcflfbnceaaGreatDoorFwOb
import Derived.Test.YtmoofcflfbnceaaGreatDoorFwSb
import Derived.Test.YtmoofcflfbnceaaGreatDoorFwDl
namespace Go.Fw
open Go.RowKit
def ErrB (e : Value) (b : Bool) : Prop := (b = true ∧ e = .nilIface) ∨ (b = false ∧ ∃ t v, e = .iface t v)
def atoiB (s : ByteArray) : Bool := match Lib.atoiAll s.data.toList with | .ok _ => true | _ => false
structure EnvS (P : Program) (ml es er db : Nat) (w : World) : Prop extends EnvH P ml es er w where
  tz : w.cell? ⟨db, 15, none⟩ = some (.int .u8 4)
theorem EnvS.mono {P : Program} {ml es er db : Nat} {w w' : World} (h : EnvS P ml es er db w) (hb : Below w.heap.size w w') : EnvS P ml es er db w' := ⟨h.toEnvH.mono hb, cell_below hb h.tz⟩
theorem c_AtoiE {P : Program} {ρ : Go.Shelf.Ren} (L : Go.Proofs.LaysC.n172 P ρ) {w0 : World} {ml : Nat} (hT : EnvH P ml (ρ.g 15) (ρ.g 16) w0) (s : ByteArray) (hs : s.size ≤ 1099511627776) :
    Calls P (ρ.f 172) #[.string s] w0 (Ret w0 fun _ v => ∃ e, v = .tuple #[.int .i64 (atoiV s), e] ∧ ErrB e (atoiB s)) := by
  obtain ⟨_, _, ⟨ev, h3, h4⟩, ⟨er, h5, h6⟩⟩ := hT
  cases h : Lib.atoiAll s.data.toList with
  | ok v =>
    refine (Go.Proofs.Any.strconv_Atoi_ok L s (by omega) v h w0).mono ?_
    rintro e w' ⟨rfl, hw⟩
    refine ⟨_, rfl, ?_, _, by rw [atoiV, h], .inl ⟨by rw [atoiB, h], rfl⟩⟩
    rcases hw with rfl | ⟨t, rfl⟩
    · exact Below.refl _ _
    · exact Lib.bytesWorld_below _ _ _
  | range =>
    refine (Go.Proofs.Any.strconv_Atoi_range L s (by omega) h er w0 h5 h6).mono ?_
    rintro e w' ⟨N, rfl, _, _, hb⟩
    exact ⟨_, rfl, hb, _, by rw [atoiV, h], .inr ⟨by rw [atoiB, h], _, _, rfl⟩⟩
  | _ =>
    refine (Go.Proofs.Any.strconv_Atoi_syntax L s (by omega) h ev w0 h3 h4).mono ?_
    rintro e w' ⟨N, rfl, _, _, hb⟩
    exact ⟨_, rfl, hb, _, by rw [atoiV, h], .inr ⟨by rw [atoiB, h], _, _, rfl⟩⟩
def splitNI (s sep : ByteArray) (n : Int) : Option (List ByteArray) :=
  if (s.size < 4294967281 ∧ 1 ≤ sep.size) ∧ 1 ≤ n ∧ n ≤ 1000 then some (Lib.splitB sep 0 (min n.toNat (s.size + 1) - 1) s) else none
theorem InvD.addHeld {Dq : Nat → Prop} {w0 w w' : World} {L : List Item} (H : InvD Dq w0 w L) (hb : Below w.heap.size w w') {b : Nat} {o : Obj} (h : w.heap.size ≤ b ∧ w'.heap[b]? = some o) : InvD Dq w0 w' (L ++ [heldI b o]) :=
  H.add hb _ h.2 fun x hx => by
    have hx : x = b := hx
    subst hx
    exact ⟨h.1, heap_lt h.2⟩
section
variable {P : Program} {n : Nat} {ds : Md} {ops : Array Oper} {rest : List Oper} {K : Fr → World → Prop} {f : Fr} {w : World} {T T' T0 : TypeId} {pos : String} {aft : Array Edge} {g : Option (Nat × Bool)} {d : Nat}
theorem O.eqlErr {x : Operand} {e : Value} {b : Bool} (hT : P.underlying T = some (.interface (P.methodsAt T))) (he : ErrB e b) (hg : want ops g f = true) (hd : Nat.blt d n = true) (hx : ev f x = e)
    (h : WL P n ds ops rest K (upd f d (.bool b)) w) : WL P n ds ops (⟨some d, .binOp .eql T x (.const .nilIface) T', T0, pos, aft, g⟩ :: rest) K f w := by
  have hc : ev f (.const .nilIface) = .nilIface := rfl
  refine WL.val hg hd ?_ h
  rcases he with ⟨rfl, rfl⟩ | ⟨rfl, t, v, rfl⟩
  · simp only [execOp, eqGuard, hx, hc]
    simp [binOp, Op.equal, Op.maxDepth, run_equalIn_nil_nil w 9999 T hT]
  · simp only [execOp, eqGuard, hx, hc]
    simp [binOp, Op.equal, Op.maxDepth, run_equalIn_held_nil w 9999 T t v hT]
end
section
variable {P : Program} {n : Nat} {ds : Md} {ops : Array Oper} {rest : List Oper} {K : Fr → World → Prop} {f : Fr} {Dq : Nat → Prop} {w w0 : World} {L : List Item} {T T' T0 T1 : TypeId} {pos pos1 : String} {aft aft1 : Array Edge} {g : Option (Nat × Bool)} {d d1 : Nat}
theorem O.sliceLs {α : Type} [Ty α] {s a : Operand} {v : Value} {xs ys : List α} {lo : Int} {E : TypeId} (hT : P.underlying T = some (.slice E)) (hE : SizeT P E (Ty.size α)) (hR : SliceR w v xs) (hc : cutI xs lo ((xs.length : Nat) : Int) = some ys)
    (hg : want ops g f = true) (hd : Nat.blt d n = true) (hs : ev f s = v) (ha : ev f a = .int .i64 lo) (h : ∀ v', (∀ w', SliceR w' v xs → SliceR w' v' ys) → WL P n ds ops rest K (upd f d v') w) :
    WL P n ds ops (⟨some d, .slice T s (some a) none none, T0, pos, aft, g⟩ :: rest) K f w := by
  obtain ⟨h0, h1, _, _⟩ := cutI_some hc
  obtain ⟨ad, len, cap, rfl, h4, h5⟩ := sliced_all hR hc
  obtain ⟨_, _, _, e, hl, _, _⟩ := sliced_sliceR hR hc
  cases e
  have hl : xs.length = len := hl
  subst hl
  refine O.sliceLv hT hE h0 h1 hg hd hs ha ?_
  have h6 := h _ h5
  rw [Int.toNat_natCast] at h6
  exact h6
theorem mput_new {β : Type} {kv : List (ByteArray × β)} {k : ByteArray} {v : β} (ks : List ByteArray) (hks : kv.map Prod.fst = ks) (hn : ks.all (fun x => decide (x ≠ k)) = true) : mput kv k v = kv ++ [(k, v)] := by
  subst hks
  unfold mput
  rw [if_neg]
  intro h
  obtain ⟨p, hp, he⟩ := List.any_eq_true.1 h
  have he : p.1 = k := by simpa using he
  have := List.all_eq_true.1 hn p.1 (List.mem_map.2 ⟨p, hp, rfl⟩)
  rw [he] at this
  simp at this
theorem O.insertNew {β : Type} [Flat β] {kT eT : TypeId} {m x y : Operand} {r : Nat} {kv : List (ByteArray × β)} (i : Nat) (ks : List ByteArray) (k : ByteArray) (v : β) (hT : P.underlying T = some (.map kT eT)) (hK : KeyT P kT ByteArray) (H : InvD Dq w0 w L)
    (hi : L[i]? = some (mapI r kv)) (hks : kv.map Prod.fst = ks) (hn : ks.all (fun x => decide (x ≠ k)) = true) (hg : want ops g f = true) (hm : ev f m = .map (some r)) (hx : ev f x = .string k) (hy : ev f y = Flat.val v)
    (h : ∀ w', InvD Dq w0 w' (L.set i (mapI r (kv ++ [(k, v)]))) → WL P n ds ops rest K f w') : WL P n ds ops (⟨none, .insert T m x y, T0, pos, aft, g⟩ :: rest) K f w := by
  have hmem := List.mem_of_getElem? hi
  have hmo := (H.items _ hmem).1
  obtain ⟨w', hr, hc, hm'⟩ := run_mapUpdate k v hT hK hmo
  refine WL.eff hg rfl (w' := w') ?_ (h w' ?_)
  · simp only [execOp, hm, hx, hy]
    have hr' : (Instr.mapUpdate T (.map (some r)) (.string k) (Flat.val v)).run P w = .ok () w' := hr
    simp only [Sem.run_bind, hr', Result.andThen_ok, Sem.run_pure]
  · rw [← mput_new ks hks hn]
    refine H.upd i _ _ hi hc hm' fun b hb => ⟨?_, .inl hb⟩
    have h1 := ((H.items _ hmem).2 b hb).2
    exact Nat.lt_of_lt_of_le h1 hc.size
theorem O.kind {x : Operand} {b : Nat} (hA : AggT P T 0) (hI : ∀ w : World, (Instr.makeInterface T (.agg #[])).run P w = .ok (.iface T (.agg #[])) w) (hd : Nat.blt d n = true) (hd1 : Nat.blt d1 n = true) (hx : ev f x = .pointer (some ⟨b, 0, none⟩))
    (h : WL P n ds ops rest K (upd (upd f d (.agg #[])) d1 (.iface T (.agg #[]))) w) : WL P n ds ops (⟨some d, .load T x, T0, pos, aft, none⟩ :: ⟨some d1, .makeInterface T (.tmp d), T1, pos1, aft1, none⟩ :: rest) K f w := by
  refine O.loadA [] hA rfl hd hx rfl (fun j c hj => by simp at hj) ?_
  refine O.makeIface hI rfl hd1 ?_ h
  show cond (Nat.beq d d) _ _ = _
  rw [Nat.beq_refl]
  rfl
end
/-! Digits to the base of 16. -/
def dig16 (d : Nat) : UInt8 := UInt8.ofNat (if d < 10 then 48 + d else 87 + d)
def hexL (u : Nat) (acc : List UInt8) : List UInt8 := if h : 16 ≤ u then hexL (u / 16) (dig16 (u % 16) :: acc) else dig16 u :: acc
termination_by u
decreasing_by omega
theorem hexL_big {u : Nat} {acc : List UInt8} (h : 16 ≤ u) : hexL u acc = hexL (u / 16) (dig16 (u % 16) :: acc) := by
  rw [hexL, dif_pos h]
theorem hexL_small {u : Nat} {acc : List UInt8} (h : ¬ 16 ≤ u) : hexL u acc = dig16 u :: acc := by
  rw [hexL, dif_neg h]
theorem hexL_len : ∀ (k u : Nat) (acc : List UInt8), u < 16 ^ (k + 1) → (hexL u acc).length ≤ acc.length + k + 1
  | 0, u, acc, h => by rw [hexL_small (by omega)]; simp
  | k + 1, u, acc, h => by
    by_cases h2 : 16 ≤ u
    · rw [hexL_big h2]
      have := hexL_len k (u / 16) (dig16 (u % 16) :: acc) (by rw [Nat.div_lt_iff_lt_mul (by decide)]; rw [Nat.pow_succ] at h; exact h)
      simp only [List.length_cons] at this
      omega
    · rw [hexL_small h2]; simp
def strconv_FormatUint (a0 a1 : Int) : Option ByteArray := if a1 = 16 ∧ 0 ≤ a0 ∧ a0 < 18446744073709551616 then some ⟨(hexL a0.toNat []).toArray⟩ else none
end Go.Fw
