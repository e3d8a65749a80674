/-
  THE FRAMEWORK, PART DL: elements taken out of a slice that the call owns (slices.Delete). No program in it.
-/
import Derived.Test.YtmoofcflfbnceaaGreatDoorFwO
namespace Go.Fw
open Go.RowKit
def delI {α : Type} (xs : List α) (lo hi : Int) : Option (List α) := if 0 ≤ lo ∧ lo ≤ hi ∧ hi ≤ (xs.length : Int) then some (xs.take lo.toNat ++ xs.drop hi.toNat) else none
theorem delI_some {α : Type} {xs zs : List α} {lo hi : Int} (h : delI xs lo hi = some zs) : 0 ≤ lo ∧ lo ≤ hi ∧ hi ≤ (xs.length : Int) ∧ zs = xs.take lo.toNat ++ xs.drop hi.toNat := by
  unfold delI at h
  split at h
  · rename_i hl; exact ⟨hl.1, hl.2.1, hl.2.2, (Option.some.inj h).symm⟩
  · cases h
def DelI (P : Program) (k : FuncId) (α : Type) [Flat α] (E : TypeId) : Prop :=
  ∀ (Dq : Nat → Prop) (w0 w : World) (L : List Item) (i : Nat) (v : Value) (xs zs : List α) (lo hi : Int), InvD Dq w0 w L → L[i]? = some (ownI v E xs) → delI xs lo hi = some zs →
    Calls P k #[v, .int .i64 lo, .int .i64 hi] w fun e w' => ∃ v', e = .returned v' ∧ InvD Dq w0 w' (L.set i (ownI v' E zs))
section
variable {P : Program} {n : Nat} {ds : Md} {ops : Array Oper} {rest : List Oper} {K : Fr → World → Prop} {f : Fr} {Dq : Nat → Prop} {w w0 : World} {L : List Item} {T T0 : TypeId} {pos : String} {aft : Array Edge} {g : Option (Nat × Bool)} {d : Nat}
theorem O.deleteI {α : Type} [Flat α] {k : FuncId} {x y z : Operand} {at_ : Array TypeId} {v : Value} {E : TypeId} {xs zs : List α} {lo hi : Int} (i : Nat) (H : InvD Dq w0 w L) (hi' : L[i]? = some (ownI v E xs)) (hs : DelI P k α E) (hz : delI xs lo hi = some zs) (hcb : Callable P k)
    (hg : want ops g f = true) (hd : Nat.blt d n = true) (hx : ev f x = v) (hy : ev f y = .int .i64 lo) (hzz : ev f z = .int .i64 hi) (h : ∀ v' w', InvD Dq w0 w' (L.set i (ownI v' E zs)) → WL P n ds ops rest K (upd f d v') w') :
    WL P n ds ops (⟨some d, .call ⟨.value (.func k), #[x, y, z], at_⟩, T0, pos, aft, g⟩ :: rest) K f w := by
  refine WL.enter hg hd (k := k) (args := #[v, .int .i64 lo, .int .i64 hi]) ?_ ((hs Dq w0 w L i v xs zs lo hi H hi' hz).mono ?_)
  · simp only [execOp, resolve, ev, Deferred.ofValue, List.map_toArray, Sem.run_bind, Sem.run_pure, Result.andThen_ok, invoke]
    simpa [hx, hy, hzz] using hcb _ _
  · rintro e w' ⟨v', rfl, hI⟩
    exact ⟨v', rfl, h v' w' hI⟩
theorem flat_take {α : Type} [Flat α] : ∀ (xs : List α) (m : Nat), (xs.take m).flatMap Flat.cells = (xs.flatMap Flat.cells).take (m * Flat.size α)
  | [], m => by simp
  | x :: xs, 0 => by simp
  | x :: xs, m + 1 => by
    have h := Flat.len x
    rw [List.take_succ_cons, List.flatMap_cons, List.flatMap_cons, flat_take xs m, List.take_append, h, Nat.succ_mul, List.take_of_length_le (l := Flat.cells x) (by rw [h]; exact Nat.le_add_left _ _), Nat.add_sub_cancel]
theorem own_take {α : Type} [Flat α] {gb cap : Nat} {E : TypeId} {xs : List α} (h : (ownI (.slice (some ⟨gb, 0, none⟩) xs.length cap) E xs).ok w) {m : Nat} (hm : m ≤ xs.length) : (ownI (.slice (some ⟨gb, 0, none⟩) m cap) E (xs.take m)).ok w := by
  obtain ⟨h1, ⟨h2, _⟩ | ⟨gb', cap', cur, hv, hb, hh, hn, hc, hs, ht⟩⟩ := h
  · cases h2
  · cases hv
    have hl : (xs.take m).length = m := by rw [List.length_take]; omega
    have hmul : m * Flat.size α ≤ xs.length * Flat.size α := Nat.mul_le_mul_right _ hm
    refine ⟨?_, .inr ⟨gb, cap, cur, by rw [hl], hb, hh, by omega, hc, hs, ?_⟩⟩
    · rw [flat_length]
    · rw [hl, flat_take, ← ht, List.take_take, Nat.min_eq_left hmul]
theorem run_append_back {α : Type} [Flat α] {E bytes : Nat} {gb cap : Nat} {vy : Value} {xs ys : List α} (hT : P.underlying T = some (.slice E)) (hE : ElemT P E (Flat.size α) bytes) (hown : (ownI (.slice (some ⟨gb, 0, none⟩) xs.length cap) E xs).ok w)
    (hy : SliceR w vy ys) {m : Nat} (hm : m ≤ xs.length) (hroom : m + ys.length ≤ cap) :
    ∃ w', (Builtin.append_ #[T, T] T0 #[.slice (some ⟨gb, 0, none⟩) m cap, vy]).run P w = .ok (.slice (some ⟨gb, 0, none⟩) (m + ys.length) cap) w' ∧ Chg (fun b => b = gb) w w' ∧ (ownI (.slice (some ⟨gb, 0, none⟩) (m + ys.length) cap) E (xs.take m ++ ys)).ok w' := by
  obtain ⟨i, z, hi, hz, hsz, hby, hzs⟩ := hE
  have hl : (xs.take m).length = m := by rw [List.length_take]; omega
  have hown' : w.ownsRow 0 E (Flat.size α) (.slice (some ⟨gb, 0, none⟩) m cap) m ((xs.take m).flatMap Flat.cells) := by
    have := own_take hown hm
    have h2 : w.ownsRow 0 E (Flat.size α) (.slice (some ⟨gb, 0, none⟩) m cap) (xs.take m).length ((xs.take m).flatMap Flat.cells) := this
    rwa [hl] at h2
  obtain ⟨_, ⟨rfl, rfl⟩ | ⟨ya, yc, rfl, _, _, hyc⟩⟩ := hy
  · refine ⟨w, run_append_owned_none (P := P) w 0 T T0 E i (Flat.size α) hT hi _ m _ hown', ⟨rfl, rfl, rfl, Nat.le_refl _, fun _ _ _ => rfl⟩, ?_⟩
    rw [List.append_nil, List.length_nil, Nat.add_zero]
    exact own_take hown hm
  · have h1 : ∀ u ∈ ys.flatMap Flat.cells, u.oneCell' = true := by
      intro u hu
      obtain ⟨y, _, hy⟩ := List.mem_flatMap.1 hu
      exact Flat.one y u hy
    obtain ⟨w', hrun, how, hgr⟩ := run_append_fits (P := P) w 0 T T0 E i (Flat.size α) hT hi hsz gb m cap _ hown' ya ys.length yc (ys.flatMap Flat.cells) (flat_length ys) (flat_news hyc) h1 hroom
    refine ⟨w', hrun, Chg.grown hgr (by intro b hb; cases hb; rfl), ?_⟩
    show w'.ownsRow 0 E (Flat.size α) _ (xs.take m ++ ys).length ((xs.take m ++ ys).flatMap Flat.cells)
    rw [List.flatMap_append, List.length_append, hl]
    exact how
theorem zeroCells_facts {α : Type} [Flat α] (z : α) (k : Nat) : (Builtin.zeroCells (Flat.val z).cells k).toList.length = k * Flat.size α ∧ ∀ u ∈ (Builtin.zeroCells (Flat.val z).cells k).toList, u.oneCell' = true := by
  have hv := Flat.hval z
  have hs : (Flat.val z).cells.size = Flat.size α := by rw [← Array.length_toList, hv, Flat.len]
  have hp := Flat.pos (α := α)
  unfold Builtin.zeroCells
  constructor
  · simp [hs]
  · intro u hu
    simp only [Array.toList_map, Array.toList_range, List.mem_map, List.mem_range] at hu
    obtain ⟨j, _, rfl⟩ := hu
    have hj : j % (Flat.val z).cells.size < (Flat.val z).cells.size := Nat.mod_lt _ (by omega)
    rw [getElem!_pos (Flat.val z).cells _ hj]
    refine Flat.one z _ ?_
    rw [← hv]
    exact Array.getElem_mem_toList hj
theorem run_clear_tail {α : Type} [Flat α] {E : TypeId} {gb cap m k : Nat} {zs : List α} {z : α} (hT : P.underlying T = some (.slice E)) (hZ : ZeroT P E (Flat.val z)) (hown : (ownI (.slice (some ⟨gb, 0, none⟩) m cap) E zs).ok w) (hm : zs.length = m)
    (hroom : m + k ≤ cap) : ∃ w', (Builtin.clear_ #[T] T0 #[sliced (some ⟨gb, 0, none⟩) m (m + k) cap (Flat.size α)]).run P w = .ok (.tuple #[]) w' ∧ Chg (fun b => b = gb) w w' ∧ (ownI (.slice (some ⟨gb, 0, none⟩) m cap) E zs).ok w' := by
  subst hm
  unfold sliced
  rw [show zs.length + k - zs.length = k by omega]
  cases k with
  | zero =>
    refine ⟨w, ?_, ⟨rfl, rfl, rfl, Nat.le_refl _, fun _ _ _ => rfl⟩, hown⟩
    by_cases hc : cap = zs.length
    · rw [if_pos hc]; simp [Builtin.clear_, run_underlying hT]
    · rw [if_neg hc]; simp [Builtin.clear_, run_underlying hT]
  | succ k =>
    rw [if_neg (by omega)]
    obtain ⟨h1, ⟨h2, _⟩ | ⟨gb', cap', cur, hv, hb, hh, hn, hc, hs, ht⟩⟩ := hown
    · cases h2
    · cases hv
      obtain ⟨f1, f2⟩ := zeroCells_facts z (k + 1)
      have hmul : (zs.length + (k + 1)) * Flat.size α ≤ cap * Flat.size α := Nat.mul_le_mul_right _ hroom
      rw [Nat.add_mul] at hmul
      obtain ⟨w', r1, r2, r3, r4, r5, r6, r7⟩ := run_storeCells (P := P) ⟨gb, zs.length * Flat.size α, none⟩ _ 0 w gb cur E (zs.length * Flat.size α) rfl hh (by rw [f1]; omega) f2
      have hlt := heap_lt hh
      refine ⟨w', ?_, ⟨r2, r3, r4, by omega, fun b _ hne => r6 b hne⟩, h1, .inr ⟨gb, cap, _, rfl, hb, r7, hn, hc, ?_, ?_⟩⟩
      · have hadd : Addr.add ⟨gb, 0, none⟩ (zs.length * Flat.size α) = ⟨gb, zs.length * Flat.size α, none⟩ := by rw [Addr.add_lit, Nat.zero_add]
        simp only [Option.map_some, hadd]
        simp [Builtin.clear_, run_underlying hT, run_zeroValue' hZ, r1]
      · simp only [List.size_toArray, List.length_append, List.length_take, List.length_drop, f1, Array.length_toList]
        omega
      · rw [← ht]
        simp only [Nat.add_zero, List.append_assoc]
        rw [List.take_append_of_le_length (by rw [List.length_take, Array.length_toList (xs := cur)]; omega), List.take_take, Nat.min_self]
theorem O.slice3 {x a b c : Operand} {ad : Option Addr} {len cap : Nat} {lo hi mx : Int} {E k : TypeId} (hT : P.underlying T = some (.slice E)) (hE : SizeT P E k) (h0 : 0 ≤ lo) (h1 : lo ≤ hi) (h2 : hi ≤ mx) (h3 : mx ≤ cap) (hg : want ops g f = true) (hd : Nat.blt d n = true)
    (hx : ev f x = .slice ad len cap) (ha : ev f a = .int .i64 lo) (hb : ev f b = .int .i64 hi) (hc : ev f c = .int .i64 mx) (h : ∀ v', WL P n ds ops rest K (upd f d v') w) :
    WL P n ds ops (⟨some d, .slice T x (some a) (some b) (some c), T0, pos, aft, g⟩ :: rest) K f w := by
  have he := elem_of hT
  have hT' : P.underlying T = some (.slice (P.elem T)) := by rw [he]; exact hT
  refine WL.val hg hd ?_ (h (sliced ad lo.toNat hi.toNat mx.toNat k))
  simp only [execOp, Option.map_some, hx, ha, hb, hc, Sem.run_bind, run_sliceAt_slice w T _ _ _ _ hT', run_slice_lhm w T ad _ cap hT' .i64 .i64 .i64 lo hi mx h0 h1 h2 h3, he, run_sizeOf' hE, Result.andThen_ok, Sem.run_pure]
theorem O.sliceHv {x b : Operand} {ad : Option Addr} {len cap : Nat} {hi : Int} {E k : TypeId} (hT : P.underlying T = some (.slice E)) (hE : SizeT P E k) (h0 : 0 ≤ hi) (h2 : hi ≤ cap) (hg : want ops g f = true) (hd : Nat.blt d n = true)
    (hx : ev f x = .slice ad len cap) (hb : ev f b = .int .i64 hi) (h : WL P n ds ops rest K (upd f d (sliced ad 0 hi.toNat cap k)) w) :
    WL P n ds ops (⟨some d, .slice T x none (some b) none, T0, pos, aft, g⟩ :: rest) K f w := by
  have he := elem_of hT
  have hT' : P.underlying T = some (.slice (P.elem T)) := by rw [he]; exact hT
  refine WL.val hg hd ?_ h
  simp only [execOp, Option.map_some, Option.map_none, hx, hb, Sem.run_bind, run_sliceAt_slice w T _ _ _ _ hT', run_slice_h w T ad _ cap hT' .i64 hi h0 h2, he, run_sizeOf' hE, Result.andThen_ok, Sem.run_pure]
theorem O.sliceLv {x a : Operand} {ad : Option Addr} {len cap : Nat} {lo : Int} {E k : TypeId} (hT : P.underlying T = some (.slice E)) (hE : SizeT P E k) (h0 : 0 ≤ lo) (h2 : lo ≤ len) (hg : want ops g f = true) (hd : Nat.blt d n = true)
    (hx : ev f x = .slice ad len cap) (ha : ev f a = .int .i64 lo) (h : WL P n ds ops rest K (upd f d (sliced ad lo.toNat len cap k)) w) :
    WL P n ds ops (⟨some d, .slice T x (some a) none none, T0, pos, aft, g⟩ :: rest) K f w := by
  have he := elem_of hT
  have hT' : P.underlying T = some (.slice (P.elem T)) := by rw [he]; exact hT
  refine WL.val hg hd ?_ h
  simp only [execOp, Option.map_some, Option.map_none, hx, ha, Sem.run_bind, run_sliceAt_slice w T _ _ _ _ hT', run_slice_l w T ad _ cap hT' .i64 lo h0 h2, he, run_sizeOf' hE, Result.andThen_ok, Sem.run_pure]
theorem O.sliceLHv {x a b : Operand} {ad : Option Addr} {len cap : Nat} {lo hi : Int} {E k : TypeId} (hT : P.underlying T = some (.slice E)) (hE : SizeT P E k) (h0 : 0 ≤ lo) (h1 : lo ≤ hi) (h2 : hi ≤ cap) (hg : want ops g f = true) (hd : Nat.blt d n = true)
    (hx : ev f x = .slice ad len cap) (ha : ev f a = .int .i64 lo) (hb : ev f b = .int .i64 hi) (h : WL P n ds ops rest K (upd f d (sliced ad lo.toNat hi.toNat cap k)) w) :
    WL P n ds ops (⟨some d, .slice T x (some a) (some b) none, T0, pos, aft, g⟩ :: rest) K f w := by
  have he := elem_of hT
  have hT' : P.underlying T = some (.slice (P.elem T)) := by rw [he]; exact hT
  refine WL.val hg hd ?_ h
  simp only [execOp, Option.map_some, Option.map_none, hx, ha, hb, Sem.run_bind, run_sliceAt_slice w T _ _ _ _ hT', run_slice_lh w T ad _ cap hT' .i64 .i64 lo hi h0 h1 h2, he, run_sizeOf' hE, Result.andThen_ok, Sem.run_pure]
theorem O.appendV {x y : Operand} {v vy v' : Value} {w' : World} (hr : (Builtin.append_ #[T, T] T0 #[v, vy]).run P w = .ok v' w') (hg : want ops g f = true) (hd : Nat.blt d n = true) (hx : ev f x = v) (hy : ev f y = vy) (h : WL P n ds ops rest K (upd f d v') w') :
    WL P n ds ops (⟨some d, .call ⟨.builtin .append, #[x, y], #[T, T]⟩, T0, pos, aft, g⟩ :: rest) K f w := by
  refine WL.val hg hd ?_ h
  simp [execOp, resolve, invoke, builtin, hx, hy, hr, Result.andThen]
theorem O.clearV {x : Operand} {v : Value} {w' : World} (hr : (Builtin.clear_ #[T] T0 #[v]).run P w = .ok (.tuple #[]) w') (hg : want ops g f = true) (hx : ev f x = v) (h : WL P n ds ops rest K f w') :
    WL P n ds ops (⟨none, .call ⟨.builtin .clear, #[x], #[T]⟩, T0, pos, aft, g⟩ :: rest) K f w := by
  refine WL.val (v := .tuple #[]) hg rfl ?_ h
  simp [execOp, resolve, invoke, builtin, hx, hr, Result.andThen]
end
end Go.Fw
