/-
  THE FRAMEWORK, PART F: slice literals, append; maps; structs by value.
-/
import Derived.Test.YtmoofcflfbnceaaGreatDoorFwE
namespace Go.Fw
open Go.RowKit

/-! Slice literals. -/
def enumV : Nat → List Value → List (Nat × Value)
  | _, [] => []
  | i, v :: vs => (i, v) :: enumV (i + 1) vs

theorem fill_foldl (cs : Array Value) (o : Nat) : ∀ (l : List Value) (j : Nat) (_ : o + j + l.length ≤ cs.size),
    (l.zipIdx j).foldl (fun cs (x : Value × Nat) => cs.setIfInBounds (o + x.2) x.1) cs = (cs.toList.take (o + j) ++ l ++ cs.toList.drop (o + j + l.length)).toArray := by
  intro l
  induction l generalizing cs with
  | nil => intro j _; simp
  | cons v l ih =>
    intro j h
    simp only [List.length_cons] at h
    simp only [List.zipIdx_cons, List.foldl_cons]
    rw [ih (cs.setIfInBounds (o + j) v) (j + 1) (by simp; omega)]
    have hl : o + j < cs.toList.length := by simp; omega
    simp only [Array.toList_setIfInBounds]
    rw [show o + (j + 1) = o + j + 1 from rfl, List.take_succ_eq_append_getElem (by simpa using hl), List.take_set_of_le (Nat.le_refl _), List.getElem_set_self, List.drop_set_of_lt (by omega)]
    simp [Nat.add_assoc, Nat.add_comm 1]

theorem fill_enum (size : Nat) : ∀ (vs : List Value) (k : Nat) (cs : Array Value), (∀ v ∈ vs, v.cells.size = size) → (k + vs.length) * size ≤ cs.size →
    Instr.fill (fun i => some (i * size, size)) cs (enumV k vs) = some (cs.toList.take (k * size) ++ (vs.flatMap fun v => v.cells.toList) ++ cs.toList.drop ((k + vs.length) * size)).toArray := by
  intro vs
  induction vs with
  | nil => intro k cs _ _; simp [enumV, Instr.fill]
  | cons v vs ih =>
    intro k cs hv hlen
    have h1 : v.cells.size = size := hv v (by simp)
    have hlen' : (k + 1 + vs.length) * size ≤ cs.size := by simp only [List.length_cons] at hlen; rw [show k + 1 + vs.length = k + (vs.length + 1) from by omega]; exact hlen
    have hk : k * size + size ≤ cs.size := by
      have : (k + 1) * size ≤ (k + 1 + vs.length) * size := Nat.mul_le_mul_right _ (by omega)
      rw [Nat.succ_mul] at this; omega
    simp only [enumV, Instr.fill]
    rw [if_neg (by rw [h1]; simp; omega)]
    have hf := fill_foldl cs (k * size) v.cells.toList 0 (by simp; omega)
    have hz : v.cells.zipIdx.foldl (fun cs x => cs.setIfInBounds (k * size + x.2) x.1) cs = (v.cells.toList.zipIdx 0).foldl (fun cs (x : Value × Nat) => cs.setIfInBounds (k * size + x.2) x.1) cs := by
      rw [← Array.foldl_toList]; simp
    rw [hz, hf, ih (k + 1) _ (fun u hu => hv u (by simp [hu])) (by simp; omega)]
    simp only [Nat.add_zero, Array.length_toList, h1]
    have e1 : (k + 1) * size = k * size + size := Nat.succ_mul _ _
    congr 2
    rw [e1]
    have hl1 : (cs.toList.take (k * size) ++ v.cells.toList).length = k * size + size := by simp [h1]; omega
    rw [List.take_append_of_le_length (by rw [hl1]; exact Nat.le_refl _), List.take_of_length_le (by rw [hl1]; exact Nat.le_refl _)]
    rw [List.drop_append, hl1, List.drop_eq_nil_of_le (by rw [hl1]; have : (k + 1) * size ≤ (k + 1 + vs.length) * size := Nat.mul_le_mul_right _ (by omega); omega), List.nil_append, List.drop_drop]
    have e2 : k * size + size + ((k + 1 + vs.length) * size - (k * size + size)) = (k + (v :: vs).length) * size := by
      have h3 : (k + 1) * size ≤ (k + 1 + vs.length) * size := Nat.mul_le_mul_right _ (by omega)
      rw [show k + (v :: vs).length = k + 1 + vs.length from by simp; omega]
      omega
    rw [e2]
    simp

section
variable {P : Program} {n : Nat} {ds : Md} {ops : Array Oper} {rest : List Oper} {K : Fr → World → Prop} {f : Fr} {Dq : Nat → Prop} {w w0 : World} {L : List Item} {T T' T0 : TypeId} {pos : String} {aft : Array Edge}
  {g : Option (Nat × Bool)} {d : Nat}

theorem run_buildSlice {α : Type} [Flat α] {E bytes : Nat} {vs : List Value} {xs : List α} (hT : P.underlying T = some (.slice E)) (hE : ElemT P E (Flat.size α) bytes) (hcells : vs.map (fun v => v.cells.toList) = xs.map Flat.cells)
    (hsmall : vs.length * Flat.size α ≤ 16777216) :
    (Instr.buildSlice T vs.length (enumV 0 vs).toArray).run P w = .ok (.slice (some ⟨w.heap.size, 0, none⟩) vs.length vs.length) (w.alloc (.cells (xs.flatMap Flat.cells).toArray E)) := by
  obtain ⟨i, z, hi, hz, hsz, _, hzs⟩ := hE
  have hsize : ∀ v ∈ vs, v.cells.size = Flat.size α := by
    intro v hv
    have : v.cells.toList ∈ xs.map Flat.cells := by rw [← hcells]; exact List.mem_map.2 ⟨v, hv, rfl⟩
    obtain ⟨x, _, hx⟩ := List.mem_map.1 this
    have := congrArg List.length hx
    rw [Flat.len] at this
    simpa using this.symm
  have hflat : (vs.flatMap fun v => v.cells.toList) = xs.flatMap Flat.cells := by
    rw [List.flatMap_def, List.flatMap_def, hcells]
  have hzero : (zeroValue E).run P w = .ok z w := run_zeroValue' ⟨i, hi, hz⟩
  simp only [Instr.buildSlice, Sem.run_bind, run_underlying hT, Result.andThen_ok, run_sizeOf' ⟨i, hi, hsz⟩]
  rw [if_neg (by omega)]
  have hfill : ∀ zc : Array Value, Instr.fill (fun i => some (i * Flat.size α, Flat.size α)) ((Array.range (vs.length * Flat.size α)).map fun k => zc[k % zc.size]!) (enumV 0 vs).toArray.toList = some (xs.flatMap Flat.cells).toArray := by
    intro zc
    rw [fill_enum (Flat.size α) vs 0 _ hsize (by simp), hflat]
    congr 2
    simp only [Nat.zero_mul, List.take_zero, List.nil_append, Nat.zero_add]
    rw [List.drop_eq_nil_of_le (by simp), List.append_nil]
  by_cases h0 : vs.length * Flat.size α = 0
  · simp only [if_pos h0, Sem.run_pure, Result.andThen_ok, hfill, Sem.run_bind, run_newRow]
  · simp only [if_neg h0, Sem.run_bind, Sem.run_pure, Result.andThen_ok, hzero, hfill, run_newRow]

theorem O.buildSlice {α : Type} [Flat α] {E bytes : Nat} {k : Nat} {ps : List (Nat × Operand)} (vs : List Value) (xs : List α) (hT : P.underlying T = some (.slice E)) (hE : ElemT P E (Flat.size α) bytes) (H : InvD Dq w0 w L)
    (hg : want ops g f = true) (hd : Nat.blt d n = true) (hps : ps.map (fun p => (p.1, ev f p.2)) = enumV 0 vs) (hk : vs.length = k) (hcells : vs.map (fun v => v.cells.toList) = xs.map Flat.cells) (hlen : xs.length = k)
    (hsmall : Nat.ble (k * Flat.size α) 16777216 = true)
    (h : ∀ v w', InvD Dq w0 w' (L ++ [ownI v E xs]) → Below w.heap.size w w' → WL P n ds ops rest K (upd f d v) w') : WL P n ds ops (⟨some d, .buildSlice T k ps.toArray, T0, pos, aft, g⟩ :: rest) K f w := by
  subst hk
  have hsm := Nat.le_of_ble_eq_true hsmall
  have hrun := run_buildSlice (w := w) hT hE hcells hsm
  refine WL.val hg hd (w' := w.alloc (.cells (xs.flatMap Flat.cells).toArray E)) (v := .slice (some ⟨w.heap.size, 0, none⟩) vs.length vs.length) ?_ (h _ _ (H.addOwn (below_alloc _ _) ?_) (below_alloc _ _))
  · simp only [execOp, List.map_toArray]
    rw [show (ps.map fun x => (x.1, ev f x.2)) = enumV 0 vs from hps]
    simp only [Sem.run_bind, hrun, Result.andThen_ok, Sem.run_pure]
  · have hml : vs.length ≤ maxLen := by
      have : vs.length * 1 ≤ vs.length * Flat.size α := Nat.mul_le_mul_left _ (Flat.pos (α := α))
      unfold maxLen; omega
    refine ⟨flat_length xs, .inr ⟨w.heap.size, vs.length, (xs.flatMap Flat.cells).toArray, by rw [hlen], Nat.le_refl _, alloc_at _ _, by rw [hlen]; exact Nat.le_refl _, hml, ?_, ?_⟩⟩
    · rw [List.size_toArray, flat_length, hlen]
    · rw [List.take_of_length_le (by rw [flat_length]; exact Nat.le_refl _)]

/-! append. -/
def appI {α : Type} (xs ys : List α) : Option (List α) := if xs.length + ys.length ≤ 1099511627776 then some (xs ++ ys) else none
theorem appI_some {α : Type} {xs ys zs : List α} (h : appI xs ys = some zs) : xs.length + ys.length ≤ 1099511627776 ∧ xs ++ ys = zs := by
  unfold appI at h; split at h
  · rename_i hl; exact ⟨hl, Option.some.inj h⟩
  · cases h

theorem Chg.grown {fp : Nat → Prop} {w w' : World} {row : Option Nat} (h : w.grownBy w' row) (hr : ∀ b, row = some b → fp b) : Chg fp w w' :=
  ⟨h.os, h.tape, h.output, h.size, fun k hk hn => h.block k hk fun e => hn (hr k e.symm)⟩

theorem addr_add_add (a : Addr) (i j : Nat) : (a.add i).add j = a.add (i + j) := by
  unfold Addr.add
  by_cases hi : i = 0 <;> by_cases hj : j = 0 <;> simp [hi, hj, Nat.add_assoc]
theorem flat_news {α : Type} [Flat α] {ys : List α} {ya : Addr} (hyc : ∀ i x, ys[i]? = some x → ElemAt w (ya.add (i * Ty.size α)) x) :
    ∀ j u, (ys.flatMap Flat.cells)[j]? = some u → w.cell? (ya.add j) = some u := by
  have hpos := Flat.pos (α := α)
  intro j u hj
  have hjl := (List.getElem?_eq_some_iff.1 hj).1
  rw [flat_length] at hjl
  have hdiv : j / Flat.size α < ys.length := by rw [Nat.div_lt_iff_lt_mul hpos]; exact hjl
  have hx : ys[j / Flat.size α]? = some ys[j / Flat.size α] := List.getElem?_eq_getElem hdiv
  have hmod : j % Flat.size α < (Flat.cells ys[j / Flat.size α]).length := by rw [Flat.len]; exact Nat.mod_lt _ hpos
  have hc := (hyc _ _ hx).flat (j % Flat.size α) _ (List.getElem?_eq_getElem hmod)
  have hfe := flat_getElem ys _ _ hx (j % Flat.size α) _ (List.getElem?_eq_getElem hmod)
  have hdm : j / Flat.size α * Flat.size α + j % Flat.size α = j := by rw [Nat.mul_comm]; exact Nat.div_add_mod _ _
  rw [hdm, hj] at hfe
  cases hfe
  have haa : (ya.add (j / Flat.size α * Flat.size α)).add (j % Flat.size α) = ya.add j := by
    rw [addr_add_add, hdm]
  rw [← hc]
  exact congrArg _ haa.symm

theorem run_append_item {α : Type} [Flat α] {E bytes : Nat} {v vy : Value} {xs ys : List α} (hT : P.underlying T = some (.slice E)) (hE : ElemT P E (Flat.size α) bytes) (hb : bytes ≤ 128) (hown : (ownI v E xs).ok w)
    (hfp : ∀ b, (ownI v E xs).fp b → b < w.heap.size) (hy : SliceR w vy ys) (hlen : xs.length + ys.length ≤ 1099511627776) :
    ∃ v' w', (Builtin.append_ #[T, T] T0 #[v, vy]).run P w = .ok v' w' ∧ Chg (ownI v E xs).fp w w' ∧ (ownI v' E (xs ++ ys)).ok w' ∧
      ∀ b, (ownI v' E (xs ++ ys)).fp b → b < w'.heap.size ∧ ((ownI v E xs).fp b ∨ w.heap.size ≤ b) := by
  obtain ⟨i, z, hi, hz, hsz, hby, hzs⟩ := hE
  have hbytes : (xs.length + ys.length) * bytes ≤ 140737488355328 := by
    have : (xs.length + ys.length) * bytes ≤ 1099511627776 * 128 := Nat.mul_le_mul hlen hb
    omega
  have h63 : xs.length + ys.length ≤ maxLen := by unfold maxLen; omega
  have hpos := Flat.pos (α := α)
  have hown' : w.ownsRow 0 E (Flat.size α) v xs.length (xs.flatMap Flat.cells) := hown
  obtain ⟨_, ⟨rfl, rfl⟩ | ⟨ya, yc, rfl, _, _, hyc⟩⟩ := hy
  · -- nothing is appended
    refine ⟨v, w, run_append_owned_none (P := P) w 0 T T0 E i (Flat.size α) hT hi v xs.length _ hown', ⟨rfl, rfl, rfl, Nat.le_refl _, fun _ _ _ => rfl⟩, by simpa using hown, fun b hf => ⟨hfp b (by simpa using hf), .inl (by simpa using hf)⟩⟩
  · have hnews := flat_news hyc
    have hl := flat_length ys
    have h1 : ∀ u ∈ ys.flatMap Flat.cells, u.oneCell' = true := by
      intro u hu
      obtain ⟨y, _, hy⟩ := List.mem_flatMap.1 hu
      exact Flat.one y u hy
    have hflat : (xs ++ ys).flatMap Flat.cells = xs.flatMap Flat.cells ++ ys.flatMap Flat.cells := List.flatMap_append
    obtain ⟨ho1, ho2⟩ := hown'
    rcases ho2 with ⟨rfl, hn⟩ | ⟨gb, cap, cur, rfl, hgb, hh, hnc, hcm, hcs, htake⟩
    · obtain rfl := List.eq_nil_of_length_eq_zero hn
      obtain ⟨v', w', hrun, how, hgr, _⟩ := run_append_own (P := P) w w.heap.size T T0 E i z (Flat.size α) bytes hT hi hz hsz hby hzs hpos (.slice none 0 0) 0 [] ⟨by simp, .inl ⟨rfl, rfl⟩⟩ ya ys.length yc
        (ys.flatMap Flat.cells) hl hnews h1 (by simpa using h63) (by simpa using hbytes) (Nat.le_refl _)
      refine ⟨v', w', hrun, Chg.grown hgr (by intro b hb; cases hb), ?_, ?_⟩
      · show w'.ownsRow 0 E (Flat.size α) v' ([] ++ ys).length (([] ++ ys).flatMap Flat.cells)
        simp only [List.nil_append, Nat.zero_add] at how ⊢
        obtain ⟨q1, q2⟩ := how
        exact ⟨q1, q2.imp id fun ⟨a, b, c, e1, _, e3⟩ => ⟨a, b, c, e1, Nat.zero_le _, e3⟩⟩
      · intro b hf
        obtain ⟨q1, q2⟩ := how
        rcases q2 with ⟨rfl, _⟩ | ⟨a, b', c, rfl, e2, e3, _⟩
        · cases hf
        · cases hf; exact ⟨(Array.getElem?_eq_some_iff.1 e3).1, .inr e2⟩
    · by_cases hroom : xs.length + ys.length ≤ cap
      · obtain ⟨w', hrun, how, hgr⟩ := run_append_fits (P := P) w 0 T T0 E i (Flat.size α) hT hi hsz gb xs.length cap (xs.flatMap Flat.cells) ⟨ho1, .inr ⟨gb, cap, cur, rfl, hgb, hh, hnc, hcm, hcs, htake⟩⟩ ya ys.length yc
          (ys.flatMap Flat.cells) hl hnews h1 hroom
        refine ⟨_, w', hrun, Chg.grown hgr (by intro b hb; cases hb; rfl), ?_, ?_⟩
        · show w'.ownsRow 0 E (Flat.size α) _ (xs ++ ys).length ((xs ++ ys).flatMap Flat.cells)
          rw [hflat, List.length_append]; exact how
        · intro b hf
          cases hf
          have hlt := hfp gb rfl
          exact ⟨Nat.lt_of_lt_of_le hlt hgr.size, .inl rfl⟩
      · have holds : ∀ j u, (xs.flatMap Flat.cells)[j]? = some u → w.cell? ((Addr.mk gb 0 none).add j) = some u := by
          intro j u hj
          rw [← htake, List.getElem?_take] at hj
          split at hj
          · rw [Addr.add_lit]; simpa [World.cell?, hh] using hj
          · cases hj
        obtain ⟨v', w', hrun, how, hgr⟩ := run_append_arg_grows (P := P) w T T0 E i z (Flat.size α) bytes hT hi hz hsz hby hzs hpos ⟨gb, 0, none⟩ xs.length cap (xs.flatMap Flat.cells) ho1 holds ya ys.length yc
          (ys.flatMap Flat.cells) hl hnews (by omega) h63 hbytes
        refine ⟨v', w', hrun, Chg.grown hgr (by intro b hb; cases hb), ?_, ?_⟩
        · show w'.ownsRow 0 E (Flat.size α) v' (xs ++ ys).length ((xs ++ ys).flatMap Flat.cells)
          rw [hflat, List.length_append]
          obtain ⟨q1, q2⟩ := how
          exact ⟨q1, q2.imp id fun ⟨a, b, c, e1, _, e3⟩ => ⟨a, b, c, e1, Nat.zero_le _, e3⟩⟩
        · intro b hf
          obtain ⟨q1, q2⟩ := how
          rcases q2 with ⟨rfl, _⟩ | ⟨a, b', c, rfl, e2, e3, _⟩
          · cases hf
          · cases hf; exact ⟨(Array.getElem?_eq_some_iff.1 e3).1, .inr e2⟩

theorem O.append {α : Type} [Flat α] {E bytes : Nat} {s y : Operand} {v vy : Value} {xs ys zs : List α} (i : Nat) (hT : P.underlying T = some (.slice E)) (hE : ElemT P E (Flat.size α) bytes) (hb : Nat.ble bytes 128 = true)
    (H : InvD Dq w0 w L) (hi : L[i]? = some (ownI v E xs)) (hy : SliceR w vy ys) (hz : appI xs ys = some zs) (hg : want ops g f = true) (hd : Nat.blt d n = true) (hs : ev f s = v) (hv : ev f y = vy)
    (h : ∀ v' w', InvD Dq w0 w' (L.set i (ownI v' E zs)) → WL P n ds ops rest K (upd f d v') w') :
    WL P n ds ops (⟨some d, .call ⟨.builtin .append, #[s, y], #[T, T]⟩, T0, pos, aft, g⟩ :: rest) K f w := by
  obtain ⟨hlen, rfl⟩ := appI_some hz
  obtain ⟨hok, hfp⟩ := H.items _ (List.mem_of_getElem? hi)
  obtain ⟨v', w', hrun, hc, hok', hfp'⟩ := run_append_item (T0 := T0) hT hE (Nat.le_of_ble_eq_true hb) hok (fun b hf => (hfp b hf).2) hy hlen
  refine WL.val hg hd ?_ (h v' w' (H.upd i _ _ hi hc hok' hfp'))
  simp [execOp, resolve, invoke, builtin, hs, hv, hrun, Result.andThen]

/-! Structs by value. -/
def EqT (P : Program) (T : TypeId) (α : Type) [Flat α] [DecidableEq α] : Prop :=
  P.eqGuardType P.depth T = false ∧ ∀ (a b : α) (w : World), (Op.equalIn 10000 T (.agg (Flat.cells a).toArray) (.agg (Flat.cells b).toArray)).run P w = .ok (a == b) w
theorem O.neqSt {α : Type} [Flat α] [DecidableEq α] {x y : Operand} (a b : α) (hE : EqT P T α) (hg : want ops g f = true) (hd : Nat.blt d n = true) (hx : ev f x = .agg (Flat.cells a).toArray) (hy : ev f y = .agg (Flat.cells b).toArray)
    (h : WL P n ds ops rest K (upd f d (.bool (!(a == b)))) w) : WL P n ds ops (⟨some d, .binOp .neq T x y T', T0, pos, aft, g⟩ :: rest) K f w :=
  WL.val hg hd (by simp only [execOp, hx, hy, Sem.run_bind, run_eqGuard_agg (P := P) w _ T x y _ _ hE.1, Result.andThen_ok, run_neq_struct, hE.2]; rfl) h
theorem O.build {ps : List (Nat × Operand)} {vs : List (Nat × Value)} {v : Value} (hb : ∀ w : World, (Instr.build T vs.toArray).run P w = .ok v w) (hg : want ops g f = true) (hd : Nat.blt d n = true)
    (hps : ps.map (fun p => (p.1, ev f p.2)) = vs) (h : WL P n ds ops rest K (upd f d v) w) : WL P n ds ops (⟨some d, .build T ps.toArray, T0, pos, aft, g⟩ :: rest) K f w := by
  refine WL.val hg hd ?_ h
  simp only [execOp, List.map_toArray]
  rw [show (ps.map fun x => (x.1, ev f x.2)) = vs from hps]
  simp only [Sem.run_bind, hb, Result.andThen_ok, Sem.run_pure]
end
end Go.Fw
