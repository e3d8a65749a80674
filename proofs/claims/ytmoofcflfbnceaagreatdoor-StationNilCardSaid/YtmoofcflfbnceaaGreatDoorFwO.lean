/-
  THE FRAMEWORK, PART O: callees that are handed several of the caller's things and change them; nil slices among those that may be nil; rows of a table. No program in it.
-/
import Derived.Test.YtmoofcflfbnceaaGreatDoorFwU
import Derived.Test.YtmoofcflfbnceaaGreatDoorFwJ
import Derived.OpenShut
namespace Go.Fw
open Go.RowKit
def fpOf (L : List Item) : Nat → Prop := fun b => ∃ it ∈ L, it.fp b
section
variable {P : Program} {n : Nat} {ds : Md} {ops : Array Oper} {rest : List Oper} {K : Fr → World → Prop} {f : Fr} {Dq X : Nat → Prop} {w w' w0 : World} {L A L0 L1 : List Item} {T T' T0 : TypeId} {pos : String} {aft : Array Edge} {g : Option (Nat × Bool)} {d : Nat}
theorem InvD.frame (H : InvD Dq w0 w (A ++ L0)) : InvD (fpOf L0) w w L0 := by
  refine ⟨⟨rfl, rfl, rfl, Nat.le_refl _, fun _ _ _ => rfl⟩, fun it hi => ?_, (List.pairwise_append.1 H.apart).2.1⟩
  obtain ⟨h1, h2⟩ := H.items it (List.mem_append_right _ hi)
  exact ⟨h1, fun b hb => ⟨.inr ⟨it, hi, hb⟩, (h2 b hb).2⟩⟩
theorem InvD.join (H : InvD Dq w0 w (A ++ L0)) (h : InvD (fpOf L0) w w' L1) : InvD Dq w0 w' (A ++ L1) := by
  have hp := List.pairwise_append.1 H.apart
  refine ⟨⟨h.baseX.os.trans H.baseX.os, h.baseX.tape.trans H.baseX.tape, h.baseX.output.trans H.baseX.output, Nat.le_trans H.baseX.size h.baseX.size, fun k hk hx => ?_⟩, fun it hi => ?_, ?_⟩
  · refine (h.baseX.block k (Nat.lt_of_lt_of_le hk H.baseX.size) ?_).trans (H.baseX.block k hk hx)
    rintro ⟨it, hi, hf⟩
    rcases ((H.items it (List.mem_append_right _ hi)).2 k hf).1 with h1 | h1
    · omega
    · exact hx h1
  · rcases List.mem_append.1 hi with hi | hi
    · obtain ⟨h1, h2⟩ := H.items it (List.mem_append_left _ hi)
      refine ⟨it.loc w w' ⟨h.baseX.os, h.baseX.tape, h.baseX.output, h.baseX.size⟩ (fun b hf => h.baseX.block b (h2 b hf).2 ?_) h1, fun b hf => ⟨(h2 b hf).1, Nat.lt_of_lt_of_le (h2 b hf).2 h.baseX.size⟩⟩
      rintro ⟨it2, hi2, hf2⟩
      exact hp.2.2 it hi it2 hi2 b hf hf2
    · obtain ⟨h1, h2⟩ := h.items it hi
      refine ⟨h1, fun b hf => ⟨?_, (h2 b hf).2⟩⟩
      rcases (h2 b hf).1 with h3 | ⟨it2, hi2, hf2⟩
      · exact .inl (Nat.le_trans H.baseX.size h3)
      · exact ((H.items it2 (List.mem_append_right _ hi2)).2 b hf2).1
  · refine List.pairwise_append.2 ⟨hp.1, h.apart, fun x hx y hy b hf hg => ?_⟩
    rcases ((h.items y hy).2 b hg).1 with h3 | ⟨it2, hi2, hf2⟩
    · have := ((H.items x (List.mem_append_left _ hx)).2 b hf).2
      omega
    · exact hp.2.2 x hx it2 hi2 b hf hf2
theorem InvD.addGone (H : InvD Dq w0 w L) : InvD Dq w0 w (L ++ [goneI]) := H.add (Below.refl _ _) goneI trivial fun _ h => h.elim
/-! Items under conditions. -/
theorem InvD.setI (H : InvD Dq w0 w L) (i : Nat) {x y : Item} (hi : L[i]? = some x) (e : y = x) : InvD Dq w0 w (L.set i y) := by
  obtain ⟨h1, h2⟩ := List.getElem?_eq_some_iff.1 hi
  subst e
  rw [← h2, List.set_getElem_self]
  exact H
theorem InvD.cT (H : InvD Dq w0 w L) (i : Nat) {b : Bool} {x y : Item} (e : b = true) (hi : L[i]? = some (cond b x y)) : InvD Dq w0 w (L.set i x) := H.setI i hi (by rw [e]; rfl)
theorem InvD.cF (H : InvD Dq w0 w L) (i : Nat) {b : Bool} {x y : Item} (e : b = false) (hi : L[i]? = some (cond b x y)) : InvD Dq w0 w (L.set i y) := H.setI i hi (by rw [e]; rfl)
theorem InvD.rT (H : InvD Dq w0 w L) (i : Nat) {b : Bool} {x y : Item} (e : b = true) (hi : L[i]? = some x) : InvD Dq w0 w (L.set i (cond b x y)) := H.setI i hi (by rw [e]; rfl)
theorem InvD.rF (H : InvD Dq w0 w L) (i : Nat) {b : Bool} {x y : Item} (e : b = false) (hi : L[i]? = some y) : InvD Dq w0 w (L.set i (cond b x y)) := H.setI i hi (by rw [e]; rfl)
theorem Inv.belowF (H : Inv w0 w (A ++ L0)) (hb : BelowX (fpOf L0) w w') : Below w0.heap.size w0 w' := by
  refine ⟨hb.os.trans H.baseX.os, hb.tape.trans H.baseX.tape, hb.output.trans H.baseX.output, Nat.le_trans H.baseX.size hb.size, fun k hk => ?_⟩
  refine (hb.block k (Nat.lt_of_lt_of_le hk H.baseX.size) ?_).trans (H.baseX.block k hk id)
  rintro ⟨it, hi, hf⟩
  rcases ((H.items it (List.mem_append_right _ hi)).2 k hf).1 with h1 | h1
  · omega
  · exact h1
theorem O.callF {k : FuncId} {args : List Operand} {at_ : Array TypeId} {vs : List Value} {φ : Value → List Item → Prop} (A L0 : List Item) (H : InvD Dq w0 w (A ++ L0)) (hcb : Callable P k) (hg : want ops g f = true) (hd : Nat.blt d n = true)
    (ha : args.map (ev f) = vs) (hc : Calls P k vs.toArray w fun e w' => ∃ v L1, e = .returned v ∧ InvD (fpOf L0) w w' L1 ∧ φ v L1)
    (h : ∀ v w' L1, InvD Dq w0 w' (A ++ L1) → φ v L1 → WL P n ds ops rest K (upd f d v) w') : WL P n ds ops (⟨some d, .call ⟨.value (.func k), args.toArray, at_⟩, T0, pos, aft, g⟩ :: rest) K f w := by
  refine WL.enter hg hd (k := k) (args := vs.toArray) ?_ (hc.mono ?_)
  · simp only [execOp, resolve, ev, Deferred.ofValue, List.map_toArray, ha, Sem.run_bind, Sem.run_pure, Result.andThen_ok, invoke]
    simpa using hcb _ _
  · rintro e w' ⟨v, L1, rfl, hI, hφ⟩
    exact ⟨v, rfl, h v w' L1 (H.join hI) hφ⟩
theorem O.callFV {k : FuncId} {x : Operand} {args : List Operand} {at_ : Array TypeId} {first cap : Array Value} {vs : List Value} {φ : Value → List Item → Prop} (A L0 : List Item) (H : InvD Dq w0 w (A ++ L0)) (hcb : Callable P k)
    (hg : want ops g f = true) (hd : Nat.blt d n = true) (hx : ev f x = .func (.func k) first cap) (ha : args.map (ev f) = vs)
    (hc : Calls P k (first ++ vs.toArray ++ cap) w fun e w' => ∃ v L1, e = .returned v ∧ InvD (fpOf L0) w w' L1 ∧ φ v L1)
    (h : ∀ v w' L1, InvD Dq w0 w' (A ++ L1) → φ v L1 → WL P n ds ops rest K (upd f d v) w') : WL P n ds ops (⟨some d, .call ⟨.value x, args.toArray, at_⟩, T0, pos, aft, g⟩ :: rest) K f w := by
  refine WL.enter hg hd (k := k) (args := first ++ vs.toArray ++ cap) ?_ (hc.mono ?_)
  · simp only [execOp, resolve, hx, Deferred.ofValue, List.map_toArray, ha, Sem.run_bind, Sem.run_pure, Result.andThen_ok, invoke]
    simpa using hcb _ _
  · rintro e w' ⟨v, L1, rfl, hI, hφ⟩
    exact ⟨v, rfl, h v w' L1 (H.join hI) hφ⟩
def NilB (v : Value) (b : Bool) : Prop := ∃ a len cap, v = .slice a len cap ∧ b = a.isNone
theorem O.eqlNilB {x y : Operand} {E : TypeId} {v : Value} {b : Bool} (hT : P.underlying T = some (.slice E)) (hv : NilB v b) (hg : want ops g f = true) (hd : Nat.blt d n = true) (hx : ev f x = v) (hy : ev f y = .slice none 0 0)
    (h : WL P n ds ops rest K (upd f d (.bool b)) w) : WL P n ds ops (⟨some d, .binOp .eql T x y T', T0, pos, aft, g⟩ :: rest) K f w := by
  obtain ⟨a, len, cap, rfl, rfl⟩ := hv
  exact O.eqlNil hT hg hd hx hy h
theorem O.neqNilB {x y : Operand} {E : TypeId} {v : Value} {b : Bool} (hT : P.underlying T = some (.slice E)) (hv : NilB v b) (hg : want ops g f = true) (hd : Nat.blt d n = true) (hx : ev f x = v) (hy : ev f y = .slice none 0 0)
    (h : WL P n ds ops rest K (upd f d (.bool (!b))) w) : WL P n ds ops (⟨some d, .binOp .neq T x y T', T0, pos, aft, g⟩ :: rest) K f w := by
  obtain ⟨a, len, cap, rfl, rfl⟩ := hv
  exact O.neqNil hT hg hd hx hy h
end

section
variable {P : Program} {n : Nat} {ds : Md} {ops : Array Oper} {rest : List Oper} {K : Fr → World → Prop} {f : Fr} {w : World} {T T0 : TypeId} {pos : String} {aft : Array Edge} {g : Option (Nat × Bool)} {d : Nat}
theorem O.lenM {α β : Type} [Flat α] [Flat β] {s : Operand} {v : Value} {kv : List (α × β)} {kT eT : TypeId} (hT : P.underlying T = some (.map kT eT)) (hR : MapR w v kv) (hg : want ops g f = true) (hd : Nat.blt d n = true)
    (hs : ev f s = v) (h : WL P n ds ops rest K (upd f d (.int .i64 (kv.length : Int))) w) : WL P n ds ops (⟨some d, .call ⟨.builtin .len, #[s], #[T]⟩, T0, pos, aft, g⟩ :: rest) K f w := by
  refine WL.val hg hd ?_ h
  rcases hR with ⟨rfl, rfl⟩ | ⟨r, rfl, es, c, h1, h2, _⟩
  · simp [execOp, resolve, invoke, builtin, hs, Builtin.len_, run_underlying hT, goInt]
  · have hl : es.size = kv.length := by simpa using congrArg List.length h2
    have hget : (getObj r).run P w = .ok (.map es c) w := by simp [getObj, Sem.run, h1]
    simp [execOp, resolve, invoke, builtin, hs, Builtin.len_, run_underlying hT, goInt, hget, hl]
end
section
variable {P : Program} {n : Nat} {ds : Md} {ops : Array Oper} {rest : List Oper} {K : Fr → World → Prop} {f : Fr} {w : World} {T T0 : TypeId} {pos : String} {aft : Array Edge} {g : Option (Nat × Bool)} {d : Nat}
end
/-! Arrays that are given to a law. -/
section
open Go.ChangeShapes Go.WideShapes Go.ChangeAt
end

/-! Regions that draw their order, with what they do told for each set of operations that may have been done. -/
def ins (k : Nat) (S : Nat → Bool) : Nat → Bool := fun i => Nat.beq i k || S i
def allT (S : Nat → Bool) : List Nat → Prop
  | [] => True
  | j :: js => S j = true ∧ allT S js
def allF (S : Nat → Bool) : List Nat → Prop
  | [] => True
  | j :: js => S j = false ∧ allF S js
theorem allT_mk {S : Nat → Bool} : ∀ {l : List Nat}, (∀ j ∈ l, S j = true) → allT S l
  | [], _ => trivial
  | j :: _, h => ⟨h j (List.mem_cons_self ..), allT_mk fun i hi => h i (List.mem_cons_of_mem _ hi)⟩
theorem allF_mk {S : Nat → Bool} : ∀ {l : List Nat}, (∀ j ∈ l, S j = false) → allF S l
  | [], _ => trivial
  | j :: _, h => ⟨h j (List.mem_cons_self ..), allF_mk fun i hi => h i (List.mem_cons_of_mem _ hi)⟩
def Obl (P : Program) (n : Nat) (ds : Md) (ops : Array Oper) (deps afts : List (List Nat)) (Φ : (Nat → Bool) → Fr → World → Prop) : Nat → List Oper → Prop
  | _, [] => True
  | i, o :: rest => (∀ S f w, S i = false → allT S (deps.getD i []) → allF S (afts.getD i []) → Φ S f w → WL P n ds ops [o] (fun f' w' => Φ (ins i S) f' w') f w) ∧ Obl P n ds ops deps afts Φ (i + 1) rest
theorem Obl.at {P : Program} {n : Nat} {ds : Md} {ops : Array Oper} {deps afts : List (List Nat)} {Φ : (Nat → Bool) → Fr → World → Prop} : ∀ {l : List Oper} {k : Nat}, Obl P n ds ops deps afts Φ k l → ∀ i o, l[i]? = some o →
    ∀ S f w, S (k + i) = false → allT S (deps.getD (k + i) []) → allF S (afts.getD (k + i) []) → Φ S f w → WL P n ds ops [o] (fun f' w' => Φ (ins (k + i) S) f' w') f w
  | [], _, _, i, o, hi => by simp at hi
  | p :: l, k, h, 0, o, hi => by
    simp only [List.getElem?_cons_zero, Option.some.injEq] at hi
    subst hi
    exact h.1
  | p :: l, k, h, i + 1, o, hi => by
    have := Obl.at h.2 i o (by simpa using hi)
    rw [show k + 1 + i = k + (i + 1) by omega] at this
    exact this
def drawOkD (l : List Oper) (M : Nat) (deps afts : List (List Nat)) : Bool :=
  (List.range l.length).all (fun i => ((l[i]?).map fun o => (bE o).all fun e => Nat.blt e.on i).getD false) &&
  (List.range l.length).all (fun i => Nat.blt i M || (List.range i).all fun j => (maskF l l.length i).testBit j) &&
  Nat.ble M l.length &&
  (List.range M).all (fun i => (deps.getD i []).all fun j => (maskF l l.length i).testBit j) &&
  (List.range M).all (fun i => (afts.getD i []).all fun j => Nat.blt j l.length && (maskF l l.length j).testBit i)
section
variable {P : Program} {n : Nat} {ds : Md} {Kn : Fr → World → Prop} {Kx : Nat → Fr → World → Prop} {Kr : Fr → World → Prop} {f0 : Fr} {w1 : World}
theorem W.drawD {rid : Nat} {l : List Oper} (M : Nat) (deps afts : List (List Nat)) (Φ : (Nat → Bool) → Fr → World → Prop) (hfol : P.follows .mixedOrders = true) (hchk : drawOkD l M deps afts = true)
    (h0 : ∀ d, w1.drawn ≤ d → Φ (fun _ => false) f0 { w1 with drawn := d }) (hob : Obl P n ds l.toArray deps afts Φ 0 (l.take M))
    (hend : ∀ S f w, allT S (List.range M) → Φ S f w → WL P n ds l.toArray (l.drop M) Kn f w) : W P n ds (.region rid l.toArray true) Kn Kx Kr f0 w1 := by
  simp only [drawOkD, Bool.and_eq_true, List.all_eq_true, List.mem_range] at hchk
  obtain ⟨⟨⟨⟨hlt0, hmask⟩, hM⟩, hdeps⟩, hafts⟩ := hchk
  have hM := Nat.le_of_ble_eq_true hM
  have hlt : ∀ (i : Nat) (o : Oper), l[i]? = some o → ∀ e ∈ bE o, e.on < i := by
    intro i o ho e he
    have h := hlt0 i (List.getElem?_eq_some_iff.1 ho).1
    rw [ho] at h
    simp only [Option.map_some, Option.getD_some, List.all_eq_true] at h
    simpa [Nat.blt_eq] using h e he
  intro a ha
  refine wpIn_region_any hfol ?_
  generalize hQ : post n ds Kn Kx Kr = Q
  have hQn : ∀ a' w', (∃ f', Sim n ds a' f' ∧ Kn f' w') → Q .normal a' w' := by subst hQ; exact fun _ _ h => h
  have hQp : ∀ ch (a' : Act) w', ds.pan ch w' → (ds.marked = false → a'.defers = ds.tl) → Q (.panic ch) a' w' := by subst hQ; exact fun _ _ _ h1 h2 => ⟨h1, h2⟩
  have key : ∀ (fuel : Nat) (listed : Array Bool) (a : Act) (w : World), listed.size = l.length → listed.toList.count false = fuel →
      (∀ (i : Nat) (o : Oper), l[i]? = some o → listed.getD i false = true → ∀ e ∈ bE o, listed.getD e.on false = true) →
      ((∃ f, Sim n ds a f ∧ Φ (fun i => listed.getD i false) f w ∧ ∀ i, M ≤ i → listed.getD i false = false) ∨
        ∃ p, M ≤ p ∧ p ≤ l.length ∧ (∀ i, listed.getD i false = true ↔ i < p) ∧ wpListIn (FR ds) 0 P l.toArray Q (l.drop p) a w) → wpAnyIn (FR ds) 0 P .any l.toArray Q fuel listed a w := by
    intro fuel
    induction fuel with
    | zero =>
      intro listed a w hsz hcnt hcl hph
      have hall : ∀ i, i < l.length → listed.getD i false = true := by
        intro i hi
        have h0 := List.count_eq_zero.1 hcnt
        have hi' : i < listed.size := by omega
        cases hb : listed[i] with
        | true => simp [Array.getD_eq_getD_getElem?, hi', hb]
        | false => exact absurd (by rw [← hb]; exact Array.mem_toList_iff.2 (Array.getElem_mem hi')) h0
      refine ⟨?_, ?_⟩
      · unfold Region.ready
        rw [List.filter_eq_nil_iff]
        intro i hi
        have hi' : i < l.length := by simpa using hi
        have := hall i hi'
        have hi2 : i < listed.size := by omega
        simp only [Array.getD_eq_getD_getElem?, hi2, Array.getElem?_eq_getElem, Option.getD_some] at this ⊢
        simp [this]
      · rcases hph with ⟨f, hs, hb, hno⟩ | ⟨p, hp1, hp2, hpS, hwp⟩
        · have hMl : M = l.length := by
            by_cases e : M = l.length
            · exact e
            · have h1 := hall M (by omega)
              have h2 := hno M (Nat.le_refl _)
              rw [h1] at h2; cases h2
          have h := hend _ f w (allT_mk fun j hj => hall j (by have := List.mem_range.1 hj; omega)) hb a hs Q hQn hQp
          rw [List.drop_eq_nil_of_le (by omega)] at h
          exact h
        · have : p = l.length := by
            by_cases e : p = l.length
            · exact e
            · have h1 := (hpS p).1 (hall p (by omega)); omega
          rw [List.drop_eq_nil_of_le (by omega)] at hwp
          exact hwp
    | succ fuel ih =>
      intro listed a w hsz hcnt hcl hph
      have hph2 : (∃ f, Sim n ds a f ∧ Φ (fun i => listed.getD i false) f w ∧ (∀ i, M ≤ i → listed.getD i false = false) ∧ ∃ k, k < M ∧ listed.getD k false = false) ∨
          ∃ p, M ≤ p ∧ p ≤ l.length ∧ (∀ i, listed.getD i false = true ↔ i < p) ∧ wpListIn (FR ds) 0 P l.toArray Q (l.drop p) a w := by
        rcases hph with ⟨f, hs, hb, hno⟩ | h
        · by_cases hk : ∃ k, k < M ∧ listed.getD k false = false
          · exact .inl ⟨f, hs, hb, hno, hk⟩
          · have hall : ∀ k, k < M → listed.getD k false = true := by
              intro k hkm
              cases hb2 : listed.getD k false with
              | true => rfl
              | false => exact absurd ⟨k, hkm, hb2⟩ hk
            refine .inr ⟨M, Nat.le_refl _, hM, fun i => ⟨fun h => ?_, fun h => hall i h⟩, ?_⟩
            · by_cases e : i < M
              · exact e
              · rw [hno i (by omega)] at h; cases h
            · exact hend _ f w (allT_mk fun j hj => hall j (List.mem_range.1 hj)) hb a hs Q hQn hQp
        · exact .inr h
      have hnext : ∀ i, i < l.length → listed.getD i false = false → (listed.setIfInBounds i true).size = l.length ∧ (listed.setIfInBounds i true).toList.count false = fuel := by
        intro i hi hf
        refine ⟨by simp [hsz], ?_⟩
        have hi' : i < listed.toList.length := by simp; omega
        rw [Array.toList_setIfInBounds, List.count_set hi', hcnt]
        have : listed.toList[i] = false := by simpa [Array.getD_eq_getD_getElem?, show i < listed.size by omega] using hf
        simp [this]
      have hget : ∀ i j, (listed.setIfInBounds i true).getD j false = true ↔ (listed.getD j false = true ∨ (i = j ∧ j < l.length)) := by
        intro i j
        simp only [Array.getD_eq_getD_getElem?, Array.getElem?_setIfInBounds, hsz]
        by_cases e : i = j
        · subst e
          by_cases h : i < l.length
          · simp [h]
          · have : ¬ i < listed.size := by omega
            simp [h, this]
        · simp [e]
      have hready : ∀ i, i ∈ Region.ready .any l.toArray listed → i < l.length ∧ listed.getD i false = false ∧ ∀ o : Oper, l[i]? = some o → ∀ e ∈ bE o, listed.getD e.on false = true := by
        intro i hi
        unfold Region.ready at hi
        rw [List.mem_filter] at hi
        obtain ⟨h1, h2⟩ := hi
        have hil : i < l.length := by simpa using h1
        simp only [Bool.and_eq_true] at h2
        refine ⟨hil, ?_, ?_⟩
        · have := h2.1
          simpa [Array.getD_eq_getD_getElem?, show i < listed.size by omega] using this
        · intro o ho e he
          have h3 := h2.2
          simp only [List.getElem?_toArray, ho, Option.map_some, Option.getD_some] at h3
          obtain ⟨he1, h5⟩ := List.mem_filter.1 he
          have h4 := (Array.all_eq_true'.1 h3) e (Array.mem_toList_iff.1 he1)
          simpa [h5] using h4
      refine ⟨?_, ?_⟩
      · intro hnil
        exfalso
        have hex : ∃ i, i < l.length ∧ listed.getD i false = false := by
          have h0 : false ∈ listed.toList := by
            rw [← List.count_pos_iff]; omega
          obtain ⟨i, hi, he⟩ := List.mem_iff_getElem.1 h0
          have hi' : i < listed.size := by simpa using hi
          exact ⟨i, by omega, by simpa [Array.getD_eq_getD_getElem?, hi'] using he⟩
        obtain ⟨i, hi⟩ := hex
        have hleast : ∃ i, (i < l.length ∧ listed.getD i false = false) ∧ ∀ j, j < i → listed.getD j false = true := by
          clear hnil
          induction i using Nat.strongRecOn with
          | _ i ih2 =>
            by_cases h : ∃ j, j < i ∧ listed.getD j false = false
            · obtain ⟨j, h1, h2⟩ := h
              exact ih2 j h1 ⟨by omega, h2⟩
            · refine ⟨i, hi, fun j hj => ?_⟩
              cases hb : listed.getD j false with
              | true => rfl
              | false => exact absurd ⟨j, hj, hb⟩ h
        obtain ⟨i, ⟨hil, hif⟩, hmin⟩ := hleast
        have hmem : i ∈ Region.ready .any l.toArray listed := by
          unfold Region.ready
          rw [List.mem_filter]
          refine ⟨by simpa using hil, ?_⟩
          have ho : l[i]? = some l[i] := List.getElem?_eq_getElem hil
          simp only [List.getElem?_toArray, ho, Option.map_some, Option.getD_some, Bool.and_eq_true]
          refine ⟨by simpa [Array.getD_eq_getD_getElem?, show i < listed.size by omega] using hif, ?_⟩
          rw [Array.all_eq_true']
          intro e he
          by_cases h5 : Region.binds .any e = true
          · simp [hmin e.on (hlt i _ ho e (List.mem_filter.2 ⟨Array.mem_toList_iff.2 he, h5⟩))]
          · simp [h5]
        rw [hnil] at hmem
        cases hmem
      · intro i hi
        obtain ⟨hil, hif, hie⟩ := hready i hi
        have ho : l[i]? = some l[i] := List.getElem?_eq_getElem hil
        obtain ⟨hn1, hn2⟩ := hnext i hil hif
        have hcl2 : ∀ (j : Nat) (o : Oper), l[j]? = some o → (listed.setIfInBounds i true).getD j false = true → ∀ e ∈ bE o, (listed.setIfInBounds i true).getD e.on false = true := by
          intro j o hj hS e he
          rw [hget] at hS ⊢
          left
          rcases hS with hS | ⟨rfl, _⟩
          · exact hcl j o hj hS e he
          · exact hie o hj e he
        rcases hph2 with ⟨f, hs, hb, hno, k, hk, hkf⟩ | ⟨p, hp1, hp2, hpS, hwp⟩
        · have hiM : i < M := by
            by_cases e : i < M
            · exact e
            · exfalso
              have h1 := hmask i hil
              have hbf : Nat.blt i M = false := by
                cases hb3 : Nat.blt i M with
                | false => rfl
                | true => exact absurd (by simpa [Nat.blt_eq] using hb3) e
              rw [hbf, Bool.false_or, List.all_eq_true] at h1
              have h2 := h1 k (List.mem_range.2 (by omega))
              have := mask_sound (S := fun j => listed.getD j false = true) hlt hcl l.length i _ ho (hie _ ho) k h2
              rw [hkf] at this; cases this
          have hT : allT (fun j => listed.getD j false) (deps.getD i []) := allT_mk fun j hj => mask_sound (S := fun j => listed.getD j false = true) hlt hcl l.length i _ ho (hie _ ho) j (hdeps i hiM j hj)
          have hF : allF (fun j => listed.getD j false) (afts.getD i []) := allF_mk fun j hj => by
            have hja := hafts i hiM j hj
            have hjl : j < l.length := by simpa [Nat.blt_eq] using hja.1
            cases hb2 : listed.getD j false with
            | false => rfl
            | true =>
              have hoj : l[j]? = some l[j] := List.getElem?_eq_getElem hjl
              have := mask_sound (S := fun j => listed.getD j false = true) hlt hcl l.length j _ hoj (hcl j _ hoj hb2) i hja.2
              rw [hif] at this; cases this
          have h1 := Obl.at hob i l[i] (by rw [List.getElem?_take, if_pos hiM, ho]) (fun j => listed.getD j false) f w (by rw [Nat.zero_add]; exact hif) (by rw [Nat.zero_add]; exact hT) (by rw [Nat.zero_add]; exact hF) hb
          rw [Nat.zero_add] at h1
          have h2 := h1 a hs (fun e a' w' => match e with | .normal => wpAnyIn (FR ds) 0 P .any l.toArray Q fuel (listed.setIfInBounds i true) a' w' | _ => Q e a' w') ?_ hQp
          · unfold wpOpIn
            simp only [List.getElem?_toArray, ho]
            unfold wpListIn at h2
            split at h2
            · rename_i hw
              rw [if_pos hw]
              refine ⟨h2.1, ?_⟩
              have h2 := h2.2
              unfold Oper.uponIn at h2 ⊢
              split at h2
              · exact h2
              · exact h2
              · exact h2
              · refine ⟨h2.1, h2.2.mono ?_⟩
                intro e w'' hq
                cases e with
                | returned v => exact hq
                | panicked c => exact hq
                | outgrown => exact hq
              · exact h2
              · refine ⟨h2.1, h2.2.mono ?_⟩
                intro e w'' hq
                cases e with
                | returned v => exact hq
                | panicked c => exact hq
                | outgrown => exact hq
              · exact h2
              · exact h2.elim
            · rename_i hw
              rw [if_neg hw]
              exact h2
          · rintro a' w' ⟨f', hs', hφ⟩
            refine ih _ a' w' hn1 hn2 hcl2 (.inl ⟨f', hs', ?_, ?_⟩)
            · have e : ins i (fun j => listed.getD j false) = fun j => (listed.setIfInBounds i true).getD j false := by
                funext j
                show (Nat.beq j i || listed.getD j false) = _
                cases hb3 : (listed.setIfInBounds i true).getD j false with
                | true =>
                  rcases (hget i j).1 hb3 with h | ⟨rfl, _⟩
                  · rw [h, Bool.or_true]
                  · rw [Nat.beq_refl, Bool.true_or]
                | false =>
                  have h4 : listed.getD j false = false := by
                    cases h : listed.getD j false with
                    | false => rfl
                    | true => rw [(hget i j).2 (.inl h)] at hb3; cases hb3
                  have h5 : Nat.beq j i = false := by
                    cases h : Nat.beq j i with
                    | false => rfl
                    | true =>
                      have hji := Nat.eq_of_beq_eq_true h
                      subst hji
                      rw [(hget j j).2 (.inr ⟨rfl, hil⟩)] at hb3; cases hb3
                  rw [h4, h5]; rfl
              rw [← e]; exact hφ
            · intro j hj
              cases hb3 : (listed.setIfInBounds i true).getD j false with
              | false => rfl
              | true =>
                rw [hget] at hb3
                rcases hb3 with h | ⟨rfl, _⟩
                · rw [hno j hj] at h; cases h
                · omega
        · have hip : i = p := by
            have h1 : ¬ i < p := fun h => by rw [(hpS i).2 h] at hif; cases hif
            by_cases e : i = p
            · exact e
            · exfalso
              have h2 := hmask i hil
              have hbf : Nat.blt i M = false := by
                cases hb3 : Nat.blt i M with
                | false => rfl
                | true => exact absurd (by simpa [Nat.blt_eq] using hb3) (by omega)
              rw [hbf, Bool.false_or, List.all_eq_true] at h2
              have h3 := h2 p (List.mem_range.2 (by omega))
              have := mask_sound (S := fun j => listed.getD j false = true) hlt hcl l.length i _ ho (hie _ ho) p h3
              have := (hpS p).1 this
              omega
          subst hip
          rw [List.drop_eq_getElem_cons hil] at hwp
          unfold wpOpIn
          simp only [List.getElem?_toArray, ho]
          have hph3 : ∀ a' w', wpListIn (FR ds) 0 P l.toArray Q (l.drop (i + 1)) a' w' → wpAnyIn (FR ds) 0 P .any l.toArray Q fuel (listed.setIfInBounds i true) a' w' := by
            intro a' w' h
            refine ih _ a' w' hn1 hn2 hcl2 (.inr ⟨i + 1, by omega, by omega, fun j => ?_, h⟩)
            rw [hget, hpS]
            constructor
            · rintro (h | ⟨rfl, _⟩) <;> omega
            · intro h
              by_cases e : i = j
              · exact .inr ⟨e, by omega⟩
              · exact .inl (by omega)
          unfold wpListIn at hwp
          split at hwp
          · rename_i hw
            rw [if_pos hw]
            exact Oper.wpIn_mono hph3 hwp
          · rename_i hw
            rw [if_neg hw]
            exact ⟨hwp.1, hph3 _ _ hwp.2⟩
  have hrep : ∀ j, (Array.replicate l.toArray.size false).getD j false = false := by
    intro j
    simp only [Array.getD_eq_getD_getElem?, Array.getElem?_replicate]
    split <;> rfl
  refine key l.toArray.size _ a _ (by simp) (by simp) (fun i o _ h => by rw [hrep] at h; cases h) (.inl ⟨f0, ha, ?_, fun i _ => hrep i⟩)
  have e : (fun i => (Array.replicate l.toArray.size false).getD i false) = fun _ => false := funext hrep
  rw [e]
  exact h0 _ (Nat.le_add_right _ _)
end
end Go.Fw
