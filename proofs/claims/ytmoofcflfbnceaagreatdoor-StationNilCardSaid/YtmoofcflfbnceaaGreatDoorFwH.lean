/-
  THE FRAMEWORK, PART H: a region that draws its order: operations that only read, call or make memory come in any order, those behind them in one.
-/
import Derived.Test.YtmoofcflfbnceaaGreatDoorFwG
import Derived.Orders
namespace Go.Fw
open Go.RowKit

def bE (o : Oper) : List Edge := o.after.toList.filter fun e => Region.binds .any e
def maskF (l : List Oper) : Nat → Nat → Nat
  | 0, _ => 0
  | k + 1, i => match l[i]? with
    | some o => (bE o).foldr (fun e s => (2 ^ e.on ||| maskF l k e.on) ||| s) 0
    | none => 0

theorem mask_sound {l : List Oper} {S : Nat → Prop} (hlt : ∀ (i : Nat) (o : Oper), l[i]? = some o → ∀ e ∈ bE o, e.on < i) (hcl : ∀ (i : Nat) (o : Oper), l[i]? = some o → S i → ∀ e ∈ bE o, S e.on) :
    ∀ (k i : Nat) (o : Oper), l[i]? = some o → (∀ e ∈ bE o, S e.on) → ∀ j, (maskF l k i).testBit j = true → S j := by
  intro k
  induction k with
  | zero => intro i o _ _ j h; simp [maskF] at h
  | succ k ih =>
    intro i o ho he j h
    simp only [maskF, ho] at h
    have hi : i < l.length := (List.getElem?_eq_some_iff.1 ho).1
    have key : ∀ es : List Edge, (∀ e ∈ es, S e.on ∧ e.on < i) → (es.foldr (fun e s => (2 ^ e.on ||| maskF l k e.on) ||| s) 0).testBit j = true → S j := by
      intro es
      induction es with
      | nil => intro _ h; simp at h
      | cons e es ih2 =>
        intro h1 h3
        simp only [List.foldr_cons, Nat.testBit_or, Bool.or_eq_true] at h3
        obtain ⟨hS, hl⟩ := h1 e (by simp)
        rcases h3 with (h3 | h3) | h3
        · rw [Nat.testBit_two_pow] at h3
          have : e.on = j := by simpa using h3
          rw [← this]; exact hS
        · have ho2 : l[e.on]? = some (l[e.on]'(by omega)) := List.getElem?_eq_getElem (by omega)
          exact ih e.on _ ho2 (hcl e.on _ ho2 hS) j h3
        · exact ih2 (fun e he => h1 e (by simp [he])) h3
    exact key _ (fun e hm => ⟨he e hm, hlt i o ho e hm⟩) h

def dstOf (l : List Oper) (k : Nat) : Nat := ((l[k]?).bind (·.dst)).getD 0
def dstsOf' (l : List Oper) (m : Nat) : List Nat := (l.take m).filterMap (·.dst)
def edgeB (l : List Oper) (k j : Nat) : Bool := ((l[k]?).map fun o => (bE o).any fun e => Nat.beq e.on j).getD false
def nodupB : List Nat → Bool
  | [] => true
  | x :: xs => !xs.contains x && nodupB xs
def drawOk (l : List Oper) (m : Nat) : Bool :=
  (List.range l.length).all (fun i => ((l[i]?).map fun o => (bE o).all fun e => Nat.blt e.on i).getD false) &&
  (List.range l.length).all (fun i => Nat.blt i m || (List.range i).all fun j => (maskF l l.length i).testBit j) &&
  Nat.ble m l.length && (l.take m).all (fun o => o.dst.isSome) && nodupB (dstsOf' l m)
def allBelow (m : Nat) (G : Nat → Prop) : Prop := match m with
  | 0 => True
  | m + 1 => allBelow m G ∧ G m
theorem allBelow.at {m : Nat} {G : Nat → Prop} (h : allBelow m G) : ∀ k, k < m → G k := by
  induction m with
  | zero => intro k hk; omega
  | succ m ih =>
    intro k hk
    by_cases e : k = m
    · subst e; exact h.2
    · exact ih h.1 k (by omega)
theorem nodupB_nodup : ∀ {l : List Nat}, nodupB l = true → l.Nodup
  | [], _ => List.nodup_nil
  | x :: xs, h => by
    simp only [nodupB, Bool.and_eq_true, Bool.not_eq_true'] at h
    rw [List.nodup_cons]
    refine ⟨fun hm => ?_, nodupB_nodup h.2⟩
    rw [List.contains_iff_mem.2 hm] at h
    exact absurd h.1 (by simp)

theorem dst_inj {l : List Oper} {m : Nat} (hs : ∀ o ∈ l.take m, o.dst.isSome = true) (hn : (dstsOf' l m).Nodup) {i j : Nat} (hi : i < m) (hj : j < m) (hil : i < l.length) (hjl : j < l.length) (e : dstOf l i = dstOf l j) : i = j := by
  have hmap : dstsOf' l m = (l.take m).map (fun o => o.dst.getD 0) := by
    unfold dstsOf'
    revert hs
    generalize l.take m = L
    intro hs
    induction L with
    | nil => rfl
    | cons o L ih =>
      have h1 := hs o (by simp)
      cases hd : o.dst with
      | none => rw [hd] at h1; cases h1
      | some d => simp [hd, ih (fun o ho => hs o (by simp [ho]))]
  rw [hmap] at hn
  have hd : ∀ k, k < m → k < l.length → ((l.take m).map (fun o => o.dst.getD 0))[k]? = some (dstOf l k) := by
    intro k hk hkl
    rw [List.getElem?_map, List.getElem?_take, if_pos hk, List.getElem?_eq_getElem hkl]
    simp [dstOf, List.getElem?_eq_getElem hkl]
  have h1 := hd i hi hil
  have h2 := hd j hj hjl
  obtain ⟨a1, b1⟩ := List.getElem?_eq_some_iff.1 h1
  obtain ⟨a2, b2⟩ := List.getElem?_eq_some_iff.1 h2
  have hp := List.pairwise_iff_getElem.1 hn
  rcases Nat.lt_trichotomy i j with h | h | h
  · exact absurd (b1.trans (e.trans b2.symm)) (hp i j a1 a2 h)
  · exact h
  · exact absurd (b2.trans (e.symm.trans b1.symm)) (hp j i a2 a1 h)

section
variable {P : Program} {n : Nat} {ds : Md} {Kn : Fr → World → Prop} {Kx : Nat → Fr → World → Prop} {Kr : Fr → World → Prop} {f0 : Fr} {w1 : World}

theorem W.draw {rid : Nat} {l : List Oper} (m : Nat) (φ : Nat → Value → World → Prop) (hmono : ∀ k v w w', φ k v w → Below w.heap.size w w' → φ k v w') (hfol : P.follows .mixedOrders = true) (hchk : drawOk l m = true)
    (hop : allBelow m fun k => ∀ f w, Below w1.heap.size w1 w → (∀ t, (dstsOf' l m).contains t = false → f t = f0 t) → (∀ j, edgeB l k j = true → φ j (f (dstOf l j)) w) →
      WL P n ds l.toArray ((l.drop k).take 1) (fun f' w' => Below w.heap.size w w' ∧ ∃ v, f' = upd f (dstOf l k) v ∧ φ k v w') f w)
    (hend : ∀ f w, Below w1.heap.size w1 w → (∀ t, (dstsOf' l m).contains t = false → f t = f0 t) → f.marks = f0.marks → (∀ k, Nat.blt k m = true → φ k (f (dstOf l k)) w) → WL P n ds l.toArray (l.drop m) Kn f w) :
    W P n ds (.region rid l.toArray true) Kn Kx Kr f0 w1 := by
  simp only [drawOk, Bool.and_eq_true, List.all_eq_true, List.mem_range] at hchk
  obtain ⟨⟨⟨⟨hlt0, hmask⟩, hm⟩, hsome⟩, hnd⟩ := hchk
  have hm := Nat.le_of_ble_eq_true hm
  have hnd := nodupB_nodup hnd
  have hlt : ∀ (i : Nat) (o : Oper), l[i]? = some o → ∀ e ∈ bE o, e.on < i := by
    intro i o ho e he
    have h := hlt0 i (List.getElem?_eq_some_iff.1 ho).1
    rw [ho] at h
    simp only [Option.map_some, Option.getD_some, List.all_eq_true] at h
    simpa [Nat.blt_eq] using h e he
  have hops := hop.at
  intro a ha
  refine wpIn_region_any hfol ?_
  generalize hQ : post n ds Kn Kx Kr = Q
  have hQn : ∀ a' w', (∃ f', Sim n ds a' f' ∧ Kn f' w') → Q .normal a' w' := by subst hQ; exact fun _ _ h => h
  have hQp : ∀ ch (a' : Act) w', ds.pan ch w' → (ds.marked = false → a'.defers = ds.tl) → Q (.panic ch) a' w' := by subst hQ; exact fun _ _ _ h1 h2 => ⟨h1, h2⟩
  have key : ∀ (fuel : Nat) (listed : Array Bool) (a : Act) (w : World), listed.size = l.length → listed.toList.count false = fuel →
      (∀ (i : Nat) (o : Oper), l[i]? = some o → listed.getD i false = true → ∀ e ∈ bE o, listed.getD e.on false = true) →
      ((∃ f, Sim n ds a f ∧ Below w1.heap.size w1 w ∧ (f.marks = f0.marks ∧ ∀ t, (dstsOf' l m).contains t = false → f t = f0 t) ∧ (∀ k, k < m → listed.getD k false = true → φ k (f (dstOf l k)) w) ∧ ∀ i, m ≤ i → listed.getD i false = false) ∨
        ∃ p, m ≤ p ∧ p ≤ l.length ∧ (∀ i, listed.getD i false = true ↔ i < p) ∧ wpListIn (FR ds) 0 P l.toArray Q (l.drop p) a w) → wpAnyIn (FR ds) 0 P .any l.toArray Q fuel listed a w := by
    intro fuel
    induction fuel with
    | zero =>
      intro listed a w hsz hcnt hcl hph
      have hall : ∀ i, i < l.length → listed.getD i false = true := by
        intro i hi
        have h0 := List.count_eq_zero.1 hcnt
        have hi' : i < listed.size := by omega
        cases hb : listed[i] with
        | true => simp [Array.getD_eq_getD_getElem?, hi', hb]
        | false => exact absurd (by rw [← hb]; exact Array.mem_toList_iff.2 (Array.getElem_mem hi')) h0
      refine ⟨?_, ?_⟩
      · unfold Region.ready
        rw [List.filter_eq_nil_iff]
        intro i hi
        have hi' : i < l.length := by simpa using hi
        have := hall i hi'
        have hi2 : i < listed.size := by omega
        simp only [Array.getD_eq_getD_getElem?, hi2, Array.getElem?_eq_getElem, Option.getD_some] at this ⊢
        simp [this]
      · rcases hph with ⟨f, hs, hb, hf, hφ, hno⟩ | ⟨p, hp1, hp2, hpS, hwp⟩
        · have : m = l.length := by
            by_cases e : m = l.length
            · exact e
            · have h1 := hall m (by omega)
              have h2 := hno m (Nat.le_refl _)
              rw [h1] at h2; cases h2
          have hkm : ∀ k, Nat.blt k m = true → k < m := fun k hk => by simpa [Nat.blt_eq] using hk
          have h := hend f w hb hf.2 hf.1 (fun k hk => hφ k (hkm k hk) (hall k (Nat.lt_of_lt_of_le (hkm k hk) hm))) a hs Q hQn hQp
          rw [List.drop_eq_nil_of_le (by omega)] at h
          exact h
        · have : p = l.length := by
            by_cases e : p = l.length
            · exact e
            · have h1 := (hpS p).1 (hall p (by omega)); omega
          rw [List.drop_eq_nil_of_le (by omega)] at hwp
          exact hwp
    | succ fuel ih =>
      intro listed a w hsz hcnt hcl hph
      -- all of the first kind listed: go over
      have hph2 : (∃ f, Sim n ds a f ∧ Below w1.heap.size w1 w ∧ (f.marks = f0.marks ∧ ∀ t, (dstsOf' l m).contains t = false → f t = f0 t) ∧ (∀ k, k < m → listed.getD k false = true → φ k (f (dstOf l k)) w) ∧ (∀ i, m ≤ i → listed.getD i false = false) ∧
            ∃ k, k < m ∧ listed.getD k false = false) ∨
          ∃ p, m ≤ p ∧ p ≤ l.length ∧ (∀ i, listed.getD i false = true ↔ i < p) ∧ wpListIn (FR ds) 0 P l.toArray Q (l.drop p) a w := by
        rcases hph with ⟨f, hs, hb, hf, hφ, hno⟩ | h
        · by_cases hk : ∃ k, k < m ∧ listed.getD k false = false
          · exact .inl ⟨f, hs, hb, hf, hφ, hno, hk⟩
          · have hall : ∀ k, k < m → listed.getD k false = true := by
              intro k hkm
              cases hb2 : listed.getD k false with
              | true => rfl
              | false => exact absurd ⟨k, hkm, hb2⟩ hk
            refine .inr ⟨m, Nat.le_refl _, hm, fun i => ⟨fun h => ?_, fun h => hall i h⟩, ?_⟩
            · by_cases e : i < m
              · exact e
              · rw [hno i (by omega)] at h; cases h
            · have hkm : ∀ k, Nat.blt k m = true → k < m := fun k hk => by simpa [Nat.blt_eq] using hk
              exact hend f w hb hf.2 hf.1 (fun k hk => hφ k (hkm k hk) (hall k (hkm k hk))) a hs Q hQn hQp
        · exact .inr h
      have hnext : ∀ i, i < l.length → listed.getD i false = false → (listed.setIfInBounds i true).size = l.length ∧ (listed.setIfInBounds i true).toList.count false = fuel := by
        intro i hi hf
        refine ⟨by simp [hsz], ?_⟩
        have hi' : i < listed.toList.length := by simp; omega
        rw [Array.toList_setIfInBounds, List.count_set hi', hcnt]
        have : listed.toList[i] = false := by simpa [Array.getD_eq_getD_getElem?, show i < listed.size by omega] using hf
        simp [this]
      have hget : ∀ i j, (listed.setIfInBounds i true).getD j false = true ↔ (listed.getD j false = true ∨ (i = j ∧ j < l.length)) := by
        intro i j
        simp only [Array.getD_eq_getD_getElem?, Array.getElem?_setIfInBounds, hsz]
        by_cases e : i = j
        · subst e
          by_cases h : i < l.length
          · simp [h]
          · have : ¬ i < listed.size := by omega
            simp [h, this]
        · simp [e]
      have hready : ∀ i, i ∈ Region.ready .any l.toArray listed → i < l.length ∧ listed.getD i false = false ∧ ∀ o : Oper, l[i]? = some o → ∀ e ∈ bE o, listed.getD e.on false = true := by
        intro i hi
        unfold Region.ready at hi
        rw [List.mem_filter] at hi
        obtain ⟨h1, h2⟩ := hi
        have hil : i < l.length := by simpa using h1
        simp only [Bool.and_eq_true] at h2
        refine ⟨hil, ?_, ?_⟩
        · have := h2.1
          simpa [Array.getD_eq_getD_getElem?, show i < listed.size by omega] using this
        · intro o ho e he
          have h3 := h2.2
          simp only [List.getElem?_toArray, ho, Option.map_some, Option.getD_some] at h3
          obtain ⟨he1, h5⟩ := List.mem_filter.1 he
          have h4 := (Array.all_eq_true'.1 h3) e (Array.mem_toList_iff.1 he1)
          simpa [h5] using h4
      refine ⟨?_, ?_⟩
      · -- something is ready
        intro hnil
        exfalso
        have hex : ∃ i, i < l.length ∧ listed.getD i false = false := by
          have h0 : false ∈ listed.toList := by
            rw [← List.count_pos_iff]; omega
          obtain ⟨i, hi, he⟩ := List.mem_iff_getElem.1 h0
          have hi' : i < listed.size := by simpa using hi
          exact ⟨i, by omega, by simpa [Array.getD_eq_getD_getElem?, hi'] using he⟩
        obtain ⟨i, hi⟩ := hex
        -- the least
        have hleast : ∃ i, (i < l.length ∧ listed.getD i false = false) ∧ ∀ j, j < i → listed.getD j false = true := by
          clear hnil
          induction i using Nat.strongRecOn with
          | _ i ih2 =>
            by_cases h : ∃ j, j < i ∧ listed.getD j false = false
            · obtain ⟨j, h1, h2⟩ := h
              exact ih2 j h1 ⟨by omega, h2⟩
            · refine ⟨i, hi, fun j hj => ?_⟩
              cases hb : listed.getD j false with
              | true => rfl
              | false => exact absurd ⟨j, hj, hb⟩ h
        obtain ⟨i, ⟨hil, hif⟩, hmin⟩ := hleast
        have hmem : i ∈ Region.ready .any l.toArray listed := by
          unfold Region.ready
          rw [List.mem_filter]
          refine ⟨by simpa using hil, ?_⟩
          have ho : l[i]? = some l[i] := List.getElem?_eq_getElem hil
          simp only [List.getElem?_toArray, ho, Option.map_some, Option.getD_some, Bool.and_eq_true]
          refine ⟨by simpa [Array.getD_eq_getD_getElem?, show i < listed.size by omega] using hif, ?_⟩
          rw [Array.all_eq_true']
          intro e he
          by_cases h5 : Region.binds .any e = true
          · simp [hmin e.on (hlt i _ ho e (List.mem_filter.2 ⟨Array.mem_toList_iff.2 he, h5⟩))]
          · simp [h5]
        rw [hnil] at hmem
        cases hmem
      · intro i hi
        obtain ⟨hil, hif, hie⟩ := hready i hi
        have ho : l[i]? = some l[i] := List.getElem?_eq_getElem hil
        obtain ⟨hn1, hn2⟩ := hnext i hil hif
        have hcl2 : ∀ (j : Nat) (o : Oper), l[j]? = some o → (listed.setIfInBounds i true).getD j false = true → ∀ e ∈ bE o, (listed.setIfInBounds i true).getD e.on false = true := by
          intro j o hj hS e he
          rw [hget] at hS ⊢
          left
          rcases hS with hS | ⟨rfl, _⟩
          · exact hcl j o hj hS e he
          · exact hie o hj e he
        rcases hph2 with ⟨f, hs, hb, hf, hφ, hno, k, hk, hkf⟩ | ⟨p, hp1, hp2, hpS, hwp⟩
        · have him : i < m := by
            by_cases e : i < m
            · exact e
            · exfalso
              have h1 := hmask i hil
              have hbf : Nat.blt i m = false := by
                cases hb3 : Nat.blt i m with
                | false => rfl
                | true => exact absurd (by simpa [Nat.blt_eq] using hb3) e
              rw [hbf, Bool.false_or, List.all_eq_true] at h1
              have h2 := h1 k (List.mem_range.2 (by omega))
              have := mask_sound (S := fun j => listed.getD j false = true) hlt hcl l.length i _ ho (hie _ ho) k h2
              rw [hkf] at this; cases this
          have h1 := hops i him f w hb hf.2 (fun j hj => by
            simp only [edgeB, ho, Option.map_some, Option.getD_some, List.any_eq_true] at hj
            obtain ⟨e, he, hej⟩ := hj
            have : e.on = j := Nat.eq_of_beq_eq_true hej
            subst this
            exact hφ e.on (by have := hlt i _ ho e he; omega) (hie _ ho e he))
          have hone : (l.drop i).take 1 = [l[i]] := by
            rw [List.drop_eq_getElem_cons hil]; rfl
          rw [hone] at h1
          have h2 := h1 a hs (fun e a' w' => match e with | .normal => wpAnyIn (FR ds) 0 P .any l.toArray Q fuel (listed.setIfInBounds i true) a' w' | _ => Q e a' w') ?_ hQp
          · unfold wpOpIn
            simp only [List.getElem?_toArray, ho]
            unfold wpListIn at h2
            split at h2
            · rename_i hw
              rw [if_pos hw]
              refine ⟨h2.1, ?_⟩
              have h2 := h2.2
              unfold Oper.uponIn at h2 ⊢
              split at h2
              · exact h2
              · exact h2
              · exact h2
              · refine ⟨h2.1, h2.2.mono ?_⟩
                intro e w'' hq
                cases e with
                | returned v => exact hq
                | panicked c => exact hq
                | outgrown => exact hq
              · exact h2
              · refine ⟨h2.1, h2.2.mono ?_⟩
                intro e w'' hq
                cases e with
                | returned v => exact hq
                | panicked c => exact hq
                | outgrown => exact hq
              · exact h2
              · exact h2.elim
            · rename_i hw
              rw [if_neg hw]
              exact h2
          · rintro a' w' ⟨f', hs', hb', v, rfl, hv⟩
            refine ih _ a' w' hn1 hn2 hcl2 (.inl ⟨_, hs', hb.trans (hb'.mono hb.size), ⟨hf.1, ?_⟩, ?_, ?_⟩)
            · intro t ht
              have hd : dstOf l i ∈ dstsOf' l m := by
                unfold dstsOf'
                rw [List.mem_filterMap]
                refine ⟨l[i], ?_, ?_⟩
                · exact List.mem_of_getElem? (i := i) (by rw [List.getElem?_take, if_pos him, ho])
                · have := hsome l[i] (List.mem_of_getElem? (i := i) (by rw [List.getElem?_take, if_pos him, ho]))
                  cases hdd : (l[i]).dst with
                  | none => rw [hdd] at this; cases this
                  | some d => simp [dstOf, ho, hdd]
              have hne : t ≠ dstOf l i := by
                rintro rfl
                rw [List.contains_iff_mem.2 hd] at ht; cases ht
              have hbq : Nat.beq t (dstOf l i) = false := by
                cases hb3 : Nat.beq t (dstOf l i) with
                | false => rfl
                | true => exact absurd (Nat.eq_of_beq_eq_true hb3) hne
              show cond (Nat.beq t (dstOf l i)) v (f t) = _
              rw [hbq]; exact hf.2 t ht
            · intro j hj hS
              rw [hget] at hS
              by_cases e : j = i
              · subst e
                show φ j (cond (Nat.beq _ _) v _) w'
                rw [show Nat.beq (dstOf l j) (dstOf l j) = true from Nat.beq_refl _]
                exact hv
              · have hS' : listed.getD j false = true := hS.resolve_right (fun h => e h.1.symm)
                have hjl : j < l.length := by
                  by_cases h : j < l.length
                  · exact h
                  · simp [Array.getD_eq_getD_getElem?, show ¬ j < listed.size by omega] at hS'
                have hne : dstOf l j ≠ dstOf l i := fun h => e (dst_inj hsome hnd hj him hjl hil h)
                have hbq : Nat.beq (dstOf l j) (dstOf l i) = false := by
                  cases hb3 : Nat.beq (dstOf l j) (dstOf l i) with
                  | false => rfl
                  | true => exact absurd (Nat.eq_of_beq_eq_true hb3) hne
                show φ j (cond (Nat.beq (dstOf l j) (dstOf l i)) v (f (dstOf l j))) w'
                rw [hbq]
                exact hmono j _ w w' (hφ j hj hS') hb'
            · intro j hj
              cases hb3 : (listed.setIfInBounds i true).getD j false with
              | false => rfl
              | true =>
                rw [hget] at hb3
                rcases hb3 with h | ⟨rfl, _⟩
                · rw [hno j hj] at h; cases h
                · omega
        · have hip : i = p := by
            have h1 : ¬ i < p := fun h => by rw [(hpS i).2 h] at hif; cases hif
            by_cases e : i = p
            · exact e
            · exfalso
              have h2 := hmask i hil
              have hbf : Nat.blt i m = false := by
                cases hb3 : Nat.blt i m with
                | false => rfl
                | true => exact absurd (by simpa [Nat.blt_eq] using hb3) (by omega)
              rw [hbf, Bool.false_or, List.all_eq_true] at h2
              have h3 := h2 p (List.mem_range.2 (by omega))
              have := mask_sound (S := fun j => listed.getD j false = true) hlt hcl l.length i _ ho (hie _ ho) p h3
              have := (hpS p).1 this
              omega
          subst hip
          rw [List.drop_eq_getElem_cons hil] at hwp
          unfold wpOpIn
          simp only [List.getElem?_toArray, ho]
          have hph3 : ∀ a' w', wpListIn (FR ds) 0 P l.toArray Q (l.drop (i + 1)) a' w' → wpAnyIn (FR ds) 0 P .any l.toArray Q fuel (listed.setIfInBounds i true) a' w' := by
            intro a' w' h
            refine ih _ a' w' hn1 hn2 hcl2 (.inr ⟨i + 1, by omega, by omega, fun j => ?_, h⟩)
            rw [hget, hpS]
            constructor
            · rintro (h | ⟨rfl, _⟩) <;> omega
            · intro h
              by_cases e : i = j
              · exact .inr ⟨e, by omega⟩
              · exact .inl (by omega)
          unfold wpListIn at hwp
          split at hwp
          · rename_i hw
            rw [if_pos hw]
            exact Oper.wpIn_mono hph3 hwp
          · rename_i hw
            rw [if_neg hw]
            exact ⟨hwp.1, hph3 _ _ hwp.2⟩
  have hrep : ∀ j, (Array.replicate l.toArray.size false).getD j false = false := by
    intro j
    simp only [Array.getD_eq_getD_getElem?, Array.getElem?_replicate]
    split <;> rfl
  refine key l.toArray.size _ a _ (by simp) (by simp) (fun i o _ h => by rw [hrep] at h; cases h) (.inl ⟨f0, ha, ⟨rfl, rfl, rfl, Nat.le_refl _, fun _ _ => rfl⟩, ⟨rfl, fun _ _ => rfl⟩, (fun k _ h => by rw [hrep] at h; cases h), fun i _ => hrep i⟩)
end
end Go.Fw
