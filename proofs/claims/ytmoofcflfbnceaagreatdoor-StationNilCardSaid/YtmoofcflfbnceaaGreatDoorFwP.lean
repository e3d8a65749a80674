/-
  THE FRAMEWORK, PART P: functions that are ranged over (iterators) and loops over them. No program in it.
-/
import Derived.Test.YtmoofcflfbnceaaGreatDoorFwN
import Derived.RangeFuncSeq
namespace Go.Fw
open Go.RowKit

/-! What an iterator is told of the loop over it. B: the heap's size where it begins; C: the loop's own blocks, laid since. -/
structure Client {α : Type} (P : Program) (B l : Nat) (rep : World → α → List Value → Prop) (S : List α → Prop) (Kp : World → Prop) (J : List α → (Nat → Prop) → World → Prop) (Jx : (Nat → Prop) → World → Prop) : Prop where
  loc : ∀ pre C w w', J pre C w → Grew w w' → (∀ b, b < B ∨ C b → w'.heap[b]? = w.heap[b]?) → J pre C w'
  locx : ∀ C w w', Jx C w → Grew w w' → (∀ b, b < B ∨ C b → w'.heap[b]? = w.heap[b]?) → Jx C w'
  keep : ∀ pre C w, J pre C w → Kp w
  fp : ∀ pre C w, J pre C w → B ≤ w.heap.size ∧ ∀ b, C b → b < w.heap.size
  fpx : ∀ C w, Jx C w → B ≤ w.heap.size ∧ ∀ b, C b → b < w.heap.size
  step : ∀ pre x C w vs, (∃ rest, S (pre ++ x :: rest)) → J pre C w → rep w x vs →
    YieldAt (FR ⟨none, false, noPan, []⟩) 0 P l vs.toArray w fun e w' => ∃ C', (∀ b, C' b → C b ∨ w.heap.size ≤ b) ∧ Chg (fun b => b < B ∨ C b) w w' ∧
      ((e = .returned (.bool true) ∧ J (pre ++ [x]) C' w') ∨ (e = .returned (.bool false) ∧ Jx C' w'))

def IterAt {α : Type} (P : Program) (g : FuncId) (lb : Array Value) (rep : World → α → List Value → Prop) (S : List α → Prop) (Kp : World → Prop) (W : World) : Prop :=
  ∀ (l : Nat) (J : List α → (Nat → Prop) → World → Prop) (Jx : (Nat → Prop) → World → Prop), Client P W.heap.size l rep S Kp J Jx → J [] (fun _ => False) W →
    Calls P g (#[.func (.yield l) #[] #[]] ++ lb) W fun e W' => ∃ v C, e = .returned v ∧ ((∃ xs, S xs ∧ J xs C W') ∨ Jx C W')
def IterP {α : Type} (P : Program) (w : World) (v : Value) (rep : World → α → List Value → Prop) (S : List α → Prop) : Prop :=
  ∃ g lb, v = .func (.func g) #[] lb ∧ Callable P g ∧ ∀ W Kp, w.heap.size ≤ W.heap.size → (∀ w', Kp w' → Below w.heap.size w w') → IterAt P g lb rep S Kp W
/-! Inside an iterator. -/
section
variable {α : Type} {P : Program} {B l : Nat} {rep : World → α → List Value → Prop} {S : List α → Prop} {Kp : World → Prop} {J : List α → (Nat → Prop) → World → Prop} {Jx : (Nat → Prop) → World → Prop}
def consI (hc : Client P B l rep S Kp J Jx) (pre : List α) (C : Nat → Prop) : Item := ⟨fun b => b < B ∨ C b, fun w => J pre C w, fun _ _ hg hs h => hc.loc _ _ _ _ h hg hs⟩
def consX (hc : Client P B l rep S Kp J Jx) (C : Nat → Prop) : Item := ⟨fun b => b < B ∨ C b, fun w => Jx C w, fun _ _ hg hs h => hc.locx _ _ _ h hg hs⟩
abbrev InvI (w0 w : World) (L : List Item) : Prop := InvD (fun _ => True) w0 w L
theorem InvI.start {W : World} (hc : Client P W.heap.size l rep S Kp J Jx) (h : J [] (fun _ => False) W) : InvI W W [consI hc [] (fun _ => False)] := by
  refine ⟨⟨rfl, rfl, rfl, Nat.le_refl _, fun _ _ h => (h trivial).elim⟩, ?_, List.pairwise_singleton _ _⟩
  intro it hi
  obtain rfl := List.mem_singleton.1 hi
  exact ⟨h, fun b hf => ⟨.inr trivial, hf.elim id False.elim⟩⟩
theorem InvI.kp {w0 w : World} {hc : Client P B l rep S Kp J Jx} {pre : List α} {C : Nat → Prop} {L : List Item} (H : InvI w0 w (consI hc pre C :: L)) : Kp w := hc.keep _ _ _ (H.items _ (List.mem_cons_self ..)).1

variable {n : Nat} {ds : Md} {ops : Array Oper} {rest : List Oper} {K : Fr → World → Prop} {f : Fr} {w w0 : World} {L : List Item} {T T0 : TypeId} {pos : String} {aft : Array Edge} {g : Option (Nat × Bool)} {d : Nat}
theorem O.yield {hc : Client P B l rep S Kp J Jx} {x : Operand} {args : List Operand} {at_ : Array TypeId} {pre : List α} {C : Nat → Prop} (y : α) (vs : List Value) (H : InvI w0 w (consI hc pre C :: L)) (hS : ∃ rest, S (pre ++ y :: rest)) (hrep : rep w y vs)
    (hg : want ops g f = true) (hd : Nat.blt d n = true) (hx : ev f x = .func (.yield l) #[] #[]) (ha : args.map (ev f) = vs)
    (ht : ∀ w' C', InvI w0 w' (consI hc (pre ++ [y]) C' :: L) → WL P n ds ops rest K (upd f d (.bool true)) w')
    (hf : ∀ w' C', InvI w0 w' (consX hc C' :: L) → WL P n ds ops rest K (upd f d (.bool false)) w') :
    WL P n ds ops (⟨some d, .call ⟨.value x, args.toArray, at_⟩, T, pos, aft, g⟩ :: rest) K f w := by
  intro a hsim Q hQ hP
  have hJ := (H.items _ (List.mem_cons_self ..)).1
  obtain ⟨fn, tmps, assign, body, hrun, hround⟩ := hc.step pre y C w vs hS hJ hrep
  have hrun2 : (execOp (ev f) ⟨some d, .call ⟨.value x, args.toArray, at_⟩, T, pos, aft, g⟩).run P w = .ok (.round l fn tmps assign body) w := by
    simp only [execOp, resolve, hx, Deferred.ofValue, List.map_toArray, ha, Sem.run_bind, Sem.run_pure, Result.andThen_ok, invoke]
    simpa using hrun
  refine wanted_wp hsim hg hrun2 (by simp) ⟨fun h => (by cases h), ?_⟩
  refine RoundIn.mono (F := FR ds) (R := fun e w' => ∃ C' : Nat → Prop, (∀ b, C' b → C b ∨ w.heap.size ≤ b) ∧ Chg (fun b => b < B ∨ C b) w w' ∧ ((e = .returned (.bool true) ∧ J (pre ++ [y]) C' w') ∨ (e = .returned (.bool false) ∧ Jx C' w'))) (show RoundIn (FR ds) 0 P l fn tmps assign body w _ from hround) ?_
  rintro e w' ⟨C', h1, h2, ⟨rfl, h3⟩ | ⟨rfl, h3⟩⟩
  · have H' := H.upd 0 (consI hc pre C) (consI hc (pre ++ [y]) C') rfl h2 h3 (fun b hb => by
      obtain ⟨q1, q2⟩ := hc.fp _ _ _ h3
      rcases hb with hb | hb
      · exact ⟨by omega, .inl (.inl hb)⟩
      · exact ⟨q2 b hb, (h1 b hb).imp .inr id⟩)
    exact ht w' C' H' _ (hsim.put (d := some d) hd (.bool true)) Q hQ hP
  · have H' := H.upd 0 (consI hc pre C) (consX hc C') rfl h2 h3 (fun b hb => by
      obtain ⟨q1, q2⟩ := hc.fpx _ _ h3
      rcases hb with hb | hb
      · exact ⟨by omega, .inl (.inl hb)⟩
      · exact ⟨q2 b hb, (h1 b hb).imp .inr id⟩)
    exact hf w' C' H' _ (hsim.put (d := some d) hd (.bool false)) Q hQ hP
end

/-! A loop over an iterator. -/
def loopI (lb : Nat) (r : Loop) : Item := ⟨fun b => b = lb, fun w => w.heap[lb]? = some (.loop r), fun _ _ _ h h' => (h lb rfl).trans h'⟩
def markI (D : Nat) : Item := ⟨fun b => b = D, fun w => w.heap[D]? = some (.deferred (some [])), fun _ _ _ h h' => (h D rfl).trans h'⟩
def restI (F : Nat → Prop) (w : World) : Item := ⟨F, fun v => w.heap.size ≤ v.heap.size ∧ ∀ b, F b → v.heap[b]? = w.heap[b]?, fun _ _ hg h h' => ⟨Nat.le_trans h'.1 hg.size, fun b hb => (h b hb).trans (h'.2 b hb)⟩⟩
theorem putObj_chg {w : World} {lb : Nat} (o' : Obj) : Chg (fun b => b = lb) w (w.putObj lb o') :=
  ⟨rfl, rfl, rfl, by simp, fun _ _ hk => World.putObj_heap_other hk⟩
theorem SliceR.other {α : Type} [Ty α] {w w' : World} {v : Value} {xs : List α} {b : Nat} {r : Loop} (h : SliceR w v xs) (hb : w.heap[b]? = some (.loop r)) (hs : ∀ k, k ≠ b → w'.heap[k]? = w.heap[k]?) : SliceR w' v xs := by
  refine h.monoC fun p c hc => ?_
  by_cases e : p.block = b
  · unfold World.cell? at hc
    rw [e, hb] at hc
    cases hc
  · unfold World.cell? at hc ⊢
    rw [hs _ e]
    exact hc
theorem InvD.weak {X : Nat → Prop} {w0 w : World} {L : List Item} (H : InvD X w0 w L) (i : Nat) (it it' : Item) (hi : L[i]? = some it) (hfp : ∀ b, it'.fp b → it.fp b) (hok : it.ok w → it'.ok w) : InvD X w0 w (L.set i it') := by
  have hok0 := (H.items it (List.mem_of_getElem? hi)).1
  refine H.upd i it it' hi ⟨rfl, rfl, rfl, Nat.le_refl _, fun _ _ _ => rfl⟩ (hok hok0) (fun b hb => ⟨((H.items it (List.mem_of_getElem? hi)).2 b (hfp b hb)).2, .inl (hfp b hb)⟩)
theorem InvD.tail {X : Nat → Prop} {w0 w : World} {it : Item} {L : List Item} (H : InvD X w0 w (it :: L)) : InvD X w0 w L :=
  ⟨H.baseX, fun x hx => H.items x (List.mem_cons_of_mem _ hx), (List.pairwise_cons.1 H.apart).2⟩
theorem InvD.cons {X : Nat → Prop} {w0 w : World} {it : Item} {L : List Item} (H : InvD X w0 w L) (hok : it.ok w) (hfp : ∀ b, it.fp b → (w0.heap.size ≤ b ∨ X b) ∧ b < w.heap.size) (hap : ∀ x ∈ L, ∀ b, it.fp b → ¬ x.fp b) : InvD X w0 w (it :: L) :=
  ⟨H.baseX, fun x hx => by
    rcases List.mem_cons.1 hx with rfl | hx
    · exact ⟨hok, hfp⟩
    · exact H.items x hx, List.pairwise_cons.2 ⟨hap, H.apart⟩⟩

def updZ (f : Fr) : List Nat → List Value → Fr
  | p :: ps, v :: vs => updZ (upd f p v) ps vs
  | _, _ => f
theorem zfold (ps : List Nat) (vs : List Value) (t : Array Value) : (ps.toArray.zip vs.toArray).foldl (fun t (x : Nat × Value) => t.setIfInBounds x.1 x.2) t = (ps.zip vs).foldl (fun t (x : Nat × Value) => t.setIfInBounds x.1 x.2) t := by
  rw [← Array.foldl_toList]; simp
theorem Sim.updZ {n : Nat} {ds : Md} : ∀ {ps : List Nat} {vs : List Value} {a : Act} {f : Fr}, Sim n ds a f → (ps.all fun p => Nat.blt p n) = true →
    Sim n ds { a with tmps := (ps.toArray.zip vs.toArray).foldl (fun t (x : Nat × Value) => t.setIfInBounds x.1 x.2) a.tmps } (updZ f ps vs)
  | [], _, a, f, h, _ => by rw [zfold]; exact h
  | p :: ps, [], a, f, h, _ => by rw [zfold]; exact h
  | p :: ps, v :: vs, a, f, h, hp => by
    simp only [List.all_cons, Bool.and_eq_true] at hp
    have h1 : Sim n ds (a.put (some p) v) (upd f p v) := h.put (d := some p) hp.1 v
    have h2 := Sim.updZ (ps := ps) (vs := vs) h1 hp.2
    rw [zfold] at h2 ⊢
    exact h2

section
variable {P : Program} {n : Nat} {Kn : Fr → World → Prop} {Kx : Nat → Fr → World → Prop} {Kr : Fr → World → Prop} {f : Fr} {w w0 : World} {L : List Item}

def markF (f : Fr) (D : Nat) : Fr := ⟨f.tmp, D :: f.marks⟩

def codeOf : Option Nat → Code
  | none => .ret
  | some i => .exit i

theorem W.rangeFunc {α : Type} {rep : World → α → List Value → Prop} {S : List α → Prop} {gop : Operand} {ps : List Nat} {assign body : Code} {gf : FuncId} {lb : Array Value}
    (A : List α → List Item → Prop) (Ax : Option Nat → List Item → Prop) (hgv : ev f gop = .func (.func gf) #[] lb) (hcb : Callable P gf) (hps : (ps.all fun p => Nat.blt p n) = true)
    (hrl : ∀ w x vs, rep w x vs → vs.length = ps.length)
    (hit : ∀ Kp W, w.heap.size ≤ W.heap.size → (∀ w', Kp w' → ∃ pre i0 i1 L', A pre L' ∧ Inv w0 w' (i0 :: i1 :: L')) → IterAt P gf lb rep S Kp W)
    (H : Inv w0 w L) (h0 : A [] L)
    (hround : ∀ (l : Nat) (rs lp lp2 : Item) pre x L' w' vs, A pre L' → (∃ rest, S (pre ++ x :: rest)) → rep w' x vs → Inv w0 w' (rs :: lp :: L') →
      W P n ⟨some l, false, noPan, []⟩ assign (fun f1 w1 => ∃ L1, Inv w0 w1 (rs :: lp :: L1) ∧ ∀ w2, (∀ {β : Type} [Ty β] (v : Value) (ys : List β), SliceR w1 v ys → SliceR w2 v ys) → Inv w0 w2 (rs :: lp2 :: L1) →
        W P n ⟨some l, false, noPan, []⟩ body (fun _ w => ∃ L2, A (pre ++ [x]) L2 ∧ Inv w0 w (rs :: lp2 :: L2)) (fun j _ w => ∃ L2, Ax (some j) L2 ∧ Inv w0 w (rs :: lp2 :: L2))
          (fun _ w => ∃ L2, Ax none L2 ∧ Inv w0 w (rs :: lp2 :: L2)) f1 w2) (fun _ _ _ => False) (fun _ _ => False) (updZ f ps vs) w')
    (hdone : ∀ D xs L' w', S xs → A xs L' → Inv w0 w' (markI D :: L') → Kn (markF f D) w')
    (hexit : ∀ D j L' w', Ax (some j) L' → Inv w0 w' (markI D :: L') → Kx j (markF f D) w')
    (hret : ∀ D L' w', Ax none L' → Inv w0 w' (markI D :: L') → Kr (markF f D) w') :
    W P n ⟨none, true, noPan, []⟩ (.rangeFunc gop ps.toArray assign body) Kn Kx Kr f w := by
  intro a ha
  refine wpIn_rangeFunc ?_
  intro fn hfn
  obtain ⟨rec, hrec⟩ : ∃ rec : LoopState → Option Code → Loop, rec = fun st pe => { state := st, pending := pe, fn, tmps := a.tmps, params := ps.toArray, assign, body, defers := w.heap.size } := ⟨_, rfl⟩
  obtain ⟨W1, hW1⟩ : ∃ W1, (w.alloc (.deferred (some []))).alloc (.loop (rec .ready none)) = W1 := ⟨_, rfl⟩
  have hsz : W1.heap.size = w.heap.size + 1 + 1 := by rw [← hW1]; simp
  have hL1 : W1.heap[w.heap.size + 1]? = some (.loop (rec .ready none)) := by
    rw [← hW1]; have := World.alloc_heap_new (w.alloc (.deferred (some []))) (.loop (rec .ready none)); rwa [World.size_alloc] at this
  have hK1 : W1.heap[w.heap.size]? = some (.deferred (some [])) := by
    rw [← hW1]; exact (Below.heap_alloc _ _ _ (by simp)).trans (World.alloc_heap_new w _)
  have hb1 : Below w.heap.size w W1 := by rw [← hW1]; exact (below_alloc w _).trans ((below_alloc _ _).mono (by simp))
  have hI1 : Inv w0 W1 (markI w.heap.size :: loopI (w.heap.size + 1) (rec .ready none) :: L) := by
    have h1 := H.ext hb1
    have hlt : ∀ it ∈ L, ∀ b, it.fp b → b < w.heap.size := fun it hi b hf => ((H.items it hi).2 b hf).2
    have hbase := H.base.size
    refine InvD.cons (InvD.cons h1 hL1 (fun b hb => ?_) (fun x hx b hb hf => ?_)) hK1 (fun b hb => ?_) (fun x hx b hb hf => ?_)
    · cases hb; exact ⟨.inl (by omega), by omega⟩
    · cases hb; have := hlt x hx _ hf; omega
    · cases hb; exact ⟨.inl hbase, by omega⟩
    · cases hb
      rcases List.mem_cons.1 hx with rfl | hx
      · exact absurd (show w.heap.size = w.heap.size + 1 from hf) (by omega)
      · have := hlt x hx _ hf; omega
  have hC0 : ∀ b, False ↔ W1.heap.size ≤ b ∧ ∃ it ∈ L, it.fp b := fun b => ⟨False.elim, fun ⟨h1, it, hi, hf⟩ => by have := ((H.items it hi).2 b hf).2; omega⟩
  obtain ⟨J, hJ⟩ : ∃ J : List α → (Nat → Prop) → World → Prop, J = fun pre C v => W1.heap.size ≤ v.heap.size ∧ ∃ L', A pre L' ∧ Inv w0 v (markI w.heap.size :: loopI (w.heap.size + 1) (rec .ready none) :: L') ∧ ∀ b, C b ↔ W1.heap.size ≤ b ∧ ∃ it ∈ L', it.fp b := ⟨_, rfl⟩
  obtain ⟨Jx, hJx⟩ : ∃ Jx : (Nat → Prop) → World → Prop, Jx = fun C v => W1.heap.size ≤ v.heap.size ∧ ∃ j L', Ax j L' ∧ Inv w0 v (markI w.heap.size :: loopI (w.heap.size + 1) (rec .done (some (codeOf j))) :: L') ∧
    ∀ b, C b ↔ W1.heap.size ≤ b ∧ ∃ it ∈ L', it.fp b := ⟨_, rfl⟩
  have hbw : w0.heap.size ≤ w.heap.size := H.base.size
  have locgen : ∀ (r : Loop) (C : Nat → Prop) (v v' : World) (L' : List Item), Inv w0 v (markI w.heap.size :: loopI (w.heap.size + 1) r :: L') → (∀ b, C b ↔ W1.heap.size ≤ b ∧ ∃ it ∈ L', it.fp b) → Grew v v' →
      (∀ b, b < W1.heap.size ∨ C b → v'.heap[b]? = v.heap[b]?) → Inv w0 v' (markI w.heap.size :: loopI (w.heap.size + 1) r :: L') := by
    intro r C v v' L' hi hC hg hs
    refine ⟨⟨hg.os.trans hi.baseX.os, hg.tape.trans hi.baseX.tape, hg.output.trans hi.baseX.output, Nat.le_trans hi.baseX.size hg.size, fun k hk _ => (hs k (.inl (by omega))).trans (hi.base.block k hk)⟩, fun it hm => ?_, hi.apart⟩
    obtain ⟨q1, q2⟩ := hi.items it hm
    refine ⟨it.loc v v' hg (fun b hb => hs b ?_) q1, fun b hb => ⟨(q2 b hb).1, Nat.lt_of_lt_of_le (q2 b hb).2 hg.size⟩⟩
    by_cases hlt : b < W1.heap.size
    · exact .inl hlt
    · refine .inr ((hC b).2 ⟨by omega, ?_⟩)
      rcases List.mem_cons.1 hm with rfl | hm
      · exact absurd (show b = w.heap.size from hb) (by omega)
      · rcases List.mem_cons.1 hm with rfl | hm
        · exact absurd (show b = w.heap.size + 1 from hb) (by omega)
        · exact ⟨it, hm, hb⟩
  have hclient : ∀ Kp, (∀ w' pre i0 i1 L', A pre L' → Inv w0 w' (i0 :: i1 :: L') → Kp w') → Client P W1.heap.size (w.heap.size + 1) rep S Kp J Jx := by
    intro Kp hKp
    subst hJ hJx
    refine ⟨?_, ?_, ?_, ?_, ?_, ?_⟩
    · rintro pre C v v' ⟨h1, L', h2, h3, h4⟩ hg hs
      exact ⟨Nat.le_trans h1 hg.size, L', h2, locgen _ C v v' L' h3 h4 hg hs, h4⟩
    · rintro C v v' ⟨h1, j, L', h2, h3, h4⟩ hg hs
      exact ⟨Nat.le_trans h1 hg.size, j, L', h2, locgen _ C v v' L' h3 h4 hg hs, h4⟩
    · rintro pre C v ⟨_, L', h2, h3, _⟩
      exact hKp v pre _ _ L' h2 h3
    · rintro pre C v ⟨h1, L', _, h3, h4⟩
      refine ⟨h1, fun b hb => ?_⟩
      obtain ⟨_, it, hi, hf⟩ := (h4 b).1 hb
      exact ((h3.items it (by simp [hi])).2 b hf).2
    · rintro C v ⟨h1, j, L', _, h3, h4⟩
      refine ⟨h1, fun b hb => ?_⟩
      obtain ⟨_, it, hi, hf⟩ := (h4 b).1 hb
      exact ((h3.items it (by simp [hi])).2 b hf).2
    · -- one round
      rintro pre x C v vs hS ⟨h1, L', h2, h3, h4⟩ hrep
      have hl := (h3.items (loopI (w.heap.size + 1) (rec .ready none)) (by simp)).1
      have hl : v.heap[w.heap.size + 1]? = some (.loop (rec .ready none)) := hl
      have hk : v.heap[w.heap.size]? = some (.deferred (some [])) := (h3.items (markI w.heap.size) (by simp)).1
      have hy := run_yield (P := P) (args := vs.toArray) hl (by rw [hrec]; simp [hrl _ _ _ hrep])
      rw [hrec] at hy
      obtain ⟨rs, hrs⟩ : ∃ rs, rs = restI (fun b => w0.heap.size ≤ b ∧ b < v.heap.size ∧ b ≠ w.heap.size + 1 ∧ ∀ it ∈ L', ¬ it.fp b) v := ⟨_, rfl⟩
      obtain ⟨lp, hlp⟩ : ∃ lp, lp = loopI (w.heap.size + 1) (rec .ready none) := ⟨_, rfl⟩
      obtain ⟨lp2, hlp2⟩ : ∃ lp2, lp2 = loopI (w.heap.size + 1) { rec .ready none with state := .busy } := ⟨_, rfl⟩
      have hI : Inv w0 v (rs :: lp :: L') := by
        subst hrs hlp
        refine InvD.cons h3.tail ⟨Nat.le_refl _, fun _ _ => rfl⟩ (fun b hb => ⟨.inl hb.1, hb.2.1⟩) (fun y hy b hb hf => ?_)
        rcases List.mem_cons.1 hy with rfl | hy
        · exact hb.2.2.1 hf
        · exact hb.2.2.2 y hy hf
      have hsim : Sim n ⟨some (w.heap.size + 1), false, noPan, []⟩ { tmps := (ps.toArray.zip vs.toArray).foldl (fun t (y : Nat × Value) => t.setIfInBounds y.1 y.2) a.tmps, defers := [] } (updZ f ps vs) :=
        Sim.updZ (a := { tmps := a.tmps, defers := [] }) ⟨ha.size, rfl, ha.get⟩ hps
      -- the ends of a round
      have fin : ∀ (jump : Option Code) (v3 : World) (L2 : List Item), Inv w0 v3 (rs :: lp2 :: L2) →
          ∃ C' : Nat → Prop, (∀ b, C' b → C b ∨ v.heap.size ≤ b) ∧ Chg (fun b => b < W1.heap.size ∨ C b) v (v3.putObj (w.heap.size + 1) (.loop (rec (if jump.isNone then .ready else .done) jump))) ∧
            (Instr.endRound (w.heap.size + 1) jump).run P v3 = .ok (.bool jump.isNone) (v3.putObj (w.heap.size + 1) (.loop (rec (if jump.isNone then .ready else .done) jump))) ∧
            W1.heap.size ≤ (v3.putObj (w.heap.size + 1) (.loop (rec (if jump.isNone then .ready else .done) jump))).heap.size ∧
            Inv w0 (v3.putObj (w.heap.size + 1) (.loop (rec (if jump.isNone then .ready else .done) jump))) (markI w.heap.size :: loopI (w.heap.size + 1) (rec (if jump.isNone then .ready else .done) jump) :: L2) ∧
            ∀ b, C' b ↔ W1.heap.size ≤ b ∧ ∃ it ∈ L2, it.fp b := by
        intro jump v3 L2 hI3
        have hl3 : v3.heap[w.heap.size + 1]? = some (.loop { rec .ready none with state := .busy }) := by
          have := (hI3.items lp2 (by simp)).1
          rw [hlp2] at this; exact this
        have hrest : v.heap.size ≤ v3.heap.size ∧ ∀ b, w0.heap.size ≤ b ∧ b < v.heap.size ∧ b ≠ w.heap.size + 1 ∧ (∀ it ∈ L', ¬ it.fp b) → v3.heap[b]? = v.heap[b]? := by
          have := (hI3.items rs (by simp)).1
          rw [hrs] at this; exact this
        obtain ⟨hsz3, hrest⟩ := hrest
        have hlt3 : w.heap.size + 1 < v3.heap.size := (Array.getElem?_eq_some_iff.1 hl3).1
        have hend := run_endRound (P := P) jump hl3
        rw [hrec] at hend ⊢
        have hC' : ∀ b, (W1.heap.size ≤ b ∧ ∃ it ∈ L2, it.fp b) → C b ∨ v.heap.size ≤ b := by
          rintro b ⟨hb, it, hi, hf⟩
          by_cases hv : v.heap.size ≤ b
          · exact .inr hv
          · by_cases hc : ∃ it ∈ L', it.fp b
            · exact .inl ((h4 b).2 ⟨hb, hc⟩)
            · exfalso
              have hap := (List.pairwise_cons.1 hI3.apart).1 it (by simp [hi]) b
              rw [hrs] at hap
              exact hap ⟨by omega, by omega, by omega, fun it hi hf => hc ⟨it, hi, hf⟩⟩ hf
        refine ⟨fun b => W1.heap.size ≤ b ∧ ∃ it ∈ L2, it.fp b, hC', ⟨?_, ?_, ?_, ?_, ?_⟩, hend, ?_, ?_, fun b => Iff.rfl⟩
        · exact hI3.baseX.os.trans h3.baseX.os.symm
        · exact hI3.baseX.tape.trans h3.baseX.tape.symm
        · exact hI3.baseX.output.trans h3.baseX.output.symm
        · simpa using hsz3
        · intro k hk hn
          have hkB : W1.heap.size ≤ k := by
            by_cases h : k < W1.heap.size
            · exact absurd (.inl h) hn
            · omega
          refine (World.putObj_heap_other (by omega)).trans (hrest k ⟨by omega, hk, by omega, fun it hi hf => hn (.inr ((h4 k).2 ⟨hkB, it, hi, hf⟩))⟩)
        · rw [World.putObj_size]; omega
        · have hbelow : Inv w0 (v3.putObj (w.heap.size + 1) (.loop (rec (if jump.isNone then .ready else .done) jump))) (rs :: loopI (w.heap.size + 1) (rec (if jump.isNone then .ready else .done) jump) :: L2) := by
            refine hI3.upd 1 lp2 (loopI (w.heap.size + 1) (rec (if jump.isNone then .ready else .done) jump)) rfl ?_ ?_ ?_
            · rw [hlp2]
              exact putObj_chg _
            · exact World.putObj_heap_same hlt3
            · rintro b rfl
              rw [World.putObj_size, hlp2]
              exact ⟨hlt3, .inl rfl⟩
          have hw := hbelow.weak 0 rs (markI w.heap.size) rfl (fun b hb => by
            cases hb
            rw [hrs]
            exact ⟨hbw, by omega, by omega, fun it hi hf => by
              have := (List.pairwise_cons.1 h3.apart).1 it (by simp [hi]) w.heap.size rfl
              exact this hf⟩) (fun hok => by
            rw [hrs] at hok
            have := hok.2 w.heap.size ⟨hbw, by omega, by omega, fun it hi hf => by
              have := (List.pairwise_cons.1 h3.apart).1 it (by simp [hi]) w.heap.size rfl
              exact this hf⟩
            exact this.trans hk)
          rw [hrec] at hw
          exact hw
      have hgo : ∀ (jump : Option Code) (v3 : World) (L2 : List Item), Inv w0 v3 (rs :: lp2 :: L2) → (Instr.endRound (w.heap.size + 1) jump).run P v3 = .ok (.bool jump.isNone) (v3.putObj (w.heap.size + 1) (.loop (rec (if jump.isNone then .ready else .done) jump))) := fun jump v3 L2 h => by
        obtain ⟨_, _, _, h, _⟩ := fin jump v3 L2 h; exact h
      refine ⟨fn, _, assign, body, hy, roundIn_of_wpIn (F := FR ⟨none, false, noPan, []⟩) trivial ?_⟩
      have hwalk := hround (w.heap.size + 1) rs lp lp2 pre x L' v vs h2 hS hrep hI _ hsim
      refine wpIn_mono hwalk ?_
      rintro e a1 v1 hq
      cases e with
      | normal =>
        obtain ⟨f1, hs1, L1, hI1', hnext⟩ := hq
        have hl1 : v1.heap[w.heap.size + 1]? = some (.loop (rec .ready none)) := by
          have := (hI1'.items lp (by simp)).1
          rw [hlp] at this; exact this
        have hlt1 : w.heap.size + 1 < v1.heap.size := (Array.getElem?_eq_some_iff.1 hl1).1
        refine ⟨_, run_beginRound hl1 (by rw [hrec]), ?_⟩
        have hI2 : Inv w0 (v1.putObj (w.heap.size + 1) (.loop { rec .ready none with state := .busy })) (rs :: lp2 :: L1) := by
          refine hI1'.upd 1 lp lp2 rfl ?_ ?_ ?_
          · rw [hlp]; exact putObj_chg _
          · rw [hlp2]; exact World.putObj_heap_same hlt1
          · rintro b hb
            rw [hlp2] at hb; cases hb
            rw [World.putObj_size, hlp]
            exact ⟨hlt1, .inl rfl⟩
        have hmono : ∀ {β : Type} [Ty β] (u : Value) (ys : List β), SliceR v1 u ys → SliceR (v1.putObj (w.heap.size + 1) (.loop { rec .ready none with state := .busy })) u ys := fun u ys h => SliceR.other h hl1 (fun k hk => World.putObj_heap_other hk) 
        refine wpIn_mono (hnext _ hmono hI2 _ hs1) ?_
        rintro e2 a2 v2 hq2
        cases e2 with
        | normal =>
          obtain ⟨f2, _, L2, hA, hI3⟩ := hq2
          obtain ⟨C', k1, k2, k3, k4, k5, k6⟩ := fin none v2 L2 hI3
          exact ⟨_, _, k3, C', k1, k2, .inl ⟨rfl, k4, L2, hA, k5, k6⟩⟩
        | ret =>
          obtain ⟨f2, _, L2, hA, hI3⟩ := hq2
          obtain ⟨C', k1, k2, k3, k4, k5, k6⟩ := fin (some .ret) v2 L2 hI3
          exact ⟨_, _, k3, C', k1, k2, .inr ⟨rfl, k4, none, L2, hA, k5, k6⟩⟩
        | exit j =>
          obtain ⟨f2, _, L2, hA, hI3⟩ := hq2
          obtain ⟨C', k1, k2, k3, k4, k5, k6⟩ := fin (some (.exit j)) v2 L2 hI3
          exact ⟨_, _, k3, C', k1, k2, .inr ⟨rfl, k4, some j, L2, hA, k5, k6⟩⟩
        | panic ch => exact hq2.1.elim
        | _ => exact hq2.elim
      | exit i => obtain ⟨_, _, h⟩ := hq; exact h.elim
      | ret => obtain ⟨_, _, h⟩ := hq; exact h.elim
      | panic ch => exact hq.1.elim
      | _ => exact hq.elim
  -- the call of the iterator
  have hcl := hclient (fun w' => ∃ pre i0 i1 L', A pre L' ∧ Inv w0 w' (i0 :: i1 :: L')) (fun w' pre i0 i1 L' h1 h2 => ⟨pre, i0, i1, L', h1, h2⟩)
  have hJ0 : J [] (fun _ => False) W1 := by rw [hJ]; exact ⟨Nat.le_refl _, L, h0, hI1, hC0⟩
  have hcall := hit _ W1 (by omega) (fun w' h => h) (w.heap.size + 1) J Jx hcl hJ0
  have hsimD : ∀ D, Sim n ⟨none, true, noPan, []⟩ { a with defers := markD D :: a.defers } (markF f D) := fun D => ⟨ha.size, by show markD D :: a.defers = _; rw [ha.dfs]; rfl, ha.get⟩
  refine ⟨w.heap.size + 1, [{ target := .collected w.heap.size, args := #[] }], W1, { target := .fn (.func gf) lb, args := #[.func (.yield (w.heap.size + 1)) #[] #[]] }, W1, gf,
    #[.func (.yield (w.heap.size + 1)) #[] #[]] ++ lb, W1, ?_, ?_, fun _ _ => trivial, ?_, fun h => (by cases h), ?_⟩
  · rw [← hW1, hrec]; exact run_enterLoop_outer _ _ _ _ _
  · simp only [resolve, ha.ev, hgv]
    simp [go_sem]
    rfl
  · simp only [invoke]
    simpa using hcb _ _
  · refine CallsIn.mono (R := fun e W' => ∃ v C, e = .returned v ∧ ((∃ xs, S xs ∧ J xs C W') ∨ Jx C W')) (callsIn_wide.2 hcall : CallsIn Fence.wide (0 - 1) P gf _ W1 _) ?_
    rintro e W2 ⟨v, C, rfl, ⟨xs, hS, hj⟩ | hj⟩
    · rw [hJ] at hj
      obtain ⟨_, L', h2, h3, _⟩ := hj
      have hl : W2.heap[w.heap.size + 1]? = some (.loop (rec .ready none)) := (h3.items (loopI (w.heap.size + 1) (rec .ready none)) (by simp)).1
      have hendl := run_endLoop (P := P) hl (by rw [hrec]; simp)
      refine ⟨none, _, (by rw [hendl, hrec]), ?_⟩
      have hI4 := h3.upd 1 (loopI (w.heap.size + 1) (rec .ready none)) (loopI (w.heap.size + 1) { rec .ready none with state := .exhausted }) rfl (putObj_chg _) (World.putObj_heap_same (Array.getElem?_eq_some_iff.1 hl).1) (by
        rintro b rfl; rw [World.putObj_size]; exact ⟨(Array.getElem?_eq_some_iff.1 hl).1, .inl rfl⟩)
      have hI5 : Inv w0 (W2.putObj (w.heap.size + 1) (.loop { rec .ready none with state := .exhausted })) (markI w.heap.size :: L') := InvD.cons hI4.tail.tail (hI4.items (markI w.heap.size) (by simp)).1 (hI4.items (markI w.heap.size) (by simp)).2 (fun x hx => (List.pairwise_cons.1 hI4.apart).1 x (by simp [hx]))
      subst hrec
      exact ⟨_, hsimD _, hdone _ xs L' _ hS h2 hI5⟩
    · rw [hJx] at hj
      obtain ⟨_, j, L', h2, h3, _⟩ := hj
      have hl : W2.heap[w.heap.size + 1]? = some (.loop (rec .done (some (codeOf j)))) := (h3.items (loopI (w.heap.size + 1) (rec .done (some (codeOf j)))) (by simp)).1
      have hendl := run_endLoop (P := P) hl (by rw [hrec]; simp)
      have hI4 := h3.upd 1 (loopI (w.heap.size + 1) (rec .done (some (codeOf j)))) (loopI (w.heap.size + 1) { rec .done (some (codeOf j)) with state := .exhausted }) rfl (putObj_chg _)
        (World.putObj_heap_same (Array.getElem?_eq_some_iff.1 hl).1) (by
        rintro b rfl; rw [World.putObj_size]; exact ⟨(Array.getElem?_eq_some_iff.1 hl).1, .inl rfl⟩)
      have hI5 : Inv w0 (W2.putObj (w.heap.size + 1) (.loop { rec .done (some (codeOf j)) with state := .exhausted })) (markI w.heap.size :: L') := InvD.cons hI4.tail.tail (hI4.items (markI w.heap.size) (by simp)).1 (hI4.items (markI w.heap.size) (by simp)).2 (fun x hx => (List.pairwise_cons.1 hI4.apart).1 x (by simp [hx]))
      subst hrec
      refine ⟨some (codeOf j), _, hendl, ?_⟩
      cases j with
      | none => exact wpIn_ret ⟨_, hsimD _, hret _ L' _ h2 hI5⟩
      | some i => exact wpIn_exit ⟨_, hsimD _, hexit _ i L' _ h2 hI5⟩
end
end Go.Fw
