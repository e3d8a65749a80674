/-
  THE FRAMEWORK, PART Q: loops over functions in step with a model that ranges over a list; the marks that they leave. No program in it.
-/
import Derived.Test.YtmoofcflfbnceaaGreatDoorFwP
namespace Go.Fw
open Go.RowKit

def marksI (l : List Nat) : Item := ⟨fun b => b ∈ l, fun w => l.Nodup ∧ ∀ D ∈ l, w.heap[D]? = some (.deferred (some [])), fun _ _ _ hs h => ⟨h.1, fun D hD => (hs D hD).trans (h.2 D hD)⟩⟩
section
variable {P : Program} {w w0 : World} {L : List Item} {X : Nat → Prop}
theorem Inv.startM : Inv w0 w0 [marksI []] := InvD.cons Inv.start ⟨List.nodup_nil, fun _ h => nomatch h⟩ (fun _ h => nomatch h) (fun _ h => nomatch h)
theorem InvD.rebase {w1 : World} (H : Inv w1 w L) (hb : Below w0.heap.size w0 w1) : Inv w0 w L :=
  ⟨⟨H.base.os.trans hb.os, H.base.tape.trans hb.tape, H.base.output.trans hb.output, Nat.le_trans hb.size H.base.size, fun k hk _ => (hb.trans (H.base.mono hb.size)).block k hk⟩, fun it hi => ⟨(H.items it hi).1, fun b hf => ⟨.inl (Nat.le_trans hb.size (((H.items it hi).2 b hf).1.resolve_right id)), ((H.items it hi).2 b hf).2⟩⟩, H.apart⟩
theorem InvD.joinMark {D : Nat} {l : List Nat} (H : InvD X w0 w (markI D :: marksI l :: L)) : InvD X w0 w (marksI (D :: l) :: L) := by
  obtain ⟨h1, h2⟩ := H.items _ (List.mem_cons_self ..)
  obtain ⟨⟨h3, h4⟩, h5⟩ := H.tail.items _ (List.mem_cons_self ..)
  have hap := List.pairwise_cons.1 H.apart
  have hap2 := List.pairwise_cons.1 H.tail.apart
  refine InvD.cons H.tail.tail ⟨List.nodup_cons.2 ⟨fun h => hap.1 _ (List.mem_cons_self ..) D rfl h, h3⟩, fun b hb => ?_⟩ (fun b hb => ?_) (fun x hx b hb => ?_)
  · rcases List.mem_cons.1 hb with rfl | hb
    · exact h1
    · exact h4 b hb
  · rcases List.mem_cons.1 hb with rfl | hb
    · exact h2 _ rfl
    · exact h5 b hb
  · rcases List.mem_cons.1 hb with rfl | hb
    · exact hap.1 x (List.mem_cons_of_mem _ hx) _ rfl
    · exact hap2.1 x hx b hb
theorem SliceR.noncell {α : Type} [Ty α] {w w' : World} {v : Value} {xs : List α} {b : Nat} {ds : Option (List Deferred)} (h : SliceR w v xs) (hb : w.heap[b]? = some (.deferred ds)) (hs : ∀ k, k ≠ b → w'.heap[k]? = w.heap[k]?) : SliceR w' v xs := by
  refine h.monoC fun p c hc => ?_
  by_cases e : p.block = b
  · unfold World.cell? at hc
    rw [e, hb] at hc
    cases hc
  · unfold World.cell? at hc ⊢
    rw [hs _ e]
    exact hc
theorem shuts_mk : ∀ (l : List Nat) {w : World}, Inv w0 w (marksI l :: L) → ∃ w', Shuts P l w w' ∧ Inv w0 w' (marksI [] :: L) ∧ ∀ {β : Type} [Ty β] (v : Value) (ys : List β), SliceR w v ys → SliceR w' v ys
  | [], w, H => ⟨w, rfl, H, fun _ _ h => h⟩
  | D :: l, w, H => by
    obtain ⟨⟨h1, h2⟩, h3⟩ := H.items _ (List.mem_cons_self ..)
    have hD := h2 D (List.mem_cons_self ..)
    have hnd := List.nodup_cons.1 h1
    have hI : Inv w0 (w.putObj D (.deferred none)) (marksI l :: L) := by
      refine H.upd 0 (marksI (D :: l)) (marksI l) rfl ⟨rfl, rfl, rfl, by simp, fun k _ hk => World.putObj_heap_other (fun e => hk (by subst e; exact List.mem_cons_self ..))⟩ ⟨hnd.2, fun b hb => ?_⟩ (fun b hb => ⟨?_, .inl (List.mem_cons_of_mem _ hb)⟩)
      · exact (World.putObj_heap_other (fun e => hnd.1 (by subst e; exact hb))).trans (h2 b (List.mem_cons_of_mem _ hb))
      · rw [World.putObj_size]; exact (h3 b (List.mem_cons_of_mem _ hb)).2
    obtain ⟨w', k1, k2, k3⟩ := shuts_mk l hI
    exact ⟨w', ⟨hD, k1⟩, k2, fun v ys h => k3 v ys (SliceR.noncell h hD fun k hk => World.putObj_heap_other hk)⟩
theorem endsM_mk {fn : Func} {nt : Nat} {R : Ending → World → Prop} {f : Fr} {l : List Nat} (H : Inv w0 w (marksI l :: L)) (hm : f.marks = l)
    (h : ∀ w', Inv w0 w' (marksI [] :: L) → (∀ {β : Type} [Ty β] (v : Value) (ys : List β), SliceR w v ys → SliceR w' v ys) → EndsIn P fn nt R f w') : EndsM P fn nt R f w := by
  obtain ⟨w', h1, h2, h3⟩ := shuts_mk (P := P) l H
  exact ⟨w', by rw [hm]; exact h1, h w' h2 h3⟩
theorem InvD.pick (H : InvD X w0 w L) (l : List Nat) (L' : List Item) (hl : l.map (fun i => L[i]?) = L'.map some) (hs : l.Nodup) : InvD X w0 w L' := by
  have hlen : l.length = L'.length := by simpa using congrArg List.length hl
  have key : ∀ j (h : j < L'.length), ∃ h1 : j < l.length, L[l[j]]? = some L'[j] := by
    intro j h
    have h1 : j < l.length := by omega
    refine ⟨h1, ?_⟩
    have := congrArg (fun (x : List (Option Item)) => x[j]?) hl
    simpa [List.getElem?_map, List.getElem?_eq_getElem h1, List.getElem?_eq_getElem h] using this
  refine ⟨H.baseX, fun it hi => ?_, List.pairwise_iff_getElem.2 fun i j hi hj hij b hb hb' => ?_⟩
  · obtain ⟨j, hj, rfl⟩ := List.mem_iff_getElem.1 hi
    obtain ⟨_, h2⟩ := key j hj
    exact H.items _ (List.mem_of_getElem? h2)
  · obtain ⟨h1, h2⟩ := key i hi
    obtain ⟨h3, h4⟩ := key j hj
    have hne : l[i] ≠ l[j] := fun e => by
      have := (List.getElem_inj (h₀ := h1) (h₁ := h3) hs).1 e
      omega
    obtain ⟨g1, e1⟩ := List.getElem?_eq_some_iff.1 h2
    obtain ⟨g2, e2⟩ := List.getElem?_eq_some_iff.1 h4
    have hp := List.pairwise_iff_getElem.1 H.apart
    rcases Nat.lt_or_gt_of_ne hne with h | h
    · have := hp _ _ g1 g2 h b
      rw [e1, e2] at this
      exact this hb hb'
    · have := hp _ _ g2 g1 h b
      rw [e1, e2] at this
      exact this hb' hb
end

theorem SliceR.cells1 {α : Type} [Ty α] {w : World} {v : Value} {xs : List α} (h : SliceR w v xs) : v.cells = #[v] := by
  obtain ⟨a, cap, rfl, _⟩ := h.shape; rfl
theorem MapR.cells1 {K V : Type} [Flat K] [Flat V] {w : World} {v : Value} {kv : List (K × V)} (h : MapR w v kv) : v.cells = #[v] := by
  rcases h with ⟨rfl, _⟩ | ⟨r, rfl, _⟩ <;> rfl
theorem one_nil : ∀ v ∈ ([] : List Value), v.oneCell' = true := fun _ h => nomatch h
theorem one_cons {a : Value} {l : List Value} (h : a.oneCell' = true) (h' : ∀ v ∈ l, v.oneCell' = true) : ∀ v ∈ a :: l, v.oneCell' = true := fun v hv => by
  rcases List.mem_cons.1 hv with rfl | hv
  · exact h
  · exact h' v hv
theorem SliceR.one {α : Type} [Ty α] {w : World} {v : Value} {xs : List α} (h : SliceR w v xs) : v.oneCell' = true := by
  obtain ⟨a, cap, rfl, _⟩ := h.shape; rfl
def negW (a : Int) : Int := IntKind.i64.wrap (0 - a)
def repF {α : Type} [Flat α] (_ : World) (a : α) (vs : List Value) : Prop := vs = [Flat.val a]
def repS {α : Type} [Ty α] (w : World) (a : List α) (vs : List Value) : Prop := ∃ v, vs = [v] ∧ SliceR w v a

section
variable {P : Program} {n : Nat} {Kn : Fr → World → Prop} {Kx : Nat → Fr → World → Prop} {Kr : Fr → World → Prop} {f : Fr} {w w0 : World} {L : List Item} {ms : List Nat}
theorem W.loopL {α : Type} {c : Code} {l : List α} {ds : Md} (A : List α → Fr → World → Prop) (h0 : A l f w) (hround : ∀ x xs f w, A (x :: xs) f w → W P n ds c (fun f' w' => A xs f' w') Kx Kr f w)
    (hend : ∀ f w, A [] f w → W P n ds c (fun _ _ => False) Kx Kr f w) : W P n ds (.loop c) Kn Kx Kr f w := by
  intro a ha
  refine wpIn_loop_rounds (l.length + 1) ?_
  induction l generalizing f w a with
  | nil => exact rounds_of_W ha ((hend f w h0).mono (fun _ _ h => h.elim) (fun _ _ _ h => h) (fun _ _ h => h)) (fun i a w h => h) (fun a w h => h) (fun _ _ _ h => h)
  | cons x xs ih =>
    refine rounds_of_W (Kx := Kx) (Kr := Kr) ha ((hround x xs f w h0).mono ?_ (fun _ _ _ h => h) (fun _ _ h => h)) (fun i a w h => h) (fun a w h => h) (fun _ _ _ h => h)
    intro f' w' hA a' ha'
    exact ih hA a' ha'
theorem W.rangeFuncL {α σ X : Type} {rep : World → α → List Value → Prop} {gop : Operand} {ps : List Nat} {assign body : Code} {gf : FuncId} {lb : Array Value} {xs : List α}
    {gb : Int → α → σ → Option (Step σ X)} {fin : σ → X} {s0 : σ} {o : X} (hm : Fw.rangeL gb fin xs 0 s0 = some o) (B : σ → List Item → Prop) (Bx : X → Option Nat → List Item → Prop)
    (hgv : ev f gop = .func (.func gf) #[] lb) (hcb : Callable P gf) (hps : (ps.all fun p => Nat.blt p n) = true) (hrl : ∀ w x vs, rep w x vs → vs.length = ps.length)
    (hit : ∀ Kp W, w.heap.size ≤ W.heap.size → (∀ w', Kp w' → ∃ s i0 i1 L', B s L' ∧ Inv w0 w' (i0 :: i1 :: marksI ms :: L')) → IterAt P gf lb rep (fun ys => ys = xs) Kp W)
    (H : Inv w0 w (marksI ms :: L)) (h0 : B s0 L)
    (hround : ∀ (l : Nat) (rs lp lp2 : Item) (i : Nat) x s st L' w' vs, B s L' → rep w' x vs → gb i x s = some st → Inv w0 w' (rs :: lp :: marksI ms :: L') →
      W P n ⟨some l, false, noPan, []⟩ assign (fun f1 w1 => ∃ L1, Inv w0 w1 (rs :: lp :: L1) ∧ ∀ w2, (∀ {β : Type} [Ty β] (v : Value) (ys : List β), SliceR w1 v ys → SliceR w2 v ys) → Inv w0 w2 (rs :: lp2 :: L1) →
        W P n ⟨some l, false, noPan, []⟩ body (fun _ w => ∃ s' L2, st = .cont s' ∧ B s' L2 ∧ Inv w0 w (rs :: lp2 :: marksI ms :: L2))
          (fun j _ w => ∃ y, st = .done y ∧ (y = o → ∃ L2, Bx y (some j) L2 ∧ Inv w0 w (rs :: lp2 :: marksI ms :: L2)))
          (fun _ w => ∃ y, st = .done y ∧ (y = o → ∃ L2, Bx y none L2 ∧ Inv w0 w (rs :: lp2 :: marksI ms :: L2))) f1 w2) (fun _ _ _ => False) (fun _ _ => False) (updZ f ps vs) w')
    (hdone : ∀ D s L' w', B s L' → fin s = o → Inv w0 w' (marksI (D :: ms) :: L') → Kn (markF f D) w')
    (hexit : ∀ D j L' w', Bx o (some j) L' → Inv w0 w' (marksI (D :: ms) :: L') → Kx j (markF f D) w')
    (hret : ∀ D L' w', Bx o none L' → Inv w0 w' (marksI (D :: ms) :: L') → Kr (markF f D) w') :
    W P n ⟨none, true, noPan, []⟩ (.rangeFunc gop ps.toArray assign body) Kn Kx Kr f w := by
  refine W.rangeFunc (A := fun pre L' => ∃ s L2, L' = marksI ms :: L2 ∧ B s L2 ∧ ∃ tl, pre ++ tl = xs ∧ Fw.rangeL gb fin tl (pre.length : Int) s = some o) (Ax := fun j L' => ∃ L2, L' = marksI ms :: L2 ∧ Bx o j L2) (S := fun ys => ys = xs) hgv hcb hps hrl ?_ H
    ⟨s0, L, rfl, h0, xs, rfl, hm⟩ ?_ ?_ ?_ ?_
  · intro Kp W hs hk
    refine hit Kp W hs fun w' hw => ?_
    obtain ⟨pre, i0, i1, L', ⟨s, L2, rfl, hB, _⟩, hI⟩ := hk w' hw
    exact ⟨s, i0, i1, L2, hB, hI⟩
  · rintro l rs lp lp2 pre x L' w' vs ⟨s, L2, rfl, hB, tl, htl, hrun⟩ ⟨rest, hrest⟩ hrep hI
    obtain rfl : tl = x :: rest := List.append_cancel_left (htl.trans hrest.symm)
    rw [Fw.rangeL] at hrun
    obtain ⟨st, hst, hrun⟩ := bind_some hrun
    refine (hround l rs lp lp2 pre.length x s st L2 w' vs hB hrep hst hI).mono ?_ (fun _ _ _ h => h) (fun _ _ h => h)
    rintro f1 w1 ⟨L1, hI1, hnext⟩
    refine ⟨L1, hI1, fun w2 hsl hI2 => (hnext w2 hsl hI2).mono ?_ ?_ ?_⟩
    · rintro _ w3 ⟨s', L3, rfl, hB', hI3⟩
      exact ⟨marksI ms :: L3, ⟨s', L3, rfl, hB', rest, by rw [List.append_assoc]; exact hrest, by rw [List.length_append]; exact_mod_cast hrun⟩, hI3⟩
    · rintro j _ w3 ⟨y, rfl, hy⟩
      obtain ⟨L3, hb, hI3⟩ := hy (Option.some.inj hrun)
      obtain rfl := Option.some.inj hrun
      exact ⟨_, ⟨L3, rfl, hb⟩, hI3⟩
    · rintro _ w3 ⟨y, rfl, hy⟩
      obtain ⟨L3, hb, hI3⟩ := hy (Option.some.inj hrun)
      obtain rfl := Option.some.inj hrun
      exact ⟨_, ⟨L3, rfl, hb⟩, hI3⟩
  · rintro D ys L' w' rfl ⟨s, L2, rfl, hB, tl, htl, hrun⟩ hI
    obtain rfl : tl = [] := List.append_right_eq_self.1 htl
    exact hdone D s L2 w' hB (Option.some.inj hrun) hI.joinMark
  · rintro D j L' w' ⟨L2, rfl, hb⟩ hI
    exact hexit D j L2 w' hb hI.joinMark
  · rintro D L' w' ⟨L2, rfl, hb⟩ hI
    exact hret D L2 w' hb hI.joinMark
end

end Go.Fw
