/-
  THE FRAMEWORK, PART A: a walk whose frames are functions of the slot's number, and whose ends are three continuations (normal, exit of a block, return).
  No program in it.
-/
import Derived.WalkKit
import Derived.RangeFuncRecord
import Derived.TacticsIn
import Derived.LoopNIn
import Derived.OrdersIn
namespace Go.Fw
open Go.RowKit

structure Fr where
  tmp : Nat → Value
  marks : List Nat
instance : CoeFun Fr (fun _ => Nat → Value) := ⟨Fr.tmp⟩
def upd (f : Fr) (i : Nat) (v : Value) : Fr := ⟨fun j => cond (Nat.beq j i) v (f j), f.marks⟩
def updo (f : Fr) (d : Option Nat) (v : Value) : Fr := match d with | some i => upd f i v | none => f
def fr0 (args : Array Value) : Fr := ⟨fun t => args.getD t undef, []⟩
def markD (D : Nat) : Deferred := { target := .collected D, args := #[] }

structure Md where
  round : Option Nat
  marked : Bool
  pan : List PanicEntry → World → Prop
  tl : List Deferred
abbrev noPan : List PanicEntry → World → Prop := fun _ _ => False
def FR (ds : Md) : Fence := { fn := fun _ => True, depth := none, alive := false, round := ds.round }

structure Sim (n : Nat) (ds : Md) (a : Act) (f : Fr) : Prop where
  size : a.tmps.size = n
  dfs : a.defers = (bif ds.marked then f.marks.map markD else []) ++ ds.tl
  get : ∀ t, a.tmps.getD t undef = f t

def ev (f : Fr) : Operand → Value
  | .tmp t => f t
  | .const v => v
  | .global g => .pointer (some ⟨g, 0, none⟩)
  | .func k => .func (.func k) #[] #[]

theorem Sim.ev {n : Nat} {ds : Md} {a : Act} {f : Fr} (h : Sim n ds a f) : a.eval = ev f := by
  funext x
  cases x with
  | tmp t => exact h.get t
  | _ => rfl

def okDst (n : Nat) : Option Nat → Bool
  | some d => Nat.blt d n
  | none => true

theorem Sim.put {n : Nat} {ds : Md} {a : Act} {f : Fr} (h : Sim n ds a f) {d : Option Nat} (hd : okDst n d = true) (v : Value) : Sim n ds (a.put d v) (updo f d v) := by
  cases d with
  | none => exact h
  | some i =>
    show Sim n ds _ (upd f i v)
    have hi : i < a.tmps.size := by rw [h.size]; simpa [okDst, Nat.blt_eq] using hd
    refine ⟨by simp [Act.put, h.size], h.dfs, fun t => ?_⟩
    show (a.tmps.setIfInBounds i v).getD t undef = upd f i v t
    unfold upd
    by_cases e : t = i
    · subst e
      simp [Array.getD_eq_getD_getElem?, hi]
    · have e' : Nat.beq t i = false := by
        cases hb : Nat.beq t i
        · rfl
        · exact absurd (Nat.eq_of_beq_eq_true hb) e
      show _ = cond (Nat.beq t i) v (f t)
      rw [e']
      have := h.get t
      simp only [Array.getD_eq_getD_getElem?] at this ⊢
      rw [Array.getElem?_setIfInBounds_ne (by omega)]
      exact this

def post (n : Nat) (ds : Md) (Kn : Fr → World → Prop) (Kx : Nat → Fr → World → Prop) (Kr : Fr → World → Prop) : Exit → Act → World → Prop
  | .normal, a, w => ∃ f, Sim n ds a f ∧ Kn f w
  | .exit i, a, w => ∃ f, Sim n ds a f ∧ Kx i f w
  | .ret, a, w => ∃ f, Sim n ds a f ∧ Kr f w
  | .panic ch, a, w => ds.pan ch w ∧ (ds.marked = false → a.defers = ds.tl)
  | _, _, _ => False

def W (P : Program) (n : Nat) (ds : Md) (c : Code) (Kn : Fr → World → Prop) (Kx : Nat → Fr → World → Prop) (Kr : Fr → World → Prop) (f : Fr) (w : World) : Prop :=
  ∀ a, Sim n ds a f → c.wpIn (FR ds) 0 P (post n ds Kn Kx Kr) a w

def WL (P : Program) (n : Nat) (ds : Md) (ops : Array Oper) (l : List Oper) (K : Fr → World → Prop) (f : Fr) (w : World) : Prop :=
  ∀ a, Sim n ds a f → ∀ Q : Exit → Act → World → Prop, (∀ a' w', (∃ f', Sim n ds a' f' ∧ K f' w') → Q .normal a' w') → (∀ ch (a' : Act) w', ds.pan ch w' → (ds.marked = false → a'.defers = ds.tl) → Q (.panic ch) a' w') → wpListIn (FR ds) 0 P ops Q l a w

section
variable {P : Program} {n : Nat} {ds : Md} {Kn : Fr → World → Prop} {Kx : Nat → Fr → World → Prop} {Kr : Fr → World → Prop} {f : Fr} {w : World}

theorem W.mono {c : Code} {Kn' : Fr → World → Prop} {Kx' : Nat → Fr → World → Prop} {Kr' : Fr → World → Prop} (h : W P n ds c Kn Kx Kr f w)
    (h1 : ∀ f w, Kn f w → Kn' f w) (h2 : ∀ i f w, Kx i f w → Kx' i f w) (h3 : ∀ f w, Kr f w → Kr' f w) : W P n ds c Kn' Kx' Kr' f w := by
  intro a ha
  refine wpIn_mono (h a ha) fun e a w hq => ?_
  cases e with
  | normal => obtain ⟨f, hs, hk⟩ := hq; exact ⟨f, hs, h1 _ _ hk⟩
  | exit i => obtain ⟨f, hs, hk⟩ := hq; exact ⟨f, hs, h2 _ _ _ hk⟩
  | ret => obtain ⟨f, hs, hk⟩ := hq; exact ⟨f, hs, h3 _ _ hk⟩
  | panic ch => exact hq
  | _ => exact hq.elim

theorem W.skip (h : Kn f w) : W P n ds .skip Kn Kx Kr f w := fun _ ha => wpIn_skip ⟨f, ha, h⟩
theorem W.exit {i : Nat} (h : Kx i f w) : W P n ds (.exit i) Kn Kx Kr f w := fun _ ha => wpIn_exit ⟨f, ha, h⟩
theorem W.ret (h : Kr f w) : W P n ds .ret Kn Kx Kr f w := fun _ ha => wpIn_ret ⟨f, ha, h⟩

theorem W.seq {x y : Code} (h : W P n ds x (fun f w => W P n ds y Kn Kx Kr f w) Kx Kr f w) : W P n ds (.seq x y) Kn Kx Kr f w := by
  intro a ha
  refine wpIn_seq (wpIn_mono (h a ha) fun e a w hq => ?_)
  cases e with
  | normal => obtain ⟨f, hs, hk⟩ := hq; exact hk a hs
  | _ => exact hq

theorem W.cond_true {c : Operand} {x y : Code} (hc : ev f c = .bool true) (h : W P n ds x Kn Kx Kr f w) : W P n ds (.cond c x y) Kn Kx Kr f w :=
  fun a ha => wpIn_cond_true (by rw [ha.ev]; exact hc) (h a ha)
theorem W.cond_false {c : Operand} {x y : Code} (hc : ev f c = .bool false) (h : W P n ds y Kn Kx Kr f w) : W P n ds (.cond c x y) Kn Kx Kr f w :=
  fun a ha => wpIn_cond_false (by rw [ha.ev]; exact hc) (h a ha)

theorem W.block {i : Nat} {c : Code} (h : W P n ds c Kn (fun j f w => cond (Nat.beq j i) (Kn f w) (Kx j f w)) Kr f w) : W P n ds (.block i c) Kn Kx Kr f w := by
  intro a ha
  refine wpIn_block (wpIn_mono (h a ha) fun e a w hq => ?_)
  cases e with
  | exit j =>
    obtain ⟨f, hs, hk⟩ := hq
    show if j = i then _ else _
    by_cases e : j = i
    · subst e
      rw [if_pos rfl]
      simp only [show Nat.beq j j = true from Nat.beq_refl j] at hk
      exact ⟨f, hs, hk⟩
    · rw [if_neg e]
      have e' : Nat.beq j i = false := by
        cases hb : Nat.beq j i
        · rfl
        · exact absurd (Nat.eq_of_beq_eq_true hb) e
      rw [e'] at hk
      exact ⟨f, hs, hk⟩
  | _ => exact hq

theorem W.region {id : Nat} {l : List Oper} (h : WL P n ds l.toArray l Kn f w) : W P n ds (.region id l.toArray false) Kn Kx Kr f w :=
  fun a ha => wpIn_region_lit (h a ha _ (fun _ _ h => h) fun _ _ _ h1 h2 => ⟨h1, h2⟩)

theorem WL.nil {ops : Array Oper} {K : Fr → World → Prop} (h : K f w) : WL P n ds ops [] K f w := fun _ ha _ hQ _ => wpListIn_nil (hQ _ _ ⟨f, ha, h⟩)

theorem WL.mono {ops : Array Oper} {l : List Oper} {K K' : Fr → World → Prop} (h : WL P n ds ops l K f w) (hk : ∀ f w, K f w → K' f w) : WL P n ds ops l K' f w :=
  fun a ha Q hQ hP => h a ha Q (fun a' w' ⟨f', hs, hk'⟩ => hQ a' w' ⟨f', hs, hk _ _ hk'⟩) hP

def yl (ops : Array Oper) (f : Fr) (j : Nat) : Option Bool :=
  match (ops[j]?).bind (·.dst) with
  | some d => (match f d with | .bool b => some b | _ => none)
  | none => none
def want (ops : Array Oper) (g : Option (Nat × Bool)) (f : Fr) : Bool :=
  match g with
  | none => true
  | some (j, b) => yl ops f j == some b

theorem Sim.yl {a : Act} (h : Sim n ds a f) (ops : Array Oper) (j : Nat) : yielded ops a.tmps j = yl ops f j := by
  unfold yielded Fw.yl
  cases hd : (ops[j]?).bind (·.dst) with
  | none => rfl
  | some d =>
    have hg := h.get d
    simp only [Array.getD_eq_getD_getElem?] at hg
    simp only [Option.bind_some]
    cases ht : a.tmps[d]? with
    | none =>
      rw [ht] at hg
      simp only [Option.getD_none] at hg
      rw [← hg]; rfl
    | some v =>
      rw [ht] at hg
      simp only [Option.getD_some] at hg
      rw [← hg]
      cases v <;> rfl

theorem Sim.want {a : Act} (h : Sim n ds a f) (ops : Array Oper) (o : Oper) : Region.wanted o (yielded ops a.tmps) = want ops o.guard f := by
  unfold Region.wanted Fw.want
  cases o.guard with
  | none => rfl
  | some p => obtain ⟨j, b⟩ := p; simp only [h.yl ops j]

theorem WL.skip {ops : Array Oper} {o : Oper} {rest : List Oper} {K : Fr → World → Prop} (hg : want ops o.guard f = false) (hd : okDst n o.dst = true)
    (h : WL P n ds ops rest K (updo f o.dst undef) w) : WL P n ds ops (o :: rest) K f w := by
  intro a ha Q hQ hP
  unfold wpListIn
  rw [if_neg (by rw [ha.want ops o, hg]; simp)]
  exact ⟨fun _ _ => trivial, h _ (ha.put hd undef) Q hQ hP⟩

theorem semAt_run {o : Oper} {ρ : Operand → Value} {x : Next} {w' : World} (h : (execOp ρ o).run P w = .ok x w') (hx : ∀ d, x ≠ .defer d) : o.semAt ds.round ρ = execOp ρ o := by
  refine Oper.semAt_eq _ _ _ fun c hc => ?_
  unfold execOp at h
  rw [hc] at h
  simp only [Sem.run_bind] at h
  cases hr : (resolve ρ c o.type).run P w with
  | ok d w2 => rw [hr] at h; simp only [Result.andThen_ok, Sem.run_pure, Result.ok.injEq] at h; exact hx d h.1.symm
  | halt o w2 => rw [hr] at h; cases h

theorem wanted_wp {ops : Array Oper} {o : Oper} {rest : List Oper} {a : Act} {Q : Exit → Act → World → Prop} (ha : Sim n ds a f) (hg : want ops o.guard f = true) {x : Next} {w' : World}
    (hrun : (execOp (ev f) o).run P w = .ok x w') (hx : ∀ d, x ≠ .defer d) (h : o.uponIn (FR ds) 0 P a (wpListIn (FR ds) 0 P ops Q rest) Q (.ok x w')) : wpListIn (FR ds) 0 P ops Q (o :: rest) a w := by
  unfold wpListIn
  rw [if_pos (by rw [ha.want ops o, hg])]
  refine ⟨fun _ _ => trivial, ?_⟩
  rw [show (FR ds).round = ds.round from rfl, ha.ev, semAt_run hrun hx, hrun]
  exact h

theorem WL.val {ops : Array Oper} {o : Oper} {rest : List Oper} {K : Fr → World → Prop} (hg : want ops o.guard f = true) (hd : okDst n o.dst = true) {v : Value} {w' : World}
    (hrun : (execOp (ev f) o).run P w = .ok (.value v) w') (h : WL P n ds ops rest K (updo f o.dst v) w') : WL P n ds ops (o :: rest) K f w :=
  fun _ ha Q hQ hP => wanted_wp ha hg hrun (by simp) (h _ (ha.put hd v) Q hQ hP)

theorem WL.eff {ops : Array Oper} {o : Oper} {rest : List Oper} {K : Fr → World → Prop} (hg : want ops o.guard f = true) (hd : okDst n o.dst = true) {w' : World}
    (hrun : (execOp (ev f) o).run P w = .ok .skip w') (h : WL P n ds ops rest K (updo f o.dst undef) w') : WL P n ds ops (o :: rest) K f w :=
  fun _ ha Q hQ hP => wanted_wp ha hg hrun (by simp) (h _ (ha.put hd undef) Q hQ hP)

theorem WL.enter {ops : Array Oper} {o : Oper} {rest : List Oper} {K : Fr → World → Prop} (hg : want ops o.guard f = true) (hd : okDst n o.dst = true) {k : FuncId} {args : Array Value}
    (hrun : (execOp (ev f) o).run P w = .ok (.enter k args) w)
    (h : Calls P k args w fun e w' => ∃ v, e = .returned v ∧ WL P n ds ops rest K (updo f o.dst v) w') : WL P n ds ops (o :: rest) K f w := by
  intro a ha Q hQ hP
  refine wanted_wp ha hg hrun (by simp) ⟨fun h => (by cases h), ?_⟩
  refine CallsIn.mono (R := fun e w' => ∃ v, e = .returned v ∧ WL P n ds ops rest K (updo f o.dst v) w') (callsIn_wide.2 h : CallsIn Fence.wide (0 - 1) P k args w _) ?_
  rintro e w' ⟨v, rfl, hK⟩
  exact hK _ (ha.put hd v) Q hQ hP

theorem wpList_append {ops : Array Oper} {l1 l2 : List Oper} {a : Act} {Q : Exit → Act → World → Prop} (Q1 : Exit → Act → World → Prop)
    (hx : ∀ e a w, e ≠ .normal → Q1 e a w → Q e a w) (hn : ∀ a w, Q1 .normal a w → wpListIn (FR ds) 0 P ops Q l2 a w) : ∀ {w : World}, wpListIn (FR ds) 0 P ops Q1 l1 a w → wpListIn (FR ds) 0 P ops Q (l1 ++ l2) a w := by
  induction l1 generalizing a with
  | nil => intro w h; exact hn _ _ h
  | cons o l ih =>
    intro w h
    unfold wpListIn at h
    show wpListIn (FR ds) 0 P ops Q (o :: (l ++ l2)) a w
    unfold wpListIn
    split at h
    · rename_i hw
      rw [if_pos hw]
      refine ⟨h.1, ?_⟩
      have h2 := h.2
      unfold Oper.uponIn at h2 ⊢
      split at h2
      · exact ih h2
      · exact ih h2
      · exact ih h2
      · refine ⟨h2.1, h2.2.mono ?_⟩
        intro e w'' hq
        cases e with
        | returned v => exact ih hq
        | panicked c => exact hx _ _ _ (by simp) hq
        | outgrown => obtain ⟨a0, w0, h0⟩ := hq; exact ⟨a0, w0, hx _ _ _ (by simp) h0⟩
      · exact ⟨h2.1, h2.2.mono fun v w'' hq => ih hq⟩
      · refine ⟨h2.1, h2.2.mono ?_⟩
        intro e w'' hq
        cases e with
        | returned v => exact ih hq
        | panicked c => exact hx _ _ _ (by simp) hq
        | outgrown => obtain ⟨a0, w0, h0⟩ := hq; exact ⟨a0, w0, hx _ _ _ (by simp) h0⟩
      · exact hx _ _ _ (by simp) h2
      · exact h2.elim
    · rename_i hw
      rw [if_neg hw]
      exact ⟨h.1, ih h.2⟩

theorem WL.cut {ops : Array Oper} {l : List Oper} {K : Fr → World → Prop} (k : Nat) (B : Fr → World → Prop) (h : WL P n ds ops (l.take k) B f w)
    (h2 : ∀ f w, B f w → WL P n ds ops (l.drop k) K f w) : WL P n ds ops l K f w := by
  intro a ha Q hQ hP
  have e : l = l.take k ++ l.drop k := (List.take_append_drop k l).symm
  rw [e]
  refine wpList_append (fun e a w => match e with | .normal => ∃ f, Sim n ds a f ∧ B f w | _ => Q e a w) ?_ ?_ (h a ha _ (fun a' w' hb => hb) fun ch a' w' hp hd => hP ch a' w' hp hd)
  · intro e a w he hq
    cases e <;> first | exact hq | exact absurd rfl he
  · rintro a w ⟨f, hs, hb⟩
    exact h2 f w hb a hs Q hQ hP

theorem initSim {args : Array Value} {n : Nat} {b : Bool} {pn : List PanicEntry → World → Prop} (hn : args.size ≤ n) : Sim n ⟨none, b, pn, []⟩ { tmps := args ++ Array.replicate (n - args.size) undef, defers := [] } (fr0 args) := by
  refine ⟨by simp; omega, by cases b <;> rfl, fun t => ?_⟩
  show _ = args.getD t undef
  simp only [Array.getD_eq_getD_getElem?, Array.getElem?_append, Array.getElem?_replicate]
  split
  · rfl
  · rename_i h
    rw [Array.getElem?_eq_none (by omega)]
    split <;> rfl

def Shuts (P : Program) : List Nat → World → World → Prop
  | [], w, w' => w' = w
  | D :: l, w, w' => w.heap[D]? = some (.deferred (some [])) ∧ Shuts P l (w.putObj D (.deferred none)) w'

theorem leavesM {fn : Func} {tmps : Array Value} {R : Ending → World → Prop} {F : Fence} : ∀ {l : List Nat} {w w' : World}, Shuts P l w w' → (∃ v, (results fn tmps).run P w' = .ok v w' ∧ R (.returned v) w') →
    LeavesInM F 0 P fn tmps R (l.map markD) .returning w
  | [], w, w', h, h2 => by cases h; exact h2
  | D :: l, w, w', ⟨h1, h2⟩, h3 => ⟨by simp, .inl ⟨D, _, rfl, run_takeDeferred h1, leavesM h2 h3⟩⟩

abbrev EndsIn (P : Program) (fn : Func) (nt : Nat) (R : Ending → World → Prop) (f : Fr) (w : World) : Prop :=
  ∀ tmps : Array Value, tmps.size = nt → (∀ t, tmps.getD t undef = f t) → ∃ v, (results fn tmps).run P w = .ok v w ∧ R (.returned v) w
abbrev EndsM (P : Program) (fn : Func) (nt : Nat) (R : Ending → World → Prop) (f : Fr) (w : World) : Prop := ∃ w', Shuts P f.marks w w' ∧ EndsIn P fn nt R f w'

theorem calls_of_W {k : FuncId} {fn : Func} {c : Code} {args : Array Value} {R : Ending → World → Prop} {nt : Nat} (hf : P.funcs[k]? = some fn) (hb : fn.body = some c) (hnt : fn.ntmps = nt)
    (hn : args.size ≤ nt) (h : W P nt ⟨none, false, noPan, []⟩ c (EndsIn P fn nt R) (fun _ _ _ => False) (EndsIn P fn nt R) (fr0 args) w) : Calls P k args w R := by
  subst hnt
  refine callsIn_wide.1 (callsIn_of_wp_marks (F := Fence.wide) (n := 0) hf hb trivial (wpIn_mono (h _ (initSim hn)) ?_))
  intro e a w hq
  cases e with
  | normal => obtain ⟨f, hs, h2⟩ := hq; show LeavesInM _ _ _ _ _ _ a.defers _ _; rw [hs.dfs]; exact h2 a.tmps hs.size hs.get
  | ret => obtain ⟨f, hs, h2⟩ := hq; show LeavesInM _ _ _ _ _ _ a.defers _ _; rw [hs.dfs]; exact h2 a.tmps hs.size hs.get
  | exit i => obtain ⟨f, hs, hk⟩ := hq; exact hk.elim
  | panic ch => exact hq.1.elim
  | _ => exact hq.elim
theorem calls_of_WM {k : FuncId} {fn : Func} {c : Code} {args : Array Value} {R : Ending → World → Prop} {nt : Nat} (hf : P.funcs[k]? = some fn) (hb : fn.body = some c) (hnt : fn.ntmps = nt)
    (hn : args.size ≤ nt) (h : W P nt ⟨none, true, noPan, []⟩ c (EndsM P fn nt R) (fun _ _ _ => False) (EndsM P fn nt R) (fr0 args) w) : Calls P k args w R := by
  subst hnt
  refine callsIn_wide.1 (callsIn_of_wp_marks (F := Fence.wide) (n := 0) hf hb trivial (wpIn_mono (h _ (initSim hn)) ?_))
  intro e a w hq
  cases e with
  | normal => obtain ⟨f, hs, w', h1, h2⟩ := hq; show LeavesInM _ _ _ _ _ _ a.defers _ _; rw [hs.dfs, List.append_nil]; exact leavesM h1 (h2 a.tmps hs.size hs.get)
  | ret => obtain ⟨f, hs, w', h1, h2⟩ := hq; show LeavesInM _ _ _ _ _ _ a.defers _ _; rw [hs.dfs, List.append_nil]; exact leavesM h1 (h2 a.tmps hs.size hs.get)
  | exit i => obtain ⟨f, hs, hk⟩ := hq; exact hk.elim
  | panic ch => exact hq.1.elim
  | _ => exact hq.elim
end
end Go.Fw
