/-
  THE FRAMEWORK, PART D: loops as recursive models; the ends of functions; a cut at any statement.
-/
import Derived.Test.YtmoofcflfbnceaaGreatDoorFwC
namespace Go.Fw
open Go.RowKit

inductive Step (S X : Type) where
  | cont (s : S)
  | done (x : X)
inductive Ctl (S R : Type) where
  | next (s : S)
  | ret (r : R)
  | exit (k : Nat) (s : S)

def rangeL {α S X : Type} (body : Int → α → S → Option (Step S X)) (fin : S → X) : List α → Int → S → Option X
  | [], _, s => some (fin s)
  | x :: xs, i, s => (body i x s).bind fun st => match st with
    | .cont s' => rangeL body fin xs (i + 1) s'
    | .done y => some y
def rangeN {S X : Type} (body : Int → S → Option (Step S X)) (fin : S → X) : Nat → Int → S → Option X
  | 0, _, s => some (fin s)
  | k + 1, i, s => (body i s).bind fun st => match st with
    | .cont s' => rangeN body fin k (i + 1) s'
    | .done y => some y

inductive LoopTo {S X : Type} (body : S → Option (Step S X)) : S → X → Prop where
  | done {s : S} {x : X} (h : body s = some (.done x)) : LoopTo body s x
  | cont {s s' : S} {x : X} (h : body s = some (.cont s')) (h' : LoopTo body s' x) : LoopTo body s x
theorem LoopTo.det {S X : Type} {body : S → Option (Step S X)} {s : S} {x y : X} (h : LoopTo body s x) (h' : LoopTo body s y) : x = y := by
  induction h with
  | done h =>
    cases h' with
    | done h2 => rw [h] at h2; cases h2; rfl
    | cont h2 _ => rw [h] at h2; cases h2
  | cont h _ ih =>
    cases h' with
    | done h2 => rw [h] at h2; cases h2
    | cont h2 h3 => rw [h] at h2; cases h2; exact ih h3
open Classical in
noncomputable def loopR {S X : Type} (body : S → Option (Step S X)) (s : S) : Option X := if h : ∃ x, LoopTo body s x then some h.choose else none
theorem loopR_to {S X : Type} {body : S → Option (Step S X)} {s : S} {x : X} : loopR body s = some x ↔ LoopTo body s x := by
  unfold loopR
  constructor
  · intro h
    split at h
    · rename_i hx
      cases h
      exact hx.choose_spec
    · cases h
  · intro h
    have hx : ∃ x, LoopTo body s x := ⟨x, h⟩
    rw [dif_pos hx]
    exact congrArg some (hx.choose_spec.det h)
theorem loopR_eq {S X : Type} (body : S → Option (Step S X)) (s : S) : loopR body s = (body s).bind fun st => match st with
    | .cont s' => loopR body s'
    | .done x => some x := by
  apply Option.ext
  intro x
  rw [loopR_to]
  cases hb : body s with
  | none =>
    simp only [Option.bind_none]
    constructor
    · intro h; cases h with
      | done h => rw [hb] at h; cases h
      | cont h _ => rw [hb] at h; cases h
    · intro h; cases h
  | some st =>
    cases st with
    | cont s' =>
      simp only [Option.bind_some, loopR_to]
      constructor
      · intro h; cases h with
        | done h => rw [hb] at h; cases h
        | cont h h2 => rw [hb] at h; cases h; exact h2
      · intro h; exact .cont hb h
    | done y =>
      simp only [Option.bind_some]
      constructor
      · intro h; cases h with
        | done h => rw [hb] at h; cases h; rfl
        | cont h h2 => rw [hb] at h; cases h
      · intro h; cases h; exact .done hb

section
variable {P : Program} {n : Nat} {ds : Md} {Kn : Fr → World → Prop} {Kx : Nat → Fr → World → Prop} {Kr : Fr → World → Prop} {f : Fr} {w : World} {c : Code}

theorem W.via (B : Fr → World → Prop) (h : W P n ds c B Kx Kr f w) (h2 : ∀ f w, B f w → Kn f w) : W P n ds c Kn Kx Kr f w :=
  h.mono h2 (fun _ _ _ h => h) (fun _ _ h => h)

theorem rounds_of_W {Q : Exit → Act → World → Prop} {k : Nat} {a : Act} (hs : Sim n ds a f)
    (h : W P n ds c (fun f' w' => ∀ a', Sim n ds a' f' → Code.roundsIn (FR ds) 0 P c Q k a' w') Kx Kr f w)
    (hx : ∀ i a w, (∃ f, Sim n ds a f ∧ Kx i f w) → Q (.exit i) a w) (hr : ∀ a w, (∃ f, Sim n ds a f ∧ Kr f w) → Q .ret a w) (hp : ∀ ch (a : Act) w, (ds.pan ch w ∧ (ds.marked = false → a.defers = ds.tl)) → Q (.panic ch) a w) : Code.roundsIn (FR ds) 0 P c Q (k + 1) a w := by
  rw [roundsIn_succ]
  refine wpIn_mono (h a hs) fun e a' w' hq => ?_
  cases e with
  | normal => obtain ⟨f', hs', hk⟩ := hq; exact hk a' hs'
  | exit i => exact hx i a' w' hq
  | ret => exact hr a' w' hq
  | panic ch => exact hp ch a' w' hq
  | _ => exact hq.elim

theorem W.rangeL {α S X : Type} {body : Int → α → S → Option (Step S X)} {fin : S → X} {r : X} {l : List α} {i : Nat} {s : S} (hm : rangeL body fin l i s = some r)
    (A : List α → Nat → S → Fr → World → Prop) (h0 : A l i s f w)
    (hround : ∀ x xs (i : Nat) s st f w, A (x :: xs) i s f w → body i x s = some st →
      W P n ds c (fun f' w' => ∃ s', st = .cont s' ∧ A xs (i + 1) s' f' w') (fun e f' w' => ∃ y, st = .done y ∧ (y = r → Kx e f' w')) (fun f' w' => ∃ y, st = .done y ∧ (y = r → Kr f' w')) f w)
    (hend : ∀ (i : Nat) s f w, A [] i s f w → fin s = r → W P n ds c (fun _ _ => False) Kx Kr f w) : W P n ds (.loop c) Kn Kx Kr f w := by
  intro a ha
  refine wpIn_loop_rounds (l.length + 1) ?_
  induction l generalizing i s f w a with
  | nil =>
    refine rounds_of_W ha ((hend i s f w h0 (by simpa [Fw.rangeL] using hm)).mono (fun _ _ h => h.elim) (fun _ _ _ h => h) (fun _ _ h => h)) (fun i a w h => h) (fun a w h => h) (fun _ _ _ h => h)
  | cons x xs ih =>
    simp only [Fw.rangeL] at hm
    obtain ⟨st, hb, hm⟩ := bind_some hm
    refine rounds_of_W (Kx := Kx) (Kr := Kr) ha ((hround x xs i s st f w h0 hb).mono ?_ ?_ ?_) (fun i a w h => h) (fun a w h => h) (fun _ _ _ h => h)
    · rintro f' w' ⟨s', rfl, hA⟩ a' ha'
      exact ih (i := i + 1) (by simpa using hm) hA a' ha'
    · rintro e f' w' ⟨y, rfl, hk⟩
      exact hk (by simpa using hm)
    · rintro f' w' ⟨y, rfl, hk⟩
      exact hk (by simpa using hm)

theorem W.rangeN {S X : Type} {body : Int → S → Option (Step S X)} {fin : S → X} {r : X} {k : Nat} {i : Nat} {s : S} (hm : rangeN body fin k i s = some r)
    (A : Nat → Nat → S → Fr → World → Prop) (h0 : A k i s f w)
    (hround : ∀ k (i : Nat) s st f w, A (k + 1) i s f w → body i s = some st →
      W P n ds c (fun f' w' => ∃ s', st = .cont s' ∧ A k (i + 1) s' f' w') (fun e f' w' => ∃ y, st = .done y ∧ (y = r → Kx e f' w')) (fun f' w' => ∃ y, st = .done y ∧ (y = r → Kr f' w')) f w)
    (hend : ∀ (i : Nat) s f w, A 0 i s f w → fin s = r → W P n ds c (fun _ _ => False) Kx Kr f w) : W P n ds (.loop c) Kn Kx Kr f w := by
  intro a ha
  refine wpIn_loop_rounds (k + 1) ?_
  induction k generalizing i s f w a with
  | zero =>
    refine rounds_of_W ha ((hend i s f w h0 (by simpa [Fw.rangeN] using hm)).mono (fun _ _ h => h.elim) (fun _ _ _ h => h) (fun _ _ h => h)) (fun i a w h => h) (fun a w h => h) (fun _ _ _ h => h)
  | succ k ih =>
    simp only [Fw.rangeN] at hm
    obtain ⟨st, hb, hm⟩ := bind_some hm
    refine rounds_of_W (Kx := Kx) (Kr := Kr) ha ((hround k i s st f w h0 hb).mono ?_ ?_ ?_) (fun i a w h => h) (fun a w h => h) (fun _ _ _ h => h)
    · rintro f' w' ⟨s', rfl, hA⟩ a' ha'
      exact ih (i := i + 1) (by simpa using hm) hA a' ha'
    · rintro e f' w' ⟨y, rfl, hk⟩
      exact hk (by simpa using hm)
    · rintro f' w' ⟨y, rfl, hk⟩
      exact hk (by simpa using hm)

theorem W.loopR {S X : Type} {body : S → Option (Step S X)} {r : X} {s : S} (hm : loopR body s = some r) (A : S → Fr → World → Prop) (h0 : A s f w)
    (hround : ∀ s st f w, A s f w → body s = some st →
      W P n ds c (fun f' w' => ∃ s', st = .cont s' ∧ A s' f' w') (fun e f' w' => ∃ y, st = .done y ∧ (y = r → Kx e f' w')) (fun f' w' => ∃ y, st = .done y ∧ (y = r → Kr f' w')) f w) :
    W P n ds (.loop c) Kn Kx Kr f w := by
  have ht := loopR_to.1 hm
  clear hm
  intro a ha b k cs hro hb hr
  have key : ∃ e a' w', post n ds Kn Kx Kr e a' w' ∧ ArrivesIn (Machine.fenced P (FR ds)) P (lone (b.atR a (.code c :: .inLoop c :: k)) cs w) b k cs e a' w' := by
    induction ht generalizing f w a with
    | @done s r hbd =>
      obtain ⟨e, a1, w1, hq, harr⟩ := hround s _ f w h0 hbd a ha b (.inLoop c :: k) cs hro hb hr
      cases e with
      | normal => obtain ⟨f', _, s', h, _⟩ := hq; cases h
      | exit i => obtain ⟨f', hs', y, h, hk⟩ := hq; cases h; exact ⟨.exit i, a1, w1, ⟨f', hs', hk rfl⟩, .pass (x := .inLoop c) rfl (fun _ _ => .inl (by simp)) harr⟩
      | ret => obtain ⟨f', hs', y, h, hk⟩ := hq; cases h; exact ⟨.ret, a1, w1, ⟨f', hs', hk rfl⟩, .pass (x := .inLoop c) rfl (fun _ _ => .inl (by simp)) harr⟩
      | panic ch => exact ⟨.panic ch, a1, w1, hq, .pass (x := .inLoop c) rfl (fun _ _ => .inl (by simp)) harr⟩
      | _ => exact hq.elim
    | @cont s s' r hbd _ ih =>
      obtain ⟨e, a1, w1, hq, harr⟩ := hround s _ f w h0 hbd a ha b (.inLoop c :: k) cs hro hb hr
      cases e with
      | normal =>
        obtain ⟨f', hs', s2, h, hA⟩ := hq
        cases h
        obtain ⟨e2, a2, w2, hq2, harr2⟩ := ih hA hround a1 hs'
        exact ⟨e2, a2, w2, hq2, .of_steps (StepsIn.trans harr (.one (fenced_calm hb hr rfl) stepR_inLoop)) harr2⟩
      | exit i => obtain ⟨f', hs', y, h, hk⟩ := hq; cases h
      | ret => obtain ⟨f', hs', y, h, hk⟩ := hq; cases h
      | panic ch => exact ⟨.panic ch, a1, w1, hq, .pass (x := .inLoop c) rfl (fun _ _ => .inl (by simp)) harr⟩
      | _ => exact hq.elim
  obtain ⟨e, a', w', hq, harr⟩ := key
  exact ⟨e, a', w', hq, .of_steps (.one (fenced_calm hb hr rfl) stepR_loop) harr⟩

/-! How a function ends. -/
def RV (P : Program) (f : Fr) (w : World) (v : Value) : ResultVar → Prop
  | .tmp t => f t = v
  | .cell a T => ∃ q, f a = .pointer (some q) ∧ (loadVar T q).run P w = .ok v w
theorem ends1 {fn : Func} {nt : Nat} {R : Ending → World → Prop} {r1 : ResultVar} {v1 : Value} (hr : fn.results = #[r1]) (h1 : RV P f w v1 r1) (h : R (.returned v1) w) : EndsIn P fn nt R f w := by
  intro tmps _ hs
  refine ⟨v1, ?_, h⟩
  unfold results
  rw [hr]
  cases r1 <;> simp only [RV] at h1 <;> (try obtain ⟨q1, hq1, hl1⟩ := h1) <;> simp_all [asAddr]
theorem ends2 {fn : Func} {nt : Nat} {R : Ending → World → Prop} {r1 r2 : ResultVar} {v1 v2 : Value} (hr : fn.results = #[r1, r2]) (h1 : RV P f w v1 r1) (h2 : RV P f w v2 r2)
    (h : R (.returned (.tuple #[v1, v2])) w) : EndsIn P fn nt R f w := by
  intro tmps _ hs
  refine ⟨_, ?_, h⟩
  unfold results
  rw [hr]
  cases r1 <;> cases r2 <;> simp only [RV] at h1 h2 <;> (try obtain ⟨q1, hq1, hl1⟩ := h1) <;> (try obtain ⟨q2, hq2, hl2⟩ := h2) <;> simp_all [asAddr]
theorem ends3 {fn : Func} {nt : Nat} {R : Ending → World → Prop} {r1 r2 r3 : ResultVar} {v1 v2 v3 : Value} (hr : fn.results = #[r1, r2, r3]) (h1 : RV P f w v1 r1) (h2 : RV P f w v2 r2)
    (h3 : RV P f w v3 r3) (h : R (.returned (.tuple #[v1, v2, v3])) w) : EndsIn P fn nt R f w := by
  intro tmps _ hs
  refine ⟨_, ?_, h⟩
  unfold results
  rw [hr]
  cases r1 <;> cases r2 <;> cases r3 <;> simp only [RV] at h1 h2 h3 <;> (try obtain ⟨q1, hq1, hl1⟩ := h1) <;> (try obtain ⟨q2, hq2, hl2⟩ := h2) <;> (try obtain ⟨q3, hq3, hl3⟩ := h3) <;> simp_all [asAddr]
theorem ends0 {fn : Func} {nt : Nat} {R : Ending → World → Prop} (hr : fn.results = #[]) (h : R (.returned (.tuple #[])) w) : EndsIn P fn nt R f w := by
  intro tmps _ _
  exact ⟨_, results_none hr _ _ _, h⟩
end
end Go.Fw
