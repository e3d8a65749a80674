/-
  Graphs, plain: walks and their costs, and the pushing of costs along steps until nothing changes. No program in it.
-/
import Derived.Test.YtmoofcflfbnceaaGreatDoorM
import Derived.Test.YtmoofcflfbnceaaGreatDoorFwN
namespace Go.Gr
/-- A walk from a point to another one, with its cost. -/
inductive Wy {π : Type} (E : π → π → Int → Prop) : π → π → Int → Prop
  | nil (p : π) : Wy E p p 0
  | cons {p q r : π} {c d : Int} : E p q c → Wy E q r d → Wy E p r (c + d)
variable {π : Type} {E : π → π → Int → Prop}
theorem Wy.of {p q : π} {c d : Int} (h : Wy E p q c) (e : c = d) : Wy E p q d := e ▸ h
theorem Wy.one {p q : π} {c : Int} (h : E p q c) : Wy E p q c := (Wy.cons h (.nil q)).of (by omega)
theorem Wy.append {p q r : π} {c d : Int} (h : Wy E p q c) (k : Wy E q r d) : Wy E p r (c + d) := by
  induction h with
  | nil p => exact k.of (by omega)
  | cons e _ ih => exact (Wy.cons e (ih k)).of (by omega)
theorem Wy.mono {E' : π → π → Int → Prop} (hE : ∀ p q c, E p q c → E' p q c) {p q : π} {c : Int} (h : Wy E p q c) : Wy E' p q c := by
  induction h with
  | nil p => exact .nil p
  | cons e _ ih => exact .cons (hE _ _ _ e) ih
/-- No way from a point to itself costs less than 0. -/
def NoNeg (E : π → π → Int → Prop) : Prop := ∀ p c, Wy E p p c → 0 ≤ c
/-- A potential of all steps: the cost of a way is at least the difference. -/
theorem Wy.potential (f : π → Int) (hf : ∀ p q c, E p q c → f q ≤ f p + c) {p q : π} {c : Int} (h : Wy E p q c) : f q ≤ f p + c := by
  induction h with
  | nil p => omega
  | cons e _ ih => have := hf _ _ _ e; omega
theorem noNeg_of_potential (f : π → Int) (hf : ∀ p q c, E p q c → f q ≤ f p + c) : NoNeg E := fun p c h => by
  have := h.potential f hf; omega
/-- The least cost of the ways from a point to another one. -/
def Least (E : π → π → Int → Prop) (p q : π) (c : Int) : Prop := Wy E p q c ∧ ∀ d, Wy E p q d → c ≤ d
theorem Least.uniq {p q : π} {c d : Int} (h : Least E p q c) (k : Least E p q d) : c = d := by
  have := h.2 _ k.1; have := k.2 _ h.1; omega

/-! The pushing of costs along steps. -/
structure Pj (τ ν : Type) where
  fr : τ → ν
  to : τ → ν
  co : τ → Int
structure Ma (τ ν : Type) where
  cost : ν → Option Int
  by_ : ν → Option τ
section
variable {τ ν : Type} [DecidableEq ν] (P : Pj τ ν)
def Ma.put (m : Ma τ ν) (v : ν) (c : Int) (s : τ) : Ma τ ν := ⟨fun x => if x = v then some c else m.cost x, fun x => if x = v then some s else m.by_ x⟩
/-- The step would lower a cost. -/
def Ma.Lowers (m : Ma τ ν) (s : τ) (a : Int) : Prop := m.cost (P.fr s) = some a ∧ ∀ b, m.cost (P.to s) = some b → a + P.co s < b
def Ma.Sat (m : Ma τ ν) (s : τ) : Prop := ∀ a, m.cost (P.fr s) = some a → ∃ b, m.cost (P.to s) = some b ∧ b ≤ a + P.co s
/-- One push: the step lowers, or is satisfied. -/
inductive Push (m : Ma τ ν) (s : τ) : Ma τ ν → Prop
  | low (a : Int) : m.Lowers P s a → Push m s (m.put (P.to s) (a + P.co s) s)
  | keep : m.Sat P s → Push m s m
inductive Pushes : Ma τ ν → List τ → Ma τ ν → Prop
  | nil (m) : Pushes m [] m
  | cons {m m1 m2 s l} : Push P m s m1 → Pushes m1 l m2 → Pushes m (s :: l) m2
inductive Rounds (steps : List τ) : Nat → Ma τ ν → Ma τ ν → Prop
  | nil (m) : Rounds steps 0 m m
  | snoc {k m m1 m2} : Rounds steps k m m1 → Pushes P m1 steps m2 → Rounds steps (k + 1) m m2
def stepE (P : Pj τ ν) (steps : List τ) (u v : ν) (c : Int) : Prop := ∃ s ∈ steps, P.fr s = u ∧ P.to s = v ∧ P.co s = c
variable {P}
theorem put_cost_eq (m : Ma τ ν) (v : ν) (c : Int) (s : τ) : (m.put v c s).cost v = some c := if_pos rfl
theorem put_cost_ne (m : Ma τ ν) (v : ν) (c : Int) (s : τ) {x : ν} (h : x ≠ v) : (m.put v c s).cost x = m.cost x := if_neg h
theorem put_by_eq (m : Ma τ ν) (v : ν) (c : Int) (s : τ) : (m.put v c s).by_ v = some s := if_pos rfl
theorem put_by_ne (m : Ma τ ν) (v : ν) (c : Int) (s : τ) {x : ν} (h : x ≠ v) : (m.put v c s).by_ x = m.by_ x := if_neg h
/-- What is kept in round k, the steps of pre done and those of post to come: rd v is the round of v's last change (from 1), tm v its time. -/
structure Kept (P : Pj τ ν) (steps : List τ) (k : Nat) (pre post : List τ) (T : Nat) (m : Ma τ ν) (rd tm : ν → Nat) : Prop where
  sub : ∀ s, s ∈ pre ∨ s ∈ post → s ∈ steps
  rdle : ∀ v, rd v ≤ k + 1
  tmlt : ∀ v, tm v < T
  some_ : ∀ v, 1 ≤ rd v → ∃ s, m.by_ v = some s
  pred : ∀ v s, m.by_ v = some s → rd v ≤ rd (P.fr s) + 1
  val : ∀ v s, m.by_ v = some s → P.to s = v ∧ s ∈ steps ∧ ∃ a b, m.cost (P.fr s) = some a ∧ m.cost v = some b ∧ a + P.co s + (if tm v ≤ tm (P.fr s) then 1 else 0) ≤ b
  satPre : ∀ s ∈ pre, rd (P.fr s) < k + 1 → m.Sat P s
  satPost : ∀ s ∈ post, rd (P.fr s) < k → m.Sat P s
omit [DecidableEq ν] in
theorem Kept.start (steps : List τ) (m : Ma τ ν) (hm : ∀ v, m.by_ v = none) : Kept P steps 0 [] steps 1 m (fun _ => 0) (fun _ => 0) where
  sub := by simp
  rdle := by simp
  tmlt := by simp
  some_ := by simp
  pred := fun v s h => by rw [hm] at h; cases h
  val := fun v s h => by rw [hm] at h; cases h
  satPre := by simp
  satPost := by simp
theorem Kept.push {steps : List τ} {k : Nat} {pre post : List τ} {T : Nat} {m m' : Ma τ ν} {rd tm : ν → Nat} {s : τ} (h : Kept P steps k pre (s :: post) T m rd tm) (hp : Push P m s m') :
    ∃ rd' tm', Kept P steps k (pre ++ [s]) post (T + 1) m' rd' tm' ∧ (∀ v, rd v ≤ rd' v) ∧ (m' ≠ m → rd' (P.to s) = k + 1) := by
  have hs : s ∈ steps := h.sub s (.inr (List.mem_cons_self ..))
  cases hp with
  | keep hk =>
    refine ⟨rd, tm, ⟨?_, h.rdle, fun v => Nat.lt_succ_of_lt (h.tmlt v), h.some_, h.pred, h.val, ?_, ?_⟩, fun v => Nat.le_refl _, fun hne => absurd rfl hne⟩
    · intro x hx
      rcases hx with hx | hx
      · rcases List.mem_append.1 hx with hx | hx
        · exact h.sub x (.inl hx)
        · rw [List.mem_singleton.1 hx]; exact hs
      · exact h.sub x (.inr (List.mem_cons_of_mem _ hx))
    · intro x hx hr
      rcases List.mem_append.1 hx with hx | hx
      · exact h.satPre x hx hr
      · rw [List.mem_singleton.1 hx]; exact hk
    · intro x hx hr
      exact h.satPost x (List.mem_cons_of_mem _ hx) hr
  | low a hl =>
    obtain ⟨ha, hb⟩ := hl
    have hrd : k ≤ rd (P.fr s) := by
      rcases Nat.lt_or_ge (rd (P.fr s)) k with hlt | hge
      · obtain ⟨b, hb1, hb2⟩ := h.satPost s (List.mem_cons_self ..) hlt a ha
        have := hb b hb1
        omega
      · exact hge
    have hrd' : ∀ x, rd x ≤ (if x = P.to s then k + 1 else rd x) := by
      intro x
      split
      · exact h.rdle x
      · exact Nat.le_refl _
    refine ⟨fun x => if x = P.to s then k + 1 else rd x, fun x => if x = P.to s then T else tm x, ⟨?_, ?_, ?_, ?_, ?_, ?_, ?_, ?_⟩, hrd', fun _ => if_pos rfl⟩
    · intro x hx
      rcases hx with hx | hx
      · rcases List.mem_append.1 hx with hx | hx
        · exact h.sub x (.inl hx)
        · rw [List.mem_singleton.1 hx]; exact hs
      · exact h.sub x (.inr (List.mem_cons_of_mem _ hx))
    · intro v; split
      · exact Nat.le_refl _
      · exact h.rdle v
    · intro v; split
      · omega
      · exact Nat.lt_succ_of_lt (h.tmlt v)
    · intro v hv
      by_cases hvt : v = P.to s
      · subst hvt; exact ⟨s, put_by_eq ..⟩
      · rw [put_by_ne _ _ _ _ hvt]; exact h.some_ v (by simpa [hvt] using hv)
    · intro v s' hv
      by_cases hvt : v = P.to s
      · subst hvt
        rw [put_by_eq] at hv
        cases hv
        have := hrd' (P.fr s)
        rw [if_pos rfl]
        omega
      · rw [put_by_ne _ _ _ _ hvt] at hv
        have h1 := h.pred v s' hv
        have h2 := hrd' (P.fr s')
        rw [if_neg hvt]
        omega
    · intro v s' hv
      by_cases hvt : v = P.to s
      · subst hvt
        rw [put_by_eq] at hv
        cases hv
        refine ⟨rfl, hs, ?_⟩
        by_cases hself : P.fr s = P.to s
        · refine ⟨a + P.co s, a + P.co s, by rw [hself]; exact put_cost_eq .., put_cost_eq .., ?_⟩
          have := hb a (by rw [← hself]; exact ha)
          split <;> omega
        · refine ⟨a, a + P.co s, by rw [put_cost_ne _ _ _ _ hself]; exact ha, put_cost_eq .., ?_⟩
          rw [if_pos rfl, if_neg hself, if_neg (by have := h.tmlt (P.fr s); omega)]
          omega
      · rw [put_by_ne _ _ _ _ hvt] at hv
        obtain ⟨h1, h2, a1, b1, h3, h4, h5⟩ := h.val v s' hv
        refine ⟨h1, h2, ?_⟩
        by_cases hf : P.fr s' = P.to s
        · refine ⟨a + P.co s, b1, by rw [hf]; exact put_cost_eq .., by rw [put_cost_ne _ _ _ _ hvt]; exact h4, ?_⟩
          have := hb a1 (by rw [← hf]; exact h3)
          have h6 : a1 + P.co s' ≤ b1 := by
            have : (0 : Int) ≤ (if tm v ≤ tm (P.fr s') then 1 else 0) := by split <;> omega
            omega
          split <;> omega
        · refine ⟨a1, b1, by rw [put_cost_ne _ _ _ _ hf]; exact h3, by rw [put_cost_ne _ _ _ _ hvt]; exact h4, ?_⟩
          rw [if_neg hvt, if_neg hf]
          exact h5
    · intro x hx hr
      have hfx : P.fr x ≠ P.to s := fun e => by simp [e] at hr
      simp only [if_neg hfx] at hr
      intro a' ha'
      rw [put_cost_ne _ _ _ _ hfx] at ha'
      rcases List.mem_append.1 hx with hx | hx
      · obtain ⟨b, hb1, hb2⟩ := h.satPre x hx hr a' ha'
        by_cases ht : P.to x = P.to s
        · refine ⟨a + P.co s, by rw [ht]; exact put_cost_eq .., ?_⟩
          have := hb b (by rw [← ht]; exact hb1)
          omega
        · exact ⟨b, by rw [put_cost_ne _ _ _ _ ht]; exact hb1, hb2⟩
      · rw [List.mem_singleton.1 hx] at ha' ⊢
        rw [ha] at ha'
        cases ha'
        exact ⟨_, put_cost_eq .., Int.le_refl _⟩
    · intro x hx hr
      have hfx : P.fr x ≠ P.to s := fun e => by simp [e] at hr; omega
      simp only [if_neg hfx] at hr
      intro a' ha'
      rw [put_cost_ne _ _ _ _ hfx] at ha'
      obtain ⟨b, hb1, hb2⟩ := h.satPost x (List.mem_cons_of_mem _ hx) hr a' ha'
      by_cases ht : P.to x = P.to s
      · refine ⟨a + P.co s, by rw [ht]; exact put_cost_eq .., ?_⟩
        have := hb b (by rw [← ht]; exact hb1)
        omega
      · exact ⟨b, by rw [put_cost_ne _ _ _ _ ht]; exact hb1, hb2⟩
theorem Kept.pushes {steps : List τ} {k : Nat} {m m' : Ma τ ν} {post : List τ} (hp : Pushes P m post m') : ∀ {pre : List τ} {T : Nat} {rd tm : ν → Nat}, Kept P steps k pre post T m rd tm →
    ∃ T' rd' tm', Kept P steps k (pre ++ post) [] T' m' rd' tm' ∧ ∀ v, rd v ≤ rd' v := by
  induction hp with
  | nil m => intro pre T rd tm h; exact ⟨T, rd, tm, by rw [List.append_nil]; exact h, fun v => Nat.le_refl _⟩
  | cons h1 _ ih =>
    intro pre T rd tm h
    obtain ⟨rd1, tm1, h2, h3, _⟩ := h.push h1
    obtain ⟨T', rd', tm', h4, h5⟩ := ih h2
    exact ⟨T', rd', tm', by rw [List.append_assoc] at h4; exact h4, fun v => Nat.le_trans (h3 v) (h5 v)⟩
omit [DecidableEq ν] in
theorem Kept.turn {steps : List τ} {k : Nat} {T : Nat} {m : Ma τ ν} {rd tm : ν → Nat} (h : Kept P steps k steps [] T m rd tm) : Kept P steps (k + 1) [] steps T m rd tm where
  sub := by simp
  rdle := fun v => Nat.le_succ_of_le (h.rdle v)
  tmlt := h.tmlt
  some_ := h.some_
  pred := h.pred
  val := h.val
  satPre := by simp
  satPost := fun s hs hr => h.satPre s hs hr
theorem Kept.rounds {steps : List τ} {n : Nat} {m m' : Ma τ ν} (hr : Rounds P steps n m m') (hm : ∀ v, m.by_ v = none) : ∃ T rd tm, Kept P steps n [] steps T m' rd tm := by
  induction hr with
  | nil m => exact ⟨_, _, _, Kept.start steps m hm⟩
  | snoc _ hp ih =>
    obtain ⟨T, rd, tm, h⟩ := ih hm
    obtain ⟨T', rd', tm', h', _⟩ := h.pushes hp
    exact ⟨T', rd', tm', (by simpa using h' : Kept P steps _ steps [] _ _ _ _).turn⟩
/-- Back along the steps by which the costs came. -/
inductive Back (P : Pj τ ν) (m : Ma τ ν) : ν → ν → List τ → Prop
  | nil (v : ν) : Back P m v v []
  | cons {v u : ν} {s : τ} {l : List τ} : m.by_ v = some s → Back P m (P.fr s) u l → Back P m v u (s :: l)
def sumC (P : Pj τ ν) (l : List τ) : Int := (l.map P.co).sum
omit [DecidableEq ν] in
theorem sumC_nil : sumC P ([] : List τ) = 0 := rfl
omit [DecidableEq ν] in
theorem sumC_cons (s : τ) (l : List τ) : sumC P (s :: l) = P.co s + sumC P l := by simp [sumC]
omit [DecidableEq ν] in
theorem Back.append {m : Ma τ ν} {v u x : ν} {l l' : List τ} (h : Back P m v u l) (h' : Back P m u x l') : Back P m v x (l ++ l') := by
  induction h with
  | nil v => exact h'
  | cons e _ ih => exact .cons e (ih h')
omit [DecidableEq ν] in
theorem Kept.back {steps : List τ} {k : Nat} {pre post : List τ} {T : Nat} {m : Ma τ ν} {rd tm : ν → Nat} (h : Kept P steps k pre post T m rd tm) {v u : ν} {l : List τ} (hb : Back P m v u l) (hl : l ≠ []) :
    Wy (stepE P steps) u v (sumC P l) ∧ ∃ a b, m.cost u = some a ∧ m.cost v = some b ∧ (a + sumC P l + 1 ≤ b ∨ (a + sumC P l ≤ b ∧ tm u < tm v)) := by
  induction hb with
  | nil v => exact absurd rfl hl
  | @cons v u s l e hb ih =>
    obtain ⟨h1, h2, a, b, h3, h4, h5⟩ := h.val v s e
    have hw : Wy (stepE P steps) (P.fr s) v (P.co s) := Wy.one ⟨s, h2, rfl, h1, rfl⟩
    rw [sumC_cons]
    by_cases hl' : l = []
    · subst hl'
      cases hb
      refine ⟨hw.of (by rw [sumC_nil]; omega), a, b, h3, h4, ?_⟩
      rw [sumC_nil]
      split at h5
      · exact .inl (by omega)
      · exact .inr ⟨by omega, by omega⟩
    · obtain ⟨k1, a', b', k2, k3, k4⟩ := ih hl'
      rw [h3] at k3
      cases k3
      refine ⟨(k1.append hw).of (by omega), a', b, k2, h4, ?_⟩
      split at h5
      · exact .inl (by omega)
      · rcases k4 with k4 | ⟨k4, k5⟩
        · exact .inl (by omega)
        · exact .inr ⟨by omega, by omega⟩
omit [DecidableEq ν] in
theorem Kept.circle {steps : List τ} {k : Nat} {pre post : List τ} {T : Nat} {m : Ma τ ν} {rd tm : ν → Nat} (h : Kept P steps k pre post T m rd tm) {v : ν} {l : List τ} (hb : Back P m v v l) (hl : l ≠ []) :
    Wy (stepE P steps) v v (sumC P l) ∧ sumC P l < 0 := by
  obtain ⟨h1, a, b, h2, h3, h4⟩ := h.back hb hl
  rw [h2] at h3
  cases h3
  refine ⟨h1, ?_⟩
  rcases h4 with h4 | ⟨_, h5⟩
  · omega
  · omega
/-- Where costs still come down after as many rounds as there are points, there is a circle. -/
theorem Kept.circles {steps : List τ} {k : Nat} {pre post : List τ} {T : Nat} {m : Ma τ ν} {rd tm : ν → Nat} (h : Kept P steps k pre post T m rd tm) (V : List ν) (hV : ∀ s ∈ steps, P.fr s ∈ V) :
    ∀ (d : Nat) (v : ν) (seen : List ν), v ∈ V → d ≤ rd v → seen.Nodup → (∀ y ∈ seen, y ∈ V ∧ ∃ l, l ≠ [] ∧ Back P m y v l) → V.length < seen.length + d + 1 → ∃ x l, l ≠ [] ∧ Back P m x x l := by
  intro d
  induction d with
  | zero =>
    intro v seen hv _ hn hs hl
    by_cases hm : v ∈ seen
    · obtain ⟨_, l, h1, h2⟩ := hs v hm
      exact ⟨v, l, h1, h2⟩
    · have := List.Nodup.length_le_of_subset (List.nodup_cons.2 ⟨hm, hn⟩) (l₂ := V) (fun y hy => by
        rcases List.mem_cons.1 hy with rfl | hy
        · exact hv
        · exact (hs y hy).1)
      rw [List.length_cons] at this
      omega
  | succ d ih =>
    intro v seen hv hr hn hs hl
    by_cases hm : v ∈ seen
    · obtain ⟨_, l, h1, h2⟩ := hs v hm
      exact ⟨v, l, h1, h2⟩
    · obtain ⟨s, hb⟩ := h.some_ v (by omega)
      have h1 := h.pred v s hb
      obtain ⟨_, h2, _⟩ := h.val v s hb
      refine ih (P.fr s) (v :: seen) (hV s h2) (by omega) (List.nodup_cons.2 ⟨hm, hn⟩) (fun y hy => ?_) (by rw [List.length_cons]; omega)
      rcases List.mem_cons.1 hy with rfl | hy
      · exact ⟨hv, [s], by simp, .cons hb (.nil _)⟩
      · obtain ⟨h3, l, h4, h5⟩ := hs y hy
        exact ⟨h3, l ++ [s], by simp, h5.append (.cons hb (.nil _))⟩
/-- Without a circle below 0, as many rounds as there are points leave every step satisfied. -/
theorem Rounds.sat {steps : List τ} {m m' : Ma τ ν} (V : List ν) (hV : ∀ s ∈ steps, P.fr s ∈ V) (hr : Rounds P steps V.length m m') (hm : ∀ v, m.by_ v = none) (hn : NoNeg (stepE P steps)) : ∀ s ∈ steps, m'.Sat P s := by
  obtain ⟨T, rd, tm, h⟩ := Kept.rounds hr hm
  intro s hs
  rcases Nat.lt_or_ge (rd (P.fr s)) V.length with hlt | hge
  · exact h.satPost s hs hlt
  · obtain ⟨x, l, h1, h2⟩ := h.circles V hV V.length (P.fr s) [] (hV s hs) hge List.nodup_nil (by simp) (by simp)
    obtain ⟨h3, h4⟩ := h.circle h2 h1
    have := hn _ _ h3
    omega
omit [DecidableEq ν] in
/-- Satisfied steps: what is known at a point bounds what is known behind ways. -/
theorem sat_way {steps : List τ} {m : Ma τ ν} (hs : ∀ s ∈ steps, m.Sat P s) {u v : ν} {c : Int} (hw : Wy (stepE P steps) u v c) : ∀ {a : Int}, m.cost u = some a → ∃ b, m.cost v = some b ∧ b ≤ a + c := by
  induction hw with
  | nil p => intro a ha; exact ⟨a, ha, by omega⟩
  | cons e _ ih =>
    intro a ha
    obtain ⟨s, h1, rfl, rfl, rfl⟩ := e
    obtain ⟨b, h2, h3⟩ := hs s h1 a ha
    obtain ⟨b', h4, h5⟩ := ih h2
    exact ⟨b', h4, by omega⟩
/-- What is known at a point is the cost of a way from one of the beginnings. -/
def FromWays (P : Pj τ ν) (steps : List τ) (p : ν) (m : Ma τ ν) : Prop := ∀ v a, m.cost v = some a → Wy (stepE P steps) p v a
theorem Push.ways {steps : List τ} {p : ν} {m m' : Ma τ ν} {s : τ} (h : Push P m s m') (hs : s ∈ steps) (hf : FromWays P steps p m) : FromWays P steps p m' := by
  cases h with
  | keep _ => exact hf
  | low a hl =>
    intro v b hb
    by_cases hv : v = P.to s
    · subst hv
      rw [put_cost_eq] at hb
      cases hb
      exact ((hf _ _ hl.1).append (Wy.one ⟨s, hs, rfl, rfl, rfl⟩))
    · rw [put_cost_ne _ _ _ _ hv] at hb
      exact hf v b hb
theorem Pushes.ways {steps l : List τ} {p : ν} {m m' : Ma τ ν} (h : Pushes P m l m') (hs : ∀ s ∈ l, s ∈ steps) (hf : FromWays P steps p m) : FromWays P steps p m' := by
  induction h with
  | nil m => exact hf
  | cons h1 _ ih => exact ih (fun s h => hs s (List.mem_cons_of_mem _ h)) (h1.ways (hs _ (List.mem_cons_self ..)) hf)
theorem Rounds.ways {steps : List τ} {p : ν} {n : Nat} {m m' : Ma τ ν} (h : Rounds P steps n m m') (hf : FromWays P steps p m) : FromWays P steps p m' := by
  induction h with
  | nil m => exact hf
  | snoc _ h2 ih => exact h2.ways (fun s h => h) (ih hf)
theorem Push.le0 {m m' : Ma τ ν} {s : τ} (p : ν) (h : Push P m s m') : (∃ a, m.cost p = some a ∧ a ≤ 0) → ∃ a, m'.cost p = some a ∧ a ≤ 0 := by
  rintro ⟨a, h1, h2⟩
  cases h with
  | keep _ => exact ⟨a, h1, h2⟩
  | low b hl =>
    by_cases hv : p = P.to s
    · have := hl.2 a (by rw [← hv]; exact h1)
      exact ⟨_, by rw [hv]; exact put_cost_eq .., by omega⟩
    · exact ⟨a, by rw [put_cost_ne _ _ _ _ hv]; exact h1, h2⟩
theorem Pushes.le0 {m m' : Ma τ ν} {l : List τ} (p : ν) (h : Pushes P m l m') : (∃ a, m.cost p = some a ∧ a ≤ 0) → ∃ a, m'.cost p = some a ∧ a ≤ 0 := by
  induction h with
  | nil m => exact id
  | cons g1 _ ih => exact fun h0 => ih (g1.le0 p h0)
theorem Rounds.le0 {steps : List τ} {n : Nat} {m m' : Ma τ ν} (p : ν) (h : Rounds P steps n m m') : (∃ a, m.cost p = some a ∧ a ≤ 0) → ∃ a, m'.cost p = some a ∧ a ≤ 0 := by
  induction h with
  | nil m => exact id
  | snoc _ h2 ih => exact fun h0 => h2.le0 p (ih h0)
/-- Costs pushed from one point: what is known in the end is the least cost, and nothing is known where no way leads. -/
theorem Rounds.least {steps : List τ} {m' : Ma τ ν} (V : List ν) (hV : ∀ s ∈ steps, P.fr s ∈ V) (p : ν) (hr : Rounds P steps V.length ⟨fun x => if x = p then some 0 else none, fun _ => none⟩ m') (hn : NoNeg (stepE P steps)) (q : ν) :
    (∀ c, m'.cost q = some c → Least (stepE P steps) p q c) ∧ (m'.cost q = none → ∀ c, ¬ Wy (stepE P steps) p q c) := by
  have hs := hr.sat V hV (fun _ => rfl) hn
  have hw : FromWays P steps p m' := hr.ways (fun v a h => by
    dsimp only at h
    split at h
    · rename_i e; subst e; cases h; exact .nil _
    · cases h)
  obtain ⟨a0, h0, h1⟩ := hr.le0 p ⟨0, if_pos rfl, Int.le_refl _⟩
  refine ⟨fun c hc => ⟨hw q c hc, fun d hd => ?_⟩, fun hc c hw' => ?_⟩
  · obtain ⟨b, h2, h3⟩ := sat_way hs hd h0
    rw [hc] at h2; cases h2; omega
  · obtain ⟨b, h2, h3⟩ := sat_way hs hw' h0
    rw [hc] at h2; cases h2
end
end Go.Gr
namespace Go.Fw
open Go.Gr
def edgeP : Pj GEdge Int := ⟨fun e => e.from_, fun e => e.to, fun e => e.cost⟩
abbrev edgeE (st : List GEdge) : Int → Int → Int → Prop := stepE edgeP st
/-- Steps among n points, of costs that stay small. -/
def okSteps (n : Nat) (st : List GEdge) : Bool := decide (n ≤ 1000) && decide (st.length ≤ 1000000) && st.all fun e => decide (0 ≤ e.from_) && decide (e.from_ < (n : Int)) && decide (0 ≤ e.to) && decide (e.to < (n : Int)) && decide (-2000000000 ≤ e.cost) && decide (e.cost ≤ 2000000000)
theorem okSteps_iff {n : Nat} {st : List GEdge} : okSteps n st = true ↔ n ≤ 1000 ∧ st.length ≤ 1000000 ∧ ∀ e ∈ st, (0 ≤ e.from_ ∧ e.from_ < (n : Int)) ∧ (0 ≤ e.to ∧ e.to < (n : Int)) ∧ -2000000000 ≤ e.cost ∧ e.cost ≤ 2000000000 := by
  unfold okSteps
  simp only [Bool.and_eq_true, decide_eq_true_eq, List.all_eq_true, and_assoc]
theorem okSteps_perm {n : Nat} {st st' : List GEdge} (h : st'.Perm st) : okSteps n st = true → okSteps n st' = true := by
  rw [okSteps_iff, okSteps_iff, h.length_eq]
  exact fun ⟨h1, h2, h3⟩ => ⟨h1, h2, fun e he => h3 e (h.mem_iff.1 he)⟩
theorem idx_ok {α : Type} {l : List α} {i : Int} (h0 : 0 ≤ i) (h1 : i < (l.length : Int)) : ∃ x, idx l i = some x := by
  unfold idx
  rw [if_pos h0]
  exact ⟨_, List.getElem?_eq_getElem (by omega)⟩
theorem idx_set {α : Type} {l : List α} {i j : Int} {y : α} (h0 : 0 ≤ i) (h1 : i < (l.length : Int)) (hj : 0 ≤ j) : idx (l.set (Int.toNat i) y) j = if j = i then some y else idx l j := by
  unfold idx
  rw [if_pos hj, if_pos hj, List.getElem?_set]
  by_cases h : j = i
  · subst h
    rw [if_pos rfl, if_pos rfl, if_pos (by omega)]
  · rw [if_neg (by omega), if_neg h]
theorem idx_neg {α : Type} {l : List α} {i : Int} (h : ¬ 0 ≤ i) : idx l i = none := if_neg h
abbrev Lz := List Int × List Bool
structure LOk (n : Nat) (B : Int) (z : Lz) : Prop where
  l1 : z.1.length = n
  l2 : z.2.length = n
  bound : ∀ i x, idx z.1 i = some x → -B ≤ x ∧ x ≤ B
  zero : ∀ i, idx z.2 i = some false → idx z.1 i = some 0
def toMa (z : Lz) (by_ : Int → Option GEdge) : Ma GEdge Int := ⟨fun i => if idx z.2 i = some true then idx z.1 i else none, by_⟩
def lbody (e : GEdge) (z : Lz) : Option Lz :=
  (idx z.1 e.from_).bind fun x2 => (addI x2 e.cost).bind fun t3 => (idx z.2 e.from_).bind fun x3 =>
  (if x3 = true then (idx z.2 e.to).bind fun x4 => if (!x4) = true then some true else (idx z.1 e.to).bind fun x5 => some (decide (t3 < x5)) else some false).bind fun b5 =>
  if b5 = true then (idx z.1 e.to).bind fun _ => (idx z.2 e.to).bind fun _ => some (z.1.set (Int.toNat e.to) t3, z.2.set (Int.toNat e.to) true) else some z
theorem lbody_ok {n : Nat} {B : Int} {z : Lz} (h : LOk n B z) (hB : 0 ≤ B) (hB2 : B ≤ 4000000000000000000) {e : GEdge} (hf : 0 ≤ e.from_ ∧ e.from_ < (n : Int)) (ht : 0 ≤ e.to ∧ e.to < (n : Int)) (hc : -2000000000 ≤ e.cost ∧ e.cost ≤ 2000000000) (by_ : Int → Option GEdge) :
    ∃ z' by', lbody e z = some z' ∧ LOk n (B + 2000000000) z' ∧ Push edgeP (toMa z by_) e (toMa z' by') := by
  obtain ⟨x2, h2⟩ := idx_ok (l := z.1) hf.1 (by rw [h.l1]; exact hf.2)
  obtain ⟨x3, h3⟩ := idx_ok (l := z.2) hf.1 (by rw [h.l2]; exact hf.2)
  obtain ⟨x4, h4⟩ := idx_ok (l := z.2) ht.1 (by rw [h.l2]; exact ht.2)
  obtain ⟨x5, h5⟩ := idx_ok (l := z.1) ht.1 (by rw [h.l1]; exact ht.2)
  have hb := h.bound _ _ h2
  have hadd : addI x2 e.cost = some (x2 + e.cost) := if_pos (inI_iff.2 (by omega))
  have hwide : LOk n (B + 2000000000) z := ⟨h.l1, h.l2, fun i x hx => by have := h.bound i x hx; omega, h.zero⟩
  have hset : LOk n (B + 2000000000) (z.1.set (Int.toNat e.to) (x2 + e.cost), z.2.set (Int.toNat e.to) true) := by
    refine ⟨by simp [h.l1], by simp [h.l2], fun i x hx => ?_, fun i hi => ?_⟩
    · by_cases h0 : 0 ≤ i
      · rw [idx_set ht.1 (by rw [h.l1]; exact ht.2) h0] at hx
        split at hx
        · cases hx; omega
        · have := h.bound i x hx; omega
      · rw [idx_neg h0] at hx; cases hx
    · by_cases h0 : 0 ≤ i
      · rw [idx_set ht.1 (by rw [h.l2]; exact ht.2) h0] at hi
        rw [idx_set ht.1 (by rw [h.l1]; exact ht.2) h0]
        split at hi
        · cases hi
        · rename_i hne
          rw [if_neg hne]
          exact h.zero i hi
      · rw [idx_neg h0] at hi; cases hi
  have hcf : (toMa z by_).cost (edgeP.fr e) = if x3 = true then some x2 else none := by
    show (if idx z.2 e.from_ = some true then idx z.1 e.from_ else none) = _
    rw [h3, h2]
    cases x3 <;> simp
  have hct : (toMa z by_).cost (edgeP.to e) = if x4 = true then some x5 else none := by
    show (if idx z.2 e.to = some true then idx z.1 e.to else none) = _
    rw [h4, h5]
    cases x4 <;> simp
  unfold lbody
  rw [h2, Option.bind_some, hadd, Option.bind_some, h3, Option.bind_some]
  have keep : (toMa z by_).Sat edgeP e → ∃ z' by', some z = some z' ∧ LOk n (B + 2000000000) z' ∧ Push edgeP (toMa z by_) e (toMa z' by') := fun hs => ⟨z, by_, rfl, hwide, .keep hs⟩
  have low : x3 = true → (x4 = true → x2 + e.cost < x5) → ∃ z' by', some (z.1.set (Int.toNat e.to) (x2 + e.cost), z.2.set (Int.toNat e.to) true) = some z' ∧ LOk n (B + 2000000000) z' ∧ Push edgeP (toMa z by_) e (toMa z' by') := by
    intro q3 q4
    refine ⟨_, fun x => if x = e.to then some e else by_ x, rfl, hset, ?_⟩
    have hl : (toMa z by_).Lowers edgeP e x2 := by
      refine ⟨by rw [hcf, if_pos q3], fun b hb' => ?_⟩
      rw [hct] at hb'
      split at hb'
      · rename_i q; cases hb'; exact q4 q
      · cases hb'
    have := Push.low (P := edgeP) (m := toMa z by_) (s := e) x2 hl
    have heq : (toMa z by_).put (edgeP.to e) (x2 + edgeP.co e) e = toMa (z.1.set (Int.toNat e.to) (x2 + e.cost), z.2.set (Int.toNat e.to) true) (fun x => if x = e.to then some e else by_ x) := by
      unfold Ma.put toMa
      congr 1
      funext x
      show (if x = e.to then some (x2 + e.cost) else if idx z.2 x = some true then idx z.1 x else none) = if idx (z.2.set (Int.toNat e.to) true) x = some true then idx (z.1.set (Int.toNat e.to) (x2 + e.cost)) x else none
      by_cases h0 : 0 ≤ x
      · rw [idx_set ht.1 (by rw [h.l2]; exact ht.2) h0, idx_set ht.1 (by rw [h.l1]; exact ht.2) h0]
        by_cases hx : x = e.to
        · rw [if_pos hx, if_pos hx, if_pos hx, if_pos rfl]
        · rw [if_neg hx, if_neg hx, if_neg hx]
      · rw [if_neg (by omega)]
        simp [idx_neg h0]
    rw [heq] at this
    exact this
  cases x3 with
  | false =>
    simp only [Bool.false_eq_true, if_false, Option.bind_some]
    exact keep fun a ha => by rw [hcf] at ha; cases ha
  | true =>
    cases x4 with
    | false =>
      simp only [if_true, h4, h5, Option.bind_some, Bool.not_false]
      exact low rfl (fun h => by cases h)
    | true =>
      simp only [if_true, h4, h5, Option.bind_some, Bool.not_true, Bool.false_eq_true, if_false]
      by_cases hlt : x2 + e.cost < x5
      · rw [if_pos (decide_eq_true hlt)]
        exact low rfl (fun _ => hlt)
      · rw [if_neg (by simpa using hlt)]
        refine keep fun a ha => ?_
        rw [hcf] at ha
        cases ha
        exact ⟨x5, by rw [hct]; rfl, by show x5 ≤ x2 + e.cost; omega⟩
theorem lround {n : Nat} : ∀ (l : List GEdge) (i : Int) (B : Int) (z : Lz) (by_ : Int → Option GEdge), LOk n B z → 0 ≤ B → B + 2000000000 * (l.length : Int) ≤ 4000000000000000000 → (∀ e ∈ l, (0 ≤ e.from_ ∧ e.from_ < (n : Int)) ∧ (0 ≤ e.to ∧ e.to < (n : Int)) ∧ -2000000000 ≤ e.cost ∧ e.cost ≤ 2000000000) →
    ∃ z' by', rangeL (α := GEdge) (S := Lz) (X := Lz) (fun _ e z => (lbody e z).bind fun z => some (Step.cont z)) (fun z => z) l i z = some z' ∧ LOk n (B + 2000000000 * (l.length : Int)) z' ∧ Pushes edgeP (toMa z by_) l (toMa z' by')
  | [], i, B, z, by_, h, _, _, _ => ⟨z, by_, rfl, by simpa using h, .nil _⟩
  | e :: l, i, B, z, by_, h, hB, hB2, hl => by
    rw [List.length_cons] at hB2
    obtain ⟨h1, h2, h3⟩ := hl e (List.mem_cons_self ..)
    obtain ⟨z1, b1, k1, k2, k3⟩ := lbody_ok h hB (by omega) h1 h2 h3 by_
    obtain ⟨z2, b2, k4, k5, k6⟩ := lround l (i + 1) (B + 2000000000) z1 b1 k2 (by omega) (by omega) fun e he => hl e (List.mem_cons_of_mem _ he)
    refine ⟨z2, b2, ?_, ?_, .cons k3 k6⟩
    · rw [rangeL, k1]
      exact k4
    · rw [List.length_cons]
      have e : B + 2000000000 * ((l.length + 1 : Nat) : Int) = B + 2000000000 + 2000000000 * (l.length : Int) := by omega
      rw [e]; exact k5
theorem lrounds {n : Nat} {st : List GEdge} (hst : ∀ e ∈ st, (0 ≤ e.from_ ∧ e.from_ < (n : Int)) ∧ (0 ≤ e.to ∧ e.to < (n : Int)) ∧ -2000000000 ≤ e.cost ∧ e.cost ≤ 2000000000) (hm : st.length ≤ 1000000) (z0 : Lz) (_ : LOk n 0 z0) :
    ∀ (k : Nat) (i : Int) (j : Nat) (z : Lz) (by_ : Int → Option GEdge), j + k ≤ 1000 → LOk n (2000000000000000 * (j : Int)) z → Rounds edgeP st j (toMa z0 (fun _ => none)) (toMa z by_) →
    ∃ z' by', rangeN (S := Lz) (X := Lz) (fun _ z => (rangeL (α := GEdge) (S := Lz) (X := Lz) (fun _ e z => (lbody e z).bind fun z => some (Step.cont z)) (fun z => z) st 0 z).bind fun z => some (Step.cont z)) (fun z => z) k i z = some z' ∧ LOk n (2000000000000000 * ((j + k : Nat) : Int)) z' ∧ Rounds edgeP st (j + k) (toMa z0 (fun _ => none)) (toMa z' by') := by
  intro k
  induction k with
  | zero => intro i j z by_ _ hz hr; exact ⟨z, by_, rfl, hz, hr⟩
  | succ k ih =>
    intro i j z by_ hj hz hr
    obtain ⟨z1, b1, k1, k2, k3⟩ := lround st 0 _ z by_ hz (by omega) (by omega) hst
    obtain ⟨z2, b2, k4, k5, k6⟩ := ih (i + 1) (j + 1) z1 b1 (by omega) ⟨k2.l1, k2.l2, fun i x hx => by have := k2.bound i x hx; omega, k2.zero⟩ (.snoc hr k3)
    rw [show j + 1 + k = j + (k + 1) by omega] at k5 k6
    refine ⟨z2, b2, ?_, k5, k6⟩
    rw [rangeN, k1]
    exact k4
theorem stepE_perm {st st' : List GEdge} (h : st'.Perm st) : edgeE st' = edgeE st := by
  funext u v c
  exact propext ⟨fun ⟨e, he, h1⟩ => ⟨e, h.mem_iff.1 he, h1⟩, fun ⟨e, he, h1⟩ => ⟨e, h.mem_iff.2 he, h1⟩⟩
theorem least_eq (kv : List (GPoint × Int)) (st : List GEdge) (p q : GPoint) : sight_graph_least kv st p q =
    (makI (0 : Int) ((kv.length : Nat) : Int)).bind fun t1 => (makI (false : Bool) ((kv.length : Nat) : Int)).bind fun t2 => (idx t2 ((mget kv p).getD 0)).bind fun _ =>
    (chkI ((kv.length : Nat) : Int) (rangeN (S := Lz) (X := Lz) (fun _ z => (rangeL (α := GEdge) (S := Lz) (X := Lz) (fun _ e z => (lbody e z).bind fun z => some (Step.cont z)) (fun z => z) st 0 z).bind fun z => some (Step.cont z)) (fun z => z) (Int.toNat ((kv.length : Nat) : Int)) 0 (t1, t2.set (Int.toNat ((mget kv p).getD 0)) true))).bind fun z =>
    (idx z.1 ((mget kv q).getD 0)).bind fun x8 => (idx z.2 ((mget kv q).getD 0)).bind fun x9 => some (x8, x9) := by
  unfold sight_graph_least
  congr 1; funext t1
  congr 1; funext t2
  congr 1; funext x1
  congr 1
  congr 1
  refine rangeN_congr (fun _ => rfl) _ _ _ fun j s _ _ => ?_
  obtain ⟨z3, z4⟩ := s
  refine (congrArg (fun o => Option.bind (Option.bind o _) _) (rangeL_congr (body' := fun _ e z => (lbody e z).bind fun z => some (Step.cont z)) (fin' := fun z => z) (fun _ => rfl) st 0 (z3, z4) fun i x s _ => ?_)).trans ?_
  · obtain ⟨z9, z10⟩ := s
    unfold lbody
    dsimp only
    cases idx z9 x.from_ with
    | none => rfl
    | some a =>
      dsimp only [Option.bind_some]
      cases addI a x.cost with
      | none => rfl
      | some t =>
        dsimp only [Option.bind_some]
        cases idx z10 x.from_ with
        | none => rfl
        | some k =>
          dsimp only [Option.bind_some]
          cases k with
          | false => rfl
          | true =>
            cases idx z10 x.to with
            | none => rfl
            | some k2 =>
              cases k2 with
              | false => cases idx z9 x.to <;> rfl
              | true =>
                cases idx z9 x.to with
                | none => rfl
                | some b => by_cases h : t < b <;> simp [h]
  · generalize rangeL (α := GEdge) (S := Lz) (X := Lz) _ _ st 0 (z3, z4) = o
    cases o <;> rfl
/-- What the pushing of costs yields: the least cost of the ways, in whatever order the steps come. -/
theorem least_spec {kv : List (GPoint × Int)} {st : List GEdge} {p q : GPoint} {ip iq : Int} (hp : mget kv p = some ip) (hq : mget kv q = some iq) (hip : 0 ≤ ip ∧ ip < (kv.length : Int)) (hiq : 0 ≤ iq ∧ iq < (kv.length : Int))
    (ho : okSteps kv.length st = true) (hn : NoNeg (edgeE st)) :
    ∃ c k, sight_graph_least kv st p q = some (c, k) ∧ (-(2000000000000000 * (kv.length : Int)) ≤ c ∧ c ≤ 2000000000000000 * (kv.length : Int)) ∧ (k = true → Least (edgeE st) ip iq c) ∧ (k = false → c = 0 ∧ ∀ d, ¬ Wy (edgeE st) ip iq d) := by
  obtain ⟨h1, h2, h3⟩ := okSteps_iff.1 ho
  rw [least_eq, hp, hq]
  dsimp only [Option.getD_some]
  have m1 : makI (0 : Int) ((kv.length : Nat) : Int) = some (List.replicate kv.length 0) := by unfold makI; rw [if_pos (by omega)]; simp
  have m2 : makI (false : Bool) ((kv.length : Nat) : Int) = some (List.replicate kv.length false) := by unfold makI; rw [if_pos (by omega)]; simp
  rw [m1, m2, Option.bind_some, Option.bind_some]
  obtain ⟨x, hx⟩ := idx_ok (l := List.replicate kv.length false) hip.1 (by simpa using hip.2)
  rw [hx, Option.bind_some, chkI, if_pos (inI_iff.2 (by omega))]
  have hrep : ∀ {α : Type} (a : α) (i : Int) (y : α), idx (List.replicate kv.length a) i = some y → y = a := by
    intro α a i y hy
    obtain ⟨_, _, h⟩ := idx_some hy
    rw [List.getElem?_replicate] at h
    split at h
    · exact (Option.some.inj h).symm
    · cases h
  have hz0 : LOk kv.length 0 (List.replicate kv.length 0, (List.replicate kv.length false).set (Int.toNat ip) true) := by
    refine ⟨by simp, by simp, fun i y hy => ?_, fun i hi => ?_⟩
    · have := hrep _ _ _ hy; omega
    · by_cases h0 : 0 ≤ i
      · have hlt : i < (kv.length : Int) := by
          have := (idx_some hi).2.1
          simpa using this
        obtain ⟨y, hy⟩ := idx_ok (l := List.replicate kv.length (0 : Int)) h0 (by simpa using hlt)
        have := hrep _ _ _ hy
        subst this
        exact hy
      · rw [idx_neg h0] at hi; cases hi
  obtain ⟨z, by_, k1, k2, k3⟩ := lrounds h3 h2 _ hz0 kv.length 0 0 _ (fun _ => none) (by omega) (by simpa using hz0) (.nil _)
  rw [Int.toNat_natCast, k1, Option.bind_some]
  obtain ⟨c, hc⟩ := idx_ok (l := z.1) hiq.1 (by rw [k2.l1]; exact hiq.2)
  obtain ⟨k, hk⟩ := idx_ok (l := z.2) hiq.1 (by rw [k2.l2]; exact hiq.2)
  rw [hc, hk]
  refine ⟨c, k, rfl, by have := k2.bound _ _ hc; omega, ?_⟩
  have hstart : toMa (List.replicate kv.length 0, (List.replicate kv.length false).set (Int.toNat ip) true) (fun _ => none) = (⟨fun x => if x = ip then some 0 else none, fun _ => none⟩ : Ma GEdge Int) := by
    unfold toMa
    congr 1
    funext y
    by_cases h0 : 0 ≤ y
    · rw [idx_set hip.1 (by simpa using hip.2) h0]
      by_cases hy : y = ip
      · subst hy
        obtain ⟨v, hv⟩ := idx_ok (l := List.replicate kv.length (0 : Int)) hip.1 (by simpa using hip.2)
        have := hrep _ _ _ hv
        subst this
        simp [hv]
      · rw [if_neg hy, if_neg hy]
        rw [if_neg]
        intro h
        have := hrep _ _ _ h
        cases this
    · simp only [idx_neg h0]
      have : ¬ y = ip := by omega
      simp [this]
  rw [hstart, Nat.zero_add] at k3
  have hV : ∀ s ∈ st, edgeP.fr s ∈ (List.range kv.length).map (fun i : Nat => (i : Int)) := by
    intro s hs
    have := (h3 s hs).1
    exact List.mem_map.2 ⟨s.from_.toNat, List.mem_range.2 (by omega), by show ((s.from_.toNat : Nat) : Int) = s.from_; omega⟩
  have hl : ((List.range kv.length).map (fun i : Nat => (i : Int))).length = kv.length := by simp
  have := Rounds.least (P := edgeP) (steps := st) (m' := toMa z by_) ((List.range kv.length).map (fun i : Nat => (i : Int))) hV ip (by rw [hl]; exact k3) hn iq
  have hcost : (toMa z by_).cost iq = if k = true then some c else none := by
    show (if idx z.2 iq = some true then idx z.1 iq else none) = _
    rw [hk, hc]
    cases k <;> simp
  rw [hcost] at this
  refine ⟨fun h => this.1 c (by rw [if_pos h]), fun h => ⟨?_, this.2 (by rw [h]; rfl)⟩⟩
  have := k2.zero iq (by rw [hk, h])
  rw [hc] at this
  exact Option.some.inj this
open Classical in
/-- The least cost, where the steps are as they should be and no circle is below 0. -/
noncomputable def leastG (kv : List (GPoint × Int)) (st : List GEdge) (p q : GPoint) : Option (Int × Bool) :=
  if okSteps kv.length st = true ∧ NoNeg (edgeE st) ∧ (∃ i, mget kv p = some i ∧ 0 ≤ i ∧ i < (kv.length : Int)) ∧ (∃ i, mget kv q = some i ∧ 0 ≤ i ∧ i < (kv.length : Int)) then sight_graph_least kv st p q else none
theorem least_perm {kv : List (GPoint × Int)} {st st' : List GEdge} {p q : GPoint} {r : Int × Bool} (h : st'.Perm st) (hm : leastG kv st p q = some r) : sight_graph_least kv st' p q = some r := by
  unfold leastG at hm
  split at hm
  case isFalse => cases hm
  rename_i hc
  obtain ⟨h1, h2, ⟨ip, h3, h4⟩, iq, h5, h6⟩ := hc
  obtain ⟨c, k, e1, _, e2, e3⟩ := least_spec h3 h5 h4 h6 h1 h2
  obtain ⟨c', k', e4, _, e5, e6⟩ := least_spec (st := st') h3 h5 h4 h6 (okSteps_perm h h1) (by rw [stepE_perm h]; exact h2)
  rw [stepE_perm h] at e5 e6
  rw [e1] at hm
  rw [e4, ← hm]
  cases k with
  | true =>
    cases k' with
    | true => rw [(e5 rfl).uniq (e2 rfl)]
    | false => exact absurd (e2 rfl).1 ((e6 rfl).2 _)
  | false =>
    cases k' with
    | true => exact absurd (e5 rfl).1 ((e3 rfl).2 _)
    | false => rw [(e3 rfl).1, (e6 rfl).1]
end Go.Fw
namespace Go.Fw
open Go.Gr
def edgeKey (e : GEdge) : Int × Int × Int := (e.from_, e.to, e.number)
theorem inj_of_nodup_map {α β : Type} {f : α → β} {a b : α} : ∀ {l : List α}, (l.map f).Nodup → a ∈ l → b ∈ l → f a = f b → a = b
  | [], _, ha, _, _ => by cases ha
  | x :: l, hn, ha, hb, he => by
    rw [List.map_cons, List.nodup_cons] at hn
    rcases List.mem_cons.1 ha with h1 | ha <;> rcases List.mem_cons.1 hb with h2 | hb
    · rw [h1, h2]
    · rw [h1] at he; exact absurd (List.mem_map.2 ⟨b, hb, he.symm⟩) hn.1
    · rw [h2] at he; exact absurd (List.mem_map.2 ⟨a, ha, he⟩) hn.1
    · exact inj_of_nodup_map hn.2 ha hb he
theorem sorted_pairwise (xs : List GEdge) : (sortEdges xs).Pairwise fun a b => Go.Proofs.ltOf edgeC b a = false := by
  obtain ⟨h1, h2⟩ := srtOf_facts edgeC edge_swo xs
  have hl := h1.length_eq
  rw [List.pairwise_iff_getElem]
  intro i j hi hj hij
  have := h2 i j (Nat.zero_le _) hij (by rw [← hl]; exact hj)
  have hi' : i < (srtOf edgeC xs).toArray.size := by rw [List.size_toArray]; exact hi
  have hj' : j < (srtOf edgeC xs).toArray.size := by rw [List.size_toArray]; exact hj
  rw [getElem!_pos _ i hi', getElem!_pos _ j hj'] at this
  exact this
theorem sort_perm {st st' : List GEdge} (h : st'.Perm st) (hn : (st.map edgeKey).Nodup) : sortEdges st' = sortEdges st := by
  have p1 := (srtOf_facts edgeC edge_swo st).1
  have p2 := (srtOf_facts edgeC edge_swo st').1
  refine List.Perm.eq_of_pairwise (le := fun a b => Go.Proofs.ltOf edgeC b a = false) (fun a b ha hb h1 h2 => ?_) (sorted_pairwise st') (sorted_pairwise st) (p2.trans (h.trans p1.symm))
  have ha' : a ∈ st := h.mem_iff.1 (p2.mem_iff.1 ha)
  have hb' : b ∈ st := p1.mem_iff.1 hb
  refine inj_of_nodup_map hn ha' hb' ?_
  have n1 : ¬ _ := fun h => by rw [(edge_lt b a).2 h] at h1; cases h1
  have n2 : ¬ _ := fun h => by rw [(edge_lt a b).2 h] at h2; cases h2
  unfold edgeKey
  have e1 : a.from_ = b.from_ := by omega
  have e2 : a.to = b.to := by omega
  have e3 : a.number = b.number := by omega
  rw [e1, e2, e3]
/-- The circle, where the steps' keys differ. -/
noncomputable def circleG (kv : List (GPoint × Int)) (st : List GEdge) : Option (Bool × List Int) := if (st.map edgeKey).Nodup then sight_graph_circle kv st else none
theorem sorted_perm {kv : List (GPoint × Int)} {st st' : List GEdge} (h : st'.Perm st) (hn : (st.map edgeKey).Nodup) : sight_graph_sorted kv st' = sight_graph_sorted kv st := by
  unfold sight_graph_sorted slices_Clone_step appI srtI
  simp only [List.nil_append, List.length_nil, h.length_eq]
  split
  · simp only [Option.bind_some, h.length_eq, sort_perm h hn]
  · rfl
theorem circle_perm {kv : List (GPoint × Int)} {st st' : List GEdge} {r : Bool × List Int} (h : st'.Perm st) (hm : circleG kv st = some r) : sight_graph_circle kv st' = some r := by
  unfold circleG at hm
  split at hm
  case isFalse => cases hm
  rename_i hn
  rw [← hm]
  unfold sight_graph_circle
  rw [sorted_perm h hn]
end Go.Fw
