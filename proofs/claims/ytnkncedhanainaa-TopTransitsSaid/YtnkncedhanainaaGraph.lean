/-
  Graphs, plain: walks and their costs, and the pushing of costs along steps until nothing changes. No program in it.
-/
namespace Go.Gr
/-- A walk from a point to another one, with its cost. -/
inductive Wy {π : Type} (E : π → π → Int → Prop) : π → π → Int → Prop
  | nil (p : π) : Wy E p p 0
  | cons {p q r : π} {c d : Int} : E p q c → Wy E q r d → Wy E p r (c + d)
variable {π : Type} {E : π → π → Int → Prop}
theorem Wy.of {p q : π} {c d : Int} (h : Wy E p q c) (e : c = d) : Wy E p q d := e ▸ h
theorem Wy.one {p q : π} {c : Int} (h : E p q c) : Wy E p q c := (Wy.cons h (.nil q)).of (by omega)
theorem Wy.append {p q r : π} {c d : Int} (h : Wy E p q c) (k : Wy E q r d) : Wy E p r (c + d) := by
  induction h with
  | nil p => exact k.of (by omega)
  | cons e _ ih => exact (Wy.cons e (ih k)).of (by omega)
theorem Wy.mono {E' : π → π → Int → Prop} (hE : ∀ p q c, E p q c → E' p q c) {p q : π} {c : Int} (h : Wy E p q c) : Wy E' p q c := by
  induction h with
  | nil p => exact .nil p
  | cons e _ ih => exact .cons (hE _ _ _ e) ih
/-- No way from a point to itself costs less than 0. -/
def NoNeg (E : π → π → Int → Prop) : Prop := ∀ p c, Wy E p p c → 0 ≤ c
/-- A potential of all steps: the cost of a way is at least the difference. -/
theorem Wy.potential (f : π → Int) (hf : ∀ p q c, E p q c → f q ≤ f p + c) {p q : π} {c : Int} (h : Wy E p q c) : f q ≤ f p + c := by
  induction h with
  | nil p => omega
  | cons e _ ih => have := hf _ _ _ e; omega
theorem noNeg_of_potential (f : π → Int) (hf : ∀ p q c, E p q c → f q ≤ f p + c) : NoNeg E := fun p c h => by
  have := h.potential f hf; omega
/-- The least cost of the ways from a point to another one. -/
def Least (E : π → π → Int → Prop) (p q : π) (c : Int) : Prop := Wy E p q c ∧ ∀ d, Wy E p q d → c ≤ d
theorem Least.uniq {p q : π} {c d : Int} (h : Least E p q c) (k : Least E p q d) : c = d := by
  have := h.2 _ k.1; have := k.2 _ h.1; omega

/-! The pushing of costs along steps. -/
structure Pj (τ ν : Type) where
  fr : τ → ν
  to : τ → ν
  co : τ → Int
structure Ma (τ ν : Type) where
  cost : ν → Option Int
  by_ : ν → Option τ
section
variable {τ ν : Type} [DecidableEq ν] (P : Pj τ ν)
def Ma.put (m : Ma τ ν) (v : ν) (c : Int) (s : τ) : Ma τ ν := ⟨fun x => if x = v then some c else m.cost x, fun x => if x = v then some s else m.by_ x⟩
/-- The step would lower a cost. -/
def Ma.Lowers (m : Ma τ ν) (s : τ) (a : Int) : Prop := m.cost (P.fr s) = some a ∧ ∀ b, m.cost (P.to s) = some b → a + P.co s < b
def Ma.Sat (m : Ma τ ν) (s : τ) : Prop := ∀ a, m.cost (P.fr s) = some a → ∃ b, m.cost (P.to s) = some b ∧ b ≤ a + P.co s
/-- One push: the step lowers, or is satisfied. -/
inductive Push (m : Ma τ ν) (s : τ) : Ma τ ν → Prop
  | low (a : Int) : m.Lowers P s a → Push m s (m.put (P.to s) (a + P.co s) s)
  | keep : m.Sat P s → Push m s m
inductive Pushes : Ma τ ν → List τ → Ma τ ν → Prop
  | nil (m) : Pushes m [] m
  | cons {m m1 m2 s l} : Push P m s m1 → Pushes m1 l m2 → Pushes m (s :: l) m2
inductive Rounds (steps : List τ) : Nat → Ma τ ν → Ma τ ν → Prop
  | nil (m) : Rounds steps 0 m m
  | snoc {k m m1 m2} : Rounds steps k m m1 → Pushes P m1 steps m2 → Rounds steps (k + 1) m m2
def stepE (P : Pj τ ν) (steps : List τ) (u v : ν) (c : Int) : Prop := ∃ s ∈ steps, P.fr s = u ∧ P.to s = v ∧ P.co s = c
variable {P}
theorem put_cost_eq (m : Ma τ ν) (v : ν) (c : Int) (s : τ) : (m.put v c s).cost v = some c := if_pos rfl
theorem put_cost_ne (m : Ma τ ν) (v : ν) (c : Int) (s : τ) {x : ν} (h : x ≠ v) : (m.put v c s).cost x = m.cost x := if_neg h
theorem put_by_eq (m : Ma τ ν) (v : ν) (c : Int) (s : τ) : (m.put v c s).by_ v = some s := if_pos rfl
theorem put_by_ne (m : Ma τ ν) (v : ν) (c : Int) (s : τ) {x : ν} (h : x ≠ v) : (m.put v c s).by_ x = m.by_ x := if_neg h
/-- What is kept in round k, the steps of pre done and those of post to come: rd v is the round of v's last change (from 1), tm v its time. -/
structure Kept (P : Pj τ ν) (steps : List τ) (k : Nat) (pre post : List τ) (T : Nat) (m : Ma τ ν) (rd tm : ν → Nat) : Prop where
  sub : ∀ s, s ∈ pre ∨ s ∈ post → s ∈ steps
  rdle : ∀ v, rd v ≤ k + 1
  tmlt : ∀ v, tm v < T
  some_ : ∀ v, 1 ≤ rd v → ∃ s, m.by_ v = some s
  pred : ∀ v s, m.by_ v = some s → rd v ≤ rd (P.fr s) + 1
  val : ∀ v s, m.by_ v = some s → P.to s = v ∧ s ∈ steps ∧ ∃ a b, m.cost (P.fr s) = some a ∧ m.cost v = some b ∧ a + P.co s + (if tm v ≤ tm (P.fr s) then 1 else 0) ≤ b
  satPre : ∀ s ∈ pre, rd (P.fr s) < k + 1 → m.Sat P s
  satPost : ∀ s ∈ post, rd (P.fr s) < k → m.Sat P s
omit [DecidableEq ν] in
theorem Kept.start (steps : List τ) (m : Ma τ ν) (hm : ∀ v, m.by_ v = none) : Kept P steps 0 [] steps 1 m (fun _ => 0) (fun _ => 0) where
  sub := by simp
  rdle := by simp
  tmlt := by simp
  some_ := by simp
  pred := fun v s h => by rw [hm] at h; cases h
  val := fun v s h => by rw [hm] at h; cases h
  satPre := by simp
  satPost := by simp
theorem Kept.push {steps : List τ} {k : Nat} {pre post : List τ} {T : Nat} {m m' : Ma τ ν} {rd tm : ν → Nat} {s : τ} (h : Kept P steps k pre (s :: post) T m rd tm) (hp : Push P m s m') :
    ∃ rd' tm', Kept P steps k (pre ++ [s]) post (T + 1) m' rd' tm' ∧ (∀ v, rd v ≤ rd' v) ∧ (m' ≠ m → rd' (P.to s) = k + 1) := by
  have hs : s ∈ steps := h.sub s (.inr (List.mem_cons_self ..))
  cases hp with
  | keep hk =>
    refine ⟨rd, tm, ⟨?_, h.rdle, fun v => Nat.lt_succ_of_lt (h.tmlt v), h.some_, h.pred, h.val, ?_, ?_⟩, fun v => Nat.le_refl _, fun hne => absurd rfl hne⟩
    · intro x hx
      rcases hx with hx | hx
      · rcases List.mem_append.1 hx with hx | hx
        · exact h.sub x (.inl hx)
        · rw [List.mem_singleton.1 hx]; exact hs
      · exact h.sub x (.inr (List.mem_cons_of_mem _ hx))
    · intro x hx hr
      rcases List.mem_append.1 hx with hx | hx
      · exact h.satPre x hx hr
      · rw [List.mem_singleton.1 hx]; exact hk
    · intro x hx hr
      exact h.satPost x (List.mem_cons_of_mem _ hx) hr
  | low a hl =>
    obtain ⟨ha, hb⟩ := hl
    have hrd : k ≤ rd (P.fr s) := by
      rcases Nat.lt_or_ge (rd (P.fr s)) k with hlt | hge
      · obtain ⟨b, hb1, hb2⟩ := h.satPost s (List.mem_cons_self ..) hlt a ha
        have := hb b hb1
        omega
      · exact hge
    have hrd' : ∀ x, rd x ≤ (if x = P.to s then k + 1 else rd x) := by
      intro x
      split
      · exact h.rdle x
      · exact Nat.le_refl _
    refine ⟨fun x => if x = P.to s then k + 1 else rd x, fun x => if x = P.to s then T else tm x, ⟨?_, ?_, ?_, ?_, ?_, ?_, ?_, ?_⟩, hrd', fun _ => if_pos rfl⟩
    · intro x hx
      rcases hx with hx | hx
      · rcases List.mem_append.1 hx with hx | hx
        · exact h.sub x (.inl hx)
        · rw [List.mem_singleton.1 hx]; exact hs
      · exact h.sub x (.inr (List.mem_cons_of_mem _ hx))
    · intro v; split
      · exact Nat.le_refl _
      · exact h.rdle v
    · intro v; split
      · omega
      · exact Nat.lt_succ_of_lt (h.tmlt v)
    · intro v hv
      by_cases hvt : v = P.to s
      · subst hvt; exact ⟨s, put_by_eq ..⟩
      · rw [put_by_ne _ _ _ _ hvt]; exact h.some_ v (by simpa [hvt] using hv)
    · intro v s' hv
      by_cases hvt : v = P.to s
      · subst hvt
        rw [put_by_eq] at hv
        cases hv
        have := hrd' (P.fr s)
        rw [if_pos rfl]
        omega
      · rw [put_by_ne _ _ _ _ hvt] at hv
        have h1 := h.pred v s' hv
        have h2 := hrd' (P.fr s')
        rw [if_neg hvt]
        omega
    · intro v s' hv
      by_cases hvt : v = P.to s
      · subst hvt
        rw [put_by_eq] at hv
        cases hv
        refine ⟨rfl, hs, ?_⟩
        by_cases hself : P.fr s = P.to s
        · refine ⟨a + P.co s, a + P.co s, by rw [hself]; exact put_cost_eq .., put_cost_eq .., ?_⟩
          have := hb a (by rw [← hself]; exact ha)
          split <;> omega
        · refine ⟨a, a + P.co s, by rw [put_cost_ne _ _ _ _ hself]; exact ha, put_cost_eq .., ?_⟩
          rw [if_pos rfl, if_neg hself, if_neg (by have := h.tmlt (P.fr s); omega)]
          omega
      · rw [put_by_ne _ _ _ _ hvt] at hv
        obtain ⟨h1, h2, a1, b1, h3, h4, h5⟩ := h.val v s' hv
        refine ⟨h1, h2, ?_⟩
        by_cases hf : P.fr s' = P.to s
        · refine ⟨a + P.co s, b1, by rw [hf]; exact put_cost_eq .., by rw [put_cost_ne _ _ _ _ hvt]; exact h4, ?_⟩
          have := hb a1 (by rw [← hf]; exact h3)
          have h6 : a1 + P.co s' ≤ b1 := by
            have : (0 : Int) ≤ (if tm v ≤ tm (P.fr s') then 1 else 0) := by split <;> omega
            omega
          split <;> omega
        · refine ⟨a1, b1, by rw [put_cost_ne _ _ _ _ hf]; exact h3, by rw [put_cost_ne _ _ _ _ hvt]; exact h4, ?_⟩
          rw [if_neg hvt, if_neg hf]
          exact h5
    · intro x hx hr
      have hfx : P.fr x ≠ P.to s := fun e => by simp [e] at hr
      simp only [if_neg hfx] at hr
      intro a' ha'
      rw [put_cost_ne _ _ _ _ hfx] at ha'
      rcases List.mem_append.1 hx with hx | hx
      · obtain ⟨b, hb1, hb2⟩ := h.satPre x hx hr a' ha'
        by_cases ht : P.to x = P.to s
        · refine ⟨a + P.co s, by rw [ht]; exact put_cost_eq .., ?_⟩
          have := hb b (by rw [← ht]; exact hb1)
          omega
        · exact ⟨b, by rw [put_cost_ne _ _ _ _ ht]; exact hb1, hb2⟩
      · rw [List.mem_singleton.1 hx] at ha' ⊢
        rw [ha] at ha'
        cases ha'
        exact ⟨_, put_cost_eq .., Int.le_refl _⟩
    · intro x hx hr
      have hfx : P.fr x ≠ P.to s := fun e => by simp [e] at hr; omega
      simp only [if_neg hfx] at hr
      intro a' ha'
      rw [put_cost_ne _ _ _ _ hfx] at ha'
      obtain ⟨b, hb1, hb2⟩ := h.satPost x (List.mem_cons_of_mem _ hx) hr a' ha'
      by_cases ht : P.to x = P.to s
      · refine ⟨a + P.co s, by rw [ht]; exact put_cost_eq .., ?_⟩
        have := hb b (by rw [← ht]; exact hb1)
        omega
      · exact ⟨b, by rw [put_cost_ne _ _ _ _ ht]; exact hb1, hb2⟩
theorem Kept.pushes {steps : List τ} {k : Nat} {m m' : Ma τ ν} {post : List τ} (hp : Pushes P m post m') : ∀ {pre : List τ} {T : Nat} {rd tm : ν → Nat}, Kept P steps k pre post T m rd tm →
    ∃ T' rd' tm', Kept P steps k (pre ++ post) [] T' m' rd' tm' ∧ ∀ v, rd v ≤ rd' v := by
  induction hp with
  | nil m => intro pre T rd tm h; exact ⟨T, rd, tm, by rw [List.append_nil]; exact h, fun v => Nat.le_refl _⟩
  | cons h1 _ ih =>
    intro pre T rd tm h
    obtain ⟨rd1, tm1, h2, h3, _⟩ := h.push h1
    obtain ⟨T', rd', tm', h4, h5⟩ := ih h2
    exact ⟨T', rd', tm', by rw [List.append_assoc] at h4; exact h4, fun v => Nat.le_trans (h3 v) (h5 v)⟩
omit [DecidableEq ν] in
theorem Kept.turn {steps : List τ} {k : Nat} {T : Nat} {m : Ma τ ν} {rd tm : ν → Nat} (h : Kept P steps k steps [] T m rd tm) : Kept P steps (k + 1) [] steps T m rd tm where
  sub := by simp
  rdle := fun v => Nat.le_succ_of_le (h.rdle v)
  tmlt := h.tmlt
  some_ := h.some_
  pred := h.pred
  val := h.val
  satPre := by simp
  satPost := fun s hs hr => h.satPre s hs hr
theorem Kept.rounds {steps : List τ} {n : Nat} {m m' : Ma τ ν} (hr : Rounds P steps n m m') (hm : ∀ v, m.by_ v = none) : ∃ T rd tm, Kept P steps n [] steps T m' rd tm := by
  induction hr with
  | nil m => exact ⟨_, _, _, Kept.start steps m hm⟩
  | snoc _ hp ih =>
    obtain ⟨T, rd, tm, h⟩ := ih hm
    obtain ⟨T', rd', tm', h', _⟩ := h.pushes hp
    exact ⟨T', rd', tm', (by simpa using h' : Kept P steps _ steps [] _ _ _ _).turn⟩
/-- Back along the steps by which the costs came. -/
inductive Back (P : Pj τ ν) (m : Ma τ ν) : ν → ν → List τ → Prop
  | nil (v : ν) : Back P m v v []
  | cons {v u : ν} {s : τ} {l : List τ} : m.by_ v = some s → Back P m (P.fr s) u l → Back P m v u (s :: l)
def sumC (P : Pj τ ν) (l : List τ) : Int := (l.map P.co).sum
omit [DecidableEq ν] in
theorem sumC_nil : sumC P ([] : List τ) = 0 := rfl
omit [DecidableEq ν] in
theorem sumC_cons (s : τ) (l : List τ) : sumC P (s :: l) = P.co s + sumC P l := by simp [sumC]
omit [DecidableEq ν] in
theorem Back.append {m : Ma τ ν} {v u x : ν} {l l' : List τ} (h : Back P m v u l) (h' : Back P m u x l') : Back P m v x (l ++ l') := by
  induction h with
  | nil v => exact h'
  | cons e _ ih => exact .cons e (ih h')
omit [DecidableEq ν] in
theorem Kept.back {steps : List τ} {k : Nat} {pre post : List τ} {T : Nat} {m : Ma τ ν} {rd tm : ν → Nat} (h : Kept P steps k pre post T m rd tm) {v u : ν} {l : List τ} (hb : Back P m v u l) (hl : l ≠ []) :
    Wy (stepE P steps) u v (sumC P l) ∧ ∃ a b, m.cost u = some a ∧ m.cost v = some b ∧ (a + sumC P l + 1 ≤ b ∨ (a + sumC P l ≤ b ∧ tm u < tm v)) := by
  induction hb with
  | nil v => exact absurd rfl hl
  | @cons v u s l e hb ih =>
    obtain ⟨h1, h2, a, b, h3, h4, h5⟩ := h.val v s e
    have hw : Wy (stepE P steps) (P.fr s) v (P.co s) := Wy.one ⟨s, h2, rfl, h1, rfl⟩
    rw [sumC_cons]
    by_cases hl' : l = []
    · subst hl'
      cases hb
      refine ⟨hw.of (by rw [sumC_nil]; omega), a, b, h3, h4, ?_⟩
      rw [sumC_nil]
      split at h5
      · exact .inl (by omega)
      · exact .inr ⟨by omega, by omega⟩
    · obtain ⟨k1, a', b', k2, k3, k4⟩ := ih hl'
      rw [h3] at k3
      cases k3
      refine ⟨(k1.append hw).of (by omega), a', b, k2, h4, ?_⟩
      split at h5
      · exact .inl (by omega)
      · rcases k4 with k4 | ⟨k4, k5⟩
        · exact .inl (by omega)
        · exact .inr ⟨by omega, by omega⟩
omit [DecidableEq ν] in
theorem Kept.circle {steps : List τ} {k : Nat} {pre post : List τ} {T : Nat} {m : Ma τ ν} {rd tm : ν → Nat} (h : Kept P steps k pre post T m rd tm) {v : ν} {l : List τ} (hb : Back P m v v l) (hl : l ≠ []) :
    Wy (stepE P steps) v v (sumC P l) ∧ sumC P l < 0 := by
  obtain ⟨h1, a, b, h2, h3, h4⟩ := h.back hb hl
  rw [h2] at h3
  cases h3
  refine ⟨h1, ?_⟩
  rcases h4 with h4 | ⟨_, h5⟩
  · omega
  · omega
/-- Where costs still come down after as many rounds as there are points, there is a circle. -/
theorem Kept.circles {steps : List τ} {k : Nat} {pre post : List τ} {T : Nat} {m : Ma τ ν} {rd tm : ν → Nat} (h : Kept P steps k pre post T m rd tm) (V : List ν) (hV : ∀ s ∈ steps, P.fr s ∈ V) :
    ∀ (d : Nat) (v : ν) (seen : List ν), v ∈ V → d ≤ rd v → seen.Nodup → (∀ y ∈ seen, y ∈ V ∧ ∃ l, l ≠ [] ∧ Back P m y v l) → V.length < seen.length + d + 1 → ∃ x l, l ≠ [] ∧ Back P m x x l := by
  intro d
  induction d with
  | zero =>
    intro v seen hv _ hn hs hl
    by_cases hm : v ∈ seen
    · obtain ⟨_, l, h1, h2⟩ := hs v hm
      exact ⟨v, l, h1, h2⟩
    · have := List.Nodup.length_le_of_subset (List.nodup_cons.2 ⟨hm, hn⟩) (l₂ := V) (fun y hy => by
        rcases List.mem_cons.1 hy with rfl | hy
        · exact hv
        · exact (hs y hy).1)
      rw [List.length_cons] at this
      omega
  | succ d ih =>
    intro v seen hv hr hn hs hl
    by_cases hm : v ∈ seen
    · obtain ⟨_, l, h1, h2⟩ := hs v hm
      exact ⟨v, l, h1, h2⟩
    · obtain ⟨s, hb⟩ := h.some_ v (by omega)
      have h1 := h.pred v s hb
      obtain ⟨_, h2, _⟩ := h.val v s hb
      refine ih (P.fr s) (v :: seen) (hV s h2) (by omega) (List.nodup_cons.2 ⟨hm, hn⟩) (fun y hy => ?_) (by rw [List.length_cons]; omega)
      rcases List.mem_cons.1 hy with rfl | hy
      · exact ⟨hv, [s], by simp, .cons hb (.nil _)⟩
      · obtain ⟨h3, l, h4, h5⟩ := hs y hy
        exact ⟨h3, l ++ [s], by simp, h5.append (.cons hb (.nil _))⟩
/-- Without a circle below 0, as many rounds as there are points leave every step satisfied. -/
theorem Rounds.sat {steps : List τ} {m m' : Ma τ ν} (V : List ν) (hV : ∀ s ∈ steps, P.fr s ∈ V) (hr : Rounds P steps V.length m m') (hm : ∀ v, m.by_ v = none) (hn : NoNeg (stepE P steps)) : ∀ s ∈ steps, m'.Sat P s := by
  obtain ⟨T, rd, tm, h⟩ := Kept.rounds hr hm
  intro s hs
  rcases Nat.lt_or_ge (rd (P.fr s)) V.length with hlt | hge
  · exact h.satPost s hs hlt
  · obtain ⟨x, l, h1, h2⟩ := h.circles V hV V.length (P.fr s) [] (hV s hs) hge List.nodup_nil (by simp) (by simp)
    obtain ⟨h3, h4⟩ := h.circle h2 h1
    have := hn _ _ h3
    omega
omit [DecidableEq ν] in
/-- Satisfied steps: what is known at a point bounds what is known behind ways. -/
theorem sat_way {steps : List τ} {m : Ma τ ν} (hs : ∀ s ∈ steps, m.Sat P s) {u v : ν} {c : Int} (hw : Wy (stepE P steps) u v c) : ∀ {a : Int}, m.cost u = some a → ∃ b, m.cost v = some b ∧ b ≤ a + c := by
  induction hw with
  | nil p => intro a ha; exact ⟨a, ha, by omega⟩
  | cons e _ ih =>
    intro a ha
    obtain ⟨s, h1, rfl, rfl, rfl⟩ := e
    obtain ⟨b, h2, h3⟩ := hs s h1 a ha
    obtain ⟨b', h4, h5⟩ := ih h2
    exact ⟨b', h4, by omega⟩
/-- What is known at a point is the cost of a way from one of the beginnings. -/
def FromWays (P : Pj τ ν) (steps : List τ) (p : ν) (m : Ma τ ν) : Prop := ∀ v a, m.cost v = some a → Wy (stepE P steps) p v a
theorem Push.ways {steps : List τ} {p : ν} {m m' : Ma τ ν} {s : τ} (h : Push P m s m') (hs : s ∈ steps) (hf : FromWays P steps p m) : FromWays P steps p m' := by
  cases h with
  | keep _ => exact hf
  | low a hl =>
    intro v b hb
    by_cases hv : v = P.to s
    · subst hv
      rw [put_cost_eq] at hb
      cases hb
      exact ((hf _ _ hl.1).append (Wy.one ⟨s, hs, rfl, rfl, rfl⟩))
    · rw [put_cost_ne _ _ _ _ hv] at hb
      exact hf v b hb
theorem Pushes.ways {steps l : List τ} {p : ν} {m m' : Ma τ ν} (h : Pushes P m l m') (hs : ∀ s ∈ l, s ∈ steps) (hf : FromWays P steps p m) : FromWays P steps p m' := by
  induction h with
  | nil m => exact hf
  | cons h1 _ ih => exact ih (fun s h => hs s (List.mem_cons_of_mem _ h)) (h1.ways (hs _ (List.mem_cons_self ..)) hf)
theorem Rounds.ways {steps : List τ} {p : ν} {n : Nat} {m m' : Ma τ ν} (h : Rounds P steps n m m') (hf : FromWays P steps p m) : FromWays P steps p m' := by
  induction h with
  | nil m => exact hf
  | snoc _ h2 ih => exact h2.ways (fun s h => h) (ih hf)
theorem Push.le0 {m m' : Ma τ ν} {s : τ} (p : ν) (h : Push P m s m') : (∃ a, m.cost p = some a ∧ a ≤ 0) → ∃ a, m'.cost p = some a ∧ a ≤ 0 := by
  rintro ⟨a, h1, h2⟩
  cases h with
  | keep _ => exact ⟨a, h1, h2⟩
  | low b hl =>
    by_cases hv : p = P.to s
    · have := hl.2 a (by rw [← hv]; exact h1)
      exact ⟨_, by rw [hv]; exact put_cost_eq .., by omega⟩
    · exact ⟨a, by rw [put_cost_ne _ _ _ _ hv]; exact h1, h2⟩
theorem Pushes.le0 {m m' : Ma τ ν} {l : List τ} (p : ν) (h : Pushes P m l m') : (∃ a, m.cost p = some a ∧ a ≤ 0) → ∃ a, m'.cost p = some a ∧ a ≤ 0 := by
  induction h with
  | nil m => exact id
  | cons g1 _ ih => exact fun h0 => ih (g1.le0 p h0)
theorem Rounds.le0 {steps : List τ} {n : Nat} {m m' : Ma τ ν} (p : ν) (h : Rounds P steps n m m') : (∃ a, m.cost p = some a ∧ a ≤ 0) → ∃ a, m'.cost p = some a ∧ a ≤ 0 := by
  induction h with
  | nil m => exact id
  | snoc _ h2 ih => exact fun h0 => h2.le0 p (ih h0)
/-- Costs pushed from one point: what is known in the end is the least cost, and nothing is known where no way leads. -/
theorem Rounds.least {steps : List τ} {m' : Ma τ ν} (V : List ν) (hV : ∀ s ∈ steps, P.fr s ∈ V) (p : ν) (hr : Rounds P steps V.length ⟨fun x => if x = p then some 0 else none, fun _ => none⟩ m') (hn : NoNeg (stepE P steps)) (q : ν) :
    (∀ c, m'.cost q = some c → Least (stepE P steps) p q c) ∧ (m'.cost q = none → ∀ c, ¬ Wy (stepE P steps) p q c) := by
  have hs := hr.sat V hV (fun _ => rfl) hn
  have hw : FromWays P steps p m' := hr.ways (fun v a h => by
    dsimp only at h
    split at h
    · rename_i e; subst e; cases h; exact .nil _
    · cases h)
  obtain ⟨a0, h0, h1⟩ := hr.le0 p ⟨0, if_pos rfl, Int.le_refl _⟩
  refine ⟨fun c hc => ⟨hw q c hc, fun d hd => ?_⟩, fun hc c hw' => ?_⟩
  · obtain ⟨b, h2, h3⟩ := sat_way hs hd h0
    rw [hc] at h2; cases h2; omega
  · obtain ⟨b, h2, h3⟩ := sat_way hs hw' h0
    rw [hc] at h2; cases h2
end
end Go.Gr
