/-
  The table of least costs, plain: from each point to each by each further point. No program in it.
-/
import Derived.Test.YtailgbhadhoedaaGraph
namespace Go.Gr
abbrev Tb := Nat → Nat → Int
def upd2 (c : Tb) (i j : Nat) (x : Int) : Tb := fun a b => if a = i ∧ b = j then x else c a b
def fwv (N : Int) (c : Tb) (k i j : Nat) : Int := if c i k < N ∧ c k j < N then max (-N) (min (c i j) (c i k + c k j)) else c i j
def fwJ (N : Int) (k i : Nat) : Nat → Nat → Tb → Tb
  | 0, _, c => c
  | m + 1, j, c => fwJ N k i m (j + 1) (upd2 c i j (fwv N c k i j))
def fwI (N : Int) (k n : Nat) : Nat → Nat → Tb → Tb
  | 0, _, c => c
  | m + 1, i, c => fwI N k n m (i + 1) (fwJ N k i n 0 c)
def fwK (N : Int) (n : Nat) : Nat → Nat → Tb → Tb
  | 0, _, c => c
  | m + 1, k, c => fwK N n m (k + 1) (fwI N k n n 0 c)
/-- A property of tables that each entry's change keeps is kept by all. -/
theorem fwJ_keep {N : Int} {k i n : Nat} (I : Tb → Prop) (h : ∀ c j, j < n → I c → I (upd2 c i j (fwv N c k i j))) : ∀ m j c, j + m ≤ n → I c → I (fwJ N k i m j c) := by
  intro m
  induction m with
  | zero => intro j c _ hc; exact hc
  | succ m ih => intro j c hj hc; exact ih (j + 1) _ (by omega) (h c j (by omega) hc)
theorem fwI_keep {N : Int} {k n : Nat} (I : Tb → Prop) (h : ∀ c i j, i < n → j < n → I c → I (upd2 c i j (fwv N c k i j))) : ∀ m i c, i + m ≤ n → I c → I (fwI N k n m i c) := by
  intro m
  induction m with
  | zero => intro i c _ hc; exact hc
  | succ m ih => intro i c hi hc; exact ih (i + 1) _ (by omega) (fwJ_keep (n := n) I (fun c j hj => h c i j (by omega) hj) n 0 c (by omega) hc)
theorem fwK_keep {N : Int} {n : Nat} (I : Tb → Prop) (h : ∀ c k i j, k < n → i < n → j < n → I c → I (upd2 c i j (fwv N c k i j))) : ∀ m k c, k + m ≤ n → I c → I (fwK N n m k c) := by
  intro m
  induction m with
  | zero => intro k c _ hc; exact hc
  | succ m ih => intro k c hk hc; exact ih (k + 1) _ (by omega) (fwI_keep I (fun c i j hi hj => h c k i j (by omega) hi hj) n 0 c (by omega) hc)
/-- All entries lie from -N to N, and come down. -/
def InN (N : Int) (c : Tb) : Prop := ∀ i j, -N ≤ c i j ∧ c i j ≤ N
theorem fwv_le {N : Int} {c : Tb} (h : InN N c) (k i j : Nat) : fwv N c k i j ≤ c i j := by
  have := h i j
  unfold fwv; split <;> omega
theorem fwv_in {N : Int} (hN : 0 ≤ N) {c : Tb} (h : InN N c) (k i j : Nat) : -N ≤ fwv N c k i j ∧ fwv N c k i j ≤ N := by
  have := h i j
  unfold fwv; split <;> omega
theorem inN_upd {N : Int} (hN : 0 ≤ N) {c : Tb} (h : InN N c) (k i j : Nat) : InN N (upd2 c i j (fwv N c k i j)) := by
  intro a b
  unfold upd2
  split
  · exact fwv_in hN h k i j
  · exact h a b
theorem fwK_le {N : Int} (hN : 0 ≤ N) {n : Nat} (m k : Nat) (c : Tb) (hk : k + m ≤ n) (h : InN N c) : InN N (fwK N n m k c) ∧ ∀ a b, fwK N n m k c a b ≤ c a b := by
  refine fwK_keep (fun c' => InN N c' ∧ ∀ a b, c' a b ≤ c a b) (fun c' k i j _ _ _ h' => ⟨inN_upd hN h'.1 k i j, fun a b => ?_⟩) m k c hk ⟨h, fun _ _ => Int.le_refl _⟩
  unfold upd2
  split
  · rename_i e; rw [e.1, e.2]; exact Int.le_trans (fwv_le h'.1 k i j) (h'.2 i j)
  · exact h'.2 a b
/-- What is in the table is at least what a way costs. -/
def SoundT (N : Int) (n : Nat) (E : Nat → Nat → Int → Prop) (c : Tb) : Prop := ∀ i j, i < n → j < n → c i j < N → ∃ d, Wy E i j d ∧ d ≤ c i j
theorem fwK_sound {N : Int} {n : Nat} {E : Nat → Nat → Int → Prop} (m k : Nat) (c : Tb) (hk : k + m ≤ n) (h : SoundT N n E c) : SoundT N n E (fwK N n m k c) := by
  refine fwK_keep (SoundT N n E) (fun c k i j hk hi hj h => ?_) m k c hk h
  intro a b ha hb hlt
  unfold upd2 at hlt ⊢
  split at hlt
  · rename_i e
    obtain ⟨rfl, rfl⟩ := e
    rw [if_pos ⟨rfl, rfl⟩]
    unfold fwv at hlt ⊢
    split at hlt
    · rename_i hf
      rw [if_pos hf]
      by_cases hm : c a b ≤ c a k + c k b
      · obtain ⟨d, h1, h2⟩ := h a b ha hb (by omega)
        exact ⟨d, h1, by omega⟩
      · obtain ⟨d, h1, h2⟩ := h a k ha hk hf.1
        obtain ⟨d', h3, h4⟩ := h k b hk hb hf.2
        exact ⟨_, h1.append h3, by omega⟩
    · rename_i hf
      rw [if_neg hf]
      exact h a b ha hb hlt
  · rename_i e
    rw [if_neg e]
    exact h a b ha hb hlt
theorem fwv_self1 {N : Int} {c : Tb} (h : InN N c) (k i : Nat) (h0 : 0 ≤ c k k) : fwv N c k i k = c i k := by
  have := h i k
  unfold fwv; split <;> omega
theorem fwv_self2 {N : Int} {c : Tb} (h : InN N c) (k j : Nat) (h0 : 0 ≤ c k k) : fwv N c k k j = c k j := by
  have := h k j
  unfold fwv; split <;> omega
theorem fwJ_eq {N : Int} (hN : 0 ≤ N) (k i : Nat) : ∀ (m j : Nat) (c : Tb), InN N c → 0 ≤ c k k → fwJ N k i m j c = fun a b => if a = i ∧ j ≤ b ∧ b < j + m then fwv N c k a b else c a b := by
  intro m
  induction m with
  | zero => intro j c _ _; funext a b; rw [if_neg (by omega)]; rfl
  | succ m ih =>
    intro j c h h0
    have hik : (upd2 c i j (fwv N c k i j)) i k = c i k := by
      unfold upd2
      by_cases hj : k = j
      · subst hj; rw [if_pos ⟨rfl, rfl⟩, fwv_self1 h k i h0]
      · rw [if_neg (by omega)]
    have hkk : (upd2 c i j (fwv N c k i j)) k k = c k k := by
      unfold upd2
      by_cases hj : k = i ∧ k = j
      · obtain ⟨rfl, rfl⟩ := hj; rw [if_pos ⟨rfl, rfl⟩, fwv_self1 h k k h0]
      · rw [if_neg hj]
    rw [fwJ, ih (j + 1) _ (inN_upd hN h k i j) (by rw [hkk]; exact h0)]
    funext a b
    by_cases ha : a = i
    · subst ha
      by_cases hb : b = j
      · subst hb
        rw [if_neg (by omega), if_pos (by omega)]
        unfold upd2; rw [if_pos ⟨rfl, rfl⟩]
      · have hab : (upd2 c a j (fwv N c k a j)) a b = c a b := by unfold upd2; rw [if_neg (by omega)]
        have hkb : (upd2 c a j (fwv N c k a j)) k b = c k b := by unfold upd2; rw [if_neg (by omega)]
        by_cases hr : j + 1 ≤ b ∧ b < j + 1 + m
        · rw [if_pos ⟨rfl, hr⟩, if_pos (by omega)]
          unfold fwv
          unfold fwv at hab hkb hik
          rw [hab, hkb, hik]
        · rw [if_neg (by omega), if_neg (by omega), hab]
    · rw [if_neg (by omega), if_neg (by omega)]
      unfold upd2; rw [if_neg (by omega)]
theorem fwv_congr {N : Int} {c c' : Tb} {k i j : Nat} (h1 : c' i k = c i k) (h2 : c' k j = c k j) (h3 : c' i j = c i j) : fwv N c' k i j = fwv N c k i j := by
  unfold fwv; rw [h1, h2, h3]
theorem fwI_eq {N : Int} (hN : 0 ≤ N) (k n : Nat) : ∀ (m i : Nat) (c : Tb), InN N c → 0 ≤ c k k → fwI N k n m i c = fun a b => if i ≤ a ∧ a < i + m ∧ b < n then fwv N c k a b else c a b := by
  intro m
  induction m with
  | zero => intro i c _ _; funext a b; rw [if_neg (by omega)]; rfl
  | succ m ih =>
    intro i c h h0
    rw [fwI, fwJ_eq hN k i n 0 c h h0]
    have hrow : ∀ b, (if k = i ∧ 0 ≤ b ∧ b < 0 + n then fwv N c k k b else c k b) = c k b := by
      intro b
      split
      · exact fwv_self2 h k b h0
      · rfl
    rw [ih (i + 1) _ (by
      intro a b
      dsimp only
      split
      · exact fwv_in hN h k a b
      · exact h a b) (by rw [hrow]; exact h0)]
    funext a b
    by_cases ha : a = i
    · subst ha
      rw [if_neg (by omega)]
      by_cases hb : b < n
      · rw [if_pos (by omega), if_pos (by omega)]
      · rw [if_neg (by omega), if_neg (by omega)]
    · by_cases hr : i + 1 ≤ a ∧ a < i + 1 + m ∧ b < n
      · rw [if_pos hr, if_pos (by omega)]
        exact fwv_congr (if_neg (by omega)) (hrow b) (if_neg (by omega))
      · rw [if_neg hr, if_neg (by omega), if_neg (by omega)]
/-- Entries that are finite lie within B. -/
def BoundT (N B : Int) (n : Nat) (c : Tb) : Prop := ∀ i j, i < n → j < n → c i j = N ∨ (-B ≤ c i j ∧ c i j ≤ B)
def TriT (N : Int) (n k : Nat) (c : Tb) : Prop := ∀ m, m < k → ∀ i j, i < n → j < n → c i m < N → c m j < N → c i j ≤ c i m + c m j
theorem fwv_bound {N B : Int} {n : Nat} {c : Tb} (hB : 0 ≤ B) (h2 : B + B < N) (h : BoundT N B n c) {k i j : Nat} (hk : k < n) (hi : i < n) (hj : j < n) : fwv N c k i j = N ∨ (-(B + B) ≤ fwv N c k i j ∧ fwv N c k i j ≤ B + B) := by
  have h3 := h i j hi hj; have h4 := h i k hi hk; have h5 := h k j hk hj
  unfold fwv; split <;> omega
theorem fwv_case {N B : Int} {n : Nat} {c : Tb} (hB : 0 ≤ B) (h2 : B + B < N) (h : BoundT N B n c) {k i j : Nat} (hk : k < n) (hi : i < n) (hj : j < n) :
    (fwv N c k i j = c i j ∨ (c i k < N ∧ c k j < N ∧ fwv N c k i j = c i k + c k j)) ∧ fwv N c k i j ≤ c i j ∧ (c i k < N → c k j < N → fwv N c k i j ≤ c i k + c k j) := by
  have h3 := h i j hi hj; have h4 := h i k hi hk; have h5 := h k j hk hj
  unfold fwv; split
  · refine ⟨?_, ?_, fun _ _ => ?_⟩ <;> omega
  · rename_i hf
    exact ⟨.inl rfl, Int.le_refl _, fun h1 h2 => absurd ⟨h1, h2⟩ hf⟩
theorem fw_tri {N B : Int} {n : Nat} {c : Tb} (hB : 0 ≤ B) (h2 : B + B < N) (h : BoundT N B n c) {k : Nat} (hk : k < n) (h0 : 0 ≤ c k k) (ht : TriT N n k c) {c' : Tb} (hc : ∀ i j, i < n → j < n → c' i j = fwv N c k i j) : TriT N n (k + 1) c' := by
  intro m hm i j hi hj
  have hmn : m < n := by omega
  rw [hc i m hi hmn, hc m j hmn hj, hc i j hi hj]
  obtain ⟨a1, _, _⟩ := fwv_case hB h2 h hk hi hmn
  obtain ⟨a2, _, _⟩ := fwv_case hB h2 h hk hmn hj
  obtain ⟨_, u1, u2⟩ := fwv_case hB h2 h hk hi hj
  have fin : ∀ x y, x < n → y < n → c x y < N → c x y ≤ B := fun x y hx hy hl => by
    rcases h x y hx hy with h | h <;> omega
  have lo : ∀ x y, x < n → y < n → c x y < N → -B ≤ c x y := fun x y hx hy hl => by
    rcases h x y hx hy with h | h <;> omega
  intro f1 f2
  rcases Nat.lt_or_ge m k with hlt | hge
  · have T := ht m hlt
    rcases a1 with a1 | ⟨a3, a4, a1⟩ <;> rcases a2 with a2 | ⟨a5, a6, a2⟩
    · have t1 := T i j hi hj (by omega) (by omega)
      omega
    · have t3 := T i k hi hk (by omega) a5
      have b1 := fin i m hi hmn (by omega); have b2 := fin m k hmn hk a5
      have := u2 (by omega) a6
      omega
    · have t2 := T k j hk hj a4 (by omega)
      have b1 := fin k m hk hmn a4; have b2 := fin m j hmn hj (by omega)
      have := u2 a3 (by omega)
      omega
    · have t4 := T k k hk hk a4 a5
      have := u2 a3 a6
      omega
  · have e : m = k := by omega
    subst e
    rcases a1 with a1 | ⟨a3, a4, a1⟩ <;> rcases a2 with a2 | ⟨a5, a6, a2⟩
    · have := u2 (by omega) (by omega)
      omega
    · have := u2 (by omega) a6
      omega
    · have := u2 a3 (by omega)
      omega
    · have := u2 a3 a6
      omega
/-- Where no entry on the diagonal is below 0 in the end, the triangles close. -/
theorem fwK_tri {N : Int} (hN : 0 ≤ N) {n : Nat} : ∀ (m k : Nat) (c : Tb) (B : Int), k + m = n → 0 ≤ B → B * 2 ^ m < N → InN N c → BoundT N B n c → TriT N n k c → (∀ i, i < n → 0 ≤ fwK N n m k c i i) →
    TriT N n n (fwK N n m k c) ∧ BoundT N (B * 2 ^ m) n (fwK N n m k c) := by
  intro m
  induction m with
  | zero => intro k c B hk _ _ _ hb ht _; rw [show k = n by omega] at ht; exact ⟨ht, by simpa [fwK] using hb⟩
  | succ m ih =>
    intro k c B hk hB h2 hI hb ht hd
    have hkn : k < n := by omega
    have h0 : 0 ≤ c k k := by
      have := (fwK_le (n := n) hN (m + 1) k c (by omega) hI).2 k k
      have := hd k hkn
      omega
    have hpow : B * 2 ^ (m + 1) = (B + B) * 2 ^ m := by rw [Int.pow_succ, Int.mul_comm (2 ^ m) 2, ← Int.mul_assoc]; congr 1; omega
    have h2' : B + B < N := by
      have h3 : (1 : Int) ≤ 2 ^ m := by exact_mod_cast Nat.one_le_two_pow
      have h4 : (B + B) * 1 ≤ (B + B) * 2 ^ m := Int.mul_le_mul_of_nonneg_left h3 (by omega)
      omega
    rw [fwK] at hd ⊢
    have heq := fwI_eq hN k n n 0 c hI h0
    rw [heq] at hd ⊢
    have hc : ∀ i j, i < n → j < n → (fun a b => if 0 ≤ a ∧ a < 0 + n ∧ b < n then fwv N c k a b else c a b) i j = fwv N c k i j := fun i j hi hj => by dsimp only; rw [if_pos (by omega)]
    rw [hpow]
    refine ih (k + 1) _ (B + B) (by omega) (by omega) (by omega) ?_ ?_ ?_ hd
    · intro a b
      dsimp only
      split
      · exact fwv_in hN hI k a b
      · exact hI a b
    · intro i j hi hj
      rw [hc i j hi hj]
      exact fwv_bound hB h2' hb hkn hi hj
    · exact fw_tri hB h2' hb hkn h0 ht hc
/-- The table's answer: it shows a circle below 0 exactly if there is one; and without one it has all least costs. -/
theorem floyd {N B : Int} {n : Nat} {E : Nat → Nat → Int → Prop} {c : Tb} (hB : 0 ≤ B) (h2 : B * 2 ^ n * 2 < N) (hI : InN N c) (hb : BoundT N B n c) (hs : SoundT N n E c) (h0 : ∀ i, i < n → c i i ≤ 0)
    (hE : ∀ i j d, E i j d → i < n ∧ j < n ∧ c i j < N ∧ c i j ≤ d) :
    ((∀ i, i < n → 0 ≤ fwK N n n 0 c i i) ↔ NoNeg E) ∧
    (NoNeg E → ∀ i j, i < n → j < n → (fwK N n n 0 c i j < N → Least E i j (fwK N n n 0 c i j)) ∧ (¬ fwK N n n 0 c i j < N → fwK N n n 0 c i j = N ∧ ∀ d, ¬ Wy E i j d)) := by
  have hpow : (0 : Int) ≤ B * 2 ^ n := Int.mul_nonneg hB (by exact_mod_cast Nat.zero_le _)
  have hN : 0 ≤ N := by omega
  have hle := fwK_le (n := n) hN n 0 c (by omega) hI
  have hS := fwK_sound n 0 c (by omega) hs
  have way_lt : ∀ i j d, Wy E i j d → i < n → j < n := by
    intro i j d hw
    induction hw with
    | nil p => exact id
    | cons e _ ih => intro _; exact ih (hE _ _ _ e).2.1
  have key : (∀ i, i < n → 0 ≤ fwK N n n 0 c i i) → ∀ i j d, Wy E i j d → i < n → fwK N n n 0 c i j < N ∧ fwK N n n 0 c i j ≤ d := by
    intro hd i j d hw
    obtain ⟨ht, hbd⟩ := fwK_tri hN n 0 c B (by omega) hB (by omega) hI hb (fun m hm => absurd hm (Nat.not_lt_zero _)) hd
    induction hw with
    | nil p =>
      intro hp
      have h1 := hle.2 p p; have h3 := h0 p hp
      omega
    | @cons p q r c1 d1 e hw ih =>
      intro hp
      obtain ⟨_, hq, h3, h4⟩ := hE p q c1 e
      obtain ⟨h5, h6⟩ := ih hq
      have hr : r < n := way_lt _ _ _ hw hq
      have h7 := hle.2 p q
      have h8 := ht q hq p r hp hr (by omega) h5
      have h9 := hbd p q hp hq; have h10 := hbd q r hq hr
      omega
  have fwd : (∀ i, i < n → 0 ≤ fwK N n n 0 c i i) → NoNeg E := by
    intro hd p d hw
    cases hw with
    | nil _ => exact Int.le_refl _
    | cons e hw' =>
      have hp := (hE _ _ _ e).1
      have := (key hd p p _ (.cons e hw') hp).2
      have := hd p hp
      omega
  have bwd : NoNeg E → ∀ i, i < n → 0 ≤ fwK N n n 0 c i i := by
    intro hn i hi
    rcases Int.lt_or_le (fwK N n n 0 c i i) 0 with hlt | hge
    · have hlt' : fwK N n n 0 c i i < N := by omega
      obtain ⟨d, h1, h3⟩ := hS i i hi hi hlt'
      have := hn i d h1
      omega
    · exact hge
  refine ⟨⟨fwd, bwd⟩, fun hn i j hi hj => ⟨fun hlt => ?_, fun hnlt => ⟨?_, fun d hw => ?_⟩⟩⟩
  · obtain ⟨d, h1, h3⟩ := hS i j hi hj hlt
    have h4 := (key (bwd hn) i j d h1 hi).2
    have h5 : d = fwK N n n 0 c i j := by omega
    exact ⟨h1.of h5, fun d' hw => (key (bwd hn) i j d' hw hi).2⟩
  · have := (hle.1 i j).2; omega
  · exact hnlt (key (bwd hn) i j d hw hi).1
end Go.Gr
