/-
  Purchases, plain: the best of all sets that can be paid is one, whoever finds it. No program in it.
-/
namespace Go.Fw
structure Pu where
  list : List Int
  sum : Int
  deriving DecidableEq
def ltL : List Int → List Int → Bool
  | _, [] => false
  | [], _ :: _ => true
  | a :: x, b :: y => decide (a < b) || (decide (a = b) && ltL x y)
theorem ltL_irrefl : ∀ x : List Int, ltL x x = false
  | [] => rfl
  | a :: x => by rw [ltL, ltL_irrefl x]; simp
theorem ltL_trans : ∀ x y z : List Int, ltL x y = true → ltL y z = true → ltL x z = true
  | _, [], _, h, _ => by cases ‹List Int› <;> simp [ltL] at h
  | _, _ :: _, [], _, h => by simp [ltL] at h
  | [], _ :: _, _ :: _, _, _ => rfl
  | a :: x, b :: y, c :: z, h, h2 => by
    rw [ltL] at h h2 ⊢
    simp only [Bool.or_eq_true, decide_eq_true_eq, Bool.and_eq_true] at h h2 ⊢
    rcases h with h | ⟨rfl, h⟩
    · rcases h2 with h2 | ⟨rfl, h2⟩
      · exact .inl (Int.lt_trans h h2)
      · exact .inl h
    · rcases h2 with h2 | ⟨rfl, h2⟩
      · exact .inl h2
      · exact .inr ⟨rfl, ltL_trans x y z h h2⟩
theorem ltL_total : ∀ x y : List Int, ltL x y = false → ltL y x = false → x = y
  | [], [], _, _ => rfl
  | [], _ :: _, h, _ => by simp [ltL] at h
  | _ :: _, [], _, h => by simp [ltL] at h
  | a :: x, b :: y, h, h2 => by
    rw [ltL] at h h2
    simp only [Bool.or_eq_false_iff, decide_eq_false_iff_not] at h h2
    have hab : a = b := by omega
    subst hab
    rw [ltL_total x y (by simpa using h.2) (by simpa using h2.2)]
/-- The first is better than the second. -/
def betF (p q : Pu) : Bool := decide (q.list.length < p.list.length) || (decide (q.list.length = p.list.length) && (decide (p.sum < q.sum) || (decide (p.sum = q.sum) && ltL p.list q.list)))
theorem betF_irrefl (p : Pu) : betF p p = false := by unfold betF; rw [ltL_irrefl]; simp
theorem betF_trans {p q r : Pu} (h : betF p q = true) (h2 : betF q r = true) : betF p r = true := by
  unfold betF at *
  simp only [Bool.or_eq_true, decide_eq_true_eq, Bool.and_eq_true] at *
  rcases h with h | ⟨e, h⟩
  · rcases h2 with h2 | ⟨e2, _⟩
    · left; omega
    · left; omega
  · rcases h2 with h2 | ⟨e2, h2⟩
    · left; omega
    · right
      refine ⟨by omega, ?_⟩
      rcases h with h | ⟨s, h⟩
      · rcases h2 with h2 | ⟨s2, _⟩
        · left; omega
        · left; omega
      · rcases h2 with h2 | ⟨s2, h2⟩
        · left; omega
        · right; exact ⟨by omega, ltL_trans _ _ _ h h2⟩
theorem betF_total {p q : Pu} (h : betF p q = false) (h2 : betF q p = false) : p = q := by
  unfold betF at *
  simp only [Bool.or_eq_false_iff, decide_eq_false_iff_not, Bool.and_eq_false_iff] at *
  obtain ⟨a1, a2⟩ := h
  obtain ⟨b1, b2⟩ := h2
  have hl : p.list.length = q.list.length := by omega
  have a3 := a2.resolve_left (by omega)
  have b3 := b2.resolve_left (by omega)
  have hs : p.sum = q.sum := by omega
  have a4 := a3.2.resolve_left (by omega)
  have b4 := b3.2.resolve_left (by omega)
  have := ltL_total _ _ a4 b4
  cases p
  cases q
  simp_all
def updF (b p : Pu) : Pu := if betF p b = true then p else b
theorem best_mem : ∀ (L : List Pu) (b : Pu), L.foldl updF b ∈ b :: L
  | [], b => by simp
  | p :: L, b => by
    rw [List.foldl_cons]
    have := best_mem L (updF b p)
    unfold updF at this ⊢
    split at this <;> rename_i h
    · rw [if_pos h]; simp only [List.mem_cons] at this ⊢; rcases this with h | h; exact .inr (.inl h); exact .inr (.inr h)
    · rw [if_neg h]; simp only [List.mem_cons] at this ⊢; rcases this with h | h; exact .inl h; exact .inr (.inr h)
theorem best_keep : ∀ (L : List Pu) (b x : Pu), betF x b = false → betF x (L.foldl updF b) = false
  | [], _, _, h => h
  | p :: L, b, x, h => by
    rw [List.foldl_cons]
    refine best_keep L _ x ?_
    unfold updF
    split
    · rename_i hp
      cases hx : betF x p with
      | false => rfl
      | true => rw [betF_trans hx hp] at h; cases h
    · exact h
theorem best_top : ∀ (L : List Pu) (b : Pu), ∀ x ∈ b :: L, betF x (L.foldl updF b) = false
  | [], b, x, h => by rw [List.mem_singleton.1 h]; exact betF_irrefl b
  | p :: L, b, x, h => by
    rw [List.foldl_cons]
    rcases List.mem_cons.1 h with rfl | h
    · refine best_keep L _ _ ?_
      unfold updF
      split
      · rename_i hp
        cases hx : betF x p with
        | false => rfl
        | true => have := betF_trans hp hx; rw [betF_irrefl] at this; cases this
      · exact betF_irrefl _
    · rcases List.mem_cons.1 h with rfl | h
      · refine best_keep L _ _ ?_
        unfold updF
        split
        · exact betF_irrefl _
        · rename_i hp; simpa using hp
      · exact best_top L (updF b p) x (by simp [h])
/-- Whoever looks at the same purchases finds the same best one. -/
theorem best_same {L M : List Pu} {b c : Pu} (h : ∀ x, x ∈ b :: L ↔ x ∈ c :: M) : L.foldl updF b = M.foldl updF c :=
  betF_total (best_top M c _ ((h _).1 (best_mem L b))) (best_top L b _ ((h _).2 (best_mem M c)))
/-! The sets that can be paid. -/
abbrev It := Nat × Int × Int
def cost (S : List It) : Int := (S.map fun t => t.2.1).sum
def addS (p : Pu) (S : List It) : Pu := ⟨p.list ++ S.map (fun t => (t.1 : Int)), p.sum + (S.map fun t => t.2.2).sum⟩
theorem cost_cons (t : It) (S : List It) : cost (t :: S) = t.2.1 + cost S := by unfold cost; rw [List.map_cons, List.sum_cons]
theorem addS_nil (p : Pu) : addS p [] = p := by unfold addS; simp
theorem addS_cons (p : Pu) (t : It) (S : List It) : addS p (t :: S) = addS ⟨p.list ++ [(t.1 : Int)], p.sum + t.2.2⟩ S := by
  unfold addS
  simp only [List.map_cons, List.sum_cons, List.append_assoc, List.singleton_append, Pu.mk.injEq, true_and]
  omega
theorem cost_nonneg : ∀ {S : List It}, (∀ t ∈ S, 0 ≤ t.2.1) → 0 ≤ cost S
  | [], _ => by simp [cost]
  | t :: S, h => by
    rw [cost_cons]
    have := h t (by simp)
    have := cost_nonneg (S := S) fun x hx => h x (by simp [hx])
    omega
/-- What the search calls itself with, behind p, in its order. -/
def buyE : List It → Int → Pu → List Pu
  | [], _, _ => []
  | t :: r, money, p => (if t.2.1 ≤ money then ⟨p.list ++ [(t.1 : Int)], p.sum + t.2.2⟩ :: buyE r (money - t.2.1) ⟨p.list ++ [(t.1 : Int)], p.sum + t.2.2⟩ else []) ++ buyE r money p
theorem mem_buyE : ∀ (r : List It) (money : Int) (p q : Pu), (∀ t ∈ r, 0 ≤ t.2.1) → 0 ≤ money → (q ∈ p :: buyE r money p ↔ ∃ S, S.Sublist r ∧ cost S ≤ money ∧ q = addS p S)
  | [], money, p, q, _, hm => by
    rw [buyE, List.mem_singleton]
    constructor
    · rintro rfl; exact ⟨[], List.Sublist.slnil, by simpa [cost] using hm, (addS_nil _).symm⟩
    · rintro ⟨S, hS, _, rfl⟩; rw [List.sublist_nil.1 hS, addS_nil]
  | t :: r, money, p, q, h, hm => by
    have ht := h t (by simp)
    have hr : ∀ x ∈ r, 0 ≤ x.2.1 := fun x hx => h x (by simp [hx])
    have ih := mem_buyE r money p q hr hm
    rw [buyE]
    constructor
    · intro hq
      rcases List.mem_cons.1 hq with rfl | hq
      · exact ⟨[], List.nil_sublist _, by simpa [cost] using hm, (addS_nil _).symm⟩
      · rcases List.mem_append.1 hq with hq | hq
        · split at hq
          · rename_i hle
            obtain ⟨S, hS, hc, rfl⟩ := (mem_buyE r (money - t.2.1) ⟨p.list ++ [(t.1 : Int)], p.sum + t.2.2⟩ q hr (by omega)).1 hq
            exact ⟨t :: S, hS.cons_cons t, by rw [cost_cons]; omega, (addS_cons p t S).symm⟩
          · cases hq
        · obtain ⟨S, hS, hc, rfl⟩ := ih.1 (List.mem_cons_of_mem _ hq)
          exact ⟨S, hS.cons t, hc, rfl⟩
    · rintro ⟨S, hS, hc, rfl⟩
      cases hS with
      | cons _ hS =>
        rcases List.mem_cons.1 (ih.2 ⟨S, hS, hc, rfl⟩) with e | hq
        · rw [e]; simp
        · exact List.mem_cons_of_mem _ (List.mem_append_right _ hq)
      | @cons_cons S' _ _ hS =>
        rw [cost_cons] at hc
        have hn := cost_nonneg (S := S') fun x hx => hr x (hS.subset hx)
        refine List.mem_cons_of_mem _ (List.mem_append_left _ ?_)
        rw [if_pos (by omega), addS_cons]
        exact (mem_buyE r (money - t.2.1) ⟨p.list ++ [(t.1 : Int)], p.sum + t.2.2⟩ _ hr (by omega)).2 ⟨S', hS, by omega, rfl⟩
/-! Sets as numbers. -/
theorem bits_of (f : Nat → Bool) : ∀ n, ∃ s, s < 2 ^ n ∧ ∀ i, i < n → s.testBit i = f i
  | 0 => ⟨0, by simp, fun i h => by omega⟩
  | n + 1 => by
    obtain ⟨s, h1, h2⟩ := bits_of f n
    cases hf : f n with
    | false => exact ⟨s, by rw [Nat.pow_succ]; omega, fun i hi => by
        rcases Nat.lt_or_ge i n with h | h
        · exact h2 i h
        · obtain rfl : i = n := by omega
          rw [hf]; exact Nat.testBit_lt_two_pow h1⟩
    | true => exact ⟨2 ^ n + s, by rw [Nat.pow_succ]; omega, fun i hi => by
        rcases Nat.lt_or_ge i n with h | h
        · rw [Nat.testBit_two_pow_add_gt h]; exact h2 i h
        · obtain rfl : i = n := by omega
          rw [hf, Nat.testBit_two_pow_add_eq, Nat.testBit_lt_two_pow h1]; rfl⟩
def pick (items : List It) (s : Nat) : List It := items.filter fun t => s.testBit t.1
theorem sub_filter : ∀ {S r : List It}, S.Sublist r → (r.map fun t => t.1).Nodup → S = r.filter fun t => decide (t.1 ∈ S.map fun t => t.1)
  | _, _, .slnil, _ => rfl
  | S, t :: r, .cons _ h, hn => by
    rw [List.map_cons, List.nodup_cons] at hn
    have ht : t.1 ∉ S.map fun t => t.1 := fun hm => hn.1 ((h.map _).subset hm)
    rw [List.filter_cons, if_neg (by simpa using ht)]
    exact sub_filter h hn.2
  | t :: S, _ :: r, .cons_cons _ h, hn => by
    rw [List.map_cons, List.nodup_cons] at hn
    rw [List.filter_cons, if_pos (by simp)]
    congr 1
    refine (sub_filter h hn.2).trans ?_
    refine List.filter_congr fun x hx => ?_
    have hne : x.1 ≠ t.1 := fun e => hn.1 (e ▸ List.mem_map.2 ⟨x, hx, rfl⟩)
    simp [hne]
theorem sub_pick {items S : List It} {n : Nat} (hn : (items.map fun t => t.1).Nodup) (hlt : ∀ t ∈ items, t.1 < n) : S.Sublist items ↔ ∃ s, s < 2 ^ n ∧ S = pick items s := by
  constructor
  · intro h
    obtain ⟨s, h1, h2⟩ := bits_of (fun i => decide (i ∈ S.map fun t => t.1)) n
    refine ⟨s, h1, ?_⟩
    refine (sub_filter h hn).trans ?_
    unfold pick
    exact List.filter_congr fun x hx => (h2 x.1 (hlt x hx)).symm
  · rintro ⟨s, _, rfl⟩
    exact List.filter_sublist
end Go.Fw
