/-
  Hoists, plain: both searches give the same list, and whatever is in it is known. No condition.
-/
import Derived.Test.YtecedifkjafneaaDoorLib
namespace Go.Fw
def hoistsFit (digits h : List Int) (f : Int) : Bool :=
  if 10 ≤ f then decide (f - 10 < (h.length : Int)) && (idx digits (f - 10) == idx digits (h.length : Int)) else idx digits (h.length : Int) == some f

/-! Bits. -/
theorem ofInt_nat (a : Nat) : BitVec.ofInt 64 (a : Int) = BitVec.ofNat 64 a := by
  apply BitVec.eq_of_toNat_eq
  simp
theorem bits_and (a b : Nat) (ha : a < 2 ^ 62) (hb : b < 2 ^ 62) : bits .and .i64 (a : Int) (b : Int) = ((a &&& b : Nat) : Int) := by
  unfold bits
  have hle : a &&& b ≤ a := Nat.and_le_left
  show IntKind.i64.wrap (((BitVec.ofInt 64 (a : Int) &&& BitVec.ofInt 64 (b : Int)).toNat : Nat) : Int) = _
  rw [ofInt_nat, ofInt_nat, BitVec.toNat_and, BitVec.toNat_ofNat, BitVec.toNat_ofNat, Nat.mod_eq_of_lt (by omega), Nat.mod_eq_of_lt (by omega), wrap_inI (by rw [inI_iff]; omega)]
theorem bits_or (a b : Nat) (ha : a < 2 ^ 62) (hb : b < 2 ^ 62) : bits .or .i64 (a : Int) (b : Int) = ((a ||| b : Nat) : Int) := by
  unfold bits
  have hle : a ||| b < 2 ^ 62 := Nat.or_lt_two_pow ha hb
  show IntKind.i64.wrap (((BitVec.ofInt 64 (a : Int) ||| BitVec.ofInt 64 (b : Int)).toNat : Nat) : Int) = _
  rw [ofInt_nat, ofInt_nat, BitVec.toNat_or, BitVec.toNat_ofNat, BitVec.toNat_ofNat, Nat.mod_eq_of_lt (by omega), Nat.mod_eq_of_lt (by omega), wrap_inI (by rw [inI_iff]; omega)]
def andNotN (a b : Nat) : Nat := (BitVec.ofNat 64 a &&& ~~~ BitVec.ofNat 64 b).toNat
theorem andNotN_bit (a b : Nat) (ha : a < 2 ^ 62) (i : Nat) : (andNotN a b).testBit i = (a.testBit i && !b.testBit i) := by
  unfold andNotN
  rw [BitVec.testBit_toNat, BitVec.getLsbD_and, BitVec.getLsbD_not, BitVec.getLsbD_ofNat, BitVec.getLsbD_ofNat]
  by_cases h : i < 64
  · simp [h]
  · have : a.testBit i = false := Nat.testBit_lt_two_pow (Nat.lt_of_lt_of_le ha (Nat.pow_le_pow_right (by decide) (by omega)))
    simp [h, this]
theorem andNotN_le (a b : Nat) : andNotN a b ≤ a := by
  unfold andNotN
  rw [BitVec.toNat_and, BitVec.toNat_ofNat]
  exact Nat.le_trans Nat.and_le_left (Nat.mod_le _ _)
theorem bits_andNot (a b : Nat) (ha : a < 2 ^ 62) : bits .andNot .i64 (a : Int) (b : Int) = ((andNotN a b : Nat) : Int) := by
  have hle := andNotN_le a b
  unfold bits
  show IntKind.i64.wrap (((BitVec.ofInt 64 (a : Int) &&& ~~~ BitVec.ofInt 64 (b : Int)).toNat : Nat) : Int) = _
  rw [ofInt_nat, ofInt_nat, show (BitVec.ofNat 64 a &&& ~~~ BitVec.ofNat 64 b).toNat = andNotN a b from rfl, wrap_inI (by rw [inI_iff]; omega)]
theorem bit_of (a f : Nat) (ha : a < 2 ^ 62) : (bits .and .i64 ((a : Int) / 2 ^ f) 1 == 0) = !a.testBit f := by
  have e : ((a : Int) / 2 ^ f) = ((a / 2 ^ f : Nat) : Int) := by push_cast; rfl
  have hle : a / 2 ^ f ≤ a := Nat.div_le_self _ _
  rw [e, show (1 : Int) = ((1 : Nat) : Int) from rfl, bits_and _ _ (by omega) (by decide), Nat.and_one_is_mod, Nat.testBit_eq_decide_div_mod_eq]
  rcases Nat.mod_two_eq_zero_or_one (a / 2 ^ f) with h | h <;> rw [h] <;> rfl
theorem bit_of1 (a f : Nat) (ha : a < 2 ^ 62) : (bits .and .i64 ((a : Int) / 2 ^ f) 1 == 1) = a.testBit f := by
  have e : ((a : Int) / 2 ^ f) = ((a / 2 ^ f : Nat) : Int) := by push_cast; rfl
  have hle : a / 2 ^ f ≤ a := Nat.div_le_self _ _
  rw [e, show (1 : Int) = ((1 : Nat) : Int) from rfl, bits_and _ _ (by omega) (by decide), Nat.and_one_is_mod, Nat.testBit_eq_decide_div_mod_eq]
  rcases Nat.mod_two_eq_zero_or_one (a / 2 ^ f) with h | h <;> rw [h] <;> rfl
theorem shr_of (a : Int) (f : Nat) (hf : f < 13) : shrI a (f : Int) = some (a / 2 ^ f) := by
  unfold shrI
  rw [if_pos (by omega), Int.toNat_natCast]
theorem shl_of (f : Nat) (hf : f < 13) : shlI 1 (f : Int) = some (((2 ^ f : Nat)) : Int) := by
  unfold shlI
  have : ∀ y : Nat, y < 13 → inI (1 * 2 ^ y) = true := by decide
  rw [if_pos ⟨by omega, by rw [Int.toNat_natCast]; exact this f hf⟩, Int.toNat_natCast, Int.one_mul]
  push_cast; rfl
theorem pow13 (f : Nat) (hf : f < 13) : 2 ^ f < 8192 := by
  have : 2 ^ f ≤ 2 ^ 12 := Nat.pow_le_pow_right (by decide) (by omega)
  have e : (2 : Nat) ^ 12 = 4096 := by decide
  omega

/-! Lists. -/
theorem flatMap_cg {α β : Type} {l : List α} {f g : α → List β} (h : ∀ x ∈ l, f x = g x) : l.flatMap f = l.flatMap g := by
  induction l with
  | nil => rfl
  | cons a l ih => rw [List.flatMap_cons, List.flatMap_cons, h a (by simp), ih fun x hx => h x (by simp [hx])]
theorem anyPre_snoc {α : Type} (p : List α → α → Bool) (pre l : List α) (x : α) : anyPre p pre (l ++ [x]) = (anyPre p pre l || p (pre ++ l) x) := by
  induction l generalizing pre with
  | nil => simp [anyPre]
  | cons a l ih => rw [List.cons_append, anyPre, anyPre, ih, List.append_assoc, List.singleton_append, Bool.or_assoc]
theorem anyPre_app {α : Type} (p : List α → α → Bool) (pre l m : List α) : anyPre p pre (l ++ m) = (anyPre p pre l || anyPre p (pre ++ l) m) := by
  induction l generalizing pre with
  | nil => simp [anyPre]
  | cons a l ih => rw [List.cons_append, anyPre, anyPre, ih, List.append_assoc, List.singleton_append, Bool.or_assoc]
theorem meansL_app (out a b : List Int) : meansL out (a ++ b) = meansL (meansL out a) b := by
  induction a generalizing out with
  | nil => rfl
  | cons f a ih => rw [List.cons_append, meansL, meansL, ih]
theorem meansL_len (out a : List Int) : (meansL out a).length = out.length + a.length := by
  induction a generalizing out with
  | nil => rfl
  | cons f a ih => rw [meansL, ih]; simp; omega
theorem meansL_pre (out a : List Int) : (meansL out a).take out.length = out := by
  induction a generalizing out with
  | nil => rw [meansL, List.take_length]
  | cons f a ih =>
    rw [meansL]
    have h := congrArg (fun l => l.take out.length) (ih (out ++ [if 10 ≤ f then (idx out (f - 10)).getD 0 else f]))
    simp only [List.take_take, List.length_append, List.length_cons, List.length_nil] at h
    rw [Nat.min_eq_left (by omega), List.take_append_of_le_length (Nat.le_refl _), List.take_length] at h
    exact h
/-- A count that only adds to a list. -/
theorem rangeN_flat {β : Type} {body : Int → List β → Option (Step (List β) (List β))} (g : Nat → List β) (M k : Nat) (s : List β) (hg : ∀ j, j < k → (g j).length ≤ 1)
    (hb : ∀ j s, j < k → s.length ≤ M + k → body (j : Int) s = some (.cont (s ++ g j))) (hs : s.length ≤ M) : rangeN body (fun z => z) k 0 s = some (s ++ (List.range k).flatMap g) := by
  obtain ⟨s', h1, h2, _⟩ := rangeN_inv (body := body) (fin := fun z => z) (fun j s' => s' = s ++ (List.range j).flatMap g ∧ s'.length ≤ M + j) k s (fun j s' hj ⟨h1, h2⟩ =>
    ⟨_, hb j s' hj (by omega), by rw [h1, List.range_succ, List.flatMap_append, List.append_assoc]; simp, by rw [List.length_append]; have := hg j hj; omega⟩) ⟨by simp, by omega⟩
  rw [h1, h2]
theorem rangeN_step {S X : Type} {body : Int → S → Option (Step S X)} {fin : S → X} (G : Nat → S) (k : Nat) (s : S) (h0 : G 0 = s) (hb : ∀ j, j < k → body (j : Int) (G j) = some (.cont (G (j + 1)))) :
    rangeN body fin k 0 s = some (fin (G k)) := by
  subst h0
  obtain ⟨s', h1, h2⟩ := rangeN_inv (body := body) (fin := fin) (fun j s' => s' = G j) k (G 0) (fun j s' hj h => ⟨_, by rw [h]; exact hb j hj, rfl⟩) rfl
  rw [h1, h2]
theorem rangeL_flat {α β : Type} {body : Int → α → List β → Option (Step (List β) (List β))} (g : α → List β) (M B : Nat) (l : List α) (s : List β) (hg : ∀ x ∈ l, (g x).length ≤ B)
    (hb : ∀ (j : Nat) x s, x ∈ l → s.length ≤ M + B * l.length → body (j : Int) x s = some (.cont (s ++ g x))) (hs : s.length ≤ M) : rangeL body (fun z => z) l 0 s = some (s ++ l.flatMap g) := by
  obtain ⟨s', h1, h2, _⟩ := rangeL_inv (body := body) (fin := fun z => z) (fun j s' => s' = s ++ (l.take j).flatMap g ∧ s'.length ≤ M + B * j) l s (fun j x s' hj ⟨h1, h2⟩ => by
    have hlt := (List.getElem?_eq_some_iff.1 hj).1
    have hx : x ∈ l := List.mem_of_getElem? hj
    have hmul : B * j ≤ B * l.length := Nat.mul_le_mul_left _ (by omega)
    refine ⟨_, hb j x s' hx (by omega), ?_, ?_⟩
    · rw [h1, List.take_add_one, hj, List.flatMap_append, List.append_assoc]; simp
    · rw [List.length_append, Nat.mul_succ]; have := hg x hx; omega) ⟨by simp, by omega⟩
  rw [h1, h2, List.take_length]

/-! The search, plain. -/
def goodF (d : List Int) (fl : Nat) (h : List Int) (f : Nat) : Bool := hoistsFit d h (f : Int) && (fl.testBit f && !h.contains (f : Int))
def hG (d : List Int) (fl : Nat) : Nat → List Int → List (List Int)
  | 0, h => [h]
  | n + 1, h => (List.range 13).flatMap fun f => if goodF d fl h f = true then hG d fl n (h ++ [(f : Int)]) else []
def vP (h : List Int) : Prop := anyPre badF [] h = false ∧ h.all (inB 0 12) = true
def uses (fl : Nat) (h : List Int) : Prop := ∀ f ∈ h, fl.testBit f.toNat = true
theorem vH_iff (h : List Int) : vH h = true ↔ (1 ≤ h.length ∧ h.length ≤ 4) ∧ vP h := by
  unfold vH vP inB
  simp only [Bool.and_eq_true, decide_eq_true_eq, Bool.not_eq_true']
  constructor
  · rintro ⟨⟨⟨h1, h2⟩, h3⟩, h4⟩; exact ⟨⟨by omega, by omega⟩, h4, h3⟩
  · rintro ⟨⟨h1, h2⟩, h3, h4⟩; exact ⟨⟨⟨by omega, by omega⟩, h4⟩, h3⟩
theorem vD_iff (d : List Int) : vD d = true ↔ (1 ≤ d.length ∧ d.length ≤ 4) ∧ ∀ x ∈ d, 0 ≤ x ∧ x ≤ 9 := by
  unfold vD inB
  simp only [Bool.and_eq_true, decide_eq_true_eq, List.all_eq_true]
  constructor
  · rintro ⟨⟨h1, h2⟩, h3⟩; exact ⟨⟨by omega, by omega⟩, h3⟩
  · rintro ⟨⟨h1, h2⟩, h3⟩; exact ⟨⟨by omega, by omega⟩, h3⟩
/-- What the beginning of a hoist keeps. -/
def inv (d h : List Int) : Prop := vP h ∧ meansL [] h = d.take h.length
theorem vP_snoc (h : List Int) (f : Nat) (hf : f < 13) (hv : vP h) : vP (h ++ [(f : Int)]) ↔ badF h (f : Int) = false := by
  unfold vP
  rw [anyPre_snoc, hv.1, List.all_append, hv.2, Bool.false_or, List.nil_append]
  have : inB 0 12 (f : Int) = true := by simp [inB]; omega
  simp [this]
theorem ext_iff (d h : List Int) (f : Nat) (hf : f < 13) (hl : h.length < d.length) (hi : inv d h) :
    (hoistsFit d h (f : Int) && !h.contains (f : Int)) = true ↔ vP (h ++ [(f : Int)]) ∧ meansL [] (h ++ [(f : Int)]) = d.take (h.length + 1) := by
  obtain ⟨hv, hm⟩ := hi
  rw [vP_snoc h f hf hv, meansL_app, hm, List.take_add_one, List.getElem?_eq_getElem hl]
  have hml : (d.take h.length).length = h.length := by rw [List.length_take]; omega
  show _ ↔ _ ∧ d.take h.length ++ [_] = d.take h.length ++ [d[h.length]]
  rw [List.append_right_inj, List.singleton_inj]
  have hd : idx d (h.length : Int) = some d[h.length] := idx_at (List.getElem?_eq_getElem hl)
  unfold hoistsFit badF
  rw [hd]
  by_cases h10 : (10 : Int) ≤ (f : Int)
  · simp only [if_pos h10, decide_eq_true h10, Bool.true_and]
    by_cases hb : (f : Int) - 10 < (h.length : Int)
    · have hlt : f - 10 < h.length := by omega
      have e1 : idx d ((f : Int) - 10) = some (d[f - 10]'(by omega)) := by
        have : (f : Int) - 10 = ((f - 10 : Nat) : Int) := by omega
        rw [this, idx_nat, List.getElem?_eq_getElem (by omega)]
      have e2 : idx (d.take h.length) ((f : Int) - 10) = some (d[f - 10]'(by omega)) := by
        have : (f : Int) - 10 = ((f - 10 : Nat) : Int) := by omega
        rw [this, idx_nat, List.getElem?_take, if_pos hlt, List.getElem?_eq_getElem (by omega)]
      rw [e1, e2]
      have hb' : ¬ (h.length : Int) ≤ (f : Int) - 10 := by omega
      simp [hb, hb']
      exact And.comm
    · have hb' : (h.length : Int) ≤ (f : Int) - 10 := by omega
      simp [hb, hb']
  · simp only [if_neg h10, decide_eq_false h10, Bool.false_and, Bool.or_false]
    simp
    constructor
    · rintro ⟨h1, h2⟩; exact ⟨h2, h1.symm⟩
    · rintro ⟨h1, h2⟩; exact ⟨h2.symm, h1⟩
/-- What is found. -/
theorem mem_hG (d : List Int) (fl : Nat) : ∀ (n : Nat) (h x : List Int), h.length + n = d.length → inv d h → (x ∈ hG d fl n h ↔ ∃ t, x = h ++ t ∧ vP x ∧ meansL [] x = d ∧ uses fl t ∧ t.length = n)
  | 0, h, x, hn, hi => by
    rw [hG, List.mem_singleton]
    constructor
    · rintro rfl
      refine ⟨[], by simp, hi.1, ?_, fun _ hf => by simp at hf, rfl⟩
      rw [hi.2, List.take_of_length_le (by omega)]
    · rintro ⟨t, rfl, _, _, _, ht⟩
      rw [List.eq_nil_of_length_eq_zero ht, List.append_nil]
  | n + 1, h, x, hn, hi => by
    rw [hG, List.mem_flatMap]
    have key : ∀ f : Nat, f < 13 → ((hoistsFit d h (f : Int) && !h.contains (f : Int)) = true) → inv d (h ++ [(f : Int)]) := by
      intro f hf hg
      obtain ⟨h1, h2⟩ := (ext_iff d h f hf (by omega) hi).1 hg
      exact ⟨h1, by rw [h2, List.length_append]; rfl⟩
    constructor
    · rintro ⟨f, hf, hx⟩
      have hf13 : f < 13 := List.mem_range.1 hf
      split at hx
      · rename_i hg
        unfold goodF at hg
        simp only [Bool.and_eq_true] at hg
        have hi' := key f hf13 (by rw [Bool.and_eq_true]; exact ⟨hg.1, hg.2.2⟩)
        obtain ⟨t, rfl, h1, h2, h3, h4⟩ := (mem_hG d fl n (h ++ [(f : Int)]) x (by simp; omega) hi').1 hx
        refine ⟨(f : Int) :: t, by simp, h1, h2, fun g hgm => ?_, by simp [h4]⟩
        rcases List.mem_cons.1 hgm with rfl | hgm
        · exact hg.2.1
        · exact h3 g hgm
      · simp at hx
    · rintro ⟨t, rfl, h1, h2, h3, h4⟩
      match t, h4 with
      | g :: t, h4 =>
        have hall := h1.2
        simp only [List.all_append, List.all_cons, Bool.and_eq_true, inB, decide_eq_true_eq] at hall
        have hg0 : g = ((g.toNat : Nat) : Int) := by omega
        have hg13 : g.toNat < 13 := by omega
        rw [show h ++ g :: t = h ++ [g] ++ t by simp] at h1 h2 ⊢
        rw [hg0] at h1 h2 ⊢
        have hvp : vP (h ++ [((g.toNat : Nat) : Int)]) := by
          have := h1.1
          rw [anyPre_app, Bool.or_eq_false_iff] at this
          have h5 := h1.2
          rw [List.all_append, Bool.and_eq_true] at h5
          exact ⟨this.1, h5.1⟩
        have hmn : meansL [] (h ++ [((g.toNat : Nat) : Int)]) = d.take (h.length + 1) := by
          have := meansL_pre (meansL [] (h ++ [((g.toNat : Nat) : Int)])) t
          rw [← meansL_app, h2, meansL_len] at this
          simpa using this.symm
        have hext := (ext_iff d h g.toNat hg13 (by omega) hi).2 ⟨hvp, hmn⟩
        have hbit : fl.testBit g.toNat = true := h3 g (by simp)
        refine ⟨g.toNat, List.mem_range.2 hg13, ?_⟩
        rw [if_pos (by
          unfold goodF
          simp only [Bool.and_eq_true] at hext ⊢
          exact ⟨hext.1, hbit, hext.2⟩)]
        exact (mem_hG d fl n _ _ (by simp; simp at h4; omega) (key _ hg13 hext)).2 ⟨t, rfl, h1, h2, fun f hf => h3 f (by simp [hf]), by simpa using h4⟩
def RH (d : List Int) (fl : Nat) : List (List Int) := hG d fl d.length []
theorem mem_RH (d : List Int) (fl : Nat) (x : List Int) : x ∈ RH d fl ↔ vP x ∧ meansL [] x = d ∧ uses fl x := by
  unfold RH
  rw [mem_hG d fl d.length [] x (by simp) ⟨⟨rfl, rfl⟩, by simp [meansL]⟩]
  constructor
  · rintro ⟨t, rfl, h1, h2, h3, _⟩
    exact ⟨h1, h2, by simpa using h3⟩
  · rintro ⟨h1, h2, h3⟩
    refine ⟨x, by simp, h1, h2, h3, ?_⟩
    have := congrArg List.length h2
    rw [meansL_len] at this
    simpa using this
/-! The document's search: level by level. -/
def stepH (d : List Int) (fl : Nat) (L : List (List Int)) : List (List Int) := L.flatMap fun h => (List.range 13).flatMap fun f => if goodF d fl h f = true then [h ++ [(f : Int)]] else []
def iterH (d : List Int) (fl : Nat) : Nat → List (List Int) → List (List Int)
  | 0, L => L
  | n + 1, L => iterH d fl n (stepH d fl L)
theorem iterH_flat (d : List Int) (fl : Nat) : ∀ (n : Nat) (L : List (List Int)), iterH d fl n L = L.flatMap (hG d fl n)
  | 0, L => by
    rw [iterH]
    induction L with
    | nil => rfl
    | cons a L ih => rw [List.flatMap_cons, ← ih, hG]; rfl
  | n + 1, L => by
    rw [iterH, iterH_flat d fl n, stepH, List.flatMap_assoc]
    refine flatMap_cg fun h _ => ?_
    rw [List.flatMap_assoc, hG]
    refine flatMap_cg fun f _ => ?_
    split <;> simp
theorem iterH_succ (d : List Int) (fl : Nat) : ∀ (n : Nat) (L : List (List Int)), iterH d fl (n + 1) L = stepH d fl (iterH d fl n L)
  | 0, _ => rfl
  | n + 1, L => by rw [iterH, iterH_succ d fl n, ← iterH]
theorem stepH_len (d : List Int) (fl : Nat) (L : List (List Int)) : (stepH d fl L).length ≤ 13 * L.length := by
  unfold stepH
  induction L with
  | nil => simp
  | cons a L ih =>
    rw [List.flatMap_cons, List.length_append, List.length_cons]
    have : ∀ k, ((List.range k).flatMap fun f => if goodF d fl a f = true then [a ++ [(f : Int)]] else []).length ≤ k := by
      intro k
      induction k with
      | zero => simp
      | succ k ih => rw [List.range_succ, List.flatMap_append, List.length_append]; simp only [List.flatMap_cons, List.flatMap_nil, List.append_nil]; split <;> simp only [List.length_cons, List.length_nil] <;> omega
    have := this 13
    omega
end Go.Fw
