/-
  FlagCan, plain: its model gives true for whatever comes in. No condition.
-/
import Derived.Test.YtecedifkjafneaaCanLib
namespace Go.Fw
theorem meansL_ok : ∀ (h out pre : List Int), pre.length = out.length → anyPre badF pre h = false → h.all (inB 0 12) = true → (∀ x ∈ out, 0 ≤ x ∧ x ≤ 9) → ∀ x ∈ meansL out h, 0 ≤ x ∧ x ≤ 9
  | [], _, _, _, _, _, ho => ho
  | f :: h, out, pre, hl, hv, ha, ho => by
    rw [anyPre, Bool.or_eq_false_iff] at hv
    rw [List.all_cons, Bool.and_eq_true] at ha
    rw [meansL]
    refine meansL_ok h _ (pre ++ [f]) (by simp [hl]) hv.2 ha.2 fun x hx => ?_
    rcases List.mem_append.1 hx with hx | hx
    · exact ho x hx
    · obtain rfl := List.mem_singleton.1 hx
      have hf := ha.1
      simp only [inB, Bool.and_eq_true, decide_eq_true_eq] at hf
      by_cases h10 : 10 ≤ f
      · rw [if_pos h10]
        have hb := hv.1
        unfold badF at hb
        rw [Bool.or_eq_false_iff, Bool.and_eq_false_iff] at hb
        have h2 : ¬ ((pre.length : Int) ≤ f - 10) := by
          rcases hb.2 with h | h
          · simp at h; omega
          · simpa using h
        rw [idx_int (by omega) (by omega)]
        exact ho _ (List.getElem_mem _)
      · rw [if_neg h10]; omega
theorem rangeL_step {α S X : Type} {body : Int → α → S → Option (Step S X)} {fin : S → X} (G : Nat → S) (l : List α) (s : S) (h0 : G 0 = s) (hb : ∀ (j : Nat) x, l[j]? = some x → body (j : Int) x (G j) = some (.cont (G (j + 1)))) :
    rangeL body fin l 0 s = some (fin (G l.length)) := by
  subst h0
  obtain ⟨s', h1, h2⟩ := rangeL_inv (body := body) (fin := fin) (fun j s' => s' = G j) l (G 0) (fun j x s' hj h => ⟨_, by rw [h]; exact hb j x hj, rfl⟩) rfl
  rw [h1, h2]
theorem rnumber_eq (l : List Int) (h : ∀ x ∈ l, 0 ≤ x ∧ x ≤ 9) (hl : l.length ≤ 4) : noongunref07_number l = some ((valN l : Nat) : Int) := by
  unfold noongunref07_number
  rw [rangeL_step (fun j => ((valN (l.take j) : Nat) : Int)) l 0 rfl]
  · rw [List.take_length]; rfl
  · intro j x hj
    have hlt := (List.getElem?_eq_some_iff.1 hj).1
    have hx := h x (List.mem_of_getElem? hj)
    have hv := valN_lt (l.take j) fun y hy => h y (List.mem_of_mem_take hy)
    have hp := pow4 (l.take j).length (by rw [List.length_take]; omega)
    have e : valN (l.take (j + 1)) = 10 * valN (l.take j) + x.toNat := by
      rw [List.take_add_one, hj]
      unfold valN
      rw [List.foldl_append]; rfl
    rw [mulI_ok (by omega), Option.bind_some, addI_ok (by omega), e]
    simp only [Option.bind_some, Option.some.injEq, Step.cont.injEq]
    omega
/-! All hoists of some flags. -/
def stepV (fl : Nat) (L : List (List Int)) : List (List Int) := L.flatMap fun h => (List.range 13).flatMap fun (f : Nat) => if (fl.testBit f && vH (h ++ [(f : Int)])) = true then [h ++ [(f : Int)]] else []
def iterV (fl : Nat) : Nat → List (List Int)
  | 0 => [[]]
  | n + 1 => stepV fl (iterV fl n)
theorem rowV_len (fl : Nat) (h : List Int) : ((List.range 13).flatMap fun (f : Nat) => if (fl.testBit f && vH (h ++ [(f : Int)])) = true then [h ++ [(f : Int)]] else []).length ≤ 13 := by
  have : ∀ k, ((List.range k).flatMap fun (f : Nat) => if (fl.testBit f && vH (h ++ [(f : Int)])) = true then [h ++ [(f : Int)]] else []).length ≤ k := by
    intro k
    induction k with
    | zero => simp
    | succ k ih => rw [List.range_succ, List.flatMap_append, List.length_append]; simp only [List.flatMap_cons, List.flatMap_nil, List.append_nil]; split <;> simp only [List.length_cons, List.length_nil] <;> omega
  exact this 13
theorem iterV_len (fl : Nat) : ∀ n, (iterV fl n).length ≤ 13 ^ n
  | 0 => by simp [iterV]
  | n + 1 => by
    have hs : ∀ L : List (List Int), (stepV fl L).length ≤ 13 * L.length := by
      intro L
      unfold stepV
      induction L with
      | nil => simp
      | cons a L ih =>
        rw [List.flatMap_cons, List.length_append, List.length_cons]
        have := rowV_len fl a
        omega
    have h1 := hs (iterV fl n)
    have h2 := iterV_len fl n
    rw [iterV, Nat.pow_succ]; omega
theorem mem_iterV (fl : Nat) : ∀ n, n ≤ 4 → ∀ h, h ∈ iterV fl n ↔ h.length = n ∧ vP h ∧ uses fl h
  | 0, _, h => by
    rw [iterV, List.mem_singleton]
    constructor
    · rintro rfl; exact ⟨rfl, ⟨rfl, rfl⟩, fun _ hf => by simp at hf⟩
    · rintro ⟨h1, _⟩; exact List.eq_nil_of_length_eq_zero h1
  | n + 1, hn, h => by
    rw [iterV, stepV, List.mem_flatMap]
    constructor
    · rintro ⟨h0, hh0, hm⟩
      obtain ⟨k1, k2, k3⟩ := (mem_iterV fl n (by omega) h0).1 hh0
      obtain ⟨f, hf, hm⟩ := List.mem_flatMap.1 hm
      split at hm
      · rename_i hc
        rw [Bool.and_eq_true] at hc
        obtain rfl := List.mem_singleton.1 hm
        refine ⟨by simp [k1], ((vH_iff _).1 hc.2).2, fun g hg => ?_⟩
        rcases List.mem_append.1 hg with hg | hg
        · exact k3 g hg
        · obtain rfl := List.mem_singleton.1 hg
          exact hc.1
      · simp at hm
    · rintro ⟨h1, h2, h3⟩
      have hne : h ≠ [] := by intro e; rw [e] at h1; simp at h1
      obtain ⟨h0, g, rfl⟩ : ∃ h0 g, h = h0 ++ [g] := ⟨h.dropLast, h.getLast hne, (List.dropLast_concat_getLast hne).symm⟩
      have hall := h2.2
      rw [List.all_append, Bool.and_eq_true] at hall
      have hg := hall.2
      simp only [List.all_cons, List.all_nil, Bool.and_true, inB, Bool.and_eq_true, decide_eq_true_eq] at hg
      have hv0 : vP h0 := ⟨by have := h2.1; rw [anyPre_snoc, Bool.or_eq_false_iff] at this; exact this.1, hall.1⟩
      have hg0 : g = ((g.toNat : Nat) : Int) := by omega
      refine ⟨h0, (mem_iterV fl n (by omega) h0).2 ⟨by simpa using h1, hv0, fun f hf => h3 f (by simp [hf])⟩, List.mem_flatMap.2 ⟨g.toNat, List.mem_range.2 (by omega), ?_⟩⟩
      rw [← hg0, if_pos]
      · simp
      · rw [Bool.and_eq_true]
        exact ⟨h3 g (by simp), (vH_iff _).2 ⟨by simp at h1 ⊢; omega, h2⟩⟩
/-! Each number once. -/
theorem countP_ins (p : Nat → Bool) (m : Nat) (hp : p m = false) : ∀ n, m < n → (List.range n).countP (fun k => p k || (m == k)) = (List.range n).countP p + 1
  | 0, h => by omega
  | n + 1, h => by
    rw [List.range_succ, List.countP_append, List.countP_append, List.countP_singleton, List.countP_singleton]
    by_cases e : m = n
    · subst e
      have : (List.range m).countP (fun k => p k || (m == k)) = (List.range m).countP p := by
        refine List.countP_congr fun k hk => ?_
        have := List.mem_range.1 hk
        have hne : (m == k) = false := by rw [beq_eq_false_iff_ne]; omega
        rw [hne, Bool.or_false]
      rw [this, hp]; simp
    · rw [countP_ins p m hp n (by omega)]
      have hne : (m == n) = false := by rw [beq_eq_false_iff_ne]; omega
      rw [hne, Bool.or_false]; omega
theorem countP_cut (p : Nat → Bool) (a : Nat) : ∀ b, a ≤ b → (∀ m, a ≤ m → m < b → p m = false) → (List.range b).countP p = (List.range a).countP p
  | 0, h, _ => by rw [show a = 0 by omega]
  | b + 1, h, hp => by
    by_cases e : a = b + 1
    · rw [e]
    · rw [List.range_succ, List.countP_append, List.countP_singleton, hp b (by omega) (by omega), countP_cut p a b (by omega) fun m h1 h2 => hp m h1 (by omega)]; rfl
def numH (h : List Int) : Nat := valN (meansL [] h)
def seenB (B : List (List Int)) (j m : Nat) : Bool := (B.take j).any fun h => numH h == m
theorem seen_succ {B : List (List Int)} {j : Nat} {x : List Int} (hj : B[j]? = some x) (m : Nat) : seenB B (j + 1) m = (seenB B j m || (numH x == m)) := by
  unfold seenB
  rw [List.take_add_one, hj, List.any_append]; simp
theorem makeSeen (B : List (List Int)) (K : Nat) (hK : K = 10000) : makI (false : Bool) 10000 = some ((List.range K).map fun m => seenB B 0 m) := by
  have h1 : (List.range K).map (fun m => seenB B 0 m) = List.replicate K false := by
    rw [List.eq_replicate_iff]
    refine ⟨by simp, fun b hb => ?_⟩
    obtain ⟨m, _, rfl⟩ := List.mem_map.1 hb
    rfl
  have h2 : (10000 : Int) = ((K : Nat) : Int) := by omega
  rw [h1, h2]
  unfold makI
  rw [if_pos (by omega), Int.toNat_natCast]
theorem count_eq (N fl : Nat) (hN : 1 ≤ N ∧ N ≤ 4) (K : Nat) (hK : K = 10000) : (List.range K).countP (seenB (iterV fl N) (iterV fl N).length) = cnt N fl (10 ^ N) := by
  have hp4 := pow4 N hN.2
  have hall : ∀ m, seenB (iterV fl N) (iterV fl N).length m = (iterV fl N).any fun h => numH h == m := fun m => by unfold seenB; rw [List.take_length]
  have hrow : ∀ h ∈ iterV fl N, vP h ∧ uses fl h ∧ h.length = N ∧ (∀ x ∈ meansL [] h, 0 ≤ x ∧ x ≤ 9) ∧ (meansL [] h).length = N := by
    intro h hh
    obtain ⟨k1, k2, k3⟩ := (mem_iterV fl N (by omega) h).1 hh
    exact ⟨k2, k3, k1, meansL_ok h [] [] rfl k2.1 k2.2 (fun x hx => by simp at hx), by rw [meansL_len]; simpa using k1⟩
  rw [countP_cut _ (10 ^ N) K (by omega)]
  · unfold cnt
    refine List.countP_congr fun m hm => ?_
    have hm := List.mem_range.1 hm
    rw [hall]
    unfold canK
    constructor
    · intro h
      obtain ⟨h0, hh0, he⟩ := List.any_eq_true.1 h
      obtain ⟨k1, k2, k3, k4, k5⟩ := hrow h0 hh0
      have e : meansL [] h0 = dig N m := by
        rw [← dig_valN (meansL [] h0) k4, k5]
        have : valN (meansL [] h0) = m := by simpa [numH] using he
        rw [this]
      have hmem := (mem_RH (dig N m) fl h0).2 ⟨k1, e, k2⟩
      cases hR : RH (dig N m) fl with
      | nil => rw [hR] at hmem; simp at hmem
      | cons y l => rfl
    · intro h
      cases hR : RH (dig N m) fl with
      | nil => rw [hR] at h; simp at h
      | cons y l =>
        obtain ⟨q1, q2, q3⟩ := (mem_RH (dig N m) fl y).1 (by rw [hR]; simp)
        have hyl : y.length = N := by
          have := congrArg List.length q2
          rw [meansL_len, dig_len] at this
          simpa using this
        refine List.any_eq_true.2 ⟨y, (mem_iterV fl N (by omega) y).2 ⟨hyl, q1, q3⟩, ?_⟩
        unfold numH
        rw [q2, valN_dig N m hm]; simp
  · intro m h5 h6
    rw [hall, List.any_eq_false]
    intro h0 hh0
    obtain ⟨k1, k2, k3, k4, k5⟩ := hrow h0 hh0
    have := valN_lt _ k4
    rw [k5] at this
    have hne : ¬ numH h0 = m := by unfold numH; omega
    simpa using hne
theorem seen_body (x : List Int) (z12 : Int) (z13 : List Bool) (b : Bool) (hvh : vH x = true) (hok : ∀ y ∈ meansL [] x, 0 ≤ y ∧ y ≤ 9) (hl : (meansL [] x).length ≤ 4) (hget : idx z13 ((numH x : Nat) : Int) = some b) (hc : 0 ≤ z12 ∧ z12 ≤ 10000) :
    ((((noongunref07_means x).bind (fun t8 => (noongunref07_number t8).bind (fun t9 => (idx z13 t9).bind (fun x1 => (((if (!x1) = true then (idx z13 t9).bind (fun _ => (addI z12 1).bind (fun t10 => some (t10, (z13.set (Int.toNat t9) true)))) else some (z12, z13))) : Option (Int × (List Bool))).bind (fun o => match o with
      | (s11, s12) => some (s11, s12)))))) : Option (Int × (List Bool))).bind (fun o => match o with
      | (s9, s10) => some (Step.cont (X := Int) (s9, s10)))) = some (Step.cont (if b = true then (z12, z13) else (z12 + 1, z13.set (numH x) true))) := by
  rw [rmeans_eq x hvh, Option.bind_some, rnumber_eq _ hok hl, Option.bind_some, show valN (meansL [] x) = numH x from rfl, hget, Option.bind_some]
  cases b with
  | true => rfl
  | false =>
    simp only [Bool.not_false, if_true, Option.bind_some]
    rw [addI_ok (by omega)]
    rfl
theorem rCan_eq (n a : Int) : noongunref07_Can n a = some (canR n a) := by
  unfold noongunref07_Can canR
  have hin : (decide (n < 1) || decide (4 < n)) = !inB 1 4 n := by
    unfold inB
    rw [Bool.eq_iff_iff]
    simp only [Bool.or_eq_true, Bool.not_eq_true', Bool.and_eq_false_iff, decide_eq_true_eq, decide_eq_false_iff_not]
    omega
  rw [hin]
  cases h1 : inB 1 4 n with
  | false => simp
  | true =>
    simp only [Bool.not_true, Bool.false_eq_true, if_false, rset_eq, Option.bind_some]
    cases h2 : inB 0 8191 a with
    | false => simp
    | true =>
      obtain ⟨fl, rfl, hfl⟩ := set_nat h2
      have hn : 1 ≤ n ∧ n ≤ 4 := by unfold inB at h1; simpa using h1
      obtain ⟨N, rfl⟩ : ∃ N : Nat, n = (N : Int) := ⟨n.toNat, by omega⟩
      have hp4 := pow4 N (by omega)
      have h13 : ∀ i, i ≤ 4 → 13 ^ i ≤ 28561 := fun i hi => Nat.le_trans (Nat.pow_le_pow_right (by decide) hi) (by decide)
      have hchk : inI (N : Int) = true := by rw [inI_iff]; omega
      simp only [Bool.not_true, Bool.false_eq_true, if_false, chkI, hchk, if_true, Int.toNat_natCast, and_self]
      rw [rangeN_step (iterV fl) N [[]] rfl]
      · obtain ⟨K, hK⟩ : ∃ K : Nat, K = 10000 := ⟨_, rfl⟩
        have hmk := makeSeen (iterV fl N) K hK
        rw [Option.bind_some, hmk, Option.bind_some, rangeL_step (fun j => ((((List.range K).countP (seenB (iterV fl N) j) : Nat) : Int), (List.range K).map fun m => seenB (iterV fl N) j m)) (iterV fl N)]
        · have hcount := count_eq N fl (by omega) K hK
          simp only [Option.bind_some, hcount]
        · have : (List.range K).countP (seenB (iterV fl N) 0) = 0 := by
            rw [List.countP_eq_zero]
            intro m _
            simp [seenB]
          rw [this]; rfl
        · intro j x hj
          obtain ⟨k1, k2, k3⟩ := (mem_iterV fl N (by omega) x).1 (List.mem_of_getElem? hj)
          have hvh : vH x = true := (vH_iff x).2 ⟨by omega, k2⟩
          have hok := meansL_ok x [] [] rfl k2.1 k2.2 (fun x hx => by simp at hx)
          have hml : (meansL [] x).length = N := by rw [meansL_len]; simpa using k1
          have hlt := valN_lt _ hok
          rw [hml] at hlt
          have hget : idx ((List.range K).map fun m => seenB (iterV fl N) j m) ((numH x : Nat) : Int) = some (seenB (iterV fl N) j (numH x)) := by
            rw [idx_nat, List.getElem?_map, List.getElem?_range (by unfold numH; omega)]; rfl
          have hcl : (List.range K).countP (seenB (iterV fl N) j) ≤ K := by
            have := List.countP_le_length (p := seenB (iterV fl N) j) (l := List.range K)
            rwa [List.length_range] at this
          have hfun : seenB (iterV fl N) (j + 1) = fun m => (seenB (iterV fl N) j m || (numH x == m)) := funext fun m => seen_succ hj m
          refine (seen_body x _ _ _ hvh hok (by omega) hget (by omega)).trans ?_
          cases hs : seenB (iterV fl N) j (numH x) with
          | true =>
            have hsame : (fun m => (seenB (iterV fl N) j m || (numH x == m))) = seenB (iterV fl N) j := by
              funext m
              by_cases e : numH x = m
              · subst e; rw [hs]; rfl
              · have : (numH x == m) = false := by rw [beq_eq_false_iff_ne]; exact e
                rw [this, Bool.or_false]
            rw [hfun, hsame, if_pos rfl]
          | false =>
            have hset : ((List.range K).map fun m => seenB (iterV fl N) j m).set (numH x) true = (List.range K).map fun m => (seenB (iterV fl N) j m || (numH x == m)) := by
              refine List.ext_getElem (by simp) fun i h1 h2 => ?_
              rw [List.getElem_set]
              simp only [List.getElem_map, List.getElem_range]
              split
              · rename_i e
                have : (numH x == i) = true := by rw [beq_iff_eq]; exact e
                rw [this, Bool.or_true]
              · rename_i e
                have : (numH x == i) = false := by rw [beq_eq_false_iff_ne]; exact e
                rw [this, Bool.or_false]
            rw [hfun, countP_ins _ _ hs K (by unfold numH; omega), if_neg (by decide), hset]
            rfl
      · intro i hi
        have hL := iterV_len fl i
        have h4 := h13 i (by omega)
        rw [rangeL_flat (fun h => (List.range 13).flatMap fun (f : Nat) => if (fl.testBit f && vH (h ++ [(f : Int)])) = true then [h ++ [(f : Int)]] else []) 0 13]
        · simp only [Option.bind_some, List.nil_append]; rfl
        · exact fun h _ => rowV_len fl h
        · intro j h s hh hs
          obtain ⟨hl, _⟩ := (mem_iterV fl i (by omega) h).1 hh
          rw [show Int.toNat 13 = 13 from rfl, rangeN_flat (fun (f : Nat) => if (fl.testBit f && vH (h ++ [(f : Int)])) = true then [h ++ [(f : Int)]] else []) s.length 13]
          · simp only [Option.bind_some]
          · intro f _; split <;> simp
          · intro f z hf hz
            have a1 : appI ([] : List Int) h = some h := by rw [appI_ok (by simp; omega)]; rfl
            have a2 : appI h [(f : Int)] = some (h ++ [(f : Int)]) := appI_ok (by simp; omega)
            have a5 : ∀ x : List Int, appI z [x] = some (z ++ [x]) := fun x => appI_ok (by simp; omega)
            simp only [a1, a2, Option.bind_some, shr_of _ f hf, bit_of1 fl f (by omega), rValidHoist_eq]
            cases hb : fl.testBit f with
            | false => simp
            | true =>
              cases hv : vH (h ++ [(f : Int)]) with
              | false => simp
              | true => simp [a5]
          · exact Nat.le_refl _
        · simp
theorem law_noongunlaw07_FlagCan (a0 : Int) (_ : inI a0 = true) (a1 : Int) (_ : inI a1 = true) : noongunlaw07_FlagCan a0 a1 = some true := by
  unfold noongunlaw07_FlagCan
  simp only [Can_eq, rCan_eq, Option.bind_some, bne_self_eq_false, Bool.or_self, Bool.false_eq_true, if_false]
  by_cases h : a0 < 1 ∨ 4 < a0
  · have hin : ¬ inB 1 4 a0 = true := by unfold inB; simp only [Bool.and_eq_true, decide_eq_true_eq]; omega
    have hc : (decide (a0 < 1) || decide (4 < a0)) = true := by simpa using h
    have e : canR a0 a1 = (0, 7) := by unfold canR; rw [if_neg (fun h => hin h.1)]
    rw [hc, e]
    simp [awake_eq]
  · have hc : (decide (a0 < 1) || decide (4 < a0)) = false := by rw [Bool.or_eq_false_iff]; simp; omega
    rw [hc]
    obtain ⟨N, rfl⟩ : ∃ N : Nat, a0 = (N : Int) := ⟨a0.toNat, by omega⟩
    have hchk : inI (N : Int) = true := by rw [inI_iff]; omega
    have hin : inB 1 4 (N : Int) = true := by unfold inB; simp only [Bool.and_eq_true, decide_eq_true_eq]; omega
    have hin2 : inB 0 8191 8191 = true := rfl
    simp only [Bool.false_eq_true, if_false, chkI, hchk, if_true, Int.toNat_natCast, canR, hin, hin2, and_self]
    rw [show Int.toNat 8191 = 8191 from rfl, cnt_all N (by omega), rangeN_step (fun i => ((10 ^ i : Nat) : Int)) N 1 rfl]
    · simp [awake_eq]
    · intro i hi
      have hp := pow4 i (by omega)
      have e : mulI ((10 ^ i : Nat) : Int) 10 = some ((10 ^ (i + 1) : Nat) : Int) := by
        rw [Nat.pow_succ]
        generalize 10 ^ i = q at hp ⊢
        rw [mulI_ok (by omega)]; simp
      rw [e]; rfl
end Go.Fw
