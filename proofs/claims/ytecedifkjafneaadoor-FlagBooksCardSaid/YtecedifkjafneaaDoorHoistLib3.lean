/-
  The usual hoist, plain: both functions build the same one; it is valid and means the number. No condition.
-/
import Derived.Test.YtecedifkjafneaaDoorHoistLib2
namespace Go.Fw

/-- What the usual hoist of the digits so far is. -/
def PH (pre h : List Int) : Prop := vP h ∧ meansL [] h = pre ∧ (∀ x : Int, 0 ≤ x → x ≤ 9 → (x ∈ h ↔ x ∈ pre)) ∧ ∀ j : Nat, j < pre.length → (((10 + j : Nat) : Int) ∈ h ↔ ∃ i, j < i ∧ i < pre.length ∧ pre[i]? = pre[j]?)
theorem PH_nil : PH [] [] := ⟨⟨rfl, rfl⟩, rfl, fun _ _ _ => Iff.rfl, fun j hj => by simp at hj⟩
theorem PH_len {pre h : List Int} (hp : PH pre h) : h.length = pre.length := by
  have := congrArg List.length hp.2.1
  rw [meansL_len] at this
  simpa using this
/-- A substitute in a valid hoist repeats a place before its own. -/
theorem anyPre_memG : ∀ (l pre : List Int) {j : Nat}, anyPre badF pre l = false → ((10 + j : Nat) : Int) ∈ l → j + 1 < pre.length + l.length
  | x :: l, pre, j, h, hm => by
    rw [anyPre, Bool.or_eq_false_iff] at h
    rcases List.mem_cons.1 hm with e | hm
    · have := h.1
      unfold badF at this
      rw [← e, Bool.or_eq_false_iff, Bool.and_eq_false_iff] at this
      have h2 := this.2.resolve_left (by simp; omega)
      have h3 : ¬ ((pre.length : Int) ≤ ((10 + j : Nat) : Int) - 10) := by simpa using h2
      simp; omega
    · have := anyPre_memG l (pre ++ [x]) h.2 hm
      simp at this ⊢; omega
theorem anyPre_mem (h : List Int) {j : Nat} (hv : anyPre badF [] h = false) (hm : ((10 + j : Nat) : Int) ∈ h) : j + 1 < h.length := by
  have := anyPre_memG h [] hv hm
  simpa using this
theorem last_ex {x : Int} : ∀ {l : List Int}, x ∈ l → ∃ j : Nat, l[j]? = some x ∧ ∀ i, j < i → l[i]? ≠ some x := by
  intro l
  induction l with
  | nil => intro h; simp at h
  | cons a l ih =>
    intro h
    by_cases hx : x ∈ l
    · obtain ⟨j, h1, h2⟩ := ih hx
      refine ⟨j + 1, by simpa using h1, fun i hi => ?_⟩
      obtain ⟨i, rfl⟩ : ∃ i', i = i' + 1 := ⟨i - 1, by omega⟩
      simpa using h2 i (by omega)
    · have hxa : x = a := by
        rcases List.mem_cons.1 h with h | h
        · exact h
        · exact absurd h hx
      refine ⟨0, by simp [hxa], fun i hi e => ?_⟩
      obtain ⟨i, rfl⟩ : ∃ i', i = i' + 1 := ⟨i - 1, by omega⟩
      simp only [List.getElem?_cons_succ] at e
      exact hx (List.mem_of_getElem? e)
/-- A further digit. -/
theorem PH_step {pre h : List Int} {x : Int} (hp : PH pre h) (hx0 : 0 ≤ x) (hx9 : x ≤ 9) (hlen : pre.length ≤ 3) :
    ∃ f : Nat, f < 13 ∧ PH (pre ++ [x]) (h ++ [(f : Int)]) ∧ ((x ∉ h ∧ (f : Int) = x) ∨ (x ∈ h ∧ ∃ j, f = 10 + j ∧ j < pre.length ∧ pre[j]? = some x ∧ ((10 + j : Nat) : Int) ∉ h ∧ ∀ j', j' < j → pre[j']? = some x → ((10 + j' : Nat) : Int) ∈ h)) := by
  have hl := PH_len hp
  obtain ⟨hv, hm, hA, hB⟩ := hp
  by_cases hx : x ∈ h
  · have hxp := (hA x hx0 hx9).1 hx
    obtain ⟨j, hj1, hj2⟩ := last_ex hxp
    have hjl := (List.getElem?_eq_some_iff.1 hj1).1
    have hnot : ((10 + j : Nat) : Int) ∉ h := by
      rw [hB j hjl]
      rintro ⟨i, h1, h2, h3⟩
      exact hj2 i h1 (h3.trans hj1)
    refine ⟨10 + j, by omega, ⟨?_, ?_, ?_, ?_⟩, .inr ⟨hx, j, rfl, hjl, hj1, hnot, fun j' hj' he => (hB j' (by omega)).2 ⟨j, hj', hjl, hj1.trans he.symm⟩⟩⟩
    · refine (vP_snoc h (10 + j) (by omega) hv).2 ?_
      unfold badF
      rw [Bool.or_eq_false_iff, Bool.and_eq_false_iff]
      exact ⟨by simpa using hnot, .inr (by simp; omega)⟩
    · rw [meansL_app, hm]
      show pre ++ [_] = pre ++ [x]
      rw [List.append_right_inj, List.singleton_inj, if_pos (by omega), show (((10 + j : Nat) : Int) - 10) = ((j : Nat) : Int) by omega, idx_nat, hj1]; rfl
    · intro y hy0 hy9
      rw [List.mem_append, List.mem_append, hA y hy0 hy9, List.mem_singleton, List.mem_singleton]
      constructor
      · rintro (h | h)
        · exact .inl h
        · omega
      · rintro (h | h)
        · exact .inl h
        · subst h; exact .inl hxp
    · intro j' hj'
      rw [List.length_append, List.length_singleton] at hj'
      rw [List.mem_append, List.mem_singleton]
      constructor
      · rintro (h1 | h1)
        · by_cases hjn : j' < pre.length
          · obtain ⟨i, q1, q2, q3⟩ := (hB j' hjn).1 h1
            refine ⟨i, q1, by simp; omega, ?_⟩
            rw [List.getElem?_append_left q2, List.getElem?_append_left hjn]; exact q3
          · have := List.all_eq_true.1 hv.2 _ h1
            simp only [inB, Bool.and_eq_true, decide_eq_true_eq] at this
            have hj3 : j' = pre.length := by omega
            subst hj3
            have hbad := (anyPre_mem h hv.1 h1)
            omega
        · have : j' = j := by omega
          subst this
          refine ⟨pre.length, hjl, by simp, ?_⟩
          rw [List.getElem?_append_left hjl, List.getElem?_append_right (Nat.le_refl _), Nat.sub_self, hj1]; rfl
      · rintro ⟨i, q1, q2, q3⟩
        rw [List.length_append, List.length_singleton] at q2
        have hjn : j' < pre.length := by omega
        rw [List.getElem?_append_left hjn] at q3
        by_cases hi : i < pre.length
        · rw [List.getElem?_append_left hi] at q3
          exact .inl ((hB j' hjn).2 ⟨i, q1, hi, q3⟩)
        · have hi' : i = pre.length := by omega
          subst hi'
          rw [List.getElem?_append_right (Nat.le_refl _), Nat.sub_self, List.getElem?_cons_zero] at q3
          by_cases hjj : j' = j
          · exact .inr (by omega)
          · have hlt : j' < j := by
              rcases Nat.lt_or_gt_of_ne hjj with h | h
              · exact h
              · exact absurd q3.symm (hj2 j' h)
            exact .inl ((hB j' hjn).2 ⟨j, hlt, hjl, hj1.trans q3⟩)
  · have hxp : x ∉ pre := fun h => hx ((hA x hx0 hx9).2 h)
    obtain ⟨f, rfl⟩ : ∃ f : Nat, x = (f : Int) := ⟨x.toNat, by omega⟩
    refine ⟨f, by omega, ⟨?_, ?_, ?_, ?_⟩, .inl ⟨hx, rfl⟩⟩
    · refine (vP_snoc h f (by omega) hv).2 ?_
      unfold badF
      rw [Bool.or_eq_false_iff, Bool.and_eq_false_iff]
      exact ⟨by simpa using hx, .inl (by simp; omega)⟩
    · rw [meansL_app, hm]
      show pre ++ [_] = pre ++ [(f : Int)]
      rw [if_neg (by omega)]
    · intro y hy0 hy9
      rw [List.mem_append, List.mem_append, hA y hy0 hy9]
    · intro j' hj'
      rw [List.length_append, List.length_singleton] at hj'
      rw [List.mem_append, List.mem_singleton]
      constructor
      · rintro (h1 | h1)
        · by_cases hjn : j' < pre.length
          · obtain ⟨i, q1, q2, q3⟩ := (hB j' hjn).1 h1
            refine ⟨i, q1, by simp; omega, ?_⟩
            rw [List.getElem?_append_left q2, List.getElem?_append_left hjn]; exact q3
          · have hj3 : j' = pre.length := by omega
            subst hj3
            have hbad := (anyPre_mem h hv.1 h1)
            omega
        · omega
      · rintro ⟨i, q1, q2, q3⟩
        rw [List.length_append, List.length_singleton] at q2
        have hjn : j' < pre.length := by omega
        rw [List.getElem?_append_left hjn] at q3
        by_cases hi : i < pre.length
        · rw [List.getElem?_append_left hi] at q3
          exact .inl ((hB j' hjn).2 ⟨i, q1, hi, q3⟩)
        · have hi' : i = pre.length := by omega
          subst hi'
          rw [List.getElem?_append_right (Nat.le_refl _), Nat.sub_self, List.getElem?_cons_zero] at q3
          exact absurd (List.mem_of_getElem? q3.symm) hxp
/-- The document's step. -/
def gR (h : List Int) (x : Int) : List Int := match ([x, 10, 11, 12] : List Int).find? (fun f => vH (h ++ [f]) && decide ((meansL [] (h ++ [f])).getLast? = some x)) with | some f => h ++ [f] | none => h
theorem vH_snoc {pre h : List Int} (hp : PH pre h) (hlen : pre.length ≤ 3) (f : Nat) (hf : f < 13) : vH (h ++ [(f : Int)]) = !badF h (f : Int) := by
  have hl := PH_len hp
  rw [Bool.eq_iff_iff, vH_iff, vP_snoc h f hf hp.1]
  simp
  omega
theorem last_snoc {pre h : List Int} (hp : PH pre h) (f : Int) : (meansL [] (h ++ [f])).getLast? = some (if 10 ≤ f then (idx pre (f - 10)).getD 0 else f) := by
  rw [meansL_app, hp.2.1]
  show (pre ++ [_]).getLast? = _
  rw [List.getLast?_append]; rfl
theorem gR_step {pre h : List Int} {x : Int} (hp : PH pre h) (hx0 : 0 ≤ x) (hx9 : x ≤ 9) (hlen : pre.length ≤ 3) : PH (pre ++ [x]) (gR h x) ∧
    ((x ∉ h ∧ gR h x = h ++ [x]) ∨ (x ∈ h ∧ ∃ j, gR h x = h ++ [((10 + j : Nat) : Int)] ∧ j < pre.length ∧ pre[j]? = some x ∧ ((10 + j : Nat) : Int) ∉ h ∧ ∀ j', j' < j → pre[j']? = some x → ((10 + j' : Nat) : Int) ∈ h)) := by
  have hl := PH_len hp
  obtain ⟨f, hf, hP, hc⟩ := PH_step hp hx0 hx9 hlen
  obtain ⟨xn, rfl⟩ : ∃ xn : Nat, x = (xn : Int) := ⟨x.toNat, by omega⟩
  have ex : vH (h ++ [(xn : Int)]) = !badF h (xn : Int) := vH_snoc hp hlen xn (by omega)
  rcases hc with ⟨hx, hfx⟩ | ⟨hx, j, rfl, hj1, hj2, hj3, hj4⟩
  · have e : gR h (xn : Int) = h ++ [(xn : Int)] := by
      unfold gR
      have : (vH (h ++ [(xn : Int)]) && decide ((meansL [] (h ++ [(xn : Int)])).getLast? = some (xn : Int))) = true := by
        rw [ex, last_snoc hp, if_neg (by omega)]
        have : badF h (xn : Int) = false := by unfold badF; rw [Bool.or_eq_false_iff, Bool.and_eq_false_iff]; exact ⟨by simpa using hx, .inl (by simp; omega)⟩
        simp [this]
      rw [List.find?_cons, this]
    rw [hfx] at hP
    exact ⟨by rw [e]; exact hP, .inl ⟨hx, e⟩⟩
  · have e : gR h (xn : Int) = h ++ [((10 + j : Nat) : Int)] := by
      unfold gR
      have h0 : (vH (h ++ [(xn : Int)]) && decide ((meansL [] (h ++ [(xn : Int)])).getLast? = some (xn : Int))) = false := by
        rw [ex]
        have : badF h (xn : Int) = true := by unfold badF; rw [Bool.or_eq_true]; exact .inl (by simpa using hx)
        simp [this]
      have hno : ∀ j', j' < j → (vH (h ++ [((10 + j' : Nat) : Int)]) && decide ((meansL [] (h ++ [((10 + j' : Nat) : Int)])).getLast? = some (xn : Int))) = false := by
        intro j' hj'
        rw [vH_snoc hp hlen (10 + j') (by omega), last_snoc hp, if_pos (by omega), show (((10 + j' : Nat) : Int) - 10) = ((j' : Nat) : Int) by omega, idx_nat, List.getElem?_eq_getElem (by omega)]
        by_cases he : pre[j']'(by omega) = (xn : Int)
        · have hb : badF h ((10 + j' : Nat) : Int) = true := by
            unfold badF; rw [Bool.or_eq_true]
            exact .inl (by have := hj4 j' hj' (by rw [List.getElem?_eq_getElem (by omega), he]); simpa using this)
          rw [hb]; rfl
        · have : ¬ (some ((some (pre[j']'(by omega))).getD 0) = some (xn : Int)) := by simpa using he
          rw [decide_eq_false this, Bool.and_false]
      have hyes : (vH (h ++ [((10 + j : Nat) : Int)]) && decide ((meansL [] (h ++ [((10 + j : Nat) : Int)])).getLast? = some (xn : Int))) = true := by
        rw [vH_snoc hp hlen (10 + j) (by omega), last_snoc hp, if_pos (by omega), show (((10 + j : Nat) : Int) - 10) = ((j : Nat) : Int) by omega, idx_nat, hj2]
        have hb : badF h ((10 + j : Nat) : Int) = false := by
          unfold badF
          rw [Bool.or_eq_false_iff, Bool.and_eq_false_iff]
          exact ⟨by simpa using hj3, .inr (by simp; omega)⟩
        rw [hb]; simp
      have hj : j = 0 ∨ j = 1 ∨ j = 2 := by omega
      rcases hj with rfl | rfl | rfl
      · rw [List.find?_cons, h0, List.find?_cons, show (10 : Int) = ((10 + 0 : Nat) : Int) from rfl, hyes]
      · rw [List.find?_cons, h0, List.find?_cons, show (10 : Int) = ((10 + 0 : Nat) : Int) from rfl, hno 0 (by omega), List.find?_cons, show (11 : Int) = ((10 + 1 : Nat) : Int) from rfl, hyes]
      · rw [List.find?_cons, h0, List.find?_cons, show (10 : Int) = ((10 + 0 : Nat) : Int) from rfl, hno 0 (by omega), List.find?_cons, show (11 : Int) = ((10 + 1 : Nat) : Int) from rfl, hno 1 (by omega), List.find?_cons, show (12 : Int) = ((10 + 2 : Nat) : Int) from rfl, hyes]
    exact ⟨by rw [e]; exact hP, .inr ⟨hx, j, e, hj1, hj2, hj3, hj4⟩⟩
def hoistP (d : List Int) : List Int := d.foldl gR []
theorem hoistP_PH (d : List Int) (hd : ∀ x ∈ d, 0 ≤ x ∧ x ≤ 9) (hl : d.length ≤ 4) : ∀ i, i ≤ d.length → PH (d.take i) (hoistP (d.take i)) := by
  intro i
  induction i with
  | zero => intro _; exact PH_nil
  | succ i ih =>
    intro hi
    have hx := hd _ (List.getElem_mem (l := d) (n := i) (by omega))
    have e : d.take (i + 1) = d.take i ++ [d[i]] := by rw [List.take_add_one, List.getElem?_eq_getElem (by omega)]; rfl
    rw [e, hoistP, List.foldl_append]
    exact (gR_step (ih (by omega)) hx.1 hx.2 (by rw [List.length_take]; omega)).1
def hoistR (d : List Int) : List Int × Int := if vD d = true then (hoistP d, 0) else ([], 1)
theorem Hoist_eq (d : List Int) : flag_Hoist d = some (hoistR d) := by
  unfold flag_Hoist hoistR
  rw [ValidDigits_eq]
  cases hv : vD d with
  | false => rfl
  | true =>
    obtain ⟨⟨h1, h2⟩, h3⟩ := (vD_iff d).1 hv
    simp only [Option.bind_some, Bool.not_true, Bool.false_eq_true, if_false, if_true]
    rw [Int.toNat_natCast, rangeN_step (fun i => hoistP (d.take i)) d.length [] rfl]
    · simp only [Option.bind_some, List.take_length]
    · intro i hi
      have hx := h3 _ (List.getElem_mem (l := d) (n := i) hi)
      have hPH := hoistP_PH d h3 h2 i (by omega)
      have htl : (d.take i).length = i := by rw [List.length_take]; omega
      have hhl := PH_len hPH
      have e : hoistP (d.take (i + 1)) = gR (hoistP (d.take i)) d[i] := by
        rw [List.take_add_one, List.getElem?_eq_getElem hi, hoistP, List.foldl_append]; rfl
      rw [idx_at (List.getElem?_eq_getElem hi), e]
      simp only [Option.bind_some, contains_eq]
      obtain ⟨_, ⟨hn, hg⟩ | ⟨hm, j, hg, hj1, hj2, hj3, hj4⟩⟩ := gR_step hPH hx.1 hx.2 (by omega)
      · have : (hoistP (d.take i)).contains d[i] = false := by simpa using hn
        rw [this, hg]
        simp only [Bool.false_eq_true, if_false, Option.bind_some]
        rw [appI_ok (by simp; omega)]; rfl
      · have : (hoistP (d.take i)).contains d[i] = true := by simpa using hm
        rw [this, hg]
        simp only [if_true]
        have hstep : ∀ j' : Nat, j' < i → ((((if (hoistP (d.take i)).contains ((10 + j' : Nat) : Int) = true then some true else (flag_place ((10 + j' : Nat) : Int)).bind (fun t4 => some (decide ((i : Int) ≤ t4)))) : Option Bool).bind (fun b1 =>
              ((if b1 = true then some true else (flag_place ((10 + j' : Nat) : Int)).bind (fun t5 => (idx d t5).bind (fun x2 => some (x2 != d[i])))) : Option Bool).bind (fun b2 => (if b2 = true then (addI ((10 + j' : Nat) : Int) 1).bind (fun t6 => some (Step.cont t6)) else some (Step.done ((10 + j' : Nat) : Int)))))) : Option (Step Int Int)) =
            (if (hoistP (d.take i)).contains ((10 + j' : Nat) : Int) = true ∨ d[j']? ≠ some d[i] then some (Step.cont ((10 + (j' + 1) : Nat) : Int)) else some (Step.done ((10 + j' : Nat) : Int))) := by
          intro j' hj'
          have hpl : flag_place ((10 + j' : Nat) : Int) = some ((j' : Nat) : Int) := by unfold flag_place; rw [subI_ok (by omega)]; simp only [Option.bind_some, Option.some.injEq]; omega
          have hadd : addI ((10 + j' : Nat) : Int) 1 = some ((10 + (j' + 1) : Nat) : Int) := by rw [addI_ok (by omega)]; rfl
          have hd1 : d[j']? = some (d[j']'(by omega)) := List.getElem?_eq_getElem (by omega)
          simp only [hpl, Option.bind_some, idx_nat, hd1, hadd]
          cases hc : (hoistP (d.take i)).contains ((10 + j' : Nat) : Int) with
          | true => simp
          | false =>
            have hle : decide ((i : Int) ≤ ((j' : Nat) : Int)) = false := decide_eq_false (by omega)
            simp only [Bool.false_eq_true, if_false, Option.bind_some, hle, false_or]
            by_cases he : d[j']'(by omega) = d[i]
            · rw [if_neg (by simp [he]), if_neg (by simp [he])]
            · rw [if_pos (by simpa using he), if_pos (by simpa using he)]
        have hloop : ∀ m j' : Nat, j' + m = j → loopR (S := Int) (X := Int) (fun (z5 : Int) => (some ((hoistP (d.take i)).contains z5)).bind (fun t3 =>
                ((if t3 = true then some true else (flag_place z5).bind (fun t4 => some (decide ((i : Int) ≤ t4)))) : Option Bool).bind (fun b1 =>
                ((if b1 = true then some true else (flag_place z5).bind (fun t5 => (idx d t5).bind (fun x2 => some (x2 != d[i])))) : Option Bool).bind (fun b2 =>
                (if b2 = true then (addI z5 1).bind (fun t6 => some (Step.cont t6)) else some (Step.done z5)))))) ((10 + j' : Nat) : Int) = some ((10 + j : Nat) : Int) := by
          intro m
          induction m with
          | zero =>
            intro j' hj'
            obtain rfl : j' = j := by omega
            refine loopR_done ?_
            rw [Option.bind_some, hstep j' (by omega), if_neg]
            rintro (h | h)
            · exact hj3 (by simpa using h)
            · rw [List.getElem?_take, if_pos (by omega)] at hj2
              exact h hj2
          | succ m ih =>
            intro j' hj'
            rw [loopR_cont ((10 + (j' + 1) : Nat) : Int)]
            · exact ih (j' + 1) (by omega)
            · rw [Option.bind_some, hstep j' (by omega), if_pos]
              by_cases he : d[j']? = some d[i]
              · exact .inl (by have := hj4 j' (by omega) (by rw [List.getElem?_take, if_pos (by omega)]; exact he); simpa using this)
              · exact .inr he
        have h10 := hloop j 0 (by omega)
        rw [show (((10 + 0 : Nat)) : Int) = 10 from rfl] at h10
        simp only [Option.bind_some] at h10
        rw [h10]
        simp only [Option.bind_some]
        rw [appI_ok (by simp; omega)]; rfl
/-- Every number has a hoist with one set of flags. -/
theorem hoistP_mem (d : List Int) (hv : vD d = true) : hoistP d ∈ RH d 8191 := by
  obtain ⟨⟨h1, h2⟩, h3⟩ := (vD_iff d).1 hv
  have := hoistP_PH d h3 h2 d.length (Nat.le_refl _)
  rw [List.take_length] at this
  refine (mem_RH d _ _).2 ⟨this.1, this.2.1, fun f hf => ?_⟩
  have hall := List.all_eq_true.1 this.1.2 f hf
  simp only [inB, Bool.and_eq_true, decide_eq_true_eq] at hall
  have : ∀ n, n < 13 → (8191 : Nat).testBit n = true := by decide
  exact this _ (by omega)
end Go.Fw
