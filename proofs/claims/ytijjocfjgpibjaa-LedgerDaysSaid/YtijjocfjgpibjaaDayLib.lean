/-
  The ledger's days, plain: sorted, each once; those with an off. No condition.
-/
import Derived.Test.YtijjocfjgpibjaaCorr
namespace Go.Fw

theorem small_eq (l : List GEntry) : noongunlaw09_small l = some (decide ((l.length : Int) ≤ 30)) := rfl
def sortI (l : List Int) : List Int := l.mergeSort fun x y => decide (x ≤ y)
theorem sortI_perm (l : List Int) : (sortI l).Perm l := List.mergeSort_perm l _
theorem sortI_le (l : List Int) : (sortI l).Pairwise (· ≤ ·) := by
  have := List.pairwise_mergeSort (le := fun x y : Int => decide (x ≤ y)) (fun a b c h1 h2 => by simp only [decide_eq_true_eq] at *; omega) (fun a b => by simp only [Bool.or_eq_true, decide_eq_true_eq]; omega) l
  exact this.imp fun h => by simpa using h
theorem sortI_lt {l : List Int} (h : l.Nodup) : (sortI l).Pairwise (· < ·) := by
  have h1 := sortI_le l
  have h2 : (sortI l).Nodup := (sortI_perm l).nodup_iff.2 h
  refine (h1.and h2).imp fun ⟨a, b⟩ => ?_
  omega
theorem sorted_unique : ∀ {l m : List Int}, l.Pairwise (· < ·) → m.Pairwise (· < ·) → (∀ x, x ∈ l ↔ x ∈ m) → l = m
  | [], [], _, _, _ => rfl
  | [], b :: m, _, _, h => by have := (h b).2 (by simp); simp at this
  | a :: l, [], _, _, h => by have := (h a).1 (by simp); simp at this
  | a :: l, b :: m, h1, h2, h => by
    have g1 := List.pairwise_cons.1 h1
    have g2 := List.pairwise_cons.1 h2
    have hab : a = b := by
      rcases List.mem_cons.1 ((h a).1 (by simp)) with e | e
      · exact e
      · rcases List.mem_cons.1 ((h b).2 (by simp)) with e2 | e2
        · exact e2.symm
        · have := g2.1 a e; have := g1.1 b e2; omega
    subst hab
    congr 1
    refine sorted_unique g1.2 g2.2 fun x => ⟨fun hx => ?_, fun hx => ?_⟩
    · rcases List.mem_cons.1 ((h x).1 (by simp [hx])) with e | e
      · have := g1.1 x hx; omega
      · exact e
    · rcases List.mem_cons.1 ((h x).2 (by simp [hx])) with e | e
      · have := g2.1 x hx; omega
      · exact e
/-- The days of entries, in ascending order, each once. -/
def daysL (l : List GEntry) : List Int := sortI (dedupI (l.map (·.Day)))
theorem daysL_lt (l : List GEntry) : (daysL l).Pairwise (· < ·) := sortI_lt (nodup_dedupI _)
theorem mem_daysL {l : List GEntry} {d : Int} : d ∈ daysL l ↔ ∃ e ∈ l, e.Day = d := by
  unfold daysL
  rw [(sortI_perm _).mem_iff, mem_dedupI, List.mem_map]
theorem daysL_len (l : List GEntry) : (daysL l).length ≤ l.length := by
  unfold daysL
  rw [(sortI_perm _).length_eq]
  have : ∀ m : List Int, (dedupI m).length ≤ m.length := by
    intro m
    induction m with
    | nil => simp [dedupI]
    | cons a m ih => rw [dedupI]; split <;> simp <;> omega
  have := this (l.map (·.Day))
  simpa using this
theorem vL_day {l : List GEntry} (h : vL l = true) {e : GEntry} (he : e ∈ l) : 0 ≤ e.Day ∧ e.Day ≤ 182985 := by
  unfold vL at h
  rw [Bool.and_eq_true] at h
  have := List.all_eq_true.1 h.1 e he
  simp only [vE, dayB, Bool.and_eq_true, decide_eq_true_eq] at this
  exact this.1
theorem daysL_day {l : List GEntry} (h : vL l = true) {d : Int} (hd : d ∈ daysL l) : 0 ≤ d ∧ d ≤ 182985 := by
  obtain ⟨e, he, rfl⟩ := mem_daysL.1 hd
  exact vL_day h he
theorem vL_len {l : List GEntry} (h : vL l = true) : l.length ≤ 1000 := by
  unfold vL at h
  rw [Bool.and_eq_true, decide_eq_true_eq] at h
  omega
theorem lastE_some (l : List GEntry) (d : Int) (f : Bool) : (lastE l d f).isSome = l.any fun e => decide (e.Day = d) && decide (e.Found = f) := by
  unfold lastE
  have : ∀ (L : List GEntry) (acc : Option Int), (L.foldl (fun acc e => if e.Day = d ∧ e.Found = f then some e.Error else acc) acc).isSome = (acc.isSome || L.any fun e => decide (e.Day = d) && decide (e.Found = f)) := by
    intro L
    induction L with
    | nil => intro acc; simp
    | cons x L ih =>
      intro acc
      rw [List.foldl_cons, ih, List.any_cons]
      by_cases h : x.Day = d ∧ x.Found = f
      · simp [h.1, h.2]
      · rw [if_neg h]
        have : (decide (x.Day = d) && decide (x.Found = f)) = false := by
          rw [Bool.and_eq_false_iff]; simpa using (show ¬ (x.Day = d) ∨ ¬ (x.Found = f) from Decidable.not_and_iff_not_or_not.1 h)
        rw [this, Bool.false_or]
  rw [this]; rfl
theorem mget_some {α β : Type} [DecidableEq α] (kv : List (α × β)) (k : α) : (mget kv k).isSome = true ↔ ∃ p ∈ kv, p.1 = k := by
  unfold mget
  rw [Option.isSome_map, List.find?_isSome]
  simp
/-- The page of entries. -/
theorem page_eq2 (l : List GEntry) : ∃ pg, ledger_pageOf l = some pg ∧ (∀ d f, mget pg (GKey.mk d f) = lastE l d f) ∧ pg.length ≤ l.length ∧ ∀ d, (∃ p ∈ pg, p.1.day = d) ↔ ∃ e ∈ l, e.Day = d := by
  obtain ⟨pg, h1, h2⟩ := page_eq l
  refine ⟨pg, h1, h2, ?_, fun d => ?_⟩
  · have : ledger_pageOf l = some (l.foldl (fun m (e : GEntry) => mput m (GKey.mk e.Day e.Found) e.Error) []) := by
      unfold ledger_pageOf
      simp only [ledger_of, Option.bind_some]
      rw [rangeL_fold (fun m (e : GEntry) => mput m (GKey.mk e.Day e.Found) e.Error) l 0 [] (fun i x s _ => rfl)]
      rfl
    rw [h1] at this
    rw [Option.some.inj this]
    have key : ∀ (L : List GEntry) (m : List (GKey × Int)), (L.foldl (fun m (e : GEntry) => mput m (GKey.mk e.Day e.Found) e.Error) m).length ≤ m.length + L.length := by
      intro L
      induction L with
      | nil => intro m; simp
      | cons x L ih =>
        intro m
        rw [List.foldl_cons]
        have := ih (mput m (GKey.mk x.Day x.Found) x.Error)
        have := mput_len m (GKey.mk x.Day x.Found) x.Error
        simp; omega
    simpa using key l []
  · constructor
    · rintro ⟨p, hp, rfl⟩
      have : (mget pg (GKey.mk p.1.day p.1.found)).isSome = true := (mget_some _ _).2 ⟨p, hp, rfl⟩
      rw [h2, lastE_some] at this
      obtain ⟨e, he, hc⟩ := List.any_eq_true.1 this
      rw [Bool.and_eq_true, decide_eq_true_eq] at hc
      exact ⟨e, he, hc.1⟩
    · rintro ⟨e, he, rfl⟩
      have : (lastE l e.Day e.Found).isSome = true := by rw [lastE_some]; exact List.any_eq_true.2 ⟨e, he, by simp⟩
      rw [← h2] at this
      obtain ⟨p, hp, hk⟩ := (mget_some _ _).1 this
      exact ⟨p, hp, by rw [hk]⟩
def hasOff (l : List GEntry) (d : Int) : Bool := (lastE l d false).isSome && (lastE l d true).isSome
def offV (l : List GEntry) (d : Int) : Int := (lastE l d true).getD 0 - (lastE l d false).getD 0
theorem offV_bound {l : List GEntry} (h : vL l = true) (d : Int) : -172800000 ≤ offV l d ∧ offV l d ≤ 172800000 := by
  have h1 := lastE_bound h d true
  have h2 := lastE_bound h d false
  unfold offV; omega
/-- The days that have an off. -/
def offDays (l : List GEntry) : List Int := (daysL l).filter (hasOff l)
theorem offDays_lt (l : List GEntry) : (offDays l).Pairwise (· < ·) := (daysL_lt l).filter _
theorem offDays_len (l : List GEntry) : (offDays l).length ≤ l.length := Nat.le_trans (List.length_filter_le _ _) (daysL_len l)
theorem mem_offDays {l : List GEntry} {d : Int} : d ∈ offDays l ↔ hasOff l d = true := by
  unfold offDays
  rw [List.mem_filter, mem_daysL]
  refine ⟨fun h => h.2, fun h => ⟨?_, h⟩⟩
  unfold hasOff at h
  rw [Bool.and_eq_true, lastE_some] at h
  obtain ⟨e, he, hc⟩ := List.any_eq_true.1 h.1
  rw [Bool.and_eq_true, decide_eq_true_eq] at hc
  exact ⟨e, he, hc.1⟩
theorem offDays_day {l : List GEntry} (h : vL l = true) {d : Int} (hd : d ∈ offDays l) : 0 ≤ d ∧ d ≤ 182985 := daysL_day h (List.mem_filter.1 hd).1
theorem page_days_eq {l : List GEntry} (hv : vL l = true) {pg : List (GKey × Int)} (h2 : ∀ d f, mget pg (GKey.mk d f) = lastE l d f) (h3 : pg.length ≤ l.length) (h4 : ∀ d, (∃ p ∈ pg, p.1.day = d) ↔ ∃ e ∈ l, e.Day = d) :
    ledger_page_days_c1 pg = some ((offDays l).map fun d => (d, offV l d)) := by
  have hlen := vL_len hv
  have hday : daysOf pg = daysL l := by
    refine sorted_unique (sortI_lt (nodup_dedupI _)) (daysL_lt l) fun d => ?_
    rw [mem_daysL, ← h4]
    show d ∈ sortI _ ↔ _
    rw [(sortI_perm _).mem_iff, mem_dedupI, List.mem_map]
  unfold ledger_page_days_c1
  rw [if_pos, hday]
  · unfold offDays
    have : ∀ L : List Int, offsOf pg L = some ((L.filter (hasOff l)).map fun d => (d, offV l d)) := by
      intro L
      induction L with
      | nil => rfl
      | cons d L ih =>
        have hb := offV_bound hv d
        have ho : ledger_page_off pg d = some (offV l d, hasOff l d) := by
          unfold ledger_page_off
          rw [h2, h2, subI_ok (by unfold offV at hb; omega)]
          rfl
        rw [offsOf, ho, Option.bind_some, ih, Option.bind_some, List.filter_cons]
        cases hasOff l d <;> rfl
    exact this _
  · refine ⟨by omega, List.all_eq_true.2 fun p hp => ?_⟩
    obtain ⟨e, he, hd⟩ := (h4 p.1.day).1 ⟨p, hp, rfl⟩
    have := vL_day hv he
    rw [inI_iff]; omega
theorem those_eq {l : List GEntry} (hv : vL l = true) (f : Int → Option Bool) (p : Int → Bool) (hf : ∀ d ∈ offDays l, f (offV l d) = some (p (offV l d))) : ledger_those l f = some ((offDays l).filter fun d => p (offV l d)) := by
  obtain ⟨pg, h1, h2, h3, h4⟩ := page_eq2 l
  have hlen := vL_len hv
  have hol := offDays_len l
  unfold ledger_those
  rw [h1, Option.bind_some, page_days_eq hv h2 h3 h4, Option.bind_some]
  have : ∀ (L : List Int) (i : Int) (s : List Int), (∀ d ∈ L, f (offV l d) = some (p (offV l d))) → s.length + L.length ≤ 1000000 → rangeL (α := (Int × Int)) (S := (List Int)) (X := (List Int)) (fun _ x1 z2 =>
      ((((f x1.2).bind (fun t2 => (((if t2 = true then (appI z2 ([x1.1] : List Int)).bind (fun t3 => some t3) else some z2)) : Option ((List Int))).bind (fun s3 => some s3)))) : Option ((List Int))).bind (fun s2 => some (Step.cont s2))) (fun z2 => z2) (L.map fun d => (d, offV l d)) i s =
      some (s ++ L.filter fun d => p (offV l d)) := by
    intro L
    induction L with
    | nil => intro i s _ _; simp [rangeL]
    | cons d L ih =>
      intro i s hL hs
      rw [List.length_cons] at hs
      rw [List.map_cons, rangeL, hL d (by simp), List.filter_cons]
      simp only [Option.bind_some]
      cases hp : p (offV l d) with
      | true =>
        simp only [if_true]
        rw [appI_ok (by simp; omega)]
        simp only [Option.bind_some]
        rw [ih _ _ (fun d hd => hL d (by simp [hd])) (by simp; omega), List.append_assoc]; rfl
      | false =>
        simp only [Bool.false_eq_true, if_false, Option.bind_some]
        exact ih _ _ (fun d hd => hL d (by simp [hd])) (by omega)
  rw [this _ _ _ hf (by simp; omega)]
  rfl
/-! The document's days. -/
theorem next_day (l : List GEntry) (d : Int) : ∃ r, rangeL (α := GEntry) (S := Int) (X := Int) (fun _ yk1 z8 => ((((((if ((decide (d < yk1.Day)) && ((decide (z8 < 0)) || (decide (yk1.Day < z8)))) = true then some yk1.Day else some z8)) : Option (Int)).bind (fun s5 => some s5)) : Option (Int)).bind (fun s4 => some (Step.cont s4)))) (fun z8 => z8) l 0 (-1) = some r ∧
    ((∀ e ∈ l, 0 ≤ e.Day) → (r = -1 ∧ ∀ e ∈ l, ¬ d < e.Day) ∨ (d < r ∧ (∃ e ∈ l, e.Day = r) ∧ ∀ e ∈ l, d < e.Day → r ≤ e.Day)) := by
  obtain ⟨r, h1, h2⟩ := rangeL_inv (body := fun (_ : Int) (yk1 : GEntry) (z8 : Int) => ((((((if ((decide (d < yk1.Day)) && ((decide (z8 < 0)) || (decide (yk1.Day < z8)))) = true then some yk1.Day else some z8)) : Option (Int)).bind (fun s5 => some s5)) : Option (Int)).bind (fun s4 => some (Step.cont (X := Int) s4)))) (fin := fun z => z)
    (fun j r => (∀ e ∈ l, 0 ≤ e.Day) → (r = -1 ∧ ∀ e ∈ l.take j, ¬ d < e.Day) ∨ (d < r ∧ (∃ e ∈ l, e.Day = r) ∧ ∀ e ∈ l.take j, d < e.Day → r ≤ e.Day)) l (-1) (fun j x r hj hr => by
      have htake : l.take (j + 1) = l.take j ++ [x] := by rw [List.take_add_one, hj]; rfl
      have hx := List.mem_of_getElem? hj
      by_cases hc : (decide (d < x.Day) && (decide (r < 0) || decide (x.Day < r))) = true
      · refine ⟨x.Day, by rw [if_pos hc]; rfl, fun h0 => .inr ?_⟩
        simp only [Bool.and_eq_true, Bool.or_eq_true, decide_eq_true_eq] at hc
        refine ⟨hc.1, ⟨x, hx, rfl⟩, fun e he hde => ?_⟩
        rw [htake, List.mem_append, List.mem_singleton] at he
        rcases he with he | rfl
        · rcases hr h0 with ⟨_, h⟩ | ⟨h1, ⟨e', he', h2⟩, h3⟩
          · exact absurd hde (h e he)
          · have := h3 e he hde
            have := h0 e' he'
            rcases hc.2 with h | h <;> omega
        · exact Int.le_refl _
      · refine ⟨r, by rw [if_neg hc]; rfl, fun h0 => ?_⟩
        simp only [Bool.and_eq_true, Bool.or_eq_true, decide_eq_true_eq] at hc
        rcases hr h0 with ⟨h1, h2⟩ | ⟨h1, h2, h3⟩
        · refine .inl ⟨h1, fun e he => ?_⟩
          rw [htake, List.mem_append, List.mem_singleton] at he
          rcases he with he | rfl
          · exact h2 e he
          · intro h; exact hc ⟨h, .inl (by omega)⟩
        · refine .inr ⟨h1, h2, fun e he hde => ?_⟩
          rw [htake, List.mem_append, List.mem_singleton] at he
          rcases he with he | rfl
          · exact h3 e he hde
          · have : ¬ e.Day < r := fun h => hc ⟨hde, .inr h⟩
            omega) (fun _ => .inl ⟨rfl, fun e he => by simp at he⟩)
  rw [List.take_length] at h2
  exact ⟨r, h1, h2⟩
theorem rall_eq {l : List GEntry} (hv : vL l = true) : noongunref09_all l = some (daysL l) := by
  have h0 : ∀ e ∈ l, 0 ≤ e.Day := fun e he => (vL_day hv he).1
  have hlen := vL_len hv
  have hdl := daysL_len l
  have hlt := daysL_lt l
  unfold noongunref09_all
  have key : ∀ (rem pre : List Int) (d : Int), pre ++ rem = daysL l → (∀ x ∈ pre, x ≤ d) → (∀ x ∈ rem, d < x) → loopR (S := Int × (List Int)) (X := Ctl (Unit) ((List Int))) (fun (s : Int × (List Int)) => match s with
    | (z3, z4) => ((((rangeL (α := GEntry) (S := Int) (X := Int) (fun _ yk1 z8 => ((((((if ((decide (z3 < yk1.Day)) && ((decide (z8 < 0)) || (decide (yk1.Day < z8)))) = true then some yk1.Day else some z8)) : Option (Int)).bind (fun s5 => some s5)) : Option (Int)).bind (fun s4 => some (Step.cont s4)))) (fun z8 => z8) l 0 (-1)) : Option (Int)).bind (fun s3 =>
        (if (decide (s3 < 0)) = true then some (Ctl.ret z4) else (appI z4 ([s3] : List Int)).bind (fun t1 => some (Ctl.next (s3, t1)))))) : Option (Ctl (Int × (List Int)) ((List Int)))).bind (fun o => match o with
        | .next (s1, s2) => some (Step.cont (s1, s2))
        | .ret r => some (Step.done (Ctl.ret r))
        | .exit _ _ => none)) (d, pre) = some (Ctl.ret (daysL l)) := by
    intro rem
    induction rem with
    | nil =>
      intro pre d hp h1 h2
      obtain ⟨r, hr, hc⟩ := next_day l d
      refine loopR_done ?_
      simp only [hr, Option.bind_some]
      rcases hc h0 with ⟨rfl, _⟩ | ⟨q1, ⟨e, he, q2⟩, _⟩
      · rw [List.append_nil] at hp
        rw [hp]; rfl
      · exfalso
        have : r ∈ pre := by rw [List.append_nil] at hp; rw [hp]; exact mem_daysL.2 ⟨e, he, q2⟩
        have := h1 r this
        omega
    | cons x rem ih =>
      intro pre d hp h1 h2
      obtain ⟨r, hr, hc⟩ := next_day l d
      have hx : x ∈ daysL l := by rw [← hp]; simp
      obtain ⟨ex, hex, hxd⟩ := mem_daysL.1 hx
      have hdx := h2 x (by simp)
      have hs : (pre ++ x :: rem).Pairwise (· < ·) := by rw [hp]; exact hlt
      have hs2 := (List.pairwise_cons.1 (List.pairwise_append.1 hs).2.1).1
      have hs3 := (List.pairwise_append.1 hs).2.2
      have hrx : r = x := by
        rcases hc h0 with ⟨_, q⟩ | ⟨q1, ⟨e, he, q2⟩, q3⟩
        · exact absurd hdx (by rw [← hxd]; exact q ex hex)
        · have h5 := q3 ex hex (by omega)
          have : r ∈ pre ++ x :: rem := by rw [hp]; exact mem_daysL.2 ⟨e, he, q2⟩
          rcases List.mem_append.1 this with h | h
          · have := h1 r h; omega
          · rcases List.mem_cons.1 h with h | h
            · exact h
            · have := hs2 r h; omega
      subst hrx
      have hr0 := h0 ex hex
      have hpl : pre.length ≤ (daysL l).length := by rw [← hp]; simp
      rw [loopR_cont (r, pre ++ [r])]
      · exact ih (pre ++ [r]) r (by rw [List.append_assoc]; exact hp) (fun y hy => by
          rcases List.mem_append.1 hy with hy | hy
          · have := hs3 y hy r (by simp); omega
          · rw [List.mem_singleton.1 hy]; omega) (fun y hy => hs2 y hy)
      · simp only [hr, Option.bind_some]
        rw [if_neg (by simp; omega), appI_ok (by simp; omega)]
        rfl
  have hk := key (daysL l) [] (-1) rfl (fun x hx => by simp at hx) (fun x hx => by have := daysL_day hv hx; omega)
  erw [hk]
  rfl
theorem roff_eq {l : List GEntry} (hv : vL l = true) (d : Int) : noongunref09_off l d = some (offV l d, hasOff l d) := by
  have hlen := vL_len hv
  have hb := offV_bound hv d
  have hm : l.length ≤ maxLen := by unfold maxLen; omega
  unfold noongunref09_off
  rw [rlast_eq l d false hm, rlast_eq l d true hm]
  simp only [Option.bind_some]
  rw [subI_ok (by unfold offV at hb; omega)]
  rfl
/-- A range that picks. -/
theorem pick_loop {body : Int → Int → List Int → Option (Step (List Int) (List Int))} (p : Int → Bool) : ∀ (L : List Int) (i : Int) (s : List Int), (∀ (i : Int) d s, d ∈ L → s.length ≤ 1000000 → body i d s = some (.cont (if p d = true then s ++ [d] else s))) → s.length + L.length ≤ 1000000 →
    rangeL body (fun z => z) L i s = some (s ++ L.filter p)
  | [], i, s, _, _ => by simp [rangeL]
  | d :: L, i, s, h, hs => by
    rw [List.length_cons] at hs
    rw [rangeL, h i d s (by simp) (by omega), Option.bind_some, List.filter_cons]
    cases p d with
    | true =>
      simp only [if_true]
      rw [pick_loop p L (i + 1) _ (fun i e s he => h i e s (by simp [he])) (by simp; omega), List.append_assoc]; rfl
    | false => exact pick_loop p L (i + 1) s (fun i e s he => h i e s (by simp [he])) (by omega)
theorem rdays_eq {l : List GEntry} (hv : vL l = true) : noongunref09_days l = some (offDays l) := by
  have hlen := vL_len hv
  have hdl := daysL_len l
  unfold noongunref09_days
  rw [rall_eq hv, Option.bind_some, pick_loop (hasOff l)]
  · rfl
  · intro i d s _ hs
    rw [roff_eq hv]
    simp only [Option.bind_some]
    cases hasOff l d with
    | true => simp only [if_true]; rw [appI_ok (by simp; omega)]; rfl
    | false => rfl
  · simp; omega
theorem Days_eq (l : List GEntry) : ledger_Days l = some (if vL l = true then (offDays l, 0) else ([], 1)) := by
  unfold ledger_Days
  rw [Valid_eq]
  cases hv : vL l with
  | false => rfl
  | true =>
    simp only [Option.bind_some, Bool.not_true, Bool.false_eq_true, if_false, if_true]
    rw [those_eq hv _ (fun _ => true) (fun _ _ => rfl), List.filter_eq_self.2 (fun _ _ => rfl)]
    rfl
theorem rDays_eq (l : List GEntry) : noongunref09_Days l = some (if vL l = true then (offDays l, 0) else ([], 1)) := by
  unfold noongunref09_Days
  rw [rValid_eq]
  cases hv : vL l with
  | false => rfl
  | true => simp [rdays_eq hv]
theorem rsame_eq (a b : List Int) : noongunref09_SameInts a b = some (decide (a = b)) := by
  unfold noongunref09_SameInts
  exact same_fun (fun x y => x != y) (fun x y => by rfl) a b
end Go.Fw
