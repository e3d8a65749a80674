/-
  LedgerLast, the plain law: what the code computes answers true, for entries and a day within their types' ranges.
-/
import Derived.Test.YtokfcbpfhojdkaaM
import Derived.Test.YtokfcbpfhojdkaaFwN
namespace Go.Fw

def dayB (d : Int) : Bool := decide (0 ≤ d) && decide (d ≤ 182985)
def vE (e : GEntry) : Bool := dayB e.Day && (decide (-86400000 ≤ e.Error) && decide (e.Error ≤ 86400000))
def vL (l : List GEntry) : Bool := l.all vE && decide ((l.length : Int) ≤ 1000)
def lastE (l : List GEntry) (d : Int) (f : Bool) : Option Int := l.foldl (fun acc e => if e.Day = d ∧ e.Found = f then some e.Error else acc) none

theorem within_eq (a b c : Int) : ledger_within a b c = some (decide (b ≤ a) && decide (a ≤ c)) := rfl
theorem isDay_eq (d : Int) : ledger_isDay d = some (dayB d) := rfl
theorem rday_eq (d : Int) : noongunref09_day d = some (dayB d) := rfl
theorem fine_eq (e : GEntry) : ledger_fine e = some (vE e) := by
  unfold ledger_fine vE dayB
  simp only [within_eq, Option.bind_some]
  cases h : (decide (0 ≤ e.Day) && decide (e.Day ≤ 182985)) <;> simp
theorem rvalid_eq (e : GEntry) : noongunref09_valid e = some (vE e) := by
  unfold noongunref09_valid vE
  simp only [rday_eq, Option.bind_some, Bool.and_assoc]
theorem rValid_eq (l : List GEntry) : noongunref09_Valid l = some (vL l) := by
  unfold noongunref09_Valid
  rw [rangeL_search (p := fun e => !vE e) (y := Ctl.ret false)]
  · cases h : l.any (fun e => !vE e) with
    | true =>
      have : l.all vE = false := by
        rw [List.any_eq_true] at h
        obtain ⟨x, hx, hv⟩ := h
        exact List.all_eq_false.2 ⟨x, hx, by simpa using hv⟩
      simp [vL, this]
    | false =>
      have : l.all vE = true := by
        rw [List.any_eq_false] at h
        exact List.all_eq_true.2 fun x hx => by simpa using h x hx
      simp [vL, this]
  · intro i x s _
    simp only [rvalid_eq, Option.bind_some]
    cases vE x <;> rfl
theorem contains_eq (l : List GEntry) (f : GEntry → Option Bool) (p : GEntry → Bool) (h : ∀ e ∈ l, f e = some (p e)) : slices_ContainsFunc_Entry l f = some (l.any p) := by
  unfold slices_ContainsFunc_Entry slices_IndexFunc_Entry
  rw [rangeN_list (B := fun i x _ => some (if p x = true then .done (Ctl.ret i) else .cont ()))]
  · have key : ∀ (L : List GEntry) (i : Int), 0 ≤ i → ∃ o, rangeL (S := Unit) (X := Ctl Unit Int) (fun i x _ => some (if p x = true then .done (Ctl.ret i) else .cont ())) (fun _ => Ctl.next ()) L i () = some o ∧
        ((L.any p = true ∧ ∃ j, 0 ≤ j ∧ o = .ret j) ∨ (L.any p = false ∧ o = .next ())) := by
      intro L
      induction L with
      | nil => intro i _; exact ⟨_, rfl, .inr ⟨rfl, rfl⟩⟩
      | cons x L ih =>
        intro i hi
        rw [rangeL, Option.bind_some]
        cases hp : p x with
        | true => exact ⟨_, rfl, .inl ⟨by simp [hp], i, hi, rfl⟩⟩
        | false =>
          obtain ⟨o, h1, h2⟩ := ih (i + 1) (by omega)
          refine ⟨o, h1, ?_⟩
          simpa [hp] using h2
    obtain ⟨o, h1, ⟨h2, j, h3, rfl⟩ | ⟨h2, rfl⟩⟩ := key l 0 (by omega)
    · rw [h1, h2]
      simp only [Option.bind_some]
      simp [h3]
    · rw [h1, h2]
      simp
  · intro i x s hx
    simp only [idx_at hx, Option.bind_some, h x (List.mem_of_getElem? hx)]
    cases p x <;> rfl
theorem Valid_eq (l : List GEntry) : ledger_Valid l = some (vL l) := by
  unfold ledger_Valid
  rw [contains_eq l _ (fun e => !vE e) (fun e _ => by simp only [ledger_Valid_c1, fine_eq, Option.bind_some])]
  simp only [Option.bind_some]
  have : (!l.any fun e => !vE e) = l.all vE := by
    induction l with
    | nil => rfl
    | cons x l ih => simp only [List.any_cons, List.all_cons, Bool.not_or, Bool.not_not, ih]
  rw [this, vL]
  by_cases h : (l.length : Int) ≤ 1000 <;> simp [h]
theorem page_eq (l : List GEntry) : ∃ pg, ledger_pageOf l = some pg ∧ ∀ d f, mget pg (GKey.mk d f) = lastE l d f := by
  unfold ledger_pageOf
  simp only [ledger_of, Option.bind_some]
  rw [rangeL_fold (fun m (e : GEntry) => mput m (GKey.mk e.Day e.Found) e.Error) l 0 [] (fun i x s _ => rfl)]
  refine ⟨_, rfl, fun d f => ?_⟩
  have key : ∀ (L : List GEntry) (m : List (GKey × Int)) (acc : Option Int), mget m (GKey.mk d f) = acc →
      mget (L.foldl (fun m (e : GEntry) => mput m (GKey.mk e.Day e.Found) e.Error) m) (GKey.mk d f) = L.foldl (fun acc e => if e.Day = d ∧ e.Found = f then some e.Error else acc) acc := by
    intro L
    induction L with
    | nil => intro m acc h; exact h
    | cons x L ih =>
      intro m acc h
      rw [List.foldl_cons, List.foldl_cons]
      refine ih _ _ ?_
      rw [mget_put, h]
      simp only [GKey.mk.injEq]
  exact key l [] none rfl
theorem rlast_eq (l : List GEntry) (d : Int) (f : Bool) (hl : l.length ≤ maxLen) : noongunref09_last l d f = some ((lastE l d f).getD 0, (lastE l d f).isSome) := by
  unfold noongunref09_last
  rw [subI_ok (by unfold maxLen at hl; omega), Option.bind_some]
  rw [loopR_down (fun n => match lastE (l.take n) d f with | some e => .ret (e, true) | none => .next ()) l.length]
  · rw [List.take_length]
    cases lastE l d f <;> rfl
  · rfl
  · intro n hn
    have hx : l[n]? = some l[n] := List.getElem?_eq_getElem (by omega)
    have hsub : subI (n : Int) 1 = some ((n : Int) - 1) := subI_ok (by unfold maxLen at hl; omega)
    have hlast : lastE (l.take (n + 1)) d f = if l[n].Day = d ∧ l[n].Found = f then some l[n].Error else lastE (l.take n) d f := by
      rw [List.take_succ_eq_append_getElem (by omega)]; unfold lastE; rw [List.foldl_append]; rfl
    rw [hlast]
    simp only [idx_at hx, Option.bind_some, hsub]
    by_cases hd : l[n].Day = d
    · by_cases hf : l[n].Found = f
      · left; simp [hd, hf]
      · right; simp [hd, hf]
    · right; simp [hd]
theorem lastE_bound {l : List GEntry} (h : vL l = true) (d : Int) (f : Bool) : -86400000 ≤ (lastE l d f).getD 0 ∧ (lastE l d f).getD 0 ≤ 86400000 := by
  have h2 : l.all vE = true := by simp only [vL, Bool.and_eq_true] at h; exact h.1
  have key : ∀ (L : List GEntry) (acc : Option Int), L.all vE = true → (-86400000 ≤ acc.getD 0 ∧ acc.getD 0 ≤ 86400000) →
      -86400000 ≤ (L.foldl (fun acc e => if e.Day = d ∧ e.Found = f then some e.Error else acc) acc).getD 0 ∧ (L.foldl (fun acc e => if e.Day = d ∧ e.Found = f then some e.Error else acc) acc).getD 0 ≤ 86400000 := by
    intro L
    induction L with
    | nil => intro acc _ h; exact h
    | cons x L ih =>
      intro acc hL ha
      simp only [List.all_cons, Bool.and_eq_true, vE, decide_eq_true_eq] at hL
      rw [List.foldl_cons]
      refine ih _ hL.2 ?_
      split
      · exact hL.1.2
      · exact ha
  exact key l none h2 (by simp)

def toldR (l : List GEntry) (d : Int) (r : Int × Bool) : Int × Int := if vL l = true then if dayB d = true then if r.2 = true then (r.1, 0) else (0, 8) else (0, 7) else (0, 1)
theorem told_eq (l : List GEntry) (d : Int) (g : List (GKey × Int) → Option (Int × Bool)) (r : Int × Bool) (h : vL l = true → ∀ pg, (∀ d f, mget pg (GKey.mk d f) = lastE l d f) → g pg = some r) : ledger_told l d g = some (toldR l d r) := by
  obtain ⟨pg, h1, h2⟩ := page_eq l
  unfold ledger_told toldR
  simp only [Valid_eq, isDay_eq, h1, Option.bind_some]
  cases hv : vL l with
  | false => simp
  | true =>
    cases hd : dayB d with
    | false => simp
    | true =>
      rw [h hv pg h2]
      obtain ⟨a, b⟩ := r
      cases b <;> simp
theorem Said_eq (l : List GEntry) (d : Int) : ledger_Said l d = some (toldR l d ((lastE l d false).getD 0, (lastE l d false).isSome)) := by
  unfold ledger_Said
  rw [told_eq l d _ ((lastE l d false).getD 0, (lastE l d false).isSome) (fun _ pg h => by simp only [ledger_Said_c1, h])]
  rfl
theorem Found_eq (l : List GEntry) (d : Int) : ledger_Found l d = some (toldR l d ((lastE l d true).getD 0, (lastE l d true).isSome)) := by
  unfold ledger_Found
  rw [told_eq l d _ ((lastE l d true).getD 0, (lastE l d true).isSome) (fun _ pg h => by simp only [ledger_Found_c1, h])]
  rfl
theorem Off_eq (l : List GEntry) (d : Int) : ledger_Off l d = some (toldR l d ((lastE l d true).getD 0 - (lastE l d false).getD 0, (lastE l d false).isSome && (lastE l d true).isSome)) := by
  unfold ledger_Off
  rw [told_eq l d _ ((lastE l d true).getD 0 - (lastE l d false).getD 0, (lastE l d false).isSome && (lastE l d true).isSome) (fun hv pg h => by
    have h1 := lastE_bound hv d true
    have h2 := lastE_bound hv d false
    simp only [ledger_Off_c1, ledger_page_off, h, subI_ok (a := (lastE l d true).getD 0) (b := (lastE l d false).getD 0) (by omega), Option.bind_some])]
  rfl
theorem awake_eq : noongunlaw09_awake = some true := by rfl

end Go.Fw
namespace Go.Fw
def keyB (x y : GEntry) : Bool := decide (y.Day = x.Day) && decide (y.Found = x.Found)
/-- The places of those that came before, from place i on, behind pre. -/
def corrF (pre : List GEntry) : List GEntry → List Int
  | [] => []
  | x :: l => (if pre.any (keyB x) = true then [((pre.length : Nat) : Int)] else []) ++ corrF (pre ++ [x]) l
def corrL (l : List GEntry) : List Int := corrF [] l
def corrR (l : List GEntry) : List Int × Int := if vL l = true then (corrL l, 0) else ([], 1)
theorem corrF_len (pre l : List GEntry) : (corrF pre l).length ≤ l.length := by
  induction l generalizing pre with
  | nil => simp [corrF]
  | cons x l ih =>
    have := ih (pre ++ [x])
    rw [corrF, List.length_append, List.length_cons]
    split <;> simp <;> omega
theorem corr_len_le (l : List GEntry) : (corrL l).length ≤ l.length := corrF_len [] l
theorem corrF_app (pre l m : List GEntry) : corrF pre (l ++ m) = corrF pre l ++ corrF (pre ++ l) m := by
  induction l generalizing pre with
  | nil => simp [corrF]
  | cons x l ih =>
    rw [List.cons_append, corrF, corrF, ih]
    simp [List.append_assoc]
theorem corrF_mono (p q l : List GEntry) (h : ∀ x, p.any (keyB x) = true → q.any (keyB x) = true) : (corrF p l).length ≤ (corrF q l).length := by
  induction l generalizing p q with
  | nil => simp [corrF]
  | cons x l ih =>
    have h1 := ih (p ++ [x]) (q ++ [x]) (fun y hy => by
      simp only [List.any_append, Bool.or_eq_true] at hy ⊢
      rcases hy with hy | hy
      · exact .inl (h y hy)
      · exact .inr hy)
    rw [corrF, corrF, List.length_append, List.length_append]
    by_cases hp : p.any (keyB x) = true
    · rw [if_pos hp, if_pos (h x hp)]; simp; omega
    · rw [if_neg hp]; split <;> simp <;> omega
theorem corr_app (l m : List GEntry) : (corrL l).length + (corrL m).length ≤ (corrL (l ++ m)).length := by
  unfold corrL
  rw [corrF_app, List.length_append]
  have := corrF_mono [] ([] ++ l) m (fun x hx => by simp at hx)
  omega
theorem Corrections_eq (l : List GEntry) : ledger_Corrections l = some (corrR l) := by
  unfold ledger_Corrections corrR
  rw [Valid_eq]
  simp only [Option.bind_some]
  cases hv : vL l with
  | false => simp
  | true =>
    simp only [Bool.not_true, Bool.false_eq_true, if_false, if_true]
    have hl : l.length ≤ 1000 := by simp only [vL, Bool.and_eq_true, decide_eq_true_eq] at hv; omega
    rw [rangeN_pre (fun pre x (s : List (GKey × Bool) × List Int) => if ((mget s.1 (GKey.mk x.Day x.Found)).getD false) = true then
        (appI s.2 [((pre.length : Nat) : Int)]).bind (fun t => some (Step.cont (mput s.1 (GKey.mk x.Day x.Found) true, t))) else some (Step.cont (mput s.1 (GKey.mk x.Day x.Found) true, s.2)))]
    · have key : ∀ (m pre : List GEntry) (met : List (GKey × Bool)) (out : List Int), out.length + m.length ≤ 1000 → (∀ x : GEntry, (mget met (GKey.mk x.Day x.Found)).getD false = pre.any (keyB x)) →
          preL (fun pre x (s : List (GKey × Bool) × List Int) => if ((mget s.1 (GKey.mk x.Day x.Found)).getD false) = true then
            (appI s.2 [((pre.length : Nat) : Int)]).bind (fun t => some (Step.cont (mput s.1 (GKey.mk x.Day x.Found) true, t))) else some (Step.cont (mput s.1 (GKey.mk x.Day x.Found) true, s.2)))
            (fun s => match s with | (_, z4) => z4) pre m (met, out) = some (out ++ corrF pre m) := by
        intro m
        induction m with
        | nil => intro pre met out _ _; simp [preL, corrF]
        | cons x m ih =>
          intro pre met out hlen hmet
          rw [List.length_cons] at hlen
          have hmet2 : ∀ y : GEntry, (mget (mput met (GKey.mk x.Day x.Found) true) (GKey.mk y.Day y.Found)).getD false = (pre ++ [x]).any (keyB y) := by
            intro y
            rw [mget_put, List.any_append]
            by_cases h : GKey.mk x.Day x.Found = GKey.mk y.Day y.Found
            · rw [if_pos h]
              simp only [GKey.mk.injEq] at h
              simp [keyB, h.1, h.2]
            · rw [if_neg h, hmet y]
              have : keyB y x = false := by
                unfold keyB
                rw [Bool.eq_false_iff]
                intro hk
                simp only [Bool.and_eq_true, decide_eq_true_eq] at hk
                exact h (by rw [hk.1, hk.2])
              simp [this]
          rw [preL, corrF]
          simp only [hmet x]
          by_cases hp : pre.any (keyB x) = true
          · rw [if_pos hp, if_pos hp, appI_ok (by simp; omega)]
            simp only [Option.bind_some]
            rw [ih (pre ++ [x]) _ _ (by simp; omega) hmet2]
            simp
          · rw [if_neg hp, if_neg hp]
            simp only [Option.bind_some]
            rw [ih (pre ++ [x]) _ _ (by omega) hmet2]
            simp
      rw [key l [] [] [] (by simpa using hl) (by intro x; rfl)]
      rfl
    · intro i x s hx
      have hi : i < l.length := (List.getElem?_eq_some_iff.1 hx).1
      have hlen : (l.take i).length = i := by rw [List.length_take]; omega
      obtain ⟨met, out⟩ := s
      simp only [idx_at hx, Option.bind_some, ledger_of, hlen]
      by_cases hp : (mget met (GKey.mk x.Day x.Found)).getD false = true
      · rw [if_pos hp, if_pos hp]
        cases appI out [(i : Int)] <;> rfl
      · rw [if_neg hp, if_neg hp]
        rfl
end Go.Fw
namespace Go.Fw

def dedupI : List Int → List Int
  | [] => []
  | a :: l => if a ∈ l then dedupI l else a :: dedupI l
theorem mem_dedupI {x : Int} : ∀ {l : List Int}, x ∈ dedupI l ↔ x ∈ l
  | [] => Iff.rfl
  | a :: l => by
    rw [dedupI]
    split
    · rename_i h
      rw [mem_dedupI, List.mem_cons]
      exact ⟨.inr, fun h' => h'.elim (fun e => e ▸ h) id⟩
    · rw [List.mem_cons, List.mem_cons, mem_dedupI]
theorem nodup_dedupI : ∀ l : List Int, (dedupI l).Nodup
  | [] => List.nodup_nil
  | a :: l => by
    rw [dedupI]
    split
    · exact nodup_dedupI l
    · rename_i h
      exact List.nodup_cons.2 ⟨fun h' => h (mem_dedupI.1 h'), nodup_dedupI l⟩
theorem mput_len {α β : Type} [DecidableEq α] (kv : List (α × β)) (k : α) (v : β) : (mput kv k v).length ≤ kv.length + 1 := by
  unfold mput
  split <;> simp
theorem small_eq (l : List GEntry) : noongunlaw09_small l = some (decide ((l.length : Int) ≤ 30)) := rfl
def sortI (l : List Int) : List Int := l.mergeSort fun x y => decide (x ≤ y)
theorem sortI_perm (l : List Int) : (sortI l).Perm l := List.mergeSort_perm l _
theorem sortI_le (l : List Int) : (sortI l).Pairwise (· ≤ ·) := by
  have := List.pairwise_mergeSort (le := fun x y : Int => decide (x ≤ y)) (fun a b c h1 h2 => by simp only [decide_eq_true_eq] at *; omega) (fun a b => by simp only [Bool.or_eq_true, decide_eq_true_eq]; omega) l
  exact this.imp fun h => by simpa using h
theorem sortI_lt {l : List Int} (h : l.Nodup) : (sortI l).Pairwise (· < ·) := by
  have h1 := sortI_le l
  have h2 : (sortI l).Nodup := (sortI_perm l).nodup_iff.2 h
  refine (h1.and h2).imp fun ⟨a, b⟩ => ?_
  omega
theorem sorted_unique : ∀ {l m : List Int}, l.Pairwise (· < ·) → m.Pairwise (· < ·) → (∀ x, x ∈ l ↔ x ∈ m) → l = m
  | [], [], _, _, _ => rfl
  | [], b :: m, _, _, h => by have := (h b).2 (by simp); simp at this
  | a :: l, [], _, _, h => by have := (h a).1 (by simp); simp at this
  | a :: l, b :: m, h1, h2, h => by
    have g1 := List.pairwise_cons.1 h1
    have g2 := List.pairwise_cons.1 h2
    have hab : a = b := by
      rcases List.mem_cons.1 ((h a).1 (by simp)) with e | e
      · exact e
      · rcases List.mem_cons.1 ((h b).2 (by simp)) with e2 | e2
        · exact e2.symm
        · have := g2.1 a e; have := g1.1 b e2; omega
    subst hab
    congr 1
    refine sorted_unique g1.2 g2.2 fun x => ⟨fun hx => ?_, fun hx => ?_⟩
    · rcases List.mem_cons.1 ((h x).1 (by simp [hx])) with e | e
      · have := g1.1 x hx; omega
      · exact e
    · rcases List.mem_cons.1 ((h x).2 (by simp [hx])) with e | e
      · have := g2.1 x hx; omega
      · exact e
/-- The days of entries, in ascending order, each once. -/
def daysL (l : List GEntry) : List Int := sortI (dedupI (l.map (·.Day)))
theorem daysL_lt (l : List GEntry) : (daysL l).Pairwise (· < ·) := sortI_lt (nodup_dedupI _)
theorem mem_daysL {l : List GEntry} {d : Int} : d ∈ daysL l ↔ ∃ e ∈ l, e.Day = d := by
  unfold daysL
  rw [(sortI_perm _).mem_iff, mem_dedupI, List.mem_map]
theorem daysL_len (l : List GEntry) : (daysL l).length ≤ l.length := by
  unfold daysL
  rw [(sortI_perm _).length_eq]
  have : ∀ m : List Int, (dedupI m).length ≤ m.length := by
    intro m
    induction m with
    | nil => simp [dedupI]
    | cons a m ih => rw [dedupI]; split <;> simp <;> omega
  have := this (l.map (·.Day))
  simpa using this
theorem vL_day {l : List GEntry} (h : vL l = true) {e : GEntry} (he : e ∈ l) : 0 ≤ e.Day ∧ e.Day ≤ 182985 := by
  unfold vL at h
  rw [Bool.and_eq_true] at h
  have := List.all_eq_true.1 h.1 e he
  simp only [vE, dayB, Bool.and_eq_true, decide_eq_true_eq] at this
  exact this.1
theorem daysL_day {l : List GEntry} (h : vL l = true) {d : Int} (hd : d ∈ daysL l) : 0 ≤ d ∧ d ≤ 182985 := by
  obtain ⟨e, he, rfl⟩ := mem_daysL.1 hd
  exact vL_day h he
theorem vL_len {l : List GEntry} (h : vL l = true) : l.length ≤ 1000 := by
  unfold vL at h
  rw [Bool.and_eq_true, decide_eq_true_eq] at h
  omega
theorem lastE_some (l : List GEntry) (d : Int) (f : Bool) : (lastE l d f).isSome = l.any fun e => decide (e.Day = d) && decide (e.Found = f) := by
  unfold lastE
  have : ∀ (L : List GEntry) (acc : Option Int), (L.foldl (fun acc e => if e.Day = d ∧ e.Found = f then some e.Error else acc) acc).isSome = (acc.isSome || L.any fun e => decide (e.Day = d) && decide (e.Found = f)) := by
    intro L
    induction L with
    | nil => intro acc; simp
    | cons x L ih =>
      intro acc
      rw [List.foldl_cons, ih, List.any_cons]
      by_cases h : x.Day = d ∧ x.Found = f
      · simp [h.1, h.2]
      · rw [if_neg h]
        have : (decide (x.Day = d) && decide (x.Found = f)) = false := by
          rw [Bool.and_eq_false_iff]; simpa using (show ¬ (x.Day = d) ∨ ¬ (x.Found = f) from Decidable.not_and_iff_not_or_not.1 h)
        rw [this, Bool.false_or]
  rw [this]; rfl
theorem mget_some {α β : Type} [DecidableEq α] (kv : List (α × β)) (k : α) : (mget kv k).isSome = true ↔ ∃ p ∈ kv, p.1 = k := by
  unfold mget
  rw [Option.isSome_map, List.find?_isSome]
  simp
/-- The page of entries. -/
theorem page_eq2 (l : List GEntry) : ∃ pg, ledger_pageOf l = some pg ∧ (∀ d f, mget pg (GKey.mk d f) = lastE l d f) ∧ pg.length ≤ l.length ∧ ∀ d, (∃ p ∈ pg, p.1.day = d) ↔ ∃ e ∈ l, e.Day = d := by
  obtain ⟨pg, h1, h2⟩ := page_eq l
  refine ⟨pg, h1, h2, ?_, fun d => ?_⟩
  · have : ledger_pageOf l = some (l.foldl (fun m (e : GEntry) => mput m (GKey.mk e.Day e.Found) e.Error) []) := by
      unfold ledger_pageOf
      simp only [ledger_of, Option.bind_some]
      rw [rangeL_fold (fun m (e : GEntry) => mput m (GKey.mk e.Day e.Found) e.Error) l 0 [] (fun i x s _ => rfl)]
      rfl
    rw [h1] at this
    rw [Option.some.inj this]
    have key : ∀ (L : List GEntry) (m : List (GKey × Int)), (L.foldl (fun m (e : GEntry) => mput m (GKey.mk e.Day e.Found) e.Error) m).length ≤ m.length + L.length := by
      intro L
      induction L with
      | nil => intro m; simp
      | cons x L ih =>
        intro m
        rw [List.foldl_cons]
        have := ih (mput m (GKey.mk x.Day x.Found) x.Error)
        have := mput_len m (GKey.mk x.Day x.Found) x.Error
        simp; omega
    simpa using key l []
  · constructor
    · rintro ⟨p, hp, rfl⟩
      have : (mget pg (GKey.mk p.1.day p.1.found)).isSome = true := (mget_some _ _).2 ⟨p, hp, rfl⟩
      rw [h2, lastE_some] at this
      obtain ⟨e, he, hc⟩ := List.any_eq_true.1 this
      rw [Bool.and_eq_true, decide_eq_true_eq] at hc
      exact ⟨e, he, hc.1⟩
    · rintro ⟨e, he, rfl⟩
      have : (lastE l e.Day e.Found).isSome = true := by rw [lastE_some]; exact List.any_eq_true.2 ⟨e, he, by simp⟩
      rw [← h2] at this
      obtain ⟨p, hp, hk⟩ := (mget_some _ _).1 this
      exact ⟨p, hp, by rw [hk]⟩
def hasOff (l : List GEntry) (d : Int) : Bool := (lastE l d false).isSome && (lastE l d true).isSome
def offV (l : List GEntry) (d : Int) : Int := (lastE l d true).getD 0 - (lastE l d false).getD 0
theorem offV_bound {l : List GEntry} (h : vL l = true) (d : Int) : -172800000 ≤ offV l d ∧ offV l d ≤ 172800000 := by
  have h1 := lastE_bound h d true
  have h2 := lastE_bound h d false
  unfold offV; omega
/-- The days that have an off. -/
def offDays (l : List GEntry) : List Int := (daysL l).filter (hasOff l)
theorem offDays_lt (l : List GEntry) : (offDays l).Pairwise (· < ·) := (daysL_lt l).filter _
theorem offDays_len (l : List GEntry) : (offDays l).length ≤ l.length := Nat.le_trans (List.length_filter_le _ _) (daysL_len l)
theorem mem_offDays {l : List GEntry} {d : Int} : d ∈ offDays l ↔ hasOff l d = true := by
  unfold offDays
  rw [List.mem_filter, mem_daysL]
  refine ⟨fun h => h.2, fun h => ⟨?_, h⟩⟩
  unfold hasOff at h
  rw [Bool.and_eq_true, lastE_some] at h
  obtain ⟨e, he, hc⟩ := List.any_eq_true.1 h.1
  rw [Bool.and_eq_true, decide_eq_true_eq] at hc
  exact ⟨e, he, hc.1⟩
theorem offDays_day {l : List GEntry} (h : vL l = true) {d : Int} (hd : d ∈ offDays l) : 0 ≤ d ∧ d ≤ 182985 := daysL_day h (List.mem_filter.1 hd).1
/-! The document's days. -/
theorem next_day (l : List GEntry) (d : Int) : ∃ r, rangeL (α := GEntry) (S := Int) (X := Int) (fun _ yk1 z8 => ((((((if ((decide (d < yk1.Day)) && ((decide (z8 < 0)) || (decide (yk1.Day < z8)))) = true then some yk1.Day else some z8)) : Option (Int)).bind (fun s5 => some s5)) : Option (Int)).bind (fun s4 => some (Step.cont s4)))) (fun z8 => z8) l 0 (-1) = some r ∧
    ((∀ e ∈ l, 0 ≤ e.Day) → (r = -1 ∧ ∀ e ∈ l, ¬ d < e.Day) ∨ (d < r ∧ (∃ e ∈ l, e.Day = r) ∧ ∀ e ∈ l, d < e.Day → r ≤ e.Day)) := by
  obtain ⟨r, h1, h2⟩ := rangeL_inv (body := fun (_ : Int) (yk1 : GEntry) (z8 : Int) => ((((((if ((decide (d < yk1.Day)) && ((decide (z8 < 0)) || (decide (yk1.Day < z8)))) = true then some yk1.Day else some z8)) : Option (Int)).bind (fun s5 => some s5)) : Option (Int)).bind (fun s4 => some (Step.cont (X := Int) s4)))) (fin := fun z => z)
    (fun j r => (∀ e ∈ l, 0 ≤ e.Day) → (r = -1 ∧ ∀ e ∈ l.take j, ¬ d < e.Day) ∨ (d < r ∧ (∃ e ∈ l, e.Day = r) ∧ ∀ e ∈ l.take j, d < e.Day → r ≤ e.Day)) l (-1) (fun j x r hj hr => by
      have htake : l.take (j + 1) = l.take j ++ [x] := by rw [List.take_add_one, hj]; rfl
      have hx := List.mem_of_getElem? hj
      by_cases hc : (decide (d < x.Day) && (decide (r < 0) || decide (x.Day < r))) = true
      · refine ⟨x.Day, by rw [if_pos hc]; rfl, fun h0 => .inr ?_⟩
        simp only [Bool.and_eq_true, Bool.or_eq_true, decide_eq_true_eq] at hc
        refine ⟨hc.1, ⟨x, hx, rfl⟩, fun e he hde => ?_⟩
        rw [htake, List.mem_append, List.mem_singleton] at he
        rcases he with he | rfl
        · rcases hr h0 with ⟨_, h⟩ | ⟨h1, ⟨e', he', h2⟩, h3⟩
          · exact absurd hde (h e he)
          · have := h3 e he hde
            have := h0 e' he'
            rcases hc.2 with h | h <;> omega
        · exact Int.le_refl _
      · refine ⟨r, by rw [if_neg hc]; rfl, fun h0 => ?_⟩
        simp only [Bool.and_eq_true, Bool.or_eq_true, decide_eq_true_eq] at hc
        rcases hr h0 with ⟨h1, h2⟩ | ⟨h1, h2, h3⟩
        · refine .inl ⟨h1, fun e he => ?_⟩
          rw [htake, List.mem_append, List.mem_singleton] at he
          rcases he with he | rfl
          · exact h2 e he
          · intro h; exact hc ⟨h, .inl (by omega)⟩
        · refine .inr ⟨h1, h2, fun e he hde => ?_⟩
          rw [htake, List.mem_append, List.mem_singleton] at he
          rcases he with he | rfl
          · exact h3 e he hde
          · have : ¬ e.Day < r := fun h => hc ⟨hde, .inr h⟩
            omega) (fun _ => .inl ⟨rfl, fun e he => by simp at he⟩)
  rw [List.take_length] at h2
  exact ⟨r, h1, h2⟩
theorem rall_eq {l : List GEntry} (hv : vL l = true) : noongunref09_all l = some (daysL l) := by
  have h0 : ∀ e ∈ l, 0 ≤ e.Day := fun e he => (vL_day hv he).1
  have hlen := vL_len hv
  have hdl := daysL_len l
  have hlt := daysL_lt l
  unfold noongunref09_all
  have key : ∀ (rem pre : List Int) (d : Int), pre ++ rem = daysL l → (∀ x ∈ pre, x ≤ d) → (∀ x ∈ rem, d < x) → loopR (S := Int × (List Int)) (X := Ctl (Unit) ((List Int))) (fun (s : Int × (List Int)) => match s with
    | (z3, z4) => ((((rangeL (α := GEntry) (S := Int) (X := Int) (fun _ yk1 z8 => ((((((if ((decide (z3 < yk1.Day)) && ((decide (z8 < 0)) || (decide (yk1.Day < z8)))) = true then some yk1.Day else some z8)) : Option (Int)).bind (fun s5 => some s5)) : Option (Int)).bind (fun s4 => some (Step.cont s4)))) (fun z8 => z8) l 0 (-1)) : Option (Int)).bind (fun s3 =>
        (if (decide (s3 < 0)) = true then some (Ctl.ret z4) else (appI z4 ([s3] : List Int)).bind (fun t1 => some (Ctl.next (s3, t1)))))) : Option (Ctl (Int × (List Int)) ((List Int)))).bind (fun o => match o with
        | .next (s1, s2) => some (Step.cont (s1, s2))
        | .ret r => some (Step.done (Ctl.ret r))
        | .exit _ _ => none)) (d, pre) = some (Ctl.ret (daysL l)) := by
    intro rem
    induction rem with
    | nil =>
      intro pre d hp h1 h2
      obtain ⟨r, hr, hc⟩ := next_day l d
      refine loopR_done ?_
      simp only [hr, Option.bind_some]
      rcases hc h0 with ⟨rfl, _⟩ | ⟨q1, ⟨e, he, q2⟩, _⟩
      · rw [List.append_nil] at hp
        rw [hp]; rfl
      · exfalso
        have : r ∈ pre := by rw [List.append_nil] at hp; rw [hp]; exact mem_daysL.2 ⟨e, he, q2⟩
        have := h1 r this
        omega
    | cons x rem ih =>
      intro pre d hp h1 h2
      obtain ⟨r, hr, hc⟩ := next_day l d
      have hx : x ∈ daysL l := by rw [← hp]; simp
      obtain ⟨ex, hex, hxd⟩ := mem_daysL.1 hx
      have hdx := h2 x (by simp)
      have hs : (pre ++ x :: rem).Pairwise (· < ·) := by rw [hp]; exact hlt
      have hs2 := (List.pairwise_cons.1 (List.pairwise_append.1 hs).2.1).1
      have hs3 := (List.pairwise_append.1 hs).2.2
      have hrx : r = x := by
        rcases hc h0 with ⟨_, q⟩ | ⟨q1, ⟨e, he, q2⟩, q3⟩
        · exact absurd hdx (by rw [← hxd]; exact q ex hex)
        · have h5 := q3 ex hex (by omega)
          have : r ∈ pre ++ x :: rem := by rw [hp]; exact mem_daysL.2 ⟨e, he, q2⟩
          rcases List.mem_append.1 this with h | h
          · have := h1 r h; omega
          · rcases List.mem_cons.1 h with h | h
            · exact h
            · have := hs2 r h; omega
      subst hrx
      have hr0 := h0 ex hex
      have hpl : pre.length ≤ (daysL l).length := by rw [← hp]; simp
      rw [loopR_cont (r, pre ++ [r])]
      · exact ih (pre ++ [r]) r (by rw [List.append_assoc]; exact hp) (fun y hy => by
          rcases List.mem_append.1 hy with hy | hy
          · have := hs3 y hy r (by simp); omega
          · rw [List.mem_singleton.1 hy]; omega) (fun y hy => hs2 y hy)
      · simp only [hr, Option.bind_some]
        rw [if_neg (by simp; omega), appI_ok (by simp; omega)]
        rfl
  have hk := key (daysL l) [] (-1) rfl (fun x hx => by simp at hx) (fun x hx => by have := daysL_day hv hx; omega)
  erw [hk]
  rfl
/-- A range that picks. -/
theorem pick_loop {body : Int → Int → List Int → Option (Step (List Int) (List Int))} (p : Int → Bool) : ∀ (L : List Int) (i : Int) (s : List Int), (∀ (i : Int) d s, d ∈ L → s.length ≤ 1000000 → body i d s = some (.cont (if p d = true then s ++ [d] else s))) → s.length + L.length ≤ 1000000 →
    rangeL body (fun z => z) L i s = some (s ++ L.filter p)
  | [], i, s, _, _ => by simp [rangeL]
  | d :: L, i, s, h, hs => by
    rw [List.length_cons] at hs
    rw [rangeL, h i d s (by simp) (by omega), Option.bind_some, List.filter_cons]
    cases p d with
    | true =>
      simp only [if_true]
      rw [pick_loop p L (i + 1) _ (fun i e s he => h i e s (by simp [he])) (by simp; omega), List.append_assoc]; rfl
    | false => exact pick_loop p L (i + 1) s (fun i e s he => h i e s (by simp [he])) (by omega)
theorem rsame_eq (a b : List Int) : noongunref09_SameInts a b = some (decide (a = b)) := by
  unfold noongunref09_SameInts
  exact same_fun (fun x y => x != y) (fun x y => by rfl) a b
end Go.Fw
namespace Go.Fw
theorem sameE_eq (a b : List GEntry) : noongunref09_SameEntries a b = some (decide (a = b)) := by
  unfold noongunref09_SameEntries
  exact same_fun (fun x y => !(x == y)) (fun x y => by rfl) a b
/-- The last entries of a day, of both kinds. -/
def dayE (l : List GEntry) (d : Int) : List GEntry := [false, true].filterMap fun f => (lastE l d f).map fun n => ⟨d, f, n⟩
def lastL (l : List GEntry) : List GEntry := (daysL l).flatMap (dayE l)
theorem mem_dayE {l : List GEntry} {d : Int} {x : GEntry} : x ∈ dayE l d ↔ x.Day = d ∧ lastE l d x.Found = some x.Error := by
  unfold dayE
  rw [List.mem_filterMap]
  constructor
  · rintro ⟨f, -, h⟩
    rw [Option.map_eq_some_iff] at h
    obtain ⟨n, h1, rfl⟩ := h
    exact ⟨rfl, h1⟩
  · rintro ⟨rfl, h⟩
    refine ⟨x.Found, by cases x.Found <;> simp, ?_⟩
    rw [h]
    rfl
theorem lastE_day {l : List GEntry} {d : Int} {f : Bool} {n : Int} (h : lastE l d f = some n) : d ∈ daysL l := by
  have : (lastE l d f).isSome = true := by rw [h]; rfl
  rw [lastE_some] at this
  obtain ⟨e, he, hc⟩ := List.any_eq_true.1 this
  rw [Bool.and_eq_true, decide_eq_true_eq] at hc
  exact mem_daysL.2 ⟨e, he, hc.1⟩
theorem mem_lastL {l : List GEntry} {x : GEntry} : x ∈ lastL l ↔ lastE l x.Day x.Found = some x.Error := by
  unfold lastL
  rw [List.mem_flatMap]
  constructor
  · rintro ⟨d, -, h⟩
    obtain ⟨rfl, h⟩ := mem_dayE.1 h
    exact h
  · intro h
    exact ⟨x.Day, lastE_day h, mem_dayE.2 ⟨rfl, h⟩⟩
theorem lastL_sorted (l : List GEntry) : (lastL l).Pairwise fun a b => lastLt a b = true := by
  unfold lastL
  rw [List.pairwise_flatMap]
  constructor
  · intro d _
    unfold dayE
    cases h1 : lastE l d false <;> cases h2 : lastE l d true <;> simp [h1, h2, lastLt]
  · refine (daysL_lt l).imp fun h x hx y hy => ?_
    obtain ⟨rfl, -⟩ := mem_dayE.1 hx
    obtain ⟨rfl, -⟩ := mem_dayE.1 hy
    exact lastLt_iff.2 (.inl h)
theorem lastLt_asymm {a b : GEntry} (h : lastLt a b = true) : lastLt b a = false := by
  rw [lastLt_iff] at h
  rw [lastLt_not]
  rcases h with h | ⟨h, h1, h2⟩
  · exact .inl h
  · exact .inr ⟨h.symm, .inl h2⟩
theorem lastL_keys (l : List GEntry) : ((lastL l).map fun x => (x.Day, x.Found)).Nodup := by
  unfold List.Nodup
  rw [List.pairwise_map]
  refine (lastL_sorted l).imp fun h e => ?_
  rw [Prod.mk.injEq] at e
  rw [lastLt_iff] at h
  rcases h with h | ⟨h, h1, h2⟩
  · omega
  · rw [h1, h2] at e; cases e.2
theorem mput_keys {kv : List (GKey × Int)} (h : (kv.map Prod.fst).Nodup) (k : GKey) (v : Int) : ((mput kv k v).map Prod.fst).Nodup := by
  unfold mput
  split
  · rename_i ha
    have : (kv.map fun p => if p.1 == k then (k, v) else p).map Prod.fst = kv.map Prod.fst := by
      rw [List.map_map]
      refine List.map_congr_left fun p _ => ?_
      by_cases e : p.1 = k
      · simp [e]
      · simp [e]
    rw [this]
    exact h
  · rename_i ha
    rw [List.map_append, List.nodup_append]
    refine ⟨h, by simp, fun a ha2 b hb => ?_⟩
    obtain ⟨p, hp, rfl⟩ := List.mem_map.1 ha2
    simp only [List.map_cons, List.map_nil, List.mem_singleton] at hb
    subst hb
    intro e
    exact ha (List.any_eq_true.2 ⟨p, hp, by simpa using e⟩)
theorem page_eq3 (l : List GEntry) : ∃ pg, ledger_pageOf l = some pg ∧ (∀ d f, mget pg (GKey.mk d f) = lastE l d f) ∧ pg.length ≤ l.length ∧ (pg.map Prod.fst).Nodup := by
  obtain ⟨pg, h1, h2, h3, -⟩ := page_eq2 l
  refine ⟨pg, h1, h2, h3, ?_⟩
  have : ledger_pageOf l = some (l.foldl (fun m (e : GEntry) => mput m (GKey.mk e.Day e.Found) e.Error) []) := by
    unfold ledger_pageOf
    simp only [ledger_of, Option.bind_some]
    rw [rangeL_fold (fun m (e : GEntry) => mput m (GKey.mk e.Day e.Found) e.Error) l 0 [] (fun i x s _ => rfl)]
    rfl
  rw [h1] at this
  rw [Option.some.inj this]
  have key : ∀ (L : List GEntry) (m : List (GKey × Int)), (m.map Prod.fst).Nodup → ((L.foldl (fun m (e : GEntry) => mput m (GKey.mk e.Day e.Found) e.Error) m).map Prod.fst).Nodup := by
    intro L
    induction L with
    | nil => exact fun m h => h
    | cons x L ih => exact fun m h => ih _ (mput_keys h _ _)
  exact key l [] List.nodup_nil
theorem mget_mem {kv : List (GKey × Int)} (h : (kv.map Prod.fst).Nodup) (k : GKey) (v : Int) : mget kv k = some v ↔ (k, v) ∈ kv := by
  induction kv with
  | nil => simp [mget_nil]
  | cons p kv ih =>
    rw [List.map_cons, List.nodup_cons] at h
    rw [mget_cons, List.mem_cons]
    by_cases e : p.1 = k
    · rw [if_pos e]
      constructor
      · intro hv
        left
        rw [← e, ← Option.some.inj hv]
      · rintro (rfl | hm)
        · rfl
        · exact absurd (List.mem_map.2 ⟨(k, v), hm, e.symm⟩) h.1
    · rw [if_neg e, ih h.2]
      constructor
      · exact .inr
      · rintro (rfl | hm)
        · exact absurd rfl e
        · exact hm
theorem mem_ents {l : List GEntry} {pg : List (GKey × Int)} (hk : (pg.map Prod.fst).Nodup) (h : ∀ d f, mget pg (GKey.mk d f) = lastE l d f) {x : GEntry} : x ∈ entsOf pg ↔ lastE l x.Day x.Found = some x.Error := by
  rw [← h, mget_mem hk]
  unfold entsOf
  rw [List.mem_map]
  constructor
  · rintro ⟨⟨⟨d, f⟩, n⟩, hp, rfl⟩
    exact hp
  · intro hp
    exact ⟨_, hp, rfl⟩
theorem ents_keys {pg : List (GKey × Int)} (hk : (pg.map Prod.fst).Nodup) : ((entsOf pg).map fun x => (x.Day, x.Found)).Nodup := by
  unfold entsOf
  rw [List.map_map]
  unfold List.Nodup at hk ⊢
  rw [List.pairwise_map] at hk ⊢
  refine hk.imp fun h e => h ?_
  rename_i p q
  obtain ⟨⟨d, f⟩, n⟩ := p
  obtain ⟨⟨d2, f2⟩, n2⟩ := q
  simp only [Function.comp, Prod.mk.injEq] at e
  simp [e.1, e.2]
theorem Last_eq (l : List GEntry) : ledger_Last l = some (if vL l = true then (lastL l, 0) else ([], 1)) := by
  unfold ledger_Last
  rw [Valid_eq, Option.bind_some]
  cases hv : vL l with
  | false => rfl
  | true =>
    obtain ⟨pg, h1, h2, h3, h4⟩ := page_eq3 l
    have hl := vL_len hv
    have hm : ∀ x, x ∈ entsOf pg ↔ x ∈ lastL l := fun x => by rw [mem_ents h4 h2, mem_lastL]
    have hp : (entsOf pg).Perm (lastL l) := (List.perm_ext_iff_of_nodup (last_nodup (ents_keys h4)) (last_nodup (lastL_keys l))).2 hm
    have hok : lastOk (lastL l) = true := by
      unfold lastOk
      rw [Bool.and_eq_true, List.all_eq_true, decide_eq_true_eq]
      refine ⟨fun x hx => ?_, lastL_keys l⟩
      have := daysL_day hv (lastE_day (mem_lastL.1 hx))
      rw [Bool.and_eq_true, decide_eq_true_eq, decide_eq_true_eq]
      omega
    have hs : sortLast (lastL l) = some (lastL l) := by
      unfold sortLast
      have hlen : (lastL l).length ≤ 1073741824 := by
        rw [← hp.length_eq]
        unfold entsOf
        rw [List.length_map]
        omega
      rw [if_pos ⟨hlen, hok⟩]
      have f1 := lastSort_facts (lastL l)
      have hn := lastL_keys l
      refine congrArg some (List.Perm.eq_of_pairwise (le := fun a b => lastLt b a = false) (fun a b ha hb k1 k2 => ?_) f1.2 ((lastL_sorted l).imp lastLt_asymm) f1.1)
      have ha' := f1.1.mem_iff.1 ha
      rw [lastLt_not] at k1 k2
      refine last_inj hn a ha' b hb (by omega) ?_
      rcases k1 with k1 | ⟨_, k1⟩
      · omega
      rcases k2 with k2 | ⟨_, k2⟩
      · omega
      cases ea : a.Found <;> cases eb : b.Found <;> simp_all
    simp only [Bool.not_true, Bool.false_eq_true, if_false, if_true]
    rw [h1, Option.bind_some, sortLast_perm hp hs]
    rfl
theorem lastL_len (l : List GEntry) : (lastL l).length ≤ l.length := by
  obtain ⟨pg, h1, h2, h3, h4⟩ := page_eq3 l
  have hp : (entsOf pg).Perm (lastL l) := (List.perm_ext_iff_of_nodup (last_nodup (ents_keys h4)) (last_nodup (lastL_keys l))).2 fun x => by rw [mem_ents h4 h2, mem_lastL]
  rw [← hp.length_eq]
  unfold entsOf
  rw [List.length_map]
  exact h3
theorem dayE_len (l : List GEntry) (d : Int) : (dayE l d).length ≤ 2 := by
  unfold dayE
  exact Nat.le_trans (List.length_filterMap_le _ _) (Nat.le_refl 2)
theorem rLast_eq (l : List GEntry) (hl0 : l.length ≤ maxLen) : noongunref09_Last l = some (if vL l = true then (lastL l, 0) else ([], 1)) := by
  unfold noongunref09_Last
  rw [rValid_eq, Option.bind_some]
  cases hv : vL l with
  | false => rfl
  | true =>
    have hl := vL_len hv
    simp only [Bool.not_true, Bool.false_eq_true, if_false, if_true]
    rw [rall_eq hv, Option.bind_some]
    have key : ∀ (L : List Int) (i : Int) (z : List GEntry), z.length + 2 * L.length ≤ 1000000 → rangeL (α := Int) (S := (List GEntry)) (X := (List GEntry)) (fun ik1 yk1 z2 =>
      ((
        ((
          rangeL (α := Bool) (S := (List GEntry)) (X := (List GEntry)) (fun ik2 yk2 z5 =>
            ((
              (noongunref09_last l yk1 yk2).bind (fun o => match o with
                | (t3, t4) =>
                  ((
                    (if t4 = true then
                      (appI z5 ([(GEntry.mk yk1 yk2 t3)] : List GEntry)).bind (fun t5 =>
                      some t5)
                    else
                      some z5)) : Option ((List GEntry))).bind (fun s5 =>
                  some s5))) : Option ((List GEntry))).bind (fun s4 =>
            some (Step.cont s4))) (fun z5 => z5) ([false, true] : List Bool) 0 z2) : Option ((List GEntry))).bind (fun s3 =>
        some s3)) : Option ((List GEntry))).bind (fun s2 =>
      some (Step.cont s2))) (fun z2 => z2) L i z = some (z ++ L.flatMap (dayE l)) := by
      intro L
      induction L with
      | nil => intro i z _; simp [rangeL]
      | cons d L ih =>
        intro i z hz
        rw [List.length_cons] at hz
        have inner : ∀ (F : List Bool) (i : Int) (z : List GEntry), z.length + F.length ≤ 1000000 → rangeL (α := Bool) (S := (List GEntry)) (X := (List GEntry)) (fun ik2 yk2 z5 =>
            ((
              (noongunref09_last l d yk2).bind (fun o => match o with
                | (t3, t4) =>
                  ((
                    (if t4 = true then
                      (appI z5 ([(GEntry.mk d yk2 t3)] : List GEntry)).bind (fun t5 =>
                      some t5)
                    else
                      some z5)) : Option ((List GEntry))).bind (fun s5 =>
                  some s5))) : Option ((List GEntry))).bind (fun s4 =>
            some (Step.cont s4))) (fun z5 => z5) F i z = some (z ++ F.filterMap fun f => (lastE l d f).map fun n => ⟨d, f, n⟩) := by
          intro F
          induction F with
          | nil => intro i z _; simp [rangeL]
          | cons f F ihF =>
            intro i z hz
            rw [List.length_cons] at hz
            rw [rangeL, rlast_eq l d f hl0]
            simp only [Option.bind_some]
            cases hle : lastE l d f with
            | none =>
              simp only [Option.isSome_none, Bool.false_eq_true, if_false, Option.bind_some]
              rw [ihF (i + 1) z (by omega), List.filterMap_cons, hle]
              rfl
            | some n =>
              simp only [Option.isSome_some, if_true, Option.getD_some]
              rw [appI_ok (by simp; omega)]
              simp only [Option.bind_some]
              rw [ihF (i + 1) _ (by simp; omega), List.filterMap_cons, hle]
              simp
        rw [rangeL, inner [false, true] 0 z (by simp; omega)]
        simp only [Option.bind_some]
        have hd := dayE_len l d
        rw [show ([false, true].filterMap fun f => (lastE l d f).map fun n => (⟨d, f, n⟩ : GEntry)) = dayE l d from rfl]
        rw [ih (i + 1) (z ++ dayE l d) (by rw [List.length_append]; omega), List.flatMap_cons, List.append_assoc]
    rw [key (daysL l) 0 [] (by have := daysL_len l; simp; omega)]
    rfl
/-- The last entry of a list whose keys differ. -/
theorem lastE_uniq {L : List GEntry} (hk : (L.map fun x => (x.Day, x.Found)).Nodup) (d : Int) (f : Bool) : (∃ x ∈ L, x.Day = d ∧ x.Found = f ∧ lastE L d f = some x.Error) ∨ ((∀ x ∈ L, ¬ (x.Day = d ∧ x.Found = f)) ∧ lastE L d f = none) := by
  have key : ∀ (M : List GEntry) (acc : Option Int), (M.map fun x => (x.Day, x.Found)).Nodup →
      (∃ x ∈ M, x.Day = d ∧ x.Found = f ∧ M.foldl (fun acc e => if e.Day = d ∧ e.Found = f then some e.Error else acc) acc = some x.Error) ∨
        ((∀ x ∈ M, ¬ (x.Day = d ∧ x.Found = f)) ∧ M.foldl (fun acc e => if e.Day = d ∧ e.Found = f then some e.Error else acc) acc = acc) := by
    intro M
    induction M with
    | nil => intro acc _; exact .inr ⟨fun x hx => absurd hx List.not_mem_nil, rfl⟩
    | cons a M ih =>
      intro acc hn
      rw [List.map_cons, List.nodup_cons] at hn
      rw [List.foldl_cons]
      by_cases e : a.Day = d ∧ a.Found = f
      · rw [if_pos e]
        rcases ih (some a.Error) hn.2 with ⟨x, hx, h1, h2, -⟩ | ⟨-, h2⟩
        · exact absurd (List.mem_map.2 ⟨x, hx, by rw [h1, h2, e.1, e.2]⟩) hn.1
        · exact .inl ⟨a, List.mem_cons_self .., e.1, e.2, h2⟩
      · rw [if_neg e]
        rcases ih acc hn.2 with ⟨x, hx, h1, h2, h3⟩ | ⟨h1, h2⟩
        · exact .inl ⟨x, List.mem_cons_of_mem _ hx, h1, h2, h3⟩
        · refine .inr ⟨fun x hx => ?_, h2⟩
          rcases List.mem_cons.1 hx with rfl | hx
          · exact e
          · exact h1 x hx
  exact key L none hk
theorem lastE_lastL (l : List GEntry) (d : Int) (f : Bool) : lastE (lastL l) d f = lastE l d f := by
  rcases lastE_uniq (lastL_keys l) d f with ⟨x, hx, rfl, rfl, h⟩ | ⟨h, h2⟩
  · rw [h, mem_lastL.1 hx]
  · rw [h2]
    cases hl : lastE l d f with
    | none => rfl
    | some n => exact (h ⟨d, f, n⟩ (mem_lastL.2 hl) ⟨rfl, rfl⟩).elim
theorem lastL_valid {l : List GEntry} (hv : vL l = true) : vL (lastL l) = true := by
  have h1 := lastL_len l
  have h2 := vL_len hv
  unfold vL
  rw [Bool.and_eq_true, List.all_eq_true, decide_eq_true_eq]
  refine ⟨fun x hx => ?_, by omega⟩
  have h := mem_lastL.1 hx
  have hd := daysL_day hv (lastE_day h)
  have hb := lastE_bound hv x.Day x.Found
  rw [h, Option.getD_some] at hb
  unfold vE dayB
  simp only [Bool.and_eq_true, decide_eq_true_eq]
  omega
theorem corrF_none : ∀ (l pre : List GEntry), ((pre ++ l).map fun x => (x.Day, x.Found)).Nodup → corrF pre l = []
  | [], _, _ => rfl
  | x :: l, pre, h => by
    rw [corrF, corrF_none l (pre ++ [x]) (by rw [List.append_assoc]; exact h), if_neg]
    · rfl
    · intro hp
      obtain ⟨y, hy, hk⟩ := List.any_eq_true.1 hp
      unfold keyB at hk
      rw [Bool.and_eq_true, decide_eq_true_eq, decide_eq_true_eq] at hk
      rw [List.map_append, List.nodup_append] at h
      exact h.2.2 _ (List.mem_map.2 ⟨y, hy, rfl⟩) _ (List.mem_map.2 ⟨x, List.mem_cons_self .., rfl⟩) (by rw [hk.1, hk.2])
theorem law_noongunlaw09_LedgerLast (a0 : (List GEntry)) (_ : ∀ a ∈ a0, okGEntry a) (len0 : a0.length ≤ maxLen) (a1 : Int) (_ : inI a1 = true) : noongunlaw09_LedgerLast a0 a1 = some true := by
  unfold noongunlaw09_LedgerLast
  rw [small_eq, Option.bind_some]
  split
  · rw [awake_eq]; rfl
  rw [Last_eq, rLast_eq a0 len0]
  simp only [Option.bind_some, sameE_eq]
  cases hv : vL a0 with
  | false => simp [awake_eq]
  | true =>
    have h1 := lastL_valid hv
    have hc : corrR (lastL a0) = ([], 0) := by
      unfold corrR corrL
      rw [if_pos h1, corrF_none (lastL a0) [] (lastL_keys a0)]
    simp only [if_true, Corrections_eq, hc, Said_eq, Found_eq, toldR, lastE_lastL, h1, hv, Option.bind_some, awake_eq]
    simp
end Go.Fw
