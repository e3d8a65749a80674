/-
  The ledger's corrections, plain: the places whose day and kind came before. No condition.
-/
import Derived.Test.YtijjocfjgpibjaaLib
namespace Go.Fw
def keyB (x y : GEntry) : Bool := decide (y.Day = x.Day) && decide (y.Found = x.Found)
/-- The places of those that came before, from place i on, behind pre. -/
def corrF (pre : List GEntry) : List GEntry → List Int
  | [] => []
  | x :: l => (if pre.any (keyB x) = true then [((pre.length : Nat) : Int)] else []) ++ corrF (pre ++ [x]) l
def corrL (l : List GEntry) : List Int := corrF [] l
def corrR (l : List GEntry) : List Int × Int := if vL l = true then (corrL l, 0) else ([], 1)
theorem corrF_len (pre l : List GEntry) : (corrF pre l).length ≤ l.length := by
  induction l generalizing pre with
  | nil => simp [corrF]
  | cons x l ih =>
    have := ih (pre ++ [x])
    rw [corrF, List.length_append, List.length_cons]
    split <;> simp <;> omega
theorem corr_len_le (l : List GEntry) : (corrL l).length ≤ l.length := corrF_len [] l
theorem corrF_app (pre l m : List GEntry) : corrF pre (l ++ m) = corrF pre l ++ corrF (pre ++ l) m := by
  induction l generalizing pre with
  | nil => simp [corrF]
  | cons x l ih =>
    rw [List.cons_append, corrF, corrF, ih]
    simp [List.append_assoc]
theorem corrF_mono (p q l : List GEntry) (h : ∀ x, p.any (keyB x) = true → q.any (keyB x) = true) : (corrF p l).length ≤ (corrF q l).length := by
  induction l generalizing p q with
  | nil => simp [corrF]
  | cons x l ih =>
    have h1 := ih (p ++ [x]) (q ++ [x]) (fun y hy => by
      simp only [List.any_append, Bool.or_eq_true] at hy ⊢
      rcases hy with hy | hy
      · exact .inl (h y hy)
      · exact .inr hy)
    rw [corrF, corrF, List.length_append, List.length_append]
    by_cases hp : p.any (keyB x) = true
    · rw [if_pos hp, if_pos (h x hp)]; simp; omega
    · rw [if_neg hp]; split <;> simp <;> omega
theorem corr_app (l m : List GEntry) : (corrL l).length + (corrL m).length ≤ (corrL (l ++ m)).length := by
  unfold corrL
  rw [corrF_app, List.length_append]
  have := corrF_mono [] ([] ++ l) m (fun x hx => by simp at hx)
  omega
theorem Corrections_eq (l : List GEntry) : ledger_Corrections l = some (corrR l) := by
  unfold ledger_Corrections corrR
  rw [Valid_eq]
  simp only [Option.bind_some]
  cases hv : vL l with
  | false => simp
  | true =>
    simp only [Bool.not_true, Bool.false_eq_true, if_false, if_true]
    have hl : l.length ≤ 1000 := by simp only [vL, Bool.and_eq_true, decide_eq_true_eq] at hv; omega
    rw [rangeN_pre (fun pre x (s : List (GKey × Bool) × List Int) => if ((mget s.1 (GKey.mk x.Day x.Found)).getD false) = true then
        (appI s.2 [((pre.length : Nat) : Int)]).bind (fun t => some (Step.cont (mput s.1 (GKey.mk x.Day x.Found) true, t))) else some (Step.cont (mput s.1 (GKey.mk x.Day x.Found) true, s.2)))]
    · have key : ∀ (m pre : List GEntry) (met : List (GKey × Bool)) (out : List Int), out.length + m.length ≤ 1000 → (∀ x : GEntry, (mget met (GKey.mk x.Day x.Found)).getD false = pre.any (keyB x)) →
          preL (fun pre x (s : List (GKey × Bool) × List Int) => if ((mget s.1 (GKey.mk x.Day x.Found)).getD false) = true then
            (appI s.2 [((pre.length : Nat) : Int)]).bind (fun t => some (Step.cont (mput s.1 (GKey.mk x.Day x.Found) true, t))) else some (Step.cont (mput s.1 (GKey.mk x.Day x.Found) true, s.2)))
            (fun s => match s with | (_, z4) => z4) pre m (met, out) = some (out ++ corrF pre m) := by
        intro m
        induction m with
        | nil => intro pre met out _ _; simp [preL, corrF]
        | cons x m ih =>
          intro pre met out hlen hmet
          rw [List.length_cons] at hlen
          have hmet2 : ∀ y : GEntry, (mget (mput met (GKey.mk x.Day x.Found) true) (GKey.mk y.Day y.Found)).getD false = (pre ++ [x]).any (keyB y) := by
            intro y
            rw [mget_put, List.any_append]
            by_cases h : GKey.mk x.Day x.Found = GKey.mk y.Day y.Found
            · rw [if_pos h]
              simp only [GKey.mk.injEq] at h
              simp [keyB, h.1, h.2]
            · rw [if_neg h, hmet y]
              have : keyB y x = false := by
                unfold keyB
                rw [Bool.eq_false_iff]
                intro hk
                simp only [Bool.and_eq_true, decide_eq_true_eq] at hk
                exact h (by rw [hk.1, hk.2])
              simp [this]
          rw [preL, corrF]
          simp only [hmet x]
          by_cases hp : pre.any (keyB x) = true
          · rw [if_pos hp, if_pos hp, appI_ok (by simp; omega)]
            simp only [Option.bind_some]
            rw [ih (pre ++ [x]) _ _ (by simp; omega) hmet2]
            simp
          · rw [if_neg hp, if_neg hp]
            simp only [Option.bind_some]
            rw [ih (pre ++ [x]) _ _ (by omega) hmet2]
            simp
      rw [key l [] [] [] (by simpa using hl) (by intro x; rfl)]
      rfl
    · intro i x s hx
      have hi : i < l.length := (List.getElem?_eq_some_iff.1 hx).1
      have hlen : (l.take i).length = i := by rw [List.length_take]; omega
      obtain ⟨met, out⟩ := s
      simp only [idx_at hx, Option.bind_some, ledger_of, hlen]
      by_cases hp : (mget met (GKey.mk x.Day x.Found)).getD false = true
      · rw [if_pos hp, if_pos hp]
        cases appI out [(i : Int)] <;> rfl
      · rw [if_neg hp, if_neg hp]
        rfl
end Go.Fw
