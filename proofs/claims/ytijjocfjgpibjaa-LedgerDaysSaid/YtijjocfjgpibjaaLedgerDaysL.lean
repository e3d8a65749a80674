/-
  LedgerDays, plain: its model gives true for whatever comes in. No condition.
-/
import Derived.Test.YtijjocfjgpibjaaWorstLib
namespace Go.Fw
theorem mput_nodup {α β : Type} [DecidableEq α] {kv : List (α × β)} (k : α) (v : β) (h : (kv.map Prod.fst).Nodup) : ((mput kv k v).map Prod.fst).Nodup := by
  unfold mput
  split
  · have : (kv.map fun p => if p.1 = k then (k, v) else p).map Prod.fst = kv.map Prod.fst := by
      rw [List.map_map]
      refine List.map_congr_left fun p _ => ?_
      simp only [Function.comp_def]
      split
      · rename_i e; exact e.symm
      · rfl
    first | (rw [this]; exact h) | (simp only [beq_iff_eq]; rw [this]; exact h)
  · rename_i hn
    rw [List.map_append, List.map_cons, List.map_nil, List.nodup_append]
    refine ⟨h, by simp, fun a ha b hb e => ?_⟩
    rw [List.mem_singleton.1 hb] at e
    obtain ⟨p, hp, he⟩ := List.mem_map.1 ha
    exact hn (List.any_eq_true.2 ⟨p, hp, by simp [he, e]⟩)
theorem page_nodup {l : List GEntry} {pg : List (GKey × Int)} (h : ledger_pageOf l = some pg) : (pg.map Prod.fst).Nodup := by
  have : ledger_pageOf l = some (l.foldl (fun m (e : GEntry) => mput m (GKey.mk e.Day e.Found) e.Error) []) := by
    unfold ledger_pageOf
    simp only [ledger_of, Option.bind_some]
    rw [rangeL_fold (fun m (e : GEntry) => mput m (GKey.mk e.Day e.Found) e.Error) l 0 [] (fun i x s _ => rfl)]
    rfl
  rw [h] at this
  rw [Option.some.inj this]
  have key : ∀ (L : List GEntry) (m : List (GKey × Int)), (m.map Prod.fst).Nodup → ((L.foldl (fun m (e : GEntry) => mput m (GKey.mk e.Day e.Found) e.Error) m).map Prod.fst).Nodup := by
    intro L
    induction L with
    | nil => intro m h; exact h
    | cons x L ih => intro m h; rw [List.foldl_cons]; exact ih _ (mput_nodup _ _ h)
  exact key l [] (by simp)
def unfL (l : List GEntry) : List Int := (daysL l).filter fun d => (lastE l d false).isSome && !(lastE l d true).isSome
theorem Unfound_eq (l : List GEntry) : ledger_Unfound l = some (if vL l = true then (unfL l, 0) else ([], 1)) := by
  unfold ledger_Unfound
  rw [Valid_eq]
  cases hv : vL l with
  | false => rfl
  | true =>
    obtain ⟨pg, h1, h2, h3, h4⟩ := page_eq2 l
    have hlen := vL_len hv
    have hnd := page_nodup h1
    simp only [Option.bind_some, Bool.not_true, Bool.false_eq_true, if_false, if_true, h1]
    rw [if_pos (by omega)]
    have hs : (notFound pg pg).mergeSort (fun x y => decide (x ≤ y)) = unfL l := by
      have hnn : (notFound pg pg).Nodup := by
        unfold notFound
        rw [List.nodup_iff_pairwise_ne, List.pairwise_map]
        have hp : pg.Pairwise fun a b => a.1 ≠ b.1 := List.pairwise_map.1 (List.nodup_iff_pairwise_ne.1 hnd)
        refine (List.Pairwise.and_mem.1 (hp.filter _)).imp fun {a b} ⟨ha, hb, hab⟩ e => hab ?_
        have fa := (List.mem_filter.1 ha).2
        have fb := (List.mem_filter.1 hb).2
        simp only [Bool.and_eq_true, Bool.not_eq_true'] at fa fb
        obtain ⟨⟨ad, af⟩, av⟩ := a
        obtain ⟨⟨bd, bf⟩, bv⟩ := b
        simp only at e fa fb ⊢
        rw [e, fa.1, fb.1]
      refine sorted_unique (sortI_lt hnn) ((daysL_lt l).filter _) fun d => ?_
      show d ∈ sortI _ ↔ d ∈ unfL l
      rw [(sortI_perm _).mem_iff]
      unfold notFound unfL
      rw [List.mem_map, List.mem_filter, mem_daysL]
      constructor
      · rintro ⟨p, hp, rfl⟩
        obtain ⟨hp1, hp2⟩ := List.mem_filter.1 hp
        simp only [Bool.and_eq_true, Bool.not_eq_true', h2] at hp2
        refine ⟨(h4 p.1.day).1 ⟨p, hp1, rfl⟩, ?_⟩
        have : (mget pg (GKey.mk p.1.day false)).isSome = true := (mget_some _ _).2 ⟨p, hp1, by obtain ⟨⟨pd, pf⟩, pv⟩ := p; simp only at hp2 ⊢; rw [hp2.1]⟩
        rw [h2] at this
        rw [this, hp2.2]; rfl
      · rintro ⟨_, hd⟩
        simp only [Bool.and_eq_true, Bool.not_eq_true'] at hd
        have : (mget pg (GKey.mk d false)).isSome = true := by rw [h2]; exact hd.1
        obtain ⟨p, hp, hk⟩ := (mget_some _ _).1 this
        refine ⟨p, List.mem_filter.2 ⟨hp, ?_⟩, by rw [hk]⟩
        rw [hk]
        simp only [Bool.not_false, Bool.true_and, h2, hd.2]
    rw [hs]
theorem rUnfound_eq (l : List GEntry) : noongunref09_Unfound l = some (if vL l = true then (unfL l, 0) else ([], 1)) := by
  unfold noongunref09_Unfound
  rw [rValid_eq]
  cases hv : vL l with
  | false => rfl
  | true =>
    have hlen := vL_len hv
    have hdl := daysL_len l
    have hm : l.length ≤ maxLen := by unfold maxLen; omega
    simp only [Option.bind_some, Bool.not_true, Bool.false_eq_true, if_false, if_true, rall_eq hv]
    rw [pick_loop (fun d => (lastE l d false).isSome && !(lastE l d true).isSome)]
    · rfl
    · intro i d s _ hs
      rw [rlast_eq l d false hm, rlast_eq l d true hm]
      simp only [Option.bind_some]
      cases ((lastE l d false).isSome && !(lastE l d true).isSome) with
      | true => simp only [if_true]; rw [appI_ok (by simp; omega)]; rfl
      | false => rfl
    · simp; omega
theorem rCorrections_eq (l : List GEntry) : noongunref09_Corrections l = some (corrR l) := by
  unfold noongunref09_Corrections corrR
  rw [rValid_eq]
  cases hv : vL l with
  | false => rfl
  | true =>
    have hlen := vL_len hv
    simp only [Option.bind_some, Bool.not_true, Bool.false_eq_true, if_false, if_true]
    rw [rangeN_pre (fun pre (x : GEntry) (s : List Int) => if pre.any (keyB x) = true then (appI s [((pre.length : Nat) : Int)]).bind (fun t => some (Step.cont t)) else some (Step.cont s))]
    · have key : ∀ (m pre : List GEntry) (out : List Int), out.length + m.length ≤ 1000 →
          preL (fun pre (x : GEntry) (s : List Int) => if pre.any (keyB x) = true then (appI s [((pre.length : Nat) : Int)]).bind (fun t => some (Step.cont t)) else some (Step.cont s)) (fun z2 => z2) pre m out = some (out ++ corrF pre m) := by
        intro m
        induction m with
        | nil => intro pre out _; simp [preL, corrF]
        | cons x m ih =>
          intro pre out hl
          rw [List.length_cons] at hl
          rw [preL, corrF]
          by_cases hp : pre.any (keyB x) = true
          · rw [if_pos hp, if_pos hp, appI_ok (by simp; omega)]
            simp only [Option.bind_some]
            rw [ih (pre ++ [x]) _ (by simp; omega)]
            simp
          · rw [if_neg hp, if_neg hp]
            simp only [Option.bind_some]
            rw [ih (pre ++ [x]) _ (by omega)]
            simp
      rw [key l [] [] (by simpa using hlen)]
      rfl
    · intro i x s hx
      have hi : i < l.length := (List.getElem?_eq_some_iff.1 hx).1
      have hlen2 : (l.take i).length = i := by rw [List.length_take]; omega
      rw [idx_at hx, Option.bind_some, cutI_take _ _ (by omega), Option.bind_some, rlast_eq _ _ _ (by unfold maxLen; omega), hlen2, lastE_some]
      simp only [Option.bind_some]
      have : ((l.take i).any fun e => decide (e.Day = x.Day) && decide (e.Found = x.Found)) = (l.take i).any (keyB x) := rfl
      rw [this]
      by_cases hp : (l.take i).any (keyB x) = true
      · rw [if_pos hp, if_pos hp]
        cases appI s [(i : Int)] <;> rfl
      · rw [if_neg hp, if_neg hp]
        rfl
theorem law_noongunlaw09_LedgerDays (a0 : (List GEntry)) (_ : ∀ a ∈ a0, okGEntry a) (_ : a0.length ≤ maxLen) : noongunlaw09_LedgerDays a0 = some true := by
  unfold noongunlaw09_LedgerDays
  rw [small_eq, Option.bind_some]
  split
  · rw [awake_eq]; rfl
  · simp only [Days_eq, rDays_eq, Unfound_eq, rUnfound_eq, Corrections_eq, rCorrections_eq, Option.bind_some, rsame_eq, beq_self_eq_true, decide_true, Bool.and_self, if_true, awake_eq]
end Go.Fw
