/-
  StationNil, the plain law: what the code computes answers true, for whatever line.
-/
import Derived.Test.YtmoofcflfbnceaaGreatDoorM2
import Derived.Test.YtmoofcflfbnceaaGreatDoorFwN
namespace Go.Fw
open Go.Gr
theorem sortEdges_eq {st st' : List GEdge} (h : st'.Perm st) (hs : st'.Pairwise fun a b => Go.Proofs.ltOf edgeC b a = false) (hn : (st.map edgeKey).Nodup) : sortEdges st = st' := by
  have p1 := (srtOf_facts edgeC edge_swo st).1
  refine List.Perm.eq_of_pairwise (le := fun a b => Go.Proofs.ltOf edgeC b a = false) (fun a b ha hb h1 h2 => ?_) (sorted_pairwise st) hs (p1.trans h.symm)
  have ha' : a ∈ st := p1.mem_iff.1 ha
  have hb' : b ∈ st := h.mem_iff.1 hb
  refine inj_of_nodup_map hn ha' hb' ?_
  have n1 : ¬ _ := fun h => by rw [(edge_lt b a).2 h] at h1; cases h1
  have n2 : ¬ _ := fun h => by rw [(edge_lt a b).2 h] at h2; cases h2
  unfold edgeKey
  have e1 : a.from_ = b.from_ := by omega
  have e2 : a.to = b.to := by omega
  have e3 : a.number = b.number := by omega
  rw [e1, e2, e3]
theorem bindS {α β : Type} {o : Option α} {f : α → Option β} {a : α} (h : o = some a) : o.bind f = f a := by rw [h]; rfl
def twoN : GNet := ⟨[0, 10000], [⟨0, 1, 0, 100, 100⟩, ⟨1000000, 1, 0, 150, 160⟩]⟩
def oneS : List GSight := [⟨0, 1, 0, 100, 100⟩]
def kvT : List (GPoint × Int) := [(⟨0, 0⟩, 0), (⟨1, 0⟩, 1), (⟨1, 1000000⟩, 2)]
def stT : List GEdge := [⟨0, 1, 100, 0⟩, ⟨1, 0, -100, 1⟩, ⟨0, 2, 160, 2⟩, ⟨2, 0, -150, 3⟩, ⟨1, 2, 10, -1⟩, ⟨2, 1, 10, -1⟩]
def soT : List GEdge := [⟨0, 1, 100, 0⟩, ⟨0, 2, 160, 2⟩, ⟨1, 0, -100, 1⟩, ⟨1, 2, 10, -1⟩, ⟨2, 0, -150, 3⟩, ⟨2, 1, 10, -1⟩]
def kvO : List (GPoint × Int) := [(⟨0, 0⟩, 0), (⟨1, 0⟩, 1)]
def stO : List GEdge := [⟨0, 1, 100, 0⟩, ⟨1, 0, -100, 1⟩]
def kvP : List (GPoint × Int) := [(⟨1, 1000000⟩, 0), (⟨0, 0⟩, 1), (⟨1, 0⟩, 2)]
def stP : List GEdge := [⟨1, 2, 100, 0⟩, ⟨2, 1, -100, 1⟩, ⟨0, 2, 10, -1⟩, ⟨2, 0, 10, -1⟩]
theorem twoN_graph : sight_graphOf twoN [] = some (kvT, stT) := by decide
theorem oneN_graph : sight_graphOf ⟨[0, 10000], oneS⟩ [] = some (kvO, stO) := by decide
theorem oneN_graph2 : sight_graphOf ⟨[0, 10000], oneS⟩ [⟨1, 1000000⟩, ⟨0, 0⟩] = some (kvP, stP) := by decide
theorem sorted_to {kv : List (GPoint × Int)} {st so : List GEdge} (h : so.Perm st) (hs : so.Pairwise fun a b => Go.Proofs.ltOf edgeC b a = false) (hn : (st.map edgeKey).Nodup) (hl : st.length ≤ 1000) : sight_graph_sorted kv st = some so := by
  unfold sight_graph_sorted slices_Clone_step appI srtI
  rw [List.nil_append, if_pos (by simp only [List.length_nil]; omega), Option.bind_some, Option.bind_some, if_pos (by omega), sortEdges_eq h hs hn]
  rfl
theorem twoN_circle : circleG kvT stT = some (false, [0, 3]) := by
  unfold circleG
  rw [if_pos (by decide)]
  unfold sight_graph_circle
  rw [sorted_to (so := soT) (by decide) (by decide) (by decide) (by decide)]
  refine (bindS (a := [0, 0, 0]) (by decide)).trans ?_
  refine (bindS (a := [⟨0, 0, 0, 0⟩, ⟨0, 0, 0, 0⟩, ⟨0, 0, 0, 0⟩]) (by decide)).trans ?_
  refine (bindS (a := soT) rfl).trans ?_
  refine (bindS (a := 4) (by decide)).trans ?_
  refine (bindS (a := ([⟨2, 0, -150, 3⟩, ⟨0, 1, 100, 0⟩, ⟨1, 2, 10, -1⟩], 0)) (by decide)).trans ?_
  refine (if_neg (by decide)).trans ?_
  refine (bindS (a := 0) (by decide)).trans ?_
  refine (bindS (a := [3, 0]) ?_).trans (by decide)
  exact (loopR_cont (2, [3]) rfl).trans ((loopR_cont (1, [3]) rfl).trans (loopR_done rfl))
theorem oneN_circle : circleG kvO stO = some (true, []) := by
  unfold circleG
  rw [if_pos (by decide)]
  unfold sight_graph_circle
  rw [sorted_to (so := stO) (by decide) (by decide) (by decide) (by decide)]
  decide
theorem twoN_consistent : sight_Consistent twoN = some (false, 0) := by
  unfold sight_Consistent
  rw [show sight_Valid twoN = some true by decide, Option.bind_some, twoN_graph]
  refine (if_neg (by decide)).trans ?_
  exact (bindS (a := (kvT, stT)) rfl).trans ((bindS twoN_circle).trans rfl)
theorem oneN_noNeg : NoNeg (edgeE stP) := noNeg_of_potential (fun i => if i = 2 then 100 else if i = 1 then 0 else 100) fun p q c ⟨s, hs, h1, h2, h3⟩ => by
  subst h1; subst h2; subst h3
  exact (by decide : ∀ s ∈ stP, (if edgeP.to s = 2 then (100 : Int) else if edgeP.to s = 1 then 0 else 100) ≤ (if edgeP.fr s = 2 then 100 else if edgeP.fr s = 1 then 0 else 100) + edgeP.co s) s hs
theorem oneN_least : leastG kvP stP ⟨0, 0⟩ ⟨1, 1000000⟩ = some (110, true) ∧ leastG kvP stP ⟨1, 1000000⟩ ⟨0, 0⟩ = some (-90, true) := by
  unfold leastG
  rw [if_pos ⟨by decide, oneN_noNeg, ⟨1, by decide⟩, ⟨0, by decide⟩⟩, if_pos ⟨by decide, oneN_noNeg, ⟨0, by decide⟩, ⟨1, by decide⟩⟩]
  exact ⟨by decide, by decide⟩
theorem oneN_error : sight_Error ⟨[0, 10000], oneS⟩ 1 1000000 = some (⟨90, 110⟩, 0) := by
  unfold sight_Error sight_Between
  rw [show sight_clock ⟨[0, 10000], oneS⟩ [1, 0] = some 0 by decide, Option.bind_some]
  refine (bindS (a := (⟨90, 110⟩, 0)) ?_).trans rfl
  refine (if_neg (by decide)).trans ?_
  refine (bindS (a := true) (by decide)).trans ?_
  refine (if_neg (by decide)).trans ?_
  refine (bindS oneN_graph).trans ?_
  refine (bindS oneN_circle).trans ?_
  refine (if_neg (by decide)).trans ?_
  refine (bindS (a := (⟨90, 110⟩, true)) ?_).trans rfl
  unfold sight_between
  refine (if_neg (by decide)).trans ?_
  refine (bindS (a := ⟨1, 1000000⟩) (by decide)).trans ?_
  refine (bindS (a := ⟨0, 0⟩) (by decide)).trans ?_
  refine (bindS oneN_graph2).trans ?_
  refine (bindS oneN_least.1).trans ?_
  refine (bindS oneN_least.2).trans ?_
  decide
end Go.Fw
namespace Go.Fw
theorem wrU_in (a : Int) : 0 ≤ wrU a ∧ wrU a < 18446744073709551616 := by
  unfold wrU IntKind.wrap IntKind.bits IntKind.signed
  simp only [Bool.false_and, Bool.false_eq_true, if_false]
  exact ⟨Int.emod_nonneg _ (by decide), Int.emod_lt_of_pos _ (by decide)⟩
def hashF (l : List UInt8) : Int := l.foldl (fun z b => wrU ((bits .xor .u64 z (b.toNat : Int)) * 1099511628211)) 14695981039346656037
theorem hashF_in (l : List UInt8) : 0 ≤ hashF l ∧ hashF l < 18446744073709551616 := by
  unfold hashF
  rcases List.eq_nil_or_concat l with rfl | ⟨m, b, rfl⟩
  · decide
  · rw [List.concat_eq_append, List.foldl_append]
    exact wrU_in _
theorem cv_byte (b : UInt8) : cvI .u64 (b.toNat : Int) = some (b.toNat : Int) := by
  unfold cvI
  have := b.toNat_lt
  rw [if_pos (by simp [IntKind.wrap, IntKind.bits, IntKind.signed]; omega)]
theorem hash_eq (s : ByteArray) (h : s.size ≤ 1099511627776) : station_hash s = some (hashF (bytes s)) := by
  unfold station_hash bytesI
  rw [if_pos h, Option.bind_some, rangeL_fold (fun z (b : UInt8) => wrU ((bits .xor .u64 z (b.toNat : Int)) * 1099511628211))]
  · rfl
  · intro i x s _
    rw [cv_byte]
    rfl
def zerosB : ByteArray := bs [48, 48, 48, 48, 48, 48, 48, 48, 48, 48, 48, 48, 48, 48, 48, 48]
def hexB (n : Int) : ByteArray := zerosB.extract (hexL n.toNat []).length 16 ++ ⟨(hexL n.toNat []).toArray⟩
theorem hexL_short {n : Int} (h0 : 0 ≤ n) (h1 : n < 18446744073709551616) : (hexL n.toNat []).length ≤ 16 := by
  have := hexL_len 15 n.toNat [] (by have : (16 : Nat) ^ (15 + 1) = 18446744073709551616 := by decide
                                     omega)
  simpa using this
theorem hex_eq {n : Int} (h0 : 0 ≤ n) (h1 : n < 18446744073709551616) : station_hex n = some (hexB n) := by
  have hl := hexL_short h0 h1
  unfold station_hex strconv_FormatUint
  rw [if_pos ⟨rfl, h0, h1⟩, Option.bind_some]
  have e1 : (⟨(hexL n.toNat []).toArray⟩ : ByteArray).size = (hexL n.toNat []).length := rfl
  have e2 : (bs [48, 48, 48, 48, 48, 48, 48, 48, 48, 48, 48, 48, 48, 48, 48, 48]).size = 16 := rfl
  rw [e1, e2]
  unfold cutB
  rw [if_pos ⟨by omega, by omega, by rw [e2]; exact Int.le_refl _⟩, Option.bind_some]
  unfold catI
  rw [if_pos]
  · rfl
  · rw [e1, ByteArray.size_extract, e2]
    omega
theorem hexB_size {n : Int} (h0 : 0 ≤ n) (h1 : n < 18446744073709551616) : (hexB n).size = 16 := by
  have hl := hexL_short h0 h1
  have e1 : (⟨(hexL n.toNat []).toArray⟩ : ByteArray).size = (hexL n.toNat []).length := rfl
  have e2 : zerosB.size = 16 := rfl
  unfold hexB
  rw [ByteArray.size_append, ByteArray.size_extract, e1, e2]
  omega
/-- The sum that stands before a further line. -/
def before (l : List GLine) : ByteArray := match l.getLast? with
  | none => zerosB
  | some x => hexB x.Sum
def nextF (l : List GLine) (t : ByteArray) : GLine := ⟨((l.length : Nat) : Int), t, hashF (bytes ((before l ++ bs [32]) ++ t))⟩
def okSums (l : List GLine) : Prop := ∀ x ∈ l, 0 ≤ x.Sum ∧ x.Sum < 18446744073709551616
theorem before_size {l : List GLine} (h : okSums l) : (before l).size = 16 := by
  unfold before
  cases hl : l.getLast? with
  | none => rfl
  | some x =>
    have := h x (List.mem_of_getLast? hl)
    exact hexB_size this.1 this.2
theorem next_eq {l : List GLine} (h : okSums l) (hl : l.length ≤ 1000000) (t : ByteArray) (ht : t.size ≤ 1000000) : station_next l t = some (nextF l t) := by
  have hb : ((if (decide (0 < ((l.length : Nat) : Int))) = true then
    (subI ((l.length : Nat) : Int) 1).bind (fun t1 =>
    (idx l t1).bind (fun x1 =>
    (station_hex x1.Sum).bind (fun t2 =>
    some t2)))
  else
    some (bs [48, 48, 48, 48, 48, 48, 48, 48, 48, 48, 48, 48, 48, 48, 48, 48])) : Option ByteArray) = some (before l) := by
    unfold before
    cases hg : l.getLast? with
    | none =>
      obtain rfl := List.getLast?_eq_none_iff.1 hg
      rfl
    | some x =>
      have hne : 0 < l.length := by
        cases l with
        | nil => cases hg
        | cons a l => simp
      have hx := h x (List.mem_of_getLast? hg)
      rw [if_pos (by simpa using hne), subI_ok (by omega), Option.bind_some]
      have e : idx l ((l.length : Int) - 1) = some x := by
        rw [List.getLast?_eq_getElem?] at hg
        rw [show ((l.length : Int) - 1) = ((l.length - 1 : Nat) : Int) by omega, idx_nat]
        exact hg
      rw [e, Option.bind_some, hex_eq hx.1 hx.2]
      rfl
  have hs := before_size h
  unfold station_next
  rw [hb, Option.bind_some]
  have c1 : catI (before l) (bs [32]) = some (before l ++ bs [32]) := by
    unfold catI
    rw [if_pos (by rw [hs]; decide)]
  have s1 : (before l ++ bs [32]).size = 17 := by rw [ByteArray.size_append, hs]; rfl
  have c2 : catI (before l ++ bs [32]) t = some ((before l ++ bs [32]) ++ t) := by
    unfold catI
    rw [if_pos (by rw [s1]; omega)]
  rw [c1, Option.bind_some, c2, Option.bind_some, hash_eq _ (by rw [ByteArray.size_append, s1]; omega)]
  rfl
theorem nextF_sum (l : List GLine) (t : ByteArray) : 0 ≤ (nextF l t).Sum ∧ (nextF l t).Sum < 18446744073709551616 := hashF_in _
theorem okSums_nil : okSums [] := fun _ h => absurd h List.not_mem_nil
theorem okSums_app {l : List GLine} (h : okSums l) (t : ByteArray) : okSums (l ++ [nextF l t]) := by
  intro x hx
  rcases List.mem_append.1 hx with hx | hx
  · exact h x hx
  · rw [List.mem_singleton.1 hx]
    exact nextF_sum l t
end Go.Fw
namespace Go.Fw
open Go.Gr
theorem refS {α β : Type} {o : Option (Ref α)} {k : α → Option (Ref β)} {a : α} (h : o = some (.ok a)) : refB o k = k a := by rw [h]; rfl
theorem mustT {β : Type} {c : Bool} {e : Int} {k : Option (Ref β)} (h : c = true) : mustB c e k = k := by rw [h]; rfl
theorem mustF {β : Type} {c : Bool} {e : Int} {k : Option (Ref β)} (h : c = false) : mustB c e k = some (.no e) := by rw [h]; rfl
def mastA : GMast := ⟨43200000, 300000, 120000, 200, 3600000, 60⟩
def insA (net : GNet) (fl : Int) : GInside := ⟨mastA, 0, net, [], ⟨0, 0, false, 0⟩, [], [], fl⟩
def lnA : ByteArray := bs [115, 105, 103, 104, 116, 32, 48, 32, 49, 32, 48, 32, 49, 48, 48, 32, 49, 48, 48]
def lnB : ByteArray := bs [101, 114, 114, 111, 114, 32, 49, 32, 49, 48, 48, 48, 48, 48, 48]
def lnC : ByteArray := bs [115, 105, 103, 104, 116, 32, 49, 48, 48, 48, 48, 48, 48, 32, 49, 32, 48, 32, 49, 53, 48, 32, 49, 54, 48]
def lnD : ByteArray := bs [116, 111, 114, 110, 32, 49, 48]
def lnE : ByteArray := bs [104, 111, 105, 115, 116, 32, 49, 49]
def replyA : ByteArray := bs [115, 105, 103, 104, 116, 115, 32, 49]
def replyB : ByteArray := bs [101, 114, 114, 111, 114, 32, 57, 48, 32, 49, 49, 48]
def replyD : ByteArray := bs [102, 108, 97, 103, 115, 32, 49, 50]
theorem newA : station_New mastA [0, 10000] = some (.got ⟨insA ⟨[0, 10000], []⟩ 8191, []⟩) := by rfl
theorem copA1 : station_inside_copied (insA ⟨[0, 10000], []⟩ 8191) = some (insA ⟨[0, 10000], []⟩ 8191) := by rfl
theorem copA2 (fl : Int) : station_inside_copied (insA ⟨[0, 10000], oneS⟩ fl) = some (insA ⟨[0, 10000], oneS⟩ fl) := by rfl
set_option maxRecDepth 20000 in
theorem parA : station_parsed lnA = some (some (0, [bs [48], bs [49], bs [48], bs [49, 48, 48], bs [49, 48, 48]])) := by decide +kernel
set_option maxRecDepth 20000 in
theorem parB : station_parsed lnB = some (some (5, [bs [49], bs [49, 48, 48, 48, 48, 48, 48]])) := by decide +kernel
set_option maxRecDepth 20000 in
theorem parC : station_parsed lnC = some (some (0, [bs [49, 48, 48, 48, 48, 48, 48], bs [49], bs [48], bs [49, 53, 48], bs [49, 54, 48]])) := by decide +kernel
set_option maxRecDepth 20000 in
theorem parD : station_parsed lnD = some (some (8, [bs [49, 48]])) := by decide +kernel
set_option maxRecDepth 20000 in
theorem parE : station_parsed lnE = some (some (10, [bs [49, 49]])) := by decide +kernel
theorem oneN_consistent : sight_Consistent ⟨[0, 10000], oneS⟩ = some (true, 0) := by
  unfold sight_Consistent
  rw [show sight_Valid ⟨[0, 10000], oneS⟩ = some true by decide, Option.bind_some]
  refine (if_neg (by decide)).trans ?_
  refine (bindS oneN_graph).trans ?_
  exact (bindS oneN_circle).trans rfl
theorem doA : sessionDo ⟨insA ⟨[0, 10000], []⟩ 8191⟩ 0 [bs [48], bs [49], bs [48], bs [49, 48, 48], bs [49, 48, 48]] = some (.ok (⟨insA ⟨[0, 10000], oneS⟩ 8191⟩, replyA)) := by
  show station_session_sight _ _ = _
  unfold station_session_sight
  refine (bindS (a := [0, 1, 0, 100, 100]) (by decide +kernel)).trans ?_
  refine (bindS (a := 0) rfl).trans ?_
  refine (refS (a := 0) rfl).trans ?_
  refine (bindS (a := 1) rfl).trans ?_
  refine (bindS (a := 0) rfl).trans ?_
  refine (bindS (a := 100) rfl).trans ?_
  refine (bindS (a := 100) rfl).trans ?_
  refine (bindS (a := (⟨[0, 10000], oneS⟩, 0)) (by decide +kernel)).trans ?_
  refine (mustT rfl).trans ?_
  refine (bindS oneN_consistent).trans ?_
  refine (mustT rfl).trans ?_
  refine (mustT rfl).trans ?_
  exact (bindS (a := replyA) (by decide +kernel)).trans rfl
theorem doB : sessionDo ⟨insA ⟨[0, 10000], oneS⟩ 8191⟩ 5 [bs [49], bs [49, 48, 48, 48, 48, 48, 48]] = some (.ok (⟨insA ⟨[0, 10000], oneS⟩ 8191⟩, replyB)) := by
  have h : station_session_bounds ⟨insA ⟨[0, 10000], oneS⟩ 8191⟩ [bs [49], bs [49, 48, 48, 48, 48, 48, 48]] = some (.ok replyB) := by
    unfold station_session_bounds
    refine (bindS (a := [1, 1000000]) (by decide +kernel)).trans ?_
    refine (bindS (a := 1) rfl).trans ?_
    refine (bindS (a := 1000000) rfl).trans ?_
    refine (refS (a := 1000000) rfl).trans ?_
    refine (bindS oneN_error).trans ?_
    refine (mustT rfl).trans ?_
    exact (bindS (a := replyB) (by decide +kernel)).trans rfl
  show (station_session_bounds _ _).map _ = _
  rw [h]
  rfl
theorem doC : sessionDo ⟨insA ⟨[0, 10000], oneS⟩ 8191⟩ 0 [bs [49, 48, 48, 48, 48, 48, 48], bs [49], bs [48], bs [49, 53, 48], bs [49, 54, 48]] = some (.no 9) := by
  show station_session_sight _ _ = _
  unfold station_session_sight
  refine (bindS (a := [1000000, 1, 0, 150, 160]) (by decide +kernel)).trans ?_
  refine (bindS (a := 1000000) rfl).trans ?_
  refine (refS (a := 1000000) rfl).trans ?_
  refine (bindS (a := 1) rfl).trans ?_
  refine (bindS (a := 0) rfl).trans ?_
  refine (bindS (a := 150) rfl).trans ?_
  refine (bindS (a := 160) rfl).trans ?_
  refine (bindS (a := (twoN, 0)) (by decide +kernel)).trans ?_
  refine (mustT rfl).trans ?_
  refine (bindS twoN_consistent).trans ?_
  refine (mustT rfl).trans ?_
  exact mustF rfl
theorem doD : sessionDo ⟨insA ⟨[0, 10000], oneS⟩ 8191⟩ 8 [bs [49, 48]] = some (.ok (⟨insA ⟨[0, 10000], oneS⟩ 7167⟩, replyD)) := by
  have h : ∃ r, station_session_torn ⟨insA ⟨[0, 10000], oneS⟩ 8191⟩ [bs [49, 48]] = some r ∧ match r with | .ok p => p = (⟨insA ⟨[0, 10000], oneS⟩ 7167⟩, replyD) | .no _ => False := by
    unfold station_session_torn
    refine ⟨.ok (⟨insA ⟨[0, 10000], oneS⟩ 7167⟩, replyD), ?_, rfl⟩
    refine (refS (a := 1024) (by rfl)).trans ?_
    refine (mustT (by decide +kernel)).trans ?_
    exact (bindS (a := replyD) (by decide +kernel)).trans rfl
  obtain ⟨r, h1, h2⟩ := h
  show station_session_torn _ _ = _
  rw [h1]
  cases r with
  | ok p => rw [show p = _ from h2]
  | no e => exact h2.elim
theorem doE : sessionDo ⟨insA ⟨[0, 10000], oneS⟩ 7167⟩ 10 [bs [49, 49]] = some (.no 10) := by
  have h : station_session_hoist ⟨insA ⟨[0, 10000], oneS⟩ 7167⟩ [bs [49, 49]] = some (.no 10) := by
    unfold station_session_hoist
    refine (bindS (a := bs [49, 49]) rfl).trans ?_
    refine (bindS (a := [1, 1]) (by decide +kernel)).trans ?_
    refine (bindS (a := ([], 10)) (by decide +kernel)).trans ?_
    exact mustF rfl
  simp only [sessionDo, h]
  rfl
/-- A line that is done. -/
theorem Do_ok {x : GStation} {t r : ByteArray} {c : Nat} {ws : List ByteArray} {s : GSession} (hp : station_parsed t = some (some (c, ws))) (hl : x.lines.length < 2000) (hc : station_inside_copied x.inside = some x.inside)
    (hd : sessionDo ⟨x.inside⟩ c ws = some (.ok (s, r))) (hs : okSums x.lines) (ht : t.size ≤ 1000000) : station_Station_Do x t = some (⟨s.inside, x.lines ++ [nextF x.lines t]⟩, r, 0) := by
  unfold station_Station_Do
  rw [hp, Option.bind_some]
  have hl2 : ¬ (((x.lines.length : Nat) : Int) == 2000) = true := by simp; omega
  dsimp only
  rw [if_neg hl2, hc, Option.bind_some]
  unfold station_session_attempt
  rw [hd, Option.bind_some, Option.bind_some]
  dsimp only
  rw [next_eq hs (by omega) t ht, Option.bind_some, appI_ok (by simp; omega)]
  rfl
/-- A line that is refused. -/
theorem Do_no {x : GStation} {t : ByteArray} {c : Nat} {ws : List ByteArray} {e : Int} (hp : station_parsed t = some (some (c, ws))) (hl : x.lines.length < 2000) (hc : station_inside_copied x.inside = some x.inside)
    (hd : sessionDo ⟨x.inside⟩ c ws = some (.no e)) (he : e ≠ 0) : station_Station_Do x t = some (x, bs [], e) := by
  unfold station_Station_Do
  rw [hp, Option.bind_some]
  have hl2 : ¬ (((x.lines.length : Nat) : Int) == 2000) = true := by simp; omega
  dsimp only
  rw [if_neg hl2, hc, Option.bind_some]
  unfold station_session_attempt
  rw [hd, Option.bind_some]
  dsimp only
  rw [if_neg he, Option.bind_some]
theorem awakeSt_eq : noongunlaw10_awake = some true := by
  unfold noongunlaw10_awake
  refine (bindS (a := mastA) rfl).trans ?_
  refine (bindS newA).trans ?_
  dsimp only
  have k0 : okSums [] := okSums_nil
  have k1 := okSums_app k0 lnA
  have k2 := okSums_app k1 lnB
  have k3 := okSums_app k2 lnD
  refine (bindS (Do_ok (x := ⟨insA ⟨[0, 10000], []⟩ 8191, []⟩) parA (by decide) copA1 doA k0 (by decide))).trans ?_
  refine (bindS (Do_ok (x := ⟨insA ⟨[0, 10000], oneS⟩ 8191, [] ++ [nextF [] lnA]⟩) parB (by simp) (copA2 _) doB k1 (by decide))).trans ?_
  refine (bindS (Do_no (x := ⟨insA ⟨[0, 10000], oneS⟩ 8191, [] ++ [nextF [] lnA] ++ [nextF ([] ++ [nextF [] lnA]) lnB]⟩) parC (by simp) (copA2 _) doC (by decide))).trans ?_
  refine (bindS (Do_ok (x := ⟨insA ⟨[0, 10000], oneS⟩ 8191, [] ++ [nextF [] lnA] ++ [nextF ([] ++ [nextF [] lnA]) lnB]⟩) parD (by simp) (copA2 _) doD k2 (by decide))).trans ?_
  refine (bindS (Do_no (x := ⟨insA ⟨[0, 10000], oneS⟩ 7167, [] ++ [nextF [] lnA] ++ [nextF ([] ++ [nextF [] lnA]) lnB] ++ [nextF ([] ++ [nextF [] lnA] ++ [nextF ([] ++ [nextF [] lnA]) lnB]) lnD]⟩) parE (by simp) (copA2 _) doE (by decide))).trans ?_
  decide +kernel
end Go.Fw
namespace Go.Fw
theorem law_noongunlaw10_StationNil (a0 : ByteArray) (_ : a0.size ≤ maxLen) : noongunlaw10_StationNil a0 = some true := by
  unfold noongunlaw10_StationNil station_Station_Do_nil station_Station_Net_nil station_Station_Ball_nil station_Station_Day_nil station_Station_Log_nil station_Station_Verdicts_nil station_Station_Ledger_nil station_Station_Flags_nil station_Station_Book_nil
  rw [awakeSt_eq]
  rfl
end Go.Fw
