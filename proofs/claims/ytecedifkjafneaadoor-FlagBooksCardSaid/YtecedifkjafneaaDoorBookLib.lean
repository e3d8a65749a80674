/-
  Books of meanings, plain. No condition.
-/
import Derived.Test.YtecedifkjafneaaDoorDigitsLib
import Derived.Test.YtecedifkjafneaaDoorHoistLib3
namespace Go.Fw
theorem meansL_ok : ∀ (h out pre : List Int), pre.length = out.length → anyPre badF pre h = false → h.all (inB 0 12) = true → (∀ x ∈ out, 0 ≤ x ∧ x ≤ 9) → ∀ x ∈ meansL out h, 0 ≤ x ∧ x ≤ 9
  | [], _, _, _, _, _, ho => ho
  | f :: h, out, pre, hl, hv, ha, ho => by
    rw [anyPre, Bool.or_eq_false_iff] at hv
    rw [List.all_cons, Bool.and_eq_true] at ha
    rw [meansL]
    refine meansL_ok h _ (pre ++ [f]) (by simp [hl]) hv.2 ha.2 fun x hx => ?_
    rcases List.mem_append.1 hx with hx | hx
    · exact ho x hx
    · obtain rfl := List.mem_singleton.1 hx
      have hf := ha.1
      simp only [inB, Bool.and_eq_true, decide_eq_true_eq] at hf
      by_cases h10 : 10 ≤ f
      · rw [if_pos h10]
        have hb := hv.1
        unfold badF at hb
        rw [Bool.or_eq_false_iff, Bool.and_eq_false_iff] at hb
        have h2 : ¬ ((pre.length : Int) ≤ f - 10) := by
          rcases hb.2 with h | h
          · simp at h; omega
          · simpa using h
        rw [idx_int (by omega) (by omega)]
        exact ho _ (List.getElem_mem _)
      · rw [if_neg h10]; omega
def goodB (b : UInt8) : Bool := decide (32 ≤ b.toNat) && decide (b.toNat ≤ 126)
def vText (s : ByteArray) : Bool := (bytes s).all goodB
theorem byte_get {s : ByteArray} {p : Nat} (h : p < s.size) : (s.get! p) = (bytes s)[p]'h := by
  show s.data[p]! = s.data.toList[p]
  rw [getElem!_pos s.data p h]
  rfl
theorem dec_small {s : ByteArray} {p : Nat} (h : p < s.size) (hb : ((bytes s)[p]'h).toNat < 128) : Utf8.decode s p = (((bytes s)[p]'h).toNat, 1) := by
  unfold Utf8.decode
  simp only [Nat.add_zero, byte_get h, hb, if_true]
theorem dec_big {s : ByteArray} {p : Nat} (h : p < s.size) (hb : ¬ ((bytes s)[p]'h).toNat < 128) : 128 ≤ (Utf8.decode s p).1 := by
  unfold Utf8.decode
  simp only [Nat.add_zero, byte_get h, hb, if_false, Utf8.runeError]
  repeat' split
  all_goals simp_all
  all_goals omega
theorem inB_iff' {a b x : Int} : inB a b x = true ↔ a ≤ x ∧ x ≤ b := by simp [inB]
theorem isN_le' {a : Int} (h : isN a = true) : 0 ≤ a ∧ a ≤ 9999 := inB_iff'.1 h
theorem find_congr {α : Type} {p q : α → Bool} : ∀ {l : List α}, (∀ x ∈ l, p x = q x) → l.find? p = l.find? q
  | [], _ => rfl
  | x :: l, h => by
    rw [List.find?_cons, List.find?_cons, h x (by simp), find_congr fun y hy => h y (by simp [hy])]
theorem runes_eq (s : ByteArray) : ∀ (n p : Nat), s.size + 1 ≤ n + p → ∃ k : Int, idxR (fun x0 => flag_ValidBook_c1 x0) true (runesL s n p) = some k ∧ decide (0 ≤ k) = !((bytes s).drop p).all goodB
  | 0, p, h => ⟨-1, rfl, by rw [List.drop_of_length_le (by rw [bytes_len]; omega)]; rfl⟩
  | n + 1, p, h => by
    by_cases hp : p < s.size
    · have hd : (bytes s).drop p = (bytes s)[p]'hp :: (bytes s).drop (p + 1) := List.drop_eq_getElem_cons (by rw [bytes_len]; exact hp)
      rw [runesL, if_pos hp, hd, List.all_cons, idxR]
      by_cases hb : ((bytes s)[p]'hp).toNat < 128
      · rw [dec_small hp hb]
        unfold flag_ValidBook_c1
        cases hg : goodB ((bytes s)[p]'hp) with
        | true =>
          have : ((decide (((((bytes s)[p]'hp).toNat : Nat) : Int) < 32)) || (decide (126 < ((((bytes s)[p]'hp).toNat : Nat) : Int)))) = false := by
            unfold goodB at hg
            simp only [Bool.and_eq_true, decide_eq_true_eq] at hg
            simp only [Bool.or_eq_false_iff, decide_eq_false_iff_not]
            omega
          simp only [this, Option.bind_some, Bool.true_and]
          exact runes_eq s n (p + 1) (by omega)
        | false =>
          have : ((decide (((((bytes s)[p]'hp).toNat : Nat) : Int) < 32)) || (decide (126 < ((((bytes s)[p]'hp).toNat : Nat) : Int)))) = true := by
            unfold goodB at hg
            simp only [Bool.and_eq_false_iff, decide_eq_false_iff_not] at hg
            simp only [Bool.or_eq_true, decide_eq_true_eq]
            omega
          simp only [this, Option.bind_some, Bool.false_and, Bool.not_false]
          exact ⟨(p : Int), by simp, by simp⟩
      · have hbig := dec_big hp hb
        have hg : goodB ((bytes s)[p]'hp) = false := by
          unfold goodB
          simp only [Bool.and_eq_false_iff, decide_eq_false_iff_not]
          omega
        unfold flag_ValidBook_c1
        have : ((decide (((Utf8.decode s p).1 : Int) < 32)) || (decide (126 < ((Utf8.decode s p).1 : Int)))) = true := by
          simp only [Bool.or_eq_true, decide_eq_true_eq]
          omega
        simp only [this, hg, Option.bind_some, Bool.false_and, Bool.not_false]
        exact ⟨(p : Int), by simp, by simp⟩
    · refine ⟨-1, ?_, by rw [List.drop_of_length_le (by rw [bytes_len]; omega)]; rfl⟩
      rw [runesL, if_neg hp]; rfl
theorem text_eq (s : ByteArray) (h : s.size ≤ 1000) : strings_ContainsFunc s (fun x0 => flag_ValidBook_c1 x0) = some (!vText s) := by
  unfold strings_ContainsFunc strings_IndexFunc strings_indexFunc
  rw [if_pos (by omega)]
  obtain ⟨k, h1, h2⟩ := runes_eq s (s.size + 1) 0 (by omega)
  rw [h1]
  simp only [Option.bind_some, h2, List.drop_zero]
  rfl
def vM (x : GMeaning) : Bool := isN x.Number && (inB 1 60 ((x.Text.size : Nat) : Int) && vText x.Text)
theorem meaning_eq (x : GMeaning) (h : x.Text.size ≤ 1000) : noongunref07_meaning x = some (vM x) := by
  unfold noongunref07_meaning
  have hi : inI ((x.Text.size : Nat) : Int) = true := by rw [inI_iff]; omega
  unfold chkI
  rw [if_pos hi, ← bytes_len x.Text, rangeN_pre (fun _ b _ => some (if (!goodB b) = true then .done (Ctl.ret false) else .cont ()))]
  · rw [preL_search (fun _ b => !goodB b) (Ctl.ret false) [] _ (fun _ _ _ => rfl)]
    have hany : ∀ (l pre : List UInt8), anyPre (fun _ b => !goodB b) pre l = !l.all goodB := by
      intro l
      induction l with
      | nil => intro pre; rfl
      | cons b l ih => intro pre; rw [anyPre, ih, List.all_cons, Bool.not_and]
    rw [hany]
    unfold vM vText isN inB
    rw [bytes_len]
    cases (bytes x.Text).all goodB <;> simp [Bool.and_assoc]
  · intro i b s hb
    simp only [idx_at hb, Option.bind_some]
    unfold goodB
    by_cases h1 : (b.toNat : Int) < 32
    · have : ¬ 32 ≤ b.toNat := by omega
      simp [h1, this]
    · have h3 : 32 ≤ b.toNat := by omega
      by_cases h2 : (126 : Int) < (b.toNat : Int)
      · have : ¬ b.toNat ≤ 126 := by omega
        simp [h1, h2, h3, this]
      · have : b.toNat ≤ 126 := by omega
        simp [h1, h2, h3, this]
def lateB (pre : List GMeaning) (x : GMeaning) : Bool := match pre.getLast? with | some y => decide (x.Number ≤ y.Number) | none => false
def badM (pre : List GMeaning) (x : GMeaning) : Bool := !vM x || lateB pre x
def vBk (l : List GMeaning) : Bool := !anyPre badM [] l && decide (((l.length : Nat) : Int) ≤ 200)
theorem late_eq {l : List GMeaning} (hl : l.length ≤ 1000) {i : Nat} {x : GMeaning} (hx : l[i]? = some x) : (((if (decide (0 < (i : Int))) = true then (subI (i : Int) 1).bind (fun t2 => (idx l t2).bind (fun x2 => some (decide (x.Number ≤ x2.Number)))) else some false)) : Option Bool) = some (lateB (l.take i) x) := by
  have hi := (List.getElem?_eq_some_iff.1 hx).1
  unfold lateB
  cases i with
  | zero => simp
  | succ i =>
    have hi2 : i < l.length := by omega
    have e1 : l[i]? = some l[i] := List.getElem?_eq_getElem hi2
    have hg : (l.take (i + 1)).getLast? = some l[i] := by
      rw [List.getLast?_eq_getElem?, List.length_take, List.getElem?_take]
      have : min (i + 1) l.length - 1 = i := by omega
      rw [if_pos (by omega), this, e1]
    have hs : subI ((i + 1 : Nat) : Int) 1 = some (i : Int) := by
      rw [subI_ok (by omega)]; congr 1; omega
    rw [hg, if_pos (decide_eq_true (by omega)), hs, Option.bind_some, idx_at e1]
    rfl
theorem ValidBook_eq (l : List GMeaning) (hl : l.length ≤ 1000) (ht : ∀ x ∈ l, x.Text.size ≤ 1000) : flag_ValidBook l = some (vBk l) := by
  unfold flag_ValidBook vBk
  rw [rangeN_pre (fun pre x _ => if x ∈ l then some (if badM pre x = true then .done (Ctl.ret false) else .cont ()) else none)]
  · rw [preL_search badM (Ctl.ret false) [] l (fun pre x hx => by rw [if_pos hx])]
    cases anyPre badM [] l <;> simp
  · intro i x s hx
    have hmem := List.mem_of_getElem? hx
    have hsz := ht x hmem
    rw [if_pos hmem, idx_at hx, Option.bind_some, isNumber_eq, Option.bind_some, text_eq _ hsz]
    have hlate := late_eq hl hx
    simp only [hlate, Option.bind_some, within_eq]
    unfold badM vM
    cases isN x.Number <;> cases lateB (l.take i) x <;> cases inB 1 60 ((x.Text.size : Nat) : Int) <;> cases vText x.Text <;> rfl
theorem rValidBook_eq (l : List GMeaning) (hl : l.length ≤ 1000) (ht : ∀ x ∈ l, x.Text.size ≤ 1000) : noongunref07_ValidBook l = some (vBk l) := by
  unfold noongunref07_ValidBook vBk
  rw [rangeN_pre (fun pre x _ => if x ∈ l then some (if badM pre x = true then .done (Ctl.ret false) else .cont ()) else none)]
  · rw [preL_search badM (Ctl.ret false) [] l (fun pre x hx => by rw [if_pos hx])]
    cases anyPre badM [] l <;> simp
  · intro i x s hx
    have hmem := List.mem_of_getElem? hx
    rw [if_pos hmem, idx_at hx, Option.bind_some, meaning_eq x (ht x hmem), Option.bind_some]
    have hlate := late_eq hl hx
    simp only [hlate, Option.bind_some]
    unfold badM
    cases vM x <;> cases lateB (l.take i) x <;> rfl
/-- In a valid book each meaning is valid, and the numbers rise. -/
theorem book_sorted : ∀ (l pre : List GMeaning), anyPre badM pre l = false → (∀ x ∈ l, vM x = true) ∧ l.Pairwise (fun x y => x.Number < y.Number) ∧ ∀ y, pre.getLast? = some y → ∀ x ∈ l, y.Number < x.Number
  | [], _, _ => ⟨by simp, List.Pairwise.nil, by simp⟩
  | x :: l, pre, h => by
    rw [anyPre, Bool.or_eq_false_iff] at h
    obtain ⟨h1, h2⟩ := h
    obtain ⟨g1, g2, g3⟩ := book_sorted l (pre ++ [x]) h2
    unfold badM at h1
    rw [Bool.or_eq_false_iff] at h1
    have hx := g3 x (by simp)
    refine ⟨fun y hy => ?_, List.pairwise_cons.2 ⟨hx, g2⟩, fun y hy z hz => ?_⟩
    · rcases List.mem_cons.1 hy with rfl | hy
      · simpa using h1.1
      · exact g1 y hy
    · have hyx : y.Number < x.Number := by
        have := h1.2
        unfold lateB at this
        rw [hy] at this
        simp only [decide_eq_false_iff_not] at this
        omega
      rcases List.mem_cons.1 hz with rfl | hz
      · exact hyx
      · have := hx z hz; omega
theorem vM_num {x : GMeaning} (h : vM x = true) : isN x.Number = true := by
  unfold vM at h
  rw [Bool.and_eq_true] at h
  exact h.1
theorem book_facts {l : List GMeaning} (h : vBk l = true) : (∀ x ∈ l, vM x = true) ∧ l.Pairwise (fun x y => x.Number < y.Number) := by
  unfold vBk at h
  rw [Bool.and_eq_true] at h
  obtain ⟨g1, g2, _⟩ := book_sorted l [] (by simpa using h.1)
  exact ⟨g1, g2⟩
/-- The text of a number, if it has one. -/
def ofNum (l : List GMeaning) (n : Int) : Option GMeaning := l.find? fun x => decide (x.Number = n)
theorem texts_eq {l : List GMeaning} (hp : l.Pairwise (fun x y => x.Number < y.Number)) (n : Int) : ∃ kv, flag_texts l = some kv ∧ mget kv n = (ofNum l n).map (·.Text) := by
  unfold flag_texts
  rw [rangeL_fold (fun (m : List (Int × ByteArray)) (x : GMeaning) => mput m x.Number x.Text) l 0 [] (fun i x s _ => rfl)]
  refine ⟨_, rfl, ?_⟩
  have key : ∀ (l : List GMeaning) (m : List (Int × ByteArray)), l.Pairwise (fun x y => x.Number < y.Number) → mget (l.foldl (fun (m : List (Int × ByteArray)) (x : GMeaning) => mput m x.Number x.Text) m) n = ((ofNum l n).map (·.Text)).or (mget m n) := by
    intro l
    induction l with
    | nil => intro m _; simp [ofNum]
    | cons x l ih =>
      intro m hp
      obtain ⟨h1, h2⟩ := List.pairwise_cons.1 hp
      rw [List.foldl_cons, ih _ h2, mget_put]
      unfold ofNum
      rw [List.find?_cons]
      by_cases hn : x.Number = n
      · have hno : l.find? (fun x => decide (x.Number = n)) = none := by
          rw [List.find?_eq_none]
          intro y hy
          have := h1 y hy
          simp; omega
        simp [hn, hno]
      · simp [hn]
  rw [key l [] hp]
  cases ofNum l n <;> simp [mget]
def lookS (l : List GMeaning) (h : List Int) : ByteArray × Int := if (vBk l && vH h) = true then (match l.find? (fun x => decide (digsOf x.Number.toNat = meansL [] h)) with | some x => (x.Text, 0) | none => (bs [], 8)) else (bs [], 1)
theorem means_digits {h : List Int} (hv : vH h = true) : vD (meansL [] h) = true := by
  obtain ⟨h1, h2, h3, h4⟩ := vH_parts hv
  refine vD_mk ?_ (meansL_ok h [] [] rfl h4 h3 (by simp))
  rw [meansL_len]; simp; omega
theorem Equal_eq (a b : List Int) : slices_Equal_int a b = some (decide (a = b)) := by
  unfold slices_Equal_int
  exact same_fun (fun x y => x != y) (fun x y => by rfl) a b
theorem numF_nonneg {l : List Int} (h : ∀ d ∈ l, 0 ≤ d ∧ d ≤ 9) : 0 ≤ numF l := by
  have key : ∀ (l : List Int) (z : Int), (∀ d ∈ l, 0 ≤ d ∧ d ≤ 9) → 0 ≤ z → 0 ≤ l.foldl (fun z d => 10 * z + d) z := by
    intro l
    induction l with
    | nil => intro z _ hz; exact hz
    | cons d l ih => intro z h hz; rw [List.foldl_cons]; exact ih _ (fun e he => h e (by simp [he])) (by have := h d (by simp); omega)
  exact key l 0 h (by omega)
theorem numF_le {l : List Int} (hl : l.length ≤ 4) (h : ∀ d ∈ l, 0 ≤ d ∧ d ≤ 9) : numF l ≤ 9999 := by
  unfold numF
  match l, hl, h with
  | [], _, _ => simp
  | [a], _, h => have := h a (by simp); simp; omega
  | [a, b], _, h => have := h a (by simp); have := h b (by simp); simp; omega
  | [a, b, c], _, h => have := h a (by simp); have := h b (by simp); have := h c (by simp); simp; omega
  | [a, b, c, d], _, h => have := h a (by simp); have := h b (by simp); have := h c (by simp); have := h d (by simp); simp; omega
  | _ :: _ :: _ :: _ :: _ :: _, hl, _ => simp at hl
theorem Look_eq (l : List GMeaning) (h : List Int) (hl : l.length ≤ 1000) (ht : ∀ x ∈ l, x.Text.size ≤ 1000) : flag_Look l h = some (lookS l h) := by
  unfold flag_Look lookS
  rw [ValidBook_eq l hl ht, Option.bind_some]
  cases hb : vBk l with
  | false => simp
  | true =>
    rw [ValidHoist_eq]
    cases hv : vH h with
    | false => simp
    | true =>
      obtain ⟨hd1, hd2⟩ := vD_parts (means_digits hv)
      obtain ⟨hm, hp⟩ := book_facts hb
      obtain ⟨kv, k1, k2⟩ := texts_eq hp (numF (meansL [] h))
      have hnum : flag_number (meansL [] h) = some (numF (meansL [] h)) := by
        unfold flag_number
        rw [num_loop _ 0 0 hd2 hd1.2 (by omega)]
        rfl
      have h0 := numF_nonneg hd2
      have h9 := numF_le hd1.2 hd2
      have hN : isN (numF (meansL [] h)) = true := by unfold isN; exact inB_iff'.2 ⟨h0, h9⟩
      simp only [Bool.not_true, Bool.false_eq_true, if_false, Option.bind_some, Bool.and_self, if_true, means_eq h hv, k1, hnum, k2, digitsOf_eq hN, Equal_eq]
      have hfind : l.find? (fun x => decide (digsOf x.Number.toNat = meansL [] h)) = if meansL [] h = digsOf (numF (meansL [] h)).toNat then ofNum l (numF (meansL [] h)) else none := by
        have hx : ∀ x ∈ l, decide (digsOf x.Number.toNat = meansL [] h) = (decide (meansL [] h = digsOf (numF (meansL [] h)).toNat) && decide (x.Number = numF (meansL [] h))) := by
          intro x hx
          have hxn := isN_le' (vM_num (hm x hx))
          have hxd := numF_digs x.Number.toNat
          rw [Bool.eq_iff_iff]
          simp only [decide_eq_true_eq, Bool.and_eq_true]
          constructor
          · intro e
            rw [e] at hxd
            have e2 : x.Number = numF (meansL [] h) := by omega
            exact ⟨by rw [← e2, e], e2⟩
          · rintro ⟨e1, e2⟩
            rw [e2]; exact e1.symm
        split
        · rename_i he
          unfold ofNum
          refine find_congr fun x hx' => ?_
          rw [hx x hx', decide_eq_true he, Bool.true_and]
        · rename_i he
          rw [List.find?_eq_none]
          intro x hx'
          rw [hx x hx', decide_eq_false he]
          simp
      rw [hfind]
      by_cases he : meansL [] h = digsOf (numF (meansL [] h)).toNat
      · rw [if_pos he]
        cases ofNum l (numF (meansL [] h)) with
        | none => simp
        | some x => simp [← he]
      · rw [if_neg he]
        cases ofNum l (numF (meansL [] h)) <;> simp [he]
theorem rLook_eq (l : List GMeaning) (h : List Int) (hl : l.length ≤ 1000) (ht : ∀ x ∈ l, x.Text.size ≤ 1000) : noongunref07_Look l h = some (lookS l h) := by
  unfold noongunref07_Look lookS
  rw [rValidBook_eq l hl ht, Option.bind_some]
  cases hb : vBk l with
  | false => simp
  | true =>
    rw [rValidHoist_eq]
    cases hv : vH h with
    | false => simp
    | true =>
      obtain ⟨hm, hp⟩ := book_facts hb
      simp only [Bool.not_true, Bool.false_eq_true, if_false, Option.bind_some, Bool.and_self, if_true]
      have key : ∀ (m : List GMeaning) (i : Int), (∀ x ∈ m, vM x = true) → rangeL (α := GMeaning) (S := Unit) (X := Ctl (Unit) (ByteArray × Int)) (fun _ yk1 _ => (noongunref07_digitsOf yk1.Number).bind (fun t3 => (noongunref07_means h).bind (fun t4 => (noongunref07_SameInts t3 t4).bind (fun t5 => (if t5 = true then some (Step.done (Ctl.ret (yk1.Text, 0))) else some (Step.cont ())))))) (fun _ => Ctl.next ()) m i () = some (match m.find? (fun x => decide (digsOf x.Number.toNat = meansL [] h)) with | some x => Ctl.ret (x.Text, 0) | none => Ctl.next ()) := by
        intro m
        induction m with
        | nil => intro i _; rfl
        | cons x m ih =>
          intro i hx
          have hbody : (noongunref07_digitsOf x.Number).bind (fun t3 => (noongunref07_means h).bind (fun t4 => (noongunref07_SameInts t3 t4).bind (fun t5 => (if t5 = true then some (Step.done (Ctl.ret (x.Text, 0))) else some (Step.cont ()))))) = some (if decide (digsOf x.Number.toNat = meansL [] h) = true then Step.done (Ctl.ret (x.Text, (0 : Int))) else (Step.cont () : Step Unit (Ctl Unit (ByteArray × Int)))) := by
            rw [rdigitsOf_eq (vM_num (hx x (by simp))), rmeans_eq h hv]
            simp only [Option.bind_some, same_eq]
            cases decide (digsOf x.Number.toNat = meansL [] h) <;> rfl
          rw [rangeL, hbody, List.find?_cons]
          cases decide (digsOf x.Number.toNat = meansL [] h) with
          | true => rfl
          | false =>
            simp only [Bool.false_eq_true, if_false, Option.bind_some]
            exact ih (i + 1) fun y hy => hx y (by simp [hy])
      rw [key l 0 hm]
      cases l.find? (fun x => decide (digsOf x.Number.toNat = meansL [] h)) <;> rfl
def findS (l : List GMeaning) (t : ByteArray) : Int × Int := if vBk l = true then (match l.find? (fun x => decide (x.Text = t)) with | some x => (x.Number, 0) | none => (0, 8)) else (0, 1)
theorem Find_eq (l : List GMeaning) (t : ByteArray) (hl : l.length ≤ 1000) (ht : ∀ x ∈ l, x.Text.size ≤ 1000) : flag_Find l t = some (findS l t) := by
  unfold flag_Find findS
  rw [ValidBook_eq l hl ht, Option.bind_some]
  cases hb : vBk l with
  | false => simp
  | true =>
    simp only [Bool.not_true, Bool.false_eq_true, if_false, if_true]
    have hix : slices_IndexFunc_Meaning l (fun x0 => flag_Find_c1 x0 t) = some (match l.findIdx? (fun x => decide (x.Text = t)) with | some i => (i : Int) | none => -1) := by
      unfold slices_IndexFunc_Meaning
      rw [index_loop (fun x => decide (x.Text = t))]
      · cases l.findIdx? (fun x => decide (x.Text = t)) <;> rfl
      · intro i x hx
        simp only [idx_at hx, Option.bind_some, flag_Find_c1]
        cases decide (x.Text = t) <;> rfl
    rw [hix, Option.bind_some]
    cases hf : l.findIdx? (fun x => decide (x.Text = t)) with
    | none =>
      have : l.find? (fun x => decide (x.Text = t)) = none := by
        rw [List.find?_eq_none]
        intro x hx
        have := List.findIdx?_eq_none_iff.1 hf x hx
        rw [this]; simp
      rw [this]; rfl
    | some i =>
      obtain ⟨hi, h1, h2⟩ := List.findIdx?_eq_some_iff_getElem.1 hf
      have : l.find? (fun x => decide (x.Text = t)) = some l[i] := by
        rw [List.find?_eq_some_iff_getElem]
        exact ⟨h1, i, hi, rfl, fun j hj => by simpa using h2 j hj⟩
      rw [this]
      have e1 : l[i]? = some l[i] := List.getElem?_eq_getElem hi
      simp only
      rw [if_neg (by simp), idx_at e1]
      rfl
theorem rFind_eq (l : List GMeaning) (t : ByteArray) (hl : l.length ≤ 1000) (ht : ∀ x ∈ l, x.Text.size ≤ 1000) : noongunref07_Find l t = some (findS l t) := by
  unfold noongunref07_Find findS
  rw [rValidBook_eq l hl ht, Option.bind_some]
  cases hb : vBk l with
  | false => simp
  | true =>
    simp only [Bool.not_true, Bool.false_eq_true, if_false, if_true]
    have key : ∀ (m : List GMeaning) (i : Int), rangeL (α := GMeaning) (S := Unit) (X := Ctl (Unit) (Int × Int)) (fun _ yk1 _ => (if (decide (yk1.Text = t)) = true then some (Step.done (Ctl.ret (yk1.Number, 0))) else some (Step.cont ()))) (fun _ => Ctl.next ()) m i () = some (match m.find? (fun x => decide (x.Text = t)) with | some x => Ctl.ret (x.Number, 0) | none => Ctl.next ()) := by
      intro m
      induction m with
      | nil => intro i; rfl
      | cons x m ih =>
        intro i
        rw [rangeL, List.find?_cons]
        cases decide (x.Text = t) with
        | true => rfl
        | false =>
          simp only [Bool.false_eq_true, if_false, Option.bind_some]
          exact ih (i + 1)
    rw [key l 0]
    cases l.find? (fun x => decide (x.Text = t)) <;> rfl
end Go.Fw
