/-
  LedgerTexts, plain: both texts read the same lines, and read back what was written.
-/
import Derived.Test.YtijjocfjgpibjaaDoorM
import Derived.Test.YtijjocfjgpibjaaDoorFwN
import Derived.Lib.ItoaLen
import Derived.Test.YtijjocfjgpibjaaDoorFwZ
import Derived.Lib.SplitLaws
import Derived.Lib.CountLaws
import Derived.Lib.AtoiTie
namespace Go.Fw

def dayB (d : Int) : Bool := decide (0 ≤ d) && decide (d ≤ 182985)
def vE (e : GEntry) : Bool := dayB e.Day && (decide (-86400000 ≤ e.Error) && decide (e.Error ≤ 86400000))
def vL (l : List GEntry) : Bool := l.all vE && decide ((l.length : Int) ≤ 1000)

theorem within_eq (a b c : Int) : ledger_within a b c = some (decide (b ≤ a) && decide (a ≤ c)) := rfl
theorem isDay_eq (d : Int) : ledger_isDay d = some (dayB d) := rfl
theorem rday_eq (d : Int) : noongunref09_day d = some (dayB d) := rfl
theorem fine_eq (e : GEntry) : ledger_fine e = some (vE e) := by
  unfold ledger_fine vE dayB
  simp only [within_eq, Option.bind_some]
  cases h : (decide (0 ≤ e.Day) && decide (e.Day ≤ 182985)) <;> simp
theorem rvalid_eq (e : GEntry) : noongunref09_valid e = some (vE e) := by
  unfold noongunref09_valid vE
  simp only [rday_eq, Option.bind_some, Bool.and_assoc]
theorem rValid_eq (l : List GEntry) : noongunref09_Valid l = some (vL l) := by
  unfold noongunref09_Valid
  rw [rangeL_search (p := fun e => !vE e) (y := Ctl.ret false)]
  · cases h : l.any (fun e => !vE e) with
    | true =>
      have : l.all vE = false := by
        rw [List.any_eq_true] at h
        obtain ⟨x, hx, hv⟩ := h
        exact List.all_eq_false.2 ⟨x, hx, by simpa using hv⟩
      simp [vL, this]
    | false =>
      have : l.all vE = true := by
        rw [List.any_eq_false] at h
        exact List.all_eq_true.2 fun x hx => by simpa using h x hx
      simp [vL, this]
  · intro i x s _
    simp only [rvalid_eq, Option.bind_some]
    cases vE x <;> rfl
theorem contains_eq (l : List GEntry) (f : GEntry → Option Bool) (p : GEntry → Bool) (h : ∀ e ∈ l, f e = some (p e)) : slices_ContainsFunc_Entry l f = some (l.any p) := by
  unfold slices_ContainsFunc_Entry slices_IndexFunc_Entry
  rw [rangeN_list (B := fun i x _ => some (if p x = true then .done (Ctl.ret i) else .cont ()))]
  · have key : ∀ (L : List GEntry) (i : Int), 0 ≤ i → ∃ o, rangeL (S := Unit) (X := Ctl Unit Int) (fun i x _ => some (if p x = true then .done (Ctl.ret i) else .cont ())) (fun _ => Ctl.next ()) L i () = some o ∧
        ((L.any p = true ∧ ∃ j, 0 ≤ j ∧ o = .ret j) ∨ (L.any p = false ∧ o = .next ())) := by
      intro L
      induction L with
      | nil => intro i _; exact ⟨_, rfl, .inr ⟨rfl, rfl⟩⟩
      | cons x L ih =>
        intro i hi
        rw [rangeL, Option.bind_some]
        cases hp : p x with
        | true => exact ⟨_, rfl, .inl ⟨by simp [hp], i, hi, rfl⟩⟩
        | false =>
          obtain ⟨o, h1, h2⟩ := ih (i + 1) (by omega)
          refine ⟨o, h1, ?_⟩
          simpa [hp] using h2
    obtain ⟨o, h1, ⟨h2, j, h3, rfl⟩ | ⟨h2, rfl⟩⟩ := key l 0 (by omega)
    · rw [h1, h2]
      simp only [Option.bind_some]
      simp [h3]
    · rw [h1, h2]
      simp
  · intro i x s hx
    simp only [idx_at hx, Option.bind_some, h x (List.mem_of_getElem? hx)]
    cases p x <;> rfl
theorem Valid_eq (l : List GEntry) : ledger_Valid l = some (vL l) := by
  unfold ledger_Valid
  rw [contains_eq l _ (fun e => !vE e) (fun e _ => by simp only [ledger_Valid_c1, fine_eq, Option.bind_some])]
  simp only [Option.bind_some]
  have : (!l.any fun e => !vE e) = l.all vE := by
    induction l with
    | nil => rfl
    | cons x l ih => simp only [List.any_cons, List.all_cons, Bool.not_or, Bool.not_not, ih]
  rw [this, vL]
  by_cases h : (l.length : Int) ≤ 1000 <;> simp [h]
theorem awake_eq : noongunlaw09_awake = some true := by rfl

end Go.Fw
namespace Go.Fw
theorem itoa_eq (a : Int) (h0 : -9223372036854775808 ≤ a) (h1 : a ≤ 9223372036854775807) : strconv_Itoa a = some ⟨(Lib.itoa a).toArray⟩ := if_pos ⟨h0, h1⟩
theorem cat_eq {a b : ByteArray} (h : a.size + b.size ≤ 1099511627776) : catI a b = some (a ++ b) := if_pos h
def wordV (b : Bool) : ByteArray := if b = true then bs [102, 111, 117, 110, 100] else bs [115, 97, 105, 100]
theorem word_eq (b : Bool) : ledger_word b = some (wordV b) := by cases b <;> rfl
theorem wordV_size (b : Bool) : (wordV b).size ≤ 5 := by cases b <;> decide
theorem itoa_size (a : Int) (h0 : -9223372036854775808 ≤ a) (h1 : a ≤ 9223372036854775807) : (⟨(Lib.itoa a).toArray⟩ : ByteArray).size ≤ 21 := Lib.itoa_length_le a h0 h1
theorem bs1 (c : UInt8) : (bs [c]).size = 1 := rfl
def lineV (e : GEntry) : ByteArray := ⟨(Lib.itoa e.Day).toArray⟩ ++ bs [32] ++ wordV e.Found ++ bs [32] ++ ⟨(Lib.itoa e.Error).toArray⟩ ++ bs [10]
theorem vE_le {e : GEntry} (h : vE e = true) : (0 ≤ e.Day ∧ e.Day ≤ 182985) ∧ -86400000 ≤ e.Error ∧ e.Error ≤ 86400000 := by
  simpa [vE, dayB] using h
theorem line_size {e : GEntry} (h : vE e = true) : (lineV e).size ≤ 60 := by
  have hb := vE_le h
  have h1 := itoa_size e.Day (by omega) (by omega)
  have h2 := itoa_size e.Error (by omega) (by omega)
  have h3 := wordV_size e.Found
  unfold lineV
  simp only [ByteArray.size_append, bs1]
  omega
theorem line_eq {e : GEntry} (h : vE e = true) : ledger_lineN e = some (lineV e) := by
  have hb := vE_le h
  have h1 := itoa_size e.Day (by omega) (by omega)
  have h2 := itoa_size e.Error (by omega) (by omega)
  have h3 := wordV_size e.Found
  unfold ledger_lineN lineV
  rw [itoa_eq _ (by omega) (by omega), itoa_eq _ (by omega) (by omega), word_eq]
  simp only [Option.bind_some]
  rw [cat_eq (by simp only [bs1]; omega), Option.bind_some, cat_eq (by simp only [ByteArray.size_append, bs1]; omega), Option.bind_some, cat_eq (by simp only [ByteArray.size_append, bs1]; omega), Option.bind_some,
    cat_eq (by simp only [ByteArray.size_append, bs1]; omega), Option.bind_some, cat_eq (by simp only [ByteArray.size_append, bs1]; omega), Option.bind_some]
theorem rline_eq {e : GEntry} (h : vE e = true) : noongunref09_lineN e = some (lineV e) := by
  have hb := vE_le h
  have h1 := itoa_size e.Day (by omega) (by omega)
  have h2 := itoa_size e.Error (by omega) (by omega)
  have h3 := wordV_size e.Found
  have hw : (if e.Found = true then some (bs [102, 111, 117, 110, 100]) else some (bs [115, 97, 105, 100])) = some (wordV e.Found) := by unfold wordV; split <;> rfl
  unfold noongunref09_lineN noongunref09_line lineV
  rw [itoa_eq _ (by omega) (by omega), itoa_eq _ (by omega) (by omega), hw]
  simp only [Option.bind_some]
  rw [cat_eq (by simp only [bs1]; omega), Option.bind_some, cat_eq (by simp only [ByteArray.size_append, bs1]; omega), Option.bind_some, cat_eq (by simp only [ByteArray.size_append, bs1]; omega), Option.bind_some,
    cat_eq (by simp only [ByteArray.size_append, bs1]; omega), Option.bind_some, Option.bind_some, cat_eq (by simp only [ByteArray.size_append, bs1]; omega), Option.bind_some]
def textV (l : List GEntry) (z : List UInt8) : List UInt8 := l.foldl (fun z e => z ++ bytes (lineV e)) z
theorem text_size : ∀ (l : List GEntry) (z : List UInt8), (∀ e ∈ l, vE e = true) → (textV l z).length ≤ z.length + 60 * l.length
  | [], z, _ => by simp [textV]
  | e :: l, z, h => by
    have h1 := line_size (h e (by simp))
    have h2 := text_size l (z ++ bytes (lineV e)) fun x hx => h x (by simp [hx])
    have h3 : (bytes (lineV e)).length = (lineV e).size := rfl
    rw [List.length_append, h3] at h2
    show (textV l (z ++ bytes (lineV e))).length ≤ _
    rw [List.length_cons]
    omega
theorem text_loop (f : GEntry → Option ByteArray) (hf : ∀ e, vE e = true → f e = some (lineV e)) : ∀ (l : List GEntry) (i : Int) (z : List UInt8), (∀ e ∈ l, vE e = true) → z.length + 60 * l.length ≤ 1000000 →
    rangeL (α := GEntry) (S := List UInt8) (X := List UInt8) (fun _ y z => (f y).bind fun s => (addL z s).bind fun z2 => some (Step.cont z2)) (fun z => z) l i z = some (textV l z)
  | [], _, _, _, _ => rfl
  | e :: l, i, z, h, hz => by
    have h1 := line_size (h e (by simp))
    have h3 : (bytes (lineV e)).length = (lineV e).size := rfl
    rw [List.length_cons] at hz
    rw [rangeL, hf e (h e (by simp)), Option.bind_some, addL, if_pos (by omega), Option.bind_some, Option.bind_some]
    exact text_loop f hf l (i + 1) (z ++ bytes (lineV e)) (fun x hx => h x (by simp [hx])) (by rw [List.length_append, h3]; omega)
def textOf (l : List GEntry) : ByteArray := if vL l = true then ⟨(textV l []).toArray⟩ else bs []
theorem vL_all {l : List GEntry} (h : vL l = true) : (∀ e ∈ l, vE e = true) ∧ l.length ≤ 1000 := by
  unfold vL at h
  rw [Bool.and_eq_true, List.all_eq_true, decide_eq_true_eq] at h
  exact ⟨h.1, by omega⟩
theorem Format_eq (l : List GEntry) : ledger_Format l = some (textOf l) := by
  unfold ledger_Format textOf
  rw [Valid_eq, Option.bind_some]
  cases hv : vL l with
  | false => rfl
  | true =>
    obtain ⟨h1, h2⟩ := vL_all hv
    rw [if_neg (by simp), text_loop ledger_lineN (fun e => line_eq) l 0 [] h1 (by simp; omega)]
    rfl
theorem rFormat_eq (l : List GEntry) : noongunref09_Format l = some (textOf l) := by
  unfold noongunref09_Format textOf
  rw [rValid_eq, Option.bind_some]
  cases hv : vL l with
  | false => rfl
  | true =>
    obtain ⟨h1, h2⟩ := vL_all hv
    rw [if_neg (by simp), text_loop noongunref09_lineN (fun e => rline_eq) l 0 [] h1 (by simp; omega)]
    rfl
theorem textOf_size (l : List GEntry) : (textOf l).size ≤ 60000 := by
  unfold textOf
  cases hv : vL l with
  | false => exact (by decide : (bs []).size ≤ 60000)
  | true =>
    obtain ⟨h1, h2⟩ := vL_all hv
    have := text_size l [] h1
    show (textV l []).length ≤ _
    simp at this
    omega
end Go.Fw
namespace Go.Fw
open Go
theorem bytes_bs (l : List UInt8) : bytes (bs l) = l := rfl
theorem bs_bytes (s : ByteArray) : bs (bytes s) = s := rfl
theorem bs_app (a b : List UInt8) : bs a ++ bs b = bs (a ++ b) := by
  refine ByteArray.ext ?_
  show (bs a ++ bs b).data = _
  rw [ByteArray.data_append]
  simp [bs]
theorem bs_size (l : List UInt8) : (bs l).size = l.length := rfl
theorem bs_inj {a b : List UInt8} (h : bs a = bs b) : a = b := congrArg bytes h
theorem indexByte_app {c : UInt8} : ∀ {a : List UInt8} (r : List UInt8), c ∉ a → Lib.indexByte (a ++ c :: r) c = (a.length : Int)
  | [], r, _ => by rw [List.nil_append, Lib.indexByte, if_pos (beq_self_eq_true c)]; rfl
  | b :: a, r, h => by
    have hb : (b == c) = false := by rw [beq_eq_false_iff_ne]; exact fun e => h (e ▸ List.mem_cons_self ..)
    have ih := indexByte_app (a := a) r fun hm => h (List.mem_cons_of_mem _ hm)
    rw [List.cons_append, Lib.indexByte, hb, if_neg (by decide), ih, List.length_cons]
    have : ((a.length : Int) == -1) = false := by rw [beq_eq_false_iff_ne]; omega
    rw [this, if_neg (by decide)]
    omega
theorem indexByte_not {c : UInt8} : ∀ {a : List UInt8}, c ∉ a → Lib.indexByte a c = -1
  | [], _ => rfl
  | b :: a, h => by
    have hb : (b == c) = false := by rw [beq_eq_false_iff_ne]; exact fun e => h (e ▸ List.mem_cons_self ..)
    rw [Lib.indexByte, hb, if_neg (by decide), indexByte_not fun hm => h (List.mem_cons_of_mem _ hm)]
    rfl
theorem cut_found {c : UInt8} {a : List UInt8} (r : List UInt8) (h : c ∉ a) : Lib.cut (a ++ c :: r) [c] = (a, r, true) := by
  unfold Lib.cut
  rw [Lib.index_one, indexByte_app r h, if_pos (by omega)]
  simp
theorem cut_none {c : UInt8} {a : List UInt8} (h : c ∉ a) : Lib.cut a [c] = (a, [], false) := by
  unfold Lib.cut
  rw [Lib.index_one, indexByte_not h, if_neg (by omega)]
theorem cut_cases (c : UInt8) (l : List UInt8) : (c ∉ l ∧ Lib.cut l [c] = (l, [], false)) ∨ ∃ a r, l = a ++ c :: r ∧ c ∉ a ∧ Lib.cut l [c] = (a, r, true) := by
  by_cases h : c ∈ l
  · obtain ⟨a, r, rfl, ha⟩ := List.eq_append_cons_of_mem h
    exact .inr ⟨a, r, rfl, ha, cut_found r ha⟩
  · exact .inl ⟨h, cut_none h⟩
def splitW (s sep : ByteArray) : List ByteArray := Lib.splitB sep 0 (Lib.countB s sep) s
theorem indexB_one (l : List UInt8) (c : UInt8) : Lib.indexB (bs l) (bs [c]) = Lib.indexByte l c := by
  show Lib.index l [c] = _
  exact Lib.index_one l c
theorem extract_left (a r : List UInt8) : (bs (a ++ r)).extract 0 (a.length + 0) = bs a := by
  refine ByteArray.ext ?_
  simp [bs]
theorem extract_right (a r : List UInt8) (c : UInt8) : (bs (a ++ c :: r)).extract (a.length + 1) (bs (a ++ c :: r)).size = bs r := by
  refine ByteArray.ext ?_
  apply Array.ext'
  have hs : (bs (a ++ c :: r)).size = a.length + 1 + r.length := by rw [bs_size, List.length_append, List.length_cons]; omega
  rw [hs]
  simp only [bs, ByteArray.data_extract, Array.toList_extract]
  rw [List.extract_eq_take_drop]
  rw [show a ++ c :: r = (a ++ [c]) ++ r by simp, List.drop_append_of_le_length (by simp), List.drop_of_length_le (by simp)]
  simp
theorem split_found {c : UInt8} {a : List UInt8} (r : List UInt8) (h : c ∉ a) : splitW (bs (a ++ c :: r)) (bs [c]) = bs a :: splitW (bs r) (bs [c]) := by
  have hi : Lib.indexB (bs (a ++ c :: r)) (bs [c]) = (a.length : Nat) := by rw [indexB_one, indexByte_app r h]
  have h1 := Lib.countB_hit (bs (a ++ c :: r)) (bs [c]) a.length (Nat.le_refl 1) hi
  have hs : (bs [c]).size = 1 := rfl
  rw [hs, extract_right] at h1
  unfold splitW
  rw [h1, Nat.add_comm, Lib.splitB_hit _ _ _ _ a.length hi, hs, extract_right, extract_left]
theorem split_none {c : UInt8} {a : List UInt8} (h : c ∉ a) : splitW (bs a) (bs [c]) = [bs a] := by
  have hi : Lib.indexB (bs a) (bs [c]) = -1 := by rw [indexB_one, indexByte_not h]
  unfold splitW
  exact Lib.splitB_miss _ _ _ _ hi
/-! Numbers. -/
theorem digit_range {d : Nat} (h : d < 10) : (UInt8.ofNat (48 + d)).toNat = 48 + d := by
  rw [UInt8.toNat_ofNat']
  omega
theorem decDigits_digit : ∀ (u : Nat), ∀ b ∈ Lib.decDigits u, 48 ≤ b.toNat ∧ b.toNat ≤ 57
  | u, b, hb => by
    rw [Lib.decDigits] at hb
    split at hb
    · rename_i h
      rw [List.mem_singleton.1 hb, digit_range h]
      omega
    · rename_i h
      rcases List.mem_append.1 hb with hb | hb
      · exact decDigits_digit (u / 10) b hb
      · rw [List.mem_singleton.1 hb, digit_range (Nat.mod_lt _ (by omega))]
        omega
termination_by u => u
decreasing_by omega
theorem decFrom_app (l1 : List UInt8) : ∀ (acc : Nat) (l2 : List UInt8), Lib.decFrom acc (l1 ++ l2) = (Lib.decFrom acc l1).bind fun n => Lib.decFrom n l2 := by
  induction l1 with
  | nil => intro acc l2; rfl
  | cons b l ih =>
    intro acc l2
    rw [List.cons_append, Lib.decFrom, Lib.decFrom]
    cases Lib.digitVal b with
    | none => rfl
    | some d => exact ih _ _
theorem digitVal_digit {d : Nat} (h : d < 10) : Lib.digitVal (UInt8.ofNat (48 + d)) = some d := by
  unfold Lib.digitVal
  rw [digit_range h, if_pos (by omega)]
  congr 1
  omega
theorem decFrom_digits : ∀ (u : Nat), Lib.decFrom 0 (Lib.decDigits u) = some u
  | u => by
    rw [Lib.decDigits]
    split
    · rename_i h
      rw [Lib.decFrom, digitVal_digit h]
      dsimp only
      rw [Lib.decFrom, Nat.zero_mul, Nat.zero_add]
    · rename_i h
      rw [decFrom_app, decFrom_digits (u / 10), Option.bind_some, Lib.decFrom, digitVal_digit (Nat.mod_lt _ (by omega))]
      dsimp only
      rw [Lib.decFrom]
      congr 1
      omega
termination_by u => u
decreasing_by omega
theorem decDigits_ne (u : Nat) : Lib.decDigits u ≠ [] := by
  rw [Lib.decDigits]
  split
  · simp
  · simp
theorem nDigits_le : ∀ (k u : Nat), u < 10 ^ (k + 1) → Lib.nDigits u ≤ k + 1
  | 0, u, h => by rw [Lib.nDigits_small (by omega)]; exact Nat.le_refl _
  | k + 1, u, h => by
    by_cases h10 : u < 10
    · rw [Lib.nDigits_small h10]; omega
    · rw [Lib.nDigits_big h10]
      have := nDigits_le k (u / 10) (by rw [Nat.pow_succ] at h; omega)
      omega
theorem decNat_digits (u : Nat) : Lib.decNat (Lib.decDigits u) = some u := by
  unfold Lib.decNat
  have : (Lib.decDigits u).isEmpty = false := by
    cases h : Lib.decDigits u with
    | nil => exact absurd h (decDigits_ne u)
    | cons a l => rfl
  rw [this, if_neg (by decide), decFrom_digits]
theorem atoi_itoa (n : Int) : Lib.atoi (Lib.itoa n) = some n := by
  unfold Lib.itoa
  split
  · rename_i h
    rw [Lib.atoi, if_pos (by decide), decNat_digits]
    simp only [Option.map_some, Option.some.injEq]
    omega
  · rename_i h
    obtain ⟨b, l, hbl⟩ := List.exists_cons_of_ne_nil (decDigits_ne n.toNat)
    have hb := decDigits_digit n.toNat b (by rw [hbl]; exact List.mem_cons_self ..)
    have h45 : (b == 45) = false := by rw [beq_eq_false_iff_ne]; rintro rfl; exact absurd hb.1 (by decide)
    have h43 : (b == 43) = false := by rw [beq_eq_false_iff_ne]; rintro rfl; exact absurd hb.1 (by decide)
    have hd := decNat_digits n.toNat
    rw [hbl] at hd ⊢
    rw [Lib.atoi, h45, h43, if_neg (by decide), if_neg (by decide), hd]
    simp only [Option.map_some, Option.some.injEq]
    omega
theorem itoa_len {n : Int} (h : -1000000000000000 ≤ n ∧ n ≤ 1000000000000000) : (Lib.itoa n).length ≤ 17 := by
  unfold Lib.itoa
  split
  · have := nDigits_le 15 n.natAbs (by have : (10 : Nat) ^ 16 = 10000000000000000 := by decide
                                       omega)
    rw [List.length_cons, Lib.decDigits_length]
    omega
  · have := nDigits_le 15 n.toNat (by have : (10 : Nat) ^ 16 = 10000000000000000 := by decide
                                      omega)
    rw [Lib.decDigits_length]
    omega
theorem atoiAll_itoa {n : Int} (h : -1000000000000000 ≤ n ∧ n ≤ 1000000000000000) : Lib.atoiAll (Lib.itoa n) = .ok n := by
  rw [Lib.atoiAll_short _ (by have := itoa_len h; omega), atoi_itoa]
  rfl
theorem atoiV_itoa {n : Int} (h : -1000000000000000 ≤ n ∧ n ≤ 1000000000000000) : atoiV (bs (Lib.itoa n)) = n := by
  unfold atoiV
  have : (bs (Lib.itoa n)).data.toList = Lib.itoa n := rfl
  rw [this, atoiAll_itoa h]
theorem itoa_bytes {n : Int} {b : UInt8} (hb : b ∈ Lib.itoa n) : b.toNat = 45 ∨ (48 ≤ b.toNat ∧ b.toNat ≤ 57) := by
  unfold Lib.itoa at hb
  split at hb
  · rcases List.mem_cons.1 hb with rfl | hb
    · exact .inl rfl
    · exact .inr (decDigits_digit _ b hb)
  · exact .inr (decDigits_digit _ b hb)
theorem itoa_not (n : Int) (c : UInt8) (h : c.toNat < 45) : c ∉ Lib.itoa n := fun hm => by
  have := itoa_bytes hm
  omega
theorem itoa_ne (n : Int) : Lib.itoa n ≠ [] := by
  unfold Lib.itoa
  split
  · simp
  · exact decDigits_ne _
theorem prefix_line {c : UInt8} {a l r : List UInt8} (ha : c ∉ a) (hl : c ∉ l) : Lib.hasPrefix (a ++ c :: r) (l ++ [c]) = decide (a = l) := by
  unfold Lib.hasPrefix
  rw [Bool.eq_iff_iff, List.isPrefixOf_iff_prefix, decide_eq_true_eq]
  constructor
  · rintro ⟨t, ht⟩
    rw [List.append_assoc, List.singleton_append] at ht
    have h1 := cut_found t hl
    rw [ht, cut_found r ha] at h1
    exact congrArg Prod.fst h1
  · rintro rfl
    exact ⟨r, by simp⟩
theorem prefix_noline {c : UInt8} {a l : List UInt8} (ha : c ∉ a) : Lib.hasPrefix a (l ++ [c]) = false := by
  unfold Lib.hasPrefix
  rw [Bool.eq_false_iff, Ne, List.isPrefixOf_iff_prefix]
  rintro ⟨t, ht⟩
  exact ha (ht ▸ by simp)
theorem rangeN_unit {X : Type} {body : Int → Unit → Option (Step Unit X)} {fin : Unit → X} : ∀ (k i : Nat), (∀ j, i ≤ j → j < i + k → body (j : Int) () = some (.cont ())) → rangeN body fin k (i : Int) () = some (fin ())
  | 0, _, _ => rfl
  | k + 1, i, h => by
    rw [rangeN, h i (Nat.le_refl _) (by omega), Option.bind_some]
    exact rangeN_unit k (i + 1) fun j h1 h2 => h j (by omega) (by omega)
end Go.Fw
namespace Go.Fw
def wordL (b : Bool) : List UInt8 := if b = true then [102, 111, 117, 110, 100] else [115, 97, 105, 100]
theorem wordV_bs (b : Bool) : wordV b = bs (wordL b) := by cases b <;> rfl
def lineL (e : GEntry) : List UInt8 := Lib.itoa e.Day ++ 32 :: (wordL e.Found ++ 32 :: Lib.itoa e.Error)
theorem lineV_bs (e : GEntry) : lineV e = bs (lineL e ++ [10]) := by
  unfold lineV lineL
  rw [wordV_bs]
  show bs (Lib.itoa e.Day) ++ bs [32] ++ bs (wordL e.Found) ++ bs [32] ++ bs (Lib.itoa e.Error) ++ bs [10] = _
  simp only [bs_app]
  congr 1
  simp
theorem word_not (b : Bool) (c : UInt8) (h : c.toNat < 45) : c ∉ wordL b := by
  unfold wordL
  intro hm
  split at hm <;> simp at hm <;> rcases hm with rfl | rfl | rfl | rfl | rfl <;> revert h <;> decide
theorem line_not (e : GEntry) : (10 : UInt8) ∉ lineL e := by
  unfold lineL
  intro hm
  rcases List.mem_append.1 hm with hm | hm
  · exact itoa_not _ _ (by decide) hm
  · rcases List.mem_cons.1 hm with hm | hm
    · exact absurd hm (by decide)
    · rcases List.mem_append.1 hm with hm | hm
      · exact word_not _ _ (by decide) hm
      · rcases List.mem_cons.1 hm with hm | hm
        · exact absurd hm (by decide)
        · exact itoa_not _ _ (by decide) hm
theorem atoiV_in (s : ByteArray) : -9223372036854775808 ≤ atoiV s ∧ atoiV s ≤ 9223372036854775807 := by
  unfold atoiV
  cases h : Lib.atoiAll s.data.toList with
  | ok v => exact Lib.atoiAll_bounds h
  | range =>
    show -9223372036854775808 ≤ Lib.atoiSat _ ∧ Lib.atoiSat _ ≤ 9223372036854775807
    unfold Lib.atoiSat
    split <;> decide
  | _ =>
    show -9223372036854775808 ≤ (0 : Int) ∧ (0 : Int) ≤ 9223372036854775807
    decide
theorem rline_all {e : GEntry} (hd : -9223372036854775808 ≤ e.Day ∧ e.Day ≤ 9223372036854775807) (he : -9223372036854775808 ≤ e.Error ∧ e.Error ≤ 9223372036854775807) : noongunref09_line e = some (bs (lineL e)) := by
  have h1 := itoa_size e.Day hd.1 hd.2
  have h2 := itoa_size e.Error he.1 he.2
  have h3 := wordV_size e.Found
  have hw : (if e.Found = true then some (bs [102, 111, 117, 110, 100]) else some (bs [115, 97, 105, 100])) = some (wordV e.Found) := by unfold wordV; split <;> rfl
  unfold noongunref09_line
  rw [itoa_eq _ hd.1 hd.2, itoa_eq _ he.1 he.2, hw]
  simp only [Option.bind_some]
  rw [cat_eq (by simp only [bs1]; omega), Option.bind_some, cat_eq (by simp only [ByteArray.size_append, bs1]; omega), Option.bind_some, cat_eq (by simp only [ByteArray.size_append, bs1]; omega), Option.bind_some,
    cat_eq (by simp only [ByteArray.size_append, bs1]; omega), Option.bind_some, wordV_bs]
  show some (bs (Lib.itoa e.Day) ++ bs [32] ++ bs (wordL e.Found) ++ bs [32] ++ bs (Lib.itoa e.Error)) = _
  simp only [bs_app]
  unfold lineL
  congr 2
  simp
/-- The entry that a line's words say. -/
def entryOf (w0 w1 w2 : ByteArray) : GEntry := GEntry.mk (atoiV w0) (decide (w1 = bs [102, 111, 117, 110, 100])) (atoiV w2)
def okLine (a : List UInt8) : Option GEntry := match splitW (bs a) (bs [32]) with
  | [w0, w1, w2] => if vE (entryOf w0 w1 w2) = true ∧ lineL (entryOf w0 w1 w2) = a then some (entryOf w0 w1 w2) else none
  | _ => none
abbrev Res := Ctl (List GEntry) (List GEntry × Int × Int)
abbrev Pst := ByteArray × Int × List GEntry
def errP (l : List GEntry) : Res := .ret ([], (l.length : Int), 2)
/-- One round of both. -/
def stepF (s : List UInt8) (l : List GEntry) : Step Pst Res :=
  if s = [] then .done (.next l) else if (Lib.cut s [10]).2.2 = true ∧ l.length ≠ 1000 then
    match okLine (Lib.cut s [10]).1 with
    | some x => .cont (bs (Lib.cut s [10]).2.1, (l.length : Int) + 1, l ++ [x])
    | none => .done (errP l)
  else .done (errP l)
def parseF : Nat → List UInt8 → List GEntry → Res
  | 0, _, l => .next l
  | k + 1, s, l => if s = [] then .next l else if (Lib.cut s [10]).2.2 = true ∧ l.length ≠ 1000 then
      match okLine (Lib.cut s [10]).1 with
      | some x => parseF k (Lib.cut s [10]).2.1 (l ++ [x])
      | none => errP l
    else errP l
theorem parse_loop {body : Pst → Option (Step Pst Res)} (hb : ∀ s l, s.length ≤ 65536 → l.length ≤ 1000 → body (bs s, (l.length : Int), l) = some (stepF s l)) : ∀ (k : Nat) (s : List UInt8) (l : List GEntry), s.length ≤ k → s.length ≤ 65536 → l.length ≤ 1000 →
    loopR body (bs s, (l.length : Int), l) = some (parseF k s l)
  | 0, s, l, hk, h1, h2 => by
    have h := hb s l h1 h2
    obtain rfl : s = [] := List.eq_nil_of_length_eq_zero (by omega)
    unfold stepF at h
    rw [if_pos rfl] at h
    exact loopR_done h
  | k + 1, s, l, hk, h1, h2 => by
    have h := hb s l h1 h2
    unfold stepF at h
    rw [parseF]
    by_cases h0 : s = []
    · rw [if_pos h0] at h ⊢
      exact loopR_done h
    · rw [if_neg h0] at h ⊢
      by_cases hc : (Lib.cut s [10]).2.2 = true ∧ l.length ≠ 1000
      · rw [if_pos hc] at h ⊢
        cases ho : okLine (Lib.cut s [10]).1 with
        | none =>
          rw [ho] at h
          exact loopR_done h
        | some x =>
          rw [ho] at h
          dsimp only at h ⊢
          rcases cut_cases 10 s with ⟨_, e⟩ | ⟨a, r, e1, _, e⟩
          · rw [e] at hc; cases hc.1
          · rw [e] at h ⊢
            dsimp only at h ⊢
            have hl : s.length = a.length + 1 + r.length := by rw [e1, List.length_append, List.length_cons]; omega
            have := parse_loop hb k r (l ++ [x]) (by omega) (by omega) (by rw [List.length_append, List.length_singleton]; omega)
            rw [List.length_append, List.length_singleton] at this
            exact (loopR_cont _ h).trans this
      · rw [if_neg hc] at h ⊢
        exact loopR_done h
theorem cutV_eq {s : List UInt8} (h : s.length ≤ 65536) : strings_Cut (bs s) (bs [10]) = some (bs (Lib.cut s [10]).1, bs (Lib.cut s [10]).2.1, (Lib.cut s [10]).2.2) := by
  unfold strings_Cut cutSI
  rw [if_pos (by rw [bs_size]; omega)]
  rfl
theorem splitV_eq {s : List UInt8} (h : s.length ≤ 65536) : strings_Split (bs s) (bs [32]) = some (splitW (bs s) (bs [32])) := by
  unfold strings_Split splitI
  rw [if_pos ⟨by rw [bs_size]; omega, by decide⟩]
  rfl
theorem split_sizes {s : List UInt8} : ∀ w ∈ splitW (bs s) (bs [32]), w.size ≤ s.length := by
  induction hn : s.length using Nat.strongRecOn generalizing s with
  | _ n ih =>
    subst hn
    intro w hw
    by_cases h : (32 : UInt8) ∈ s
    · obtain ⟨a, r, rfl, ha⟩ := List.eq_append_cons_of_mem h
      rw [split_found r ha] at hw
      rcases List.mem_cons.1 hw with rfl | hw
      · rw [bs_size, List.length_append]; omega
      · have := ih r.length (by rw [List.length_append, List.length_cons]; omega) rfl w hw
        rw [List.length_append, List.length_cons]; omega
    · rw [split_none h] at hw
      rw [List.mem_singleton.1 hw, bs_size]
      exact Nat.le_refl _
theorem atoi_ok {w : ByteArray} (h : w.size ≤ 65536) : atoiI w = some (atoiV w) := if_pos (by omega)
theorem textOf_one (x : GEntry) : textOf [x] = if vE x = true then bs (lineL x ++ [10]) else bs [] := by
  unfold textOf
  have hv : vL [x] = vE x := by unfold vL; simp
  rw [hv]
  split
  · show bs ([] ++ bytes (lineV x)) = _
    rw [lineV_bs]
    rfl
  · rfl
theorem cut_first_le (s : List UInt8) : (Lib.cut s [10]).1.length ≤ s.length := by
  rcases cut_cases 10 s with ⟨_, e⟩ | ⟨a, r, e1, _, e⟩
  · rw [e]; exact Nat.le_refl _
  · rw [e, e1, List.length_append]; exact Nat.le_add_right _ _
theorem three {α : Type} {l : List α} (h : l.length = 3) : ∃ a b c, l = [a, b, c] := by
  match l, h with
  | [a, b, c], _ => exact ⟨a, b, c, rfl⟩
theorem okLine_not3 {a : List UInt8} (h : (splitW (bs a) (bs [32])).length ≠ 3) : okLine a = none := by
  unfold okLine
  split
  · rename_i e; rw [e] at h; exact absurd rfl h
  · rfl
theorem bs_ne {s : List UInt8} (h : s ≠ []) : bs s ≠ bs [] := fun e => h (bs_inj e)
def finR : Res → Option (List GEntry × Int × Int)
  | .next l => some (l, 0, 0)
  | .ret r => some r
  | .exit _ _ => none
theorem parseF_some : ∀ (k : Nat) (s : List UInt8) (l : List GEntry), ∃ r, finR (parseF k s l) = some r
  | 0, _, l => ⟨_, rfl⟩
  | k + 1, s, l => by
    rw [parseF]
    split
    · exact ⟨_, rfl⟩
    · split
      · split
        · exact parseF_some k _ _
        · exact ⟨_, rfl⟩
      · exact ⟨_, rfl⟩
theorem sParse_eq (s : List UInt8) : ledger_Parse (bs s) = if 65536 < s.length then some ([], 0, 3) else finR (parseF s.length s []) := by
  unfold ledger_Parse
  rw [bs_size]
  by_cases hs : 65536 < s.length
  · rw [if_pos (decide_eq_true (by omega)), if_pos hs]
  · rw [if_neg (by rw [decide_eq_true_eq]; omega), if_neg hs]
    have hloop := parse_loop (body := fun (s : ByteArray × Int × (List GEntry)) => match s with
      | (z4, z5, z6) =>
        (if (!(decide (z4 = (bs [])))) = true then
          (strings_Cut z4 (bs [10])).bind (fun o => match o with
            | (t1, t2, t3) =>
              (strings_Split t1 (bs [32])).bind (fun t4 =>
              (if ((((t4.length : Nat) : Int) != 3) || (((z6.length : Nat) : Int) == 1000)) = true then
                some (Step.done (Ctl.ret (([] : List GEntry), z5, 2)))
              else
                (idx t4 1).bind (fun x1 =>
                (ledger_word true).bind (fun t5 =>
                (idx t4 0).bind (fun x2 =>
                (atoiI x2).bind (fun t6 =>
                (idx t4 2).bind (fun x3 =>
                (atoiI x3).bind (fun t7 =>
                (ledger_Format ([(GEntry.mk t6 (decide (x1 = t5)) t7)] : List GEntry)).bind (fun t8 =>
                ((if (decide (t8 = (bs []))) = true then
                  some true
                else
                  (strings_HasPrefix z4 t8).bind (fun t9 =>
                  some (!t9))) : Option Bool).bind (fun b2 =>
                (if b2 = true then
                  some (Step.done (Ctl.ret (([] : List GEntry), z5, 2)))
                else
                  (appI z6 ([(GEntry.mk t6 (decide (x1 = t5)) t7)] : List GEntry)).bind (fun t10 =>
                  (addI z5 1).bind (fun t11 =>
                  some (Step.cont (t2, t11, t10))))))))))))))))
        else
          some (Step.done (Ctl.next z6)))) (fun s l h1 h2 => by
      dsimp only
      unfold stepF
      by_cases h0 : s = []
      · subst h0
        rw [if_pos rfl]
        rfl
      · rw [if_neg h0, decide_eq_false (bs_ne h0), if_pos (by decide), cutV_eq h1]
        dsimp only [Option.bind_some]
        have hc := cut_first_le s
        rw [splitV_eq (by omega), Option.bind_some]
        by_cases h3 : (splitW (bs (Lib.cut s [10]).1) (bs [32])).length = 3 ∧ l.length ≠ 1000
        · obtain ⟨h3, h4⟩ := h3
          have hsz := split_sizes (s := (Lib.cut s [10]).1)
          have hok : okLine (Lib.cut s [10]).1 = match splitW (bs (Lib.cut s [10]).1) (bs [32]) with
            | [w0, w1, w2] => if vE (entryOf w0 w1 w2) = true ∧ lineL (entryOf w0 w1 w2) = (Lib.cut s [10]).1 then some (entryOf w0 w1 w2) else none
            | _ => none := rfl
          obtain ⟨w0, w1, w2, hw⟩ := three h3
          rw [hw] at hsz hok ⊢
          dsimp only at hok
          have z0 := hsz w0 (by simp)
          have z2 := hsz w2 (by simp)
          rw [if_neg (by simp; omega)]
          have i0 : idx [w0, w1, w2] 0 = some w0 := rfl
          have i1 : idx [w0, w1, w2] 1 = some w1 := rfl
          have i2 : idx [w0, w1, w2] 2 = some w2 := rfl
          rw [i1, Option.bind_some, word_eq, Option.bind_some, i0, Option.bind_some, atoi_ok (by omega), Option.bind_some, i2, Option.bind_some, atoi_ok (by omega), Option.bind_some]
          have hent : GEntry.mk (atoiV w0) (decide (w1 = wordV true)) (atoiV w2) = entryOf w0 w1 w2 := rfl
          rw [hent, Format_eq, Option.bind_some, textOf_one]
          generalize entryOf w0 w1 w2 = x at hok
          by_cases hv : vE x = true
          · rw [if_pos hv, decide_eq_false (bs_ne (by simp)), if_neg (by decide)]
            unfold strings_HasPrefix
            rw [Option.bind_some, Option.bind_some, bytes_bs, bytes_bs]
            rcases cut_cases 10 s with ⟨hn, e⟩ | ⟨a, r, e1, hn, e⟩
            · rw [prefix_noline hn, e]
              refine (if_pos (by decide)).trans ?_
              rw [if_neg (by simp)]
              rfl
            · rw [e] at hok ⊢
              dsimp only at hok ⊢
              rw [e1, prefix_line hn (line_not x)]
              by_cases hx : lineL x = a
              · rw [decide_eq_true hx.symm]
                refine (if_neg (by decide)).trans ?_
                rw [appI_ok (by simp; omega), Option.bind_some, addI_ok (by omega), if_pos ⟨rfl, h4⟩, hok, if_pos ⟨hv, hx⟩]
                rfl
              · rw [decide_eq_false (fun e => hx (Eq.symm e))]
                refine (if_pos (by decide)).trans ?_
                rw [if_pos ⟨rfl, h4⟩, hok, if_neg fun h => hx h.2]
                rfl
          · rw [if_neg hv, decide_eq_true rfl, if_pos rfl, Option.bind_some, if_pos rfl]
            rw [if_neg fun h => hv h.1] at hok
            rw [hok]
            split <;> rfl
        · rw [if_pos (by simp only [Bool.or_eq_true, bne_iff_ne, beq_iff_eq]; omega)]
          by_cases h4 : l.length = 1000
          · rw [if_neg fun h => h.2 h4]; rfl
          · rw [okLine_not3 fun h => h3 ⟨h, h4⟩]
            split <;> rfl) s.length s [] (Nat.le_refl _) (by omega) (by simp)
    rw [List.length_nil] at hloop
    refine Eq.trans (congrArg (Option.bind · _) hloop) ?_
    cases parseF s.length s [] <;> rfl
theorem refParse_eq (s : List UInt8) : noongunref09_Parse (bs s) = if 65536 < s.length then some ([], 0, 3) else finR (parseF s.length s []) := by
  unfold noongunref09_Parse
  rw [bs_size]
  by_cases hs : 65536 < s.length
  · rw [if_pos (decide_eq_true (by omega)), if_pos hs]
  · rw [if_neg (by rw [decide_eq_true_eq]; omega), if_neg hs]
    have hloop := parse_loop (body := fun (s : ByteArray × Int × (List GEntry)) => match s with
      | (z4, z5, z6) =>
        (if (!(decide (z4 = (bs [])))) = true then
          (strings_Cut z4 (bs [10])).bind (fun o => match o with
            | (t1, t2, t3) =>
              (strings_Split t1 (bs [32])).bind (fun t4 =>
              (if (((((t4.length : Nat) : Int) != 3) || (!t3)) || (z5 == 1000)) = true then
                some (Step.done (Ctl.ret (([] : List GEntry), z5, 2)))
              else
                (idx t4 1).bind (fun x1 =>
                (idx t4 0).bind (fun x2 =>
                (atoiI x2).bind (fun t5 =>
                (idx t4 2).bind (fun x3 =>
                (atoiI x3).bind (fun t6 =>
                (noongunref09_line (GEntry.mk t5 (decide (x1 = (bs [102, 111, 117, 110, 100]))) t6)).bind (fun t7 =>
                ((if (!(decide (t7 = t1))) = true then
                  some true
                else
                  (noongunref09_valid (GEntry.mk t5 (decide (x1 = (bs [102, 111, 117, 110, 100]))) t6)).bind (fun t8 =>
                  some (!t8))) : Option Bool).bind (fun b2 =>
                (if b2 = true then
                  some (Step.done (Ctl.ret (([] : List GEntry), z5, 2)))
                else
                  (appI z6 ([(GEntry.mk t5 (decide (x1 = (bs [102, 111, 117, 110, 100]))) t6)] : List GEntry)).bind (fun t9 =>
                  (addI z5 1).bind (fun t10 =>
                  some (Step.cont (t2, t10, t9)))))))))))))))
        else
          some (Step.done (Ctl.next z6)))) (fun s l h1 h2 => by
      dsimp only
      unfold stepF
      by_cases h0 : s = []
      · subst h0
        rw [if_pos rfl]
        rfl
      · rw [if_neg h0, decide_eq_false (bs_ne h0), if_pos (by decide), cutV_eq h1]
        dsimp only [Option.bind_some]
        have hc := cut_first_le s
        rw [splitV_eq (by omega), Option.bind_some]
        by_cases h3 : (splitW (bs (Lib.cut s [10]).1) (bs [32])).length = 3 ∧ (Lib.cut s [10]).2.2 = true ∧ l.length ≠ 1000
        · obtain ⟨h3, h5, h4⟩ := h3
          have hsz := split_sizes (s := (Lib.cut s [10]).1)
          have hok : okLine (Lib.cut s [10]).1 = match splitW (bs (Lib.cut s [10]).1) (bs [32]) with
            | [w0, w1, w2] => if vE (entryOf w0 w1 w2) = true ∧ lineL (entryOf w0 w1 w2) = (Lib.cut s [10]).1 then some (entryOf w0 w1 w2) else none
            | _ => none := rfl
          obtain ⟨w0, w1, w2, hw⟩ := three h3
          rw [hw] at hsz hok ⊢
          dsimp only at hok
          have z0 := hsz w0 (by simp)
          have z2 := hsz w2 (by simp)
          rw [h5, if_neg (by simp; omega)]
          have i0 : idx [w0, w1, w2] 0 = some w0 := rfl
          have i1 : idx [w0, w1, w2] 1 = some w1 := rfl
          have i2 : idx [w0, w1, w2] 2 = some w2 := rfl
          rw [i1, Option.bind_some, i0, Option.bind_some, atoi_ok (by omega), Option.bind_some, i2, Option.bind_some, atoi_ok (by omega), Option.bind_some]
          have hent : GEntry.mk (atoiV w0) (decide (w1 = bs [102, 111, 117, 110, 100])) (atoiV w2) = entryOf w0 w1 w2 := rfl
          rw [hent, rline_all (e := entryOf w0 w1 w2) (atoiV_in w0) (atoiV_in w2), Option.bind_some, if_pos (⟨rfl, h4⟩ : true = true ∧ l.length ≠ 1000), hok]
          generalize entryOf w0 w1 w2 = x
          generalize (Lib.cut s [10]).1 = a
          by_cases hx : lineL x = a
          · rw [hx, decide_eq_true rfl]
            rw [if_neg (by decide : ¬ (!true) = true), rvalid_eq, Option.bind_some, Option.bind_some]
            cases hv : vE x with
            | false => rfl
            | true =>
              refine (if_neg (by decide)).trans ?_
              rw [appI_ok (by simp; omega), Option.bind_some, addI_ok (by omega), if_pos (⟨rfl, rfl⟩ : true = true ∧ a = a)]
              rfl
          · rw [decide_eq_false fun e => hx (bs_inj e), if_pos (by decide : (!false) = true), Option.bind_some, if_neg (fun h => hx h.2 : ¬ (vE x = true ∧ lineL x = a))]
            rfl
        · have hb : ((((((splitW (bs (Lib.cut s [10]).1) (bs [32])).length : Nat) : Int) != 3) || (!(Lib.cut s [10]).2.2)) || (((l.length : Nat) : Int) == 1000)) = true := by
            simp only [Bool.or_eq_true, bne_iff_ne, beq_iff_eq, Bool.not_eq_true']
            by_cases q1 : (splitW (bs (Lib.cut s [10]).1) (bs [32])).length = 3
            · by_cases q2 : l.length = 1000
              · right; omega
              · left; right
                cases q3 : (Lib.cut s [10]).2.2 with
                | false => rfl
                | true => exact absurd ⟨q1, q3, q2⟩ h3
            · left; left; omega
          rw [if_pos hb]
          by_cases h4 : (Lib.cut s [10]).2.2 = true ∧ l.length ≠ 1000
          · rw [if_pos h4, okLine_not3 fun h => h3 ⟨h, h4⟩]; rfl
          · rw [if_neg h4]; rfl) s.length s [] (Nat.le_refl _) (by omega) (by simp)
    rw [List.length_nil] at hloop
    refine Eq.trans (congrArg (Option.bind · _) hloop) ?_
    cases parseF s.length s [] <;> rfl
/-- What is written is read back. -/
theorem okLine_line {e : GEntry} (h : vE e = true) : okLine (lineL e) = some e := by
  have hb := vE_le h
  have hs : splitW (bs (lineL e)) (bs [32]) = [bs (Lib.itoa e.Day), bs (wordL e.Found), bs (Lib.itoa e.Error)] := by
    unfold lineL
    rw [split_found _ (itoa_not _ _ (by decide)), split_found _ (word_not _ _ (by decide)), split_none (itoa_not _ _ (by decide))]
  have he : entryOf (bs (Lib.itoa e.Day)) (bs (wordL e.Found)) (bs (Lib.itoa e.Error)) = e := by
    unfold entryOf
    rw [atoiV_itoa (by omega), atoiV_itoa (by omega)]
    obtain ⟨d, f, r⟩ := e
    cases f <;> rfl
  unfold okLine
  rw [hs]
  dsimp only
  rw [he, if_pos ⟨h, rfl⟩]
theorem textV_app : ∀ (l : List GEntry) (z : List UInt8), textV l z = z ++ textV l []
  | [], z => by simp [textV]
  | e :: l, z => by
    show textV l (z ++ bytes (lineV e)) = z ++ textV l ([] ++ bytes (lineV e))
    rw [textV_app l (z ++ bytes (lineV e)), textV_app l ([] ++ bytes (lineV e))]
    simp
theorem parseF_text : ∀ (l acc : List GEntry) (k : Nat), (∀ e ∈ l, vE e = true) → acc.length + l.length ≤ 1000 → (textV l []).length ≤ k → parseF k (textV l []) acc = .next (acc ++ l)
  | [], acc, k, _, _, _ => by
    cases k <;> simp [parseF, textV]
  | e :: l, acc, k, h, ha, hk => by
    have ht : textV (e :: l) [] = lineL e ++ 10 :: textV l [] := by
      show textV l ([] ++ bytes (lineV e)) = _
      rw [textV_app, lineV_bs]
      show [] ++ (lineL e ++ [10]) ++ _ = _
      simp
    rw [ht] at hk ⊢
    rw [List.length_append, List.length_cons] at hk
    rw [List.length_cons] at ha
    cases k with
    | zero => omega
    | succ k =>
      rw [parseF, if_neg (by simp), cut_found _ (line_not e), if_pos ⟨rfl, by omega⟩]
      dsimp only
      rw [okLine_line (h e (by simp))]
      dsimp only
      rw [parseF_text l (acc ++ [e]) k (fun x hx => h x (by simp [hx])) (by rw [List.length_append, List.length_singleton]; omega) (by omega)]
      simp
theorem rsame_self (l : List GEntry) : noongunref09_SameEntries l l = some true := by
  unfold noongunref09_SameEntries
  rw [bne_self_eq_false, if_neg (by decide), Int.toNat_natCast]
  refine Eq.trans (congrArg (Option.bind · _) (rangeN_unit l.length 0 fun j _ hj => ?_)) rfl
  rw [idx_at (List.getElem?_eq_getElem (by omega)), Option.bind_some, Option.bind_some, beq_self_eq_true, if_neg (by decide)]
theorem law_noongunlaw09_LedgerTexts (a0 : (List GEntry)) (_ : ∀ a ∈ a0, okGEntry a) (_ : a0.length ≤ maxLen) (a1 : ByteArray) (_ : a1.size ≤ maxLen) : noongunlaw09_LedgerTexts a0 a1 = some true := by
  unfold noongunlaw09_LedgerTexts noongunlaw09_fit
  rw [Option.bind_some]
  split
  · rw [awake_eq]; rfl
  · rename_i hfit
    have hs := sParse_eq (bytes a1)
    have hr := refParse_eq (bytes a1)
    rw [bs_bytes] at hs hr
    obtain ⟨⟨p1, p2, p3⟩, hp⟩ : ∃ r, (if 65536 < (bytes a1).length then some ([], 0, 3) else finR (parseF (bytes a1).length (bytes a1) [])) = some r := by
      split
      · exact ⟨_, rfl⟩
      · exact parseF_some _ _ _
    rw [hp] at hs hr
    rw [hs]
    dsimp only [Option.bind_some]
    rw [hr]
    dsimp only [Option.bind_some]
    rw [rsame_self]
    simp only [bne_self_eq_false, Bool.not_true, Bool.or_self, Bool.false_eq_true, if_false, Format_eq, rFormat_eq, Option.bind_some, Valid_eq, awake_eq, decide_true]
    cases hv : vL a0 with
    | false => rfl
    | true =>
      obtain ⟨h1, h2⟩ := vL_all hv
      have ht : textOf a0 = bs (textV a0 []) := by unfold textOf; rw [if_pos hv]; rfl
      have hz := textOf_size a0
      rw [ht, bs_size] at hz
      have hz2 : ¬ 65536 < (textV a0 []).length := by omega
      rw [ht, sParse_eq, if_neg hz2, parseF_text a0 [] _ h1 (by simp; omega) (Nat.le_refl _), List.nil_append]
      simp [finR, rsame_self]
end Go.Fw
