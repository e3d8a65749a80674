/-
  LedgerDigests, plain: both texts of a ledger are one, and both hashes of it. No condition.
-/
import Derived.Test.YtijjocfjgpibjaaDoorLib
import Derived.Lib.ItoaLen
namespace Go.Fw
theorem itoa_eq (a : Int) (h0 : -9223372036854775808 ≤ a) (h1 : a ≤ 9223372036854775807) : strconv_Itoa a = some ⟨(Lib.itoa a).toArray⟩ := if_pos ⟨h0, h1⟩
theorem cat_eq {a b : ByteArray} (h : a.size + b.size ≤ 1099511627776) : catI a b = some (a ++ b) := if_pos h
def wordV (b : Bool) : ByteArray := if b = true then bs [102, 111, 117, 110, 100] else bs [115, 97, 105, 100]
theorem word_eq (b : Bool) : ledger_word b = some (wordV b) := by cases b <;> rfl
theorem wordV_size (b : Bool) : (wordV b).size ≤ 5 := by cases b <;> decide
theorem itoa_size (a : Int) (h0 : -9223372036854775808 ≤ a) (h1 : a ≤ 9223372036854775807) : (⟨(Lib.itoa a).toArray⟩ : ByteArray).size ≤ 21 := Lib.itoa_length_le a h0 h1
theorem bs1 (c : UInt8) : (bs [c]).size = 1 := rfl
def lineV (e : GEntry) : ByteArray := ⟨(Lib.itoa e.Day).toArray⟩ ++ bs [32] ++ wordV e.Found ++ bs [32] ++ ⟨(Lib.itoa e.Error).toArray⟩ ++ bs [10]
theorem vE_le {e : GEntry} (h : vE e = true) : (0 ≤ e.Day ∧ e.Day ≤ 182985) ∧ -86400000 ≤ e.Error ∧ e.Error ≤ 86400000 := by
  simpa [vE, dayB] using h
theorem line_size {e : GEntry} (h : vE e = true) : (lineV e).size ≤ 60 := by
  have hb := vE_le h
  have h1 := itoa_size e.Day (by omega) (by omega)
  have h2 := itoa_size e.Error (by omega) (by omega)
  have h3 := wordV_size e.Found
  unfold lineV
  simp only [ByteArray.size_append, bs1]
  omega
theorem line_eq {e : GEntry} (h : vE e = true) : ledger_lineN e = some (lineV e) := by
  have hb := vE_le h
  have h1 := itoa_size e.Day (by omega) (by omega)
  have h2 := itoa_size e.Error (by omega) (by omega)
  have h3 := wordV_size e.Found
  unfold ledger_lineN lineV
  rw [itoa_eq _ (by omega) (by omega), itoa_eq _ (by omega) (by omega), word_eq]
  simp only [Option.bind_some]
  rw [cat_eq (by simp only [bs1]; omega), Option.bind_some, cat_eq (by simp only [ByteArray.size_append, bs1]; omega), Option.bind_some, cat_eq (by simp only [ByteArray.size_append, bs1]; omega), Option.bind_some,
    cat_eq (by simp only [ByteArray.size_append, bs1]; omega), Option.bind_some, cat_eq (by simp only [ByteArray.size_append, bs1]; omega), Option.bind_some]
theorem rline_eq {e : GEntry} (h : vE e = true) : noongunref09_lineN e = some (lineV e) := by
  have hb := vE_le h
  have h1 := itoa_size e.Day (by omega) (by omega)
  have h2 := itoa_size e.Error (by omega) (by omega)
  have h3 := wordV_size e.Found
  have hw : (if e.Found = true then some (bs [102, 111, 117, 110, 100]) else some (bs [115, 97, 105, 100])) = some (wordV e.Found) := by unfold wordV; split <;> rfl
  unfold noongunref09_lineN noongunref09_line lineV
  rw [itoa_eq _ (by omega) (by omega), itoa_eq _ (by omega) (by omega), hw]
  simp only [Option.bind_some]
  rw [cat_eq (by simp only [bs1]; omega), Option.bind_some, cat_eq (by simp only [ByteArray.size_append, bs1]; omega), Option.bind_some, cat_eq (by simp only [ByteArray.size_append, bs1]; omega), Option.bind_some,
    cat_eq (by simp only [ByteArray.size_append, bs1]; omega), Option.bind_some, Option.bind_some, cat_eq (by simp only [ByteArray.size_append, bs1]; omega), Option.bind_some]
def textV (l : List GEntry) (z : List UInt8) : List UInt8 := l.foldl (fun z e => z ++ bytes (lineV e)) z
theorem text_size : ∀ (l : List GEntry) (z : List UInt8), (∀ e ∈ l, vE e = true) → (textV l z).length ≤ z.length + 60 * l.length
  | [], z, _ => by simp [textV]
  | e :: l, z, h => by
    have h1 := line_size (h e (by simp))
    have h2 := text_size l (z ++ bytes (lineV e)) fun x hx => h x (by simp [hx])
    have h3 : (bytes (lineV e)).length = (lineV e).size := rfl
    rw [List.length_append, h3] at h2
    show (textV l (z ++ bytes (lineV e))).length ≤ _
    rw [List.length_cons]
    omega
theorem text_loop (f : GEntry → Option ByteArray) (hf : ∀ e, vE e = true → f e = some (lineV e)) : ∀ (l : List GEntry) (i : Int) (z : List UInt8), (∀ e ∈ l, vE e = true) → z.length + 60 * l.length ≤ 1000000 →
    rangeL (α := GEntry) (S := List UInt8) (X := List UInt8) (fun _ y z => (f y).bind fun s => (addL z s).bind fun z2 => some (Step.cont z2)) (fun z => z) l i z = some (textV l z)
  | [], _, _, _, _ => rfl
  | e :: l, i, z, h, hz => by
    have h1 := line_size (h e (by simp))
    have h3 : (bytes (lineV e)).length = (lineV e).size := rfl
    rw [List.length_cons] at hz
    rw [rangeL, hf e (h e (by simp)), Option.bind_some, addL, if_pos (by omega), Option.bind_some, Option.bind_some]
    exact text_loop f hf l (i + 1) (z ++ bytes (lineV e)) (fun x hx => h x (by simp [hx])) (by rw [List.length_append, h3]; omega)
def textOf (l : List GEntry) : ByteArray := if vL l = true then ⟨(textV l []).toArray⟩ else bs []
theorem vL_all {l : List GEntry} (h : vL l = true) : (∀ e ∈ l, vE e = true) ∧ l.length ≤ 1000 := by
  unfold vL at h
  rw [Bool.and_eq_true, List.all_eq_true, decide_eq_true_eq] at h
  exact ⟨h.1, by omega⟩
theorem Format_eq (l : List GEntry) : ledger_Format l = some (textOf l) := by
  unfold ledger_Format textOf
  rw [Valid_eq, Option.bind_some]
  cases hv : vL l with
  | false => rfl
  | true =>
    obtain ⟨h1, h2⟩ := vL_all hv
    rw [if_neg (by simp), text_loop ledger_lineN (fun e => line_eq) l 0 [] h1 (by simp; omega)]
    rfl
theorem rFormat_eq (l : List GEntry) : noongunref09_Format l = some (textOf l) := by
  unfold noongunref09_Format textOf
  rw [rValid_eq, Option.bind_some]
  cases hv : vL l with
  | false => rfl
  | true =>
    obtain ⟨h1, h2⟩ := vL_all hv
    rw [if_neg (by simp), text_loop noongunref09_lineN (fun e => rline_eq) l 0 [] h1 (by simp; omega)]
    rfl
theorem textOf_size (l : List GEntry) : (textOf l).size ≤ 60000 := by
  unfold textOf
  cases hv : vL l with
  | false => exact (by decide : (bs []).size ≤ 60000)
  | true =>
    obtain ⟨h1, h2⟩ := vL_all hv
    have := text_size l [] h1
    show (textV l []).length ≤ _
    simp at this
    omega
def hashF (xs : List UInt8) : Int := xs.foldl (fun z c => wU ((bits .xor .u64 z (c.toNat : Int)) * 1099511628211)) 14695981039346656037
theorem wU_mod (a : Int) : IntKind.u64.wrap a = a % 18446744073709551616 := by rfl
theorem cvu (n : Nat) (h : n < 256) : cvI .u64 (n : Int) = some (n : Int) := if_pos (by rw [wU_mod]; omega)
theorem cv8 (c : UInt8) : cvI .u64 (c.toNat : Int) = some (c.toNat : Int) := cvu c.toNat c.toNat_lt
theorem Digest_eq (l : List GEntry) : ledger_Digest l = some (hashF (bytes (textOf l))) := by
  have hs := textOf_size l
  unfold ledger_Digest
  rw [Format_eq, Option.bind_some, bytesI, if_pos (by omega), Option.bind_some, rangeL_fold (fun (z : Int) (c : UInt8) => wU ((bits .xor .u64 z (c.toNat : Int)) * 1099511628211)) _ _ _ (fun i x s _ => by rw [cv8, Option.bind_some])]
  rfl
theorem shifts (x : Int) : wU (wU (wU (wU (wU (wU (wU (x * 2 ^ 40) + wU (x * 2 ^ 8)) + wU (x * 2 ^ 7)) + wU (x * 2 ^ 5)) + wU (x * 2 ^ 4)) + wU (x * 2 ^ 1)) + x) = wU (x * 1099511628211) := by
  simp only [wU, wU_mod]
  omega
theorem rHash_eq (s : ByteArray) (h : s.size ≤ 60000) : noongunref09_Hash s = some (hashF (bytes s)) := by
  unfold noongunref09_Hash
  rw [chkI, if_pos (inI_iff.2 ⟨by omega, by omega⟩), show s.size = (bytes s).length from rfl,
    rangeN_list (fun _ (c : UInt8) z => some (Step.cont (wU ((bits .xor .u64 z (c.toNat : Int)) * 1099511628211)))) (bytes s) _ (fun i x z hx => by rw [idx_at hx, Option.bind_some, cv8, Option.bind_some, shifts]),
    rangeL_fold (fun (z : Int) (c : UInt8) => wU ((bits .xor .u64 z (c.toNat : Int)) * 1099511628211)) _ _ _ (fun i x s _ => rfl)]
  rfl
theorem rDigest_eq (l : List GEntry) : noongunref09_Digest l = some (hashF (bytes (textOf l))) := by
  unfold noongunref09_Digest
  rw [rFormat_eq, Option.bind_some, rHash_eq _ (textOf_size l)]
  rfl
theorem law_noongunlaw09_LedgerDigests (a0 : (List GEntry)) (_ : ∀ a ∈ a0, okGEntry a) (_ : a0.length ≤ maxLen) : noongunlaw09_LedgerDigests a0 = some true := by
  unfold noongunlaw09_LedgerDigests noongunlaw09_fit
  rw [Option.bind_some]
  split
  · rw [awake_eq]; rfl
  · rename_i hfit
    have hlen : a0.length ≤ 1003 := by
      simp at hfit
      omega
    rw [Digest_eq, rDigest_eq, Option.bind_some, Option.bind_some, appI_ok (by simp; omega), Option.bind_some, List.nil_append, Digest_eq, awake_eq]
    simp
end Go.Fw
