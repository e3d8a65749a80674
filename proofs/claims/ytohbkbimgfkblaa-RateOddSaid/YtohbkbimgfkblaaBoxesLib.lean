/-
  Several boxes, plain: which are valid, which fit. No condition.
-/
import Derived.Test.YtohbkbimgfkblaaSpanLib
namespace Go.Fw
def badBx (pre : List GBox) (x : GBox) : Bool := !vBox x || pre.any fun y => decide (y.Name = x.Name)
def vBs (l : List GBox) : Bool := !anyPre badBx [] l && (decide (1 ≤ l.length) && decide (l.length ≤ 16))
theorem vbs_loop : ∀ (l pre : List GBox) (z : List (ByteArray × Bool)) (i : Int), (∀ x ∈ l, x.Name.size ≤ 1000) → (∀ n, (mget z n).getD false = pre.any (fun y => decide (y.Name = n))) →
    rangeL (α := GBox) (S := (List (ByteArray × Bool))) (X := Ctl (Unit) (Bool)) (fun _ yk1 z2 => (rate_ValidBox (GBox.mk yk1.Name yk1.Errors)).bind (fun t1 => (if ((!t1) || ((mget z2 yk1.Name).getD false)) = true then some (Step.done (Ctl.ret false)) else some (Step.cont (mput z2 yk1.Name true))))) (fun _ => Ctl.next ()) l i z = some (if anyPre badBx pre l = true then Ctl.ret false else Ctl.next ())
  | [], pre, z, i, _, _ => by simp [rangeL, anyPre]
  | x :: l, pre, z, i, h, hz => by
    rw [rangeL, anyPre, mk_eta, ValidBox_eq x (h x (by simp)), hz x.Name]
    have e : (!vBox x || pre.any fun y => decide (y.Name = x.Name)) = badBx pre x := rfl
    simp only [Option.bind_some, e]
    cases hb : badBx pre x with
    | true => simp
    | false =>
      simp only [Bool.false_eq_true, if_false, Option.bind_some, Bool.false_or]
      refine vbs_loop l (pre ++ [x]) _ (i + 1) (fun y hy => h y (by simp [hy])) fun n => ?_
      rw [mget_put, List.any_append]
      by_cases hn : x.Name = n
      · simp [hn]
      · rw [if_neg hn, hz n]; simp [hn]
theorem ValidBoxes_eq (l : List GBox) (h : ∀ x ∈ l, x.Name.size ≤ 1000) : rate_ValidBoxes l = some (vBs l) := by
  unfold rate_ValidBoxes vBs
  rw [vbs_loop l [] [] 0 h (fun n => by simp [mget])]
  cases anyPre badBx [] l with
  | true => simp
  | false =>
    simp only [Bool.false_eq_true, if_false, Option.bind_some, within_eq, Bool.not_false, Bool.true_and]
    congr 1
    rw [Bool.eq_iff_iff, inB_iff]
    simp only [Bool.and_eq_true, decide_eq_true_eq]
    omega
theorem rseveral_eq (l : List GBox) (h : ∀ x ∈ l, x.Name.size ≤ 1000) : noongunref06_several l = some (!anyPre badBx [] l && decide (l.length ≤ 16)) := by
  unfold noongunref06_several
  rw [rangeN_pre (fun pre x _ => if x.Name.size ≤ 1000 then some (if badBx pre x = true then .done (Ctl.ret false) else .cont ()) else none)]
  · rw [preL_search badBx (Ctl.ret false) [] l (fun pre x hx => by rw [if_pos (h x hx)])]
    cases anyPre badBx [] l with
    | true => simp
    | false =>
      simp only [Bool.false_eq_true, if_false, Option.bind_some, Bool.not_false, Bool.true_and]
      congr 1
      rw [Bool.eq_iff_iff]
      simp only [decide_eq_true_eq]
      omega
  · intro i x s hx
    have hmem := List.mem_of_getElem? hx
    have hi := (List.getElem?_eq_some_iff.1 hx).1
    rw [if_pos (h x hmem), idx_at hx, Option.bind_some, mk_eta, rValidBox_eq x (h x hmem), Option.bind_some]
    unfold badBx
    cases vBox x with
    | false => simp
    | true =>
      rw [if_neg (by simp), cutI_take _ _ (by omega), Option.bind_some]
      rw [rangeL_search (p := fun y => decide (y.Name = x.Name)) (y := Ctl.ret false)]
      · cases (l.take i).any (fun y => decide (y.Name = x.Name)) <;> simp
      · intro j y t _
        have : decide (x.Name = y.Name) = decide (y.Name = x.Name) := by rw [decide_eq_decide]; exact eq_comm
        rw [this]
        cases decide (y.Name = x.Name) <;> rfl
theorem rValidBoxes_eq (l : List GBox) (h : ∀ x ∈ l, x.Name.size ≤ 1000) : noongunref06_ValidBoxes l = some (vBs l) := by
  unfold noongunref06_ValidBoxes vBs
  rw [rseveral_eq l h]
  by_cases h1 : 1 ≤ l.length
  · have : decide ((1 : Int) ≤ ((l.length : Nat) : Int)) = true := decide_eq_true (by omega)
    simp [this, h1]
  · have : decide ((1 : Int) ≤ ((l.length : Nat) : Int)) = false := decide_eq_false (by omega)
    simp [this, h1]
theorem anyPre_all {l : List GBox} : ∀ {pre : List GBox}, anyPre badBx pre l = false → ∀ x ∈ l, vBox x = true := by
  induction l with
  | nil => intro _ _ x hx; simp at hx
  | cons y l ih =>
    intro pre h x hx
    rw [anyPre, Bool.or_eq_false_iff] at h
    rcases List.mem_cons.1 hx with rfl | hx
    · have := h.1
      unfold badBx at this
      rw [Bool.or_eq_false_iff] at this
      simpa using this.1
    · exact ih h.2 x hx
theorem vBs_box {l : List GBox} (h : vBs l = true) : ∀ x ∈ l, vBox x = true := by
  unfold vBs at h
  rw [Bool.and_eq_true] at h
  exact anyPre_all (by simpa using h.1)
def fitBx (x : GBox) : Bool := !(((decide (100 < ((x.Name.size : Nat) : Int))) || ((decide (60 < ((x.Errors.length : Nat) : Int))) && (decide (((x.Errors.length : Nat) : Int) < 399)))) || (decide (410 < ((x.Errors.length : Nat) : Int))))
theorem fits_eq (l : List GBox) : noongunlaw06_fit l = some (l.all fitBx && decide (((l.length : Nat) : Int) ≤ 20)) := by
  unfold noongunlaw06_fit
  rw [rangeL_search (p := fun x => !fitBx x) (y := Ctl.ret false)]
  · have := not_any fitBx l
    cases hh : l.any (fun x => !fitBx x) with
    | true => rw [hh] at this; simp [← this]
    | false => rw [hh] at this; simp [← this]
  · intro i x s _
    unfold fitBx
    rw [Bool.not_not]
    cases (((decide (100 < ((x.Name.size : Nat) : Int))) || ((decide (60 < ((x.Errors.length : Nat) : Int))) && (decide (((x.Errors.length : Nat) : Int) < 399)))) || (decide (410 < ((x.Errors.length : Nat) : Int)))) <;> rfl
theorem fits_name {l : List GBox} (h : l.all fitBx = true) : ∀ x ∈ l, x.Name.size ≤ 1000 := by
  intro x hx
  have := List.all_eq_true.1 h x hx
  unfold fitBx at this
  simp only [Bool.not_eq_true', Bool.or_eq_false_iff, decide_eq_false_iff_not] at this
  omega
end Go.Fw
