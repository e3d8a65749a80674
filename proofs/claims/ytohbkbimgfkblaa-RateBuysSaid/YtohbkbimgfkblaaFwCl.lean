/-
  THE FRAMEWORK, PART CL: slices cut to their length (slices.Clip), and what is appended to them: a new block. No program in it.
-/
import Derived.Test.YtohbkbimgfkblaaFwO
namespace Go.Fw
open Go.RowKit
/-- A slice with no room behind its length. -/
def clipV : Value → Value
  | .slice a len _ => .slice a len len
  | v => v
section
variable {P : Program} {n : Nat} {ds : Md} {ops : Array Oper} {rest : List Oper} {K : Fr → World → Prop} {f : Fr} {Dq : Nat → Prop} {w w0 : World} {L : List Item} {T T0 : TypeId} {pos : String} {aft : Array Edge} {g : Option (Nat × Bool)} {d : Nat}
theorem SliceR.clip {α : Type} [Ty α] {v : Value} {xs : List α} (h : SliceR w v xs) : SliceR w (clipV v) xs := by
  obtain ⟨h1, ⟨rfl, rfl⟩ | ⟨a, cap, rfl, h2, h3, h4⟩⟩ := h
  · exact ⟨h1, .inl ⟨rfl, rfl⟩⟩
  · exact ⟨h1, .inr ⟨a, xs.length, rfl, Nat.le_refl _, by omega, h4⟩⟩
theorem clipV_clip (v : Value) : clipV (clipV v) = clipV v := by cases v <;> rfl
theorem run_append_clip {α : Type} [Flat α] {E bytes : Nat} {v vy : Value} {xs ys : List α} (hT : P.underlying T = some (.slice E)) (hE : ElemT P E (Flat.size α) bytes) (hb : bytes ≤ 128) (hx : SliceR w v xs) (hcl : clipV v = v)
    (hy : SliceR w vy ys) (hne : ys ≠ []) (hlen : xs.length + ys.length ≤ 1099511627776) :
    ∃ v' w', (Builtin.append_ #[T, T] T0 #[v, vy]).run P w = .ok v' w' ∧ Chg (fun _ => False) w w' ∧ (ownI v' E (xs ++ ys)).ok w' ∧ ∀ b, (ownI v' E (xs ++ ys)).fp b → b < w'.heap.size ∧ w.heap.size ≤ b := by
  obtain ⟨i, z, hi, hz, hsz, hby, hzs⟩ := hE
  have hbytes : (xs.length + ys.length) * bytes ≤ 140737488355328 := by
    have : (xs.length + ys.length) * bytes ≤ 1099511627776 * 128 := Nat.mul_le_mul hlen hb
    omega
  have h63 : xs.length + ys.length ≤ maxLen := by unfold maxLen; omega
  have hpos := Flat.pos (α := α)
  obtain ⟨_, ⟨rfl, rfl⟩ | ⟨ya, yc, rfl, _, _, hyc⟩⟩ := hy
  · exact absurd rfl hne
  have hy1 : 1 ≤ ys.length := by
    cases ys with
    | nil => exact absurd rfl hne
    | cons y ys => simp
  have hnews := flat_news hyc
  have hl := flat_length ys
  have h1 : ∀ u ∈ ys.flatMap Flat.cells, u.oneCell' = true := by
    intro u hu
    obtain ⟨y, _, hy⟩ := List.mem_flatMap.1 hu
    exact Flat.one y u hy
  have hflat : (xs ++ ys).flatMap Flat.cells = xs.flatMap Flat.cells ++ ys.flatMap Flat.cells := List.flatMap_append
  obtain ⟨_, ⟨rfl, rfl⟩ | ⟨xa, xc, rfl, _, _, hxc⟩⟩ := hx
  · obtain ⟨v', w', hrun, how, hgr, _⟩ := run_append_own (P := P) w w.heap.size T T0 E i z (Flat.size α) bytes hT hi hz hsz hby hzs hpos (.slice none 0 0) 0 [] ⟨by simp, .inl ⟨rfl, rfl⟩⟩ ya ys.length yc
      (ys.flatMap Flat.cells) hl hnews h1 (by simpa using h63) (by simpa using hbytes) (Nat.le_refl _)
    refine ⟨v', w', hrun, Chg.grown hgr (by intro b hb; cases hb), ?_, ?_⟩
    · show w'.ownsRow 0 E (Flat.size α) v' ([] ++ ys).length (([] ++ ys).flatMap Flat.cells)
      simp only [List.nil_append, Nat.zero_add] at how ⊢
      obtain ⟨q1, q2⟩ := how
      exact ⟨q1, q2.imp id fun ⟨a, b, c, e1, _, e3⟩ => ⟨a, b, c, e1, Nat.zero_le _, e3⟩⟩
    · intro b hf
      obtain ⟨q1, q2⟩ := how
      rcases q2 with ⟨rfl, _⟩ | ⟨a, b', c, rfl, e2, e3, _⟩
      · cases hf
      · cases hf; exact ⟨(Array.getElem?_eq_some_iff.1 e3).1, e2⟩
  · have hxc' : xc = xs.length := by
      unfold clipV at hcl
      injection hcl with _ _ e
      exact e.symm
    subst hxc'
    obtain ⟨v', w', hrun, how, hgr⟩ := run_append_arg_grows (P := P) w T T0 E i z (Flat.size α) bytes hT hi hz hsz hby hzs hpos xa xs.length xs.length (xs.flatMap Flat.cells) (flat_length xs) (flat_news hxc) ya ys.length yc
      (ys.flatMap Flat.cells) hl hnews (by omega) h63 hbytes
    refine ⟨v', w', hrun, Chg.grown hgr (by intro b hb; cases hb), ?_, ?_⟩
    · show w'.ownsRow 0 E (Flat.size α) v' (xs ++ ys).length ((xs ++ ys).flatMap Flat.cells)
      rw [hflat, List.length_append]
      obtain ⟨q1, q2⟩ := how
      exact ⟨q1, q2.imp id fun ⟨a, b, c, e1, _, e3⟩ => ⟨a, b, c, e1, Nat.zero_le _, e3⟩⟩
    · intro b hf
      obtain ⟨q1, q2⟩ := how
      rcases q2 with ⟨rfl, _⟩ | ⟨a, b', c, rfl, e2, e3, _⟩
      · cases hf
      · cases hf; exact ⟨(Array.getElem?_eq_some_iff.1 e3).1, e2⟩
/-- x[:len(x):len(x)]. -/
theorem O.clip {α : Type} [Ty α] {s b c : Operand} {v : Value} {xs : List α} {E : TypeId} (hT : P.underlying T = some (.slice E)) (hE : SizeT P E (Ty.size α)) (hR : SliceR w v xs)
    (hg : want ops g f = true) (hd : Nat.blt d n = true) (hs : ev f s = v) (hb : ev f b = .int .i64 ((xs.length : Nat) : Int)) (hc : ev f c = .int .i64 ((xs.length : Nat) : Int)) (h : WL P n ds ops rest K (upd f d (clipV v)) w) :
    WL P n ds ops (⟨some d, .slice T s none (some b) (some c), T0, pos, aft, g⟩ :: rest) K f w := by
  have he := elem_of hT
  have hT' : P.underlying T = some (.slice (P.elem T)) := by rw [he]; exact hT
  obtain ⟨h1, ⟨rfl, rfl⟩ | ⟨a, cap, rfl, h2, h3, h4⟩⟩ := hR
  · refine WL.val hg hd ?_ h
    have hb0 : ev f b = .int .i64 0 := hb
    have hc0 : ev f c = .int .i64 0 := hc
    simp only [execOp, Option.map_some, Option.map_none, hs, hb0, hc0, Sem.run_bind, run_sliceAt_slice w T _ _ _ _ hT', run_slice_hm w T none 0 0 hT' .i64 .i64 0 0 (by decide) (by decide) (by decide), he, run_sizeOf' hE, Result.andThen_ok, Sem.run_pure]
    rfl
  · refine WL.val hg hd ?_ h
    simp only [execOp, Option.map_some, Option.map_none, hs, hb, hc, Sem.run_bind, run_sliceAt_slice w T _ _ _ _ hT', run_slice_hm w T (some a) xs.length cap hT' .i64 .i64 ((xs.length : Nat) : Int) ((xs.length : Nat) : Int) (by omega) (by omega) (by omega), he, run_sizeOf' hE, Result.andThen_ok, Sem.run_pure]
    simp [clipV, sliced]
    intro _
    cases a
    simp [Addr.add]
end
end Go.Fw
