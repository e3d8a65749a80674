/-
  THE FRAMEWORK, PART J: what is given to a law, opened: numbers, bools, strings, slices of these and of structs of these; and a law's row shut again.
-/
import Derived.Test.YtokfcbpfhojdkaaFwL
import Derived.Deep.Slices
import Derived.ProofKit
namespace Go.Fw
open Go.ChangeShapes Go.WideShapes Go.RowKit Go.ChangeAt

/-- What the cells of a type read as. -/
def Opens {α : Type} [Ty α] (P : Program) (T : TypeId) (ok : α → Prop) : Prop :=
  ∀ {H : Type} {enc : TypeId × Value → H} {w : World} {base : Nat} {spare : Nat → Bool} {held : Bool} {fuel : Nat} {cs : List Value} {x : DataW H × List MemPlace},
    DataW.trod enc P w base spare held fuel T cs = some x → ∃ a : α, Ty.rep w cs a ∧ ok a

theorem inI_of_wf {n : Int} (h : (Lit.int .i64 n).wf = true) : inI n = true := h

theorem Opens.int {P : Program} {T : TypeId} (ht : P.underlying T = some (.int .i64)) : Opens (α := Int) P T (fun a => inI a = true) := by
  intro H enc w base spare held fuel cs x h
  obtain ⟨n, rfl, _, hw⟩ := DataW.trod_int ht h
  exact ⟨n, rfl, inI_of_wf hw⟩
theorem Opens.bool {P : Program} {T : TypeId} (ht : P.underlying T = some .bool) : Opens (α := Bool) P T (fun _ => True) := by
  intro H enc w base spare held fuel cs x h
  obtain ⟨n, rfl, _⟩ := DataW.trod_bool ht h
  exact ⟨n, rfl, trivial⟩
theorem struct_field {H : Type} {enc : TypeId × Value → H} {P : Program} {w : World} {base : Nat} {spare : Nat → Bool} {held : Bool} {n : Nat} {cs : List Value} {fs : Array Field} {xs : List (DataW H × List MemPlace)}
    (hf : ∀ (i : Nat) (f : Field), fs[i]? = some f → DataW.trod enc P w base spare held n f.type ((cs.drop f.offset).take (P.cellsOf f.type)) = xs[i]?) (hxl : xs.length = fs.size) (i : Nat) (hi : i < fs.size) {f : Field} (hfi : fs[i]? = some f)
    {k : Nat} (hk : P.cellsOf f.type = k) : ∃ y, DataW.trod enc P w base spare held n f.type ((cs.drop f.offset).take k) = some y := by
  have := hf i f hfi
  rw [hk] at this
  exact ⟨_, this.trans (List.getElem?_eq_getElem (by omega))⟩

theorem exists_list {α : Type} {p : Nat → α → Prop} : ∀ {n : Nat}, (∀ i, i < n → ∃ a, p i a) → ∃ l : List α, l.length = n ∧ ∀ i a, l[i]? = some a → p i a
  | 0, _ => ⟨[], rfl, by simp⟩
  | n + 1, h => by
    obtain ⟨l, hl, hp⟩ := exists_list (n := n) fun i hi => h i (Nat.lt_succ_of_lt hi)
    obtain ⟨a, ha⟩ := h n (Nat.lt_succ_self n)
    refine ⟨l ++ [a], by simp [hl], fun i b hb => ?_⟩
    by_cases hi : i < n
    · rw [List.getElem?_append_left (by omega)] at hb
      exact hp i b hb
    · rw [List.getElem?_append_right (by omega)] at hb
      have h0 : i - l.length = 0 := by
        rcases Nat.eq_zero_or_pos (i - l.length) with h | h
        · exact h
        · rw [List.getElem?_eq_none (by simp; omega)] at hb
          cases hb
      rw [h0] at hb
      cases hb
      have : i = n := by omega
      subst this
      exact ha

/-- A slice, opened. -/
theorem open_list {α : Type} [Ty α] {P : Program} {T E : TypeId} {ok : α → Prop} (ho : Opens P E ok) (ht : P.underlying T = some (.slice E)) (hE : P.cellsOf E = Ty.size α)
    {H : Type} {enc : TypeId × Value → H} {w : World} {base : Nat} {spare : Nat → Bool} {held : Bool} {fuel : Nat} {cs : List Value} {x : DataW H × List MemPlace}
    (h : DataW.trod enc P w base spare held fuel T cs = some x) : ∃ v, cs = [v] ∧ ∃ xs : List α, SliceR w v xs ∧ ∀ a ∈ xs, ok a := by
  rcases Deep.open_slice ht h with ⟨rfl, _⟩ | ⟨a, len, cap, m, n, D, Pl, rfl, hb, hl, hm, hmm, rfl, hx⟩
  · exact ⟨_, rfl, [], SliceR.nil, by simp⟩
  · have hlm : len ≤ m := by rw [hmm]; split <;> omega
    have key : ∀ i, i < len → ∃ e : α, ok e ∧ ElemAt w (a.add (i * Ty.size α)) e := by
      intro i hi
      obtain ⟨cs', h1, h2⟩ := hx i (by omega)
      obtain ⟨e, he, hoke⟩ := ho h2
      obtain ⟨_, hlen, hcell⟩ := World.cells?_some h1
      rw [hE] at hlen hcell
      have h0 := hcell 0 (Ty.pos (α := α))
      rw [List.getElem?_eq_getElem (by have := Ty.pos (α := α); omega)] at h0
      have hspot : (a.add (i * Ty.size α)).spot = none := by
        have := World.cell?_spot h0
        simpa [Addr.add] using this
      refine ⟨e, hoke, hspot, cs', he, fun j c hj => ?_⟩
      have hjl : j < Ty.size α := by
        have := (List.getElem?_eq_some_iff.1 hj).1
        omega
      rw [hcell j hjl, hj]
    obtain ⟨xs, hxl, hxp⟩ := exists_list key
    refine ⟨_, rfl, xs, ⟨by omega, .inr ⟨a, cap, by rw [hxl], by omega, hm, fun i x hi => (hxp i x hi).2⟩⟩, fun e he => ?_⟩
    obtain ⟨i, hi⟩ := List.getElem?_of_mem he
    exact (hxp i e hi).1

/-- A slice given to a law. -/
theorem open_listV {α : Type} [Ty α] {P : Program} {T E : TypeId} {ok : α → Prop} (ho : Opens P E ok) (ht : P.underlying T = some (.slice E)) (hE : P.cellsOf E = Ty.size α)
    {H : Type} {enc : TypeId × Value → H} {w : World} {base b0 : Nat} {r : Reach} {spare : Nat → Bool} {held : Bool} {v : Value} {d : DataW H} {ps : List MemPlace}
    (hval : Value.okWide P w r b0 T v) (h : DataW.Trod enc P w base spare held T v d ps) : ∃ xs : List α, SliceR w v xs ∧ ∀ a ∈ xs, ok a := by
  obtain ⟨a0, len, cap, rfl⟩ := okWide_slice ht hval
  obtain ⟨fuel, hf⟩ := h
  obtain ⟨v', hv, xs, hx⟩ := open_list ho ht hE hf
  cases hv
  exact ⟨xs, hx⟩

theorem trodAll_keep {H : Type} {enc : TypeId × Value → H} {P : Program} {W W' : World} (hl : laidOutB P = true) (hb : Below W.heap.size W W') :
    ∀ {ts : List TypeId} {vs : List Value} {ds : List (DataW H)} {ps : List MemPlace}, ts.all (fun t => P.readableRec t && decide (t < P.types.size)) = true → (∀ x ∈ ps, x.block < W.heap.size) →
      DataW.TrodAll enc P W 0 (fun _ => true) true ts vs ds ps → DataW.TrodAll enc P W' 0 (fun b => decide (b < W.heap.size)) true ts vs ds ps
  | [], [], [], _, _, _, h => h
  | t :: ts, v :: vs, d :: ds, _, ht, hlt, ⟨p, q, h1, h2, e⟩ => by
    subst e
    simp only [List.all_cons, Bool.and_eq_true, decide_eq_true_eq] at ht
    refine ⟨p, q, Below.trod hl ht.1.1 ht.1.2 h1 hb fun x hx => hlt x (List.mem_append_left _ hx), trodAll_keep hl hb ht.2 (fun x hx => hlt x (List.mem_append_right _ hx)) h2, rfl⟩

/-- A law that returned true behind new memory alone: the row's whole post. -/
theorem post_true {H : Type} {enc : TypeId × Value → H} {P : Program} {fn : Func} {s : ChangeSpec} {W W' : World} {args : Array Value} {ds : List (DataW H)} {before : List MemPlace} {tb : TypeId}
    (hl : laidOutB P = true) (hp : fn.params.toList.all (fun t => P.readableRec t && decide (t < P.types.size)) = true) (hres : fn.resultTypes = #[tb]) (hb : P.underlying tb = some .bool) (hv : s.vars = [])
    (hW : DataW.Whole enc P fn.params.toList s.vars false W args.toList ds [] before) (hfn : s.fn H (ds ++ []) = { results := [.lit (.bool true)], args := ds }) (hbl : Below W.heap.size W W') :
    s.post enc P fn false true false false W args (.bool true) W' := by
  have hlt := hW.lt
  have hW' := hW
  obtain ⟨p, q, hA, hV, rfl, _, _⟩ := hW
  refine ⟨ds, [], _, [], p, [], hW', ?_, ?_, ?_, hbl.frame _, fun h => by cases h⟩
  · rw [hfn, hres]
    exact trodAll_mk1 ⟨1, by simp [DataW.trod, Value.cells, hb]⟩
  · rw [hfn]
    exact trodAll_keep hl hbl hp (fun x hx => hlt x (List.mem_append_left _ hx)) hA
  · rw [hfn, hv]
    exact rfl
end Go.Fw
