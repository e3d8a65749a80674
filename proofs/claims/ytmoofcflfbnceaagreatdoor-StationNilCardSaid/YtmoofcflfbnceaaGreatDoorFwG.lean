/-
  THE FRAMEWORK, PART G: maps as lists of pairs, in the order in which their keys came.
-/
import Derived.Test.YtmoofcflfbnceaaGreatDoorFwF
namespace Go.Fw
open Go.RowKit

def mget {K V : Type} [DecidableEq K] (kv : List (K × V)) (k : K) : Option V := (kv.find? fun p => p.1 == k).map (·.2)
def mput {K V : Type} [DecidableEq K] (kv : List (K × V)) (k : K) (v : V) : List (K × V) :=
  if kv.any (fun p => p.1 == k) then kv.map (fun p => if p.1 == k then (k, v) else p) else kv ++ [(k, v)]

def MapOk {K V : Type} [Flat K] [Flat V] (w : World) (r : Nat) (kv : List (K × V)) : Prop :=
  ∃ es clock, w.heap[r]? = some (.map es clock) ∧ es.toList.map (fun e => (e.key, e.val)) = kv.map (fun p => (Flat.val p.1, Flat.val p.2)) ∧ (kv.map Prod.fst).Nodup ∧
    (es.toList.map (·.born)).Pairwise (· < ·) ∧ ∀ e ∈ es.toList, e.born < clock
def MapR {K V : Type} [Flat K] [Flat V] (w : World) (v : Value) (kv : List (K × V)) : Prop := (v = .map none ∧ kv = []) ∨ ∃ r, v = .map (some r) ∧ MapOk w r kv

theorem heap_lt {w : World} {r : Nat} {o : Obj} (h : w.heap[r]? = some o) : r < w.heap.size := (Array.getElem?_eq_some_iff.1 h).1
theorem MapOk.mono {K V : Type} [Flat K] [Flat V] {w w' : World} {r : Nat} {kv : List (K × V)} (h : MapOk w r kv) (hb : Below w.heap.size w w') : MapOk w' r kv := by
  obtain ⟨es, c, h1, h2⟩ := h
  exact ⟨es, c, by rw [hb.block r (heap_lt h1)]; exact h1, h2⟩
theorem MapR.mono {K V : Type} [Flat K] [Flat V] {w w' : World} {v : Value} {kv : List (K × V)} (h : MapR w v kv) (hb : Below w.heap.size w w') : MapR w' v kv := by
  rcases h with h | ⟨r, h1, h2⟩
  · exact .inl h
  · exact .inr ⟨r, h1, h2.mono hb⟩

def mapI {K V : Type} [Flat K] [Flat V] (r : Nat) (kv : List (K × V)) : Item :=
  ⟨fun b => b = r, fun w => MapOk w r kv, fun _ _ _ h ⟨es, c, h1, h2⟩ => ⟨es, c, (h r rfl).trans h1, h2⟩⟩
def OwnM {K V : Type} [Flat K] [Flat V] (w0 w : World) (v : Value) (kv : List (K × V)) : Prop := ∃ r, v = .map (some r) ∧ w0.heap.size ≤ r ∧ MapOk w r kv

section
variable {Dq : Nat → Prop} {w0 w w' : World} {L : List Item} {K V : Type} [Flat K] [Flat V]
theorem InvD.argM (H : Inv w0 w L) {v : Value} {kv : List (K × V)} (h : MapR w0 v kv) : MapR w v kv := h.mono H.base
theorem InvD.mapOk (H : InvD Dq w0 w L) (i : Nat) {r : Nat} {kv : List (K × V)} (hi : L[i]? = some (mapI r kv)) : MapOk w r kv := (H.items _ (List.mem_of_getElem? hi)).1
theorem InvD.map (H : InvD Dq w0 w L) (i : Nat) {r : Nat} {kv : List (K × V)} (hi : L[i]? = some (mapI r kv)) : MapR w (.map (some r)) kv := .inr ⟨r, rfl, H.mapOk i hi⟩
theorem InvD.ownM (H : Inv w0 w L) (i : Nat) {r : Nat} {kv : List (K × V)} (hi : L[i]? = some (mapI r kv)) : OwnM w0 w (.map (some r)) kv :=
  ⟨r, rfl, ((H.items _ (List.mem_of_getElem? hi)).2 r rfl).1.resolve_right id, H.mapOk i hi⟩
theorem InvD.addMap (H : InvD Dq w0 w L) (hb : Below w.heap.size w w') {r : Nat} {kv : List (K × V)} (h : w.heap.size ≤ r) (hm : MapOk w' r kv) : InvD Dq w0 w' (L ++ [mapI r kv]) :=
  H.add hb _ hm (by rintro b rfl; obtain ⟨es, c, h1, _⟩ := hm; exact ⟨h, heap_lt h1⟩)
end

/-! Keys. -/
structure KeyT (P : Program) (T : TypeId) (α : Type) [Flat α] [DecidableEq α] : Prop where
  ck : ∀ (k : α) b (w : World), (Instr.checkKey b 10000 T (Flat.val k)).run P w = .ok () w
  fnd : ∀ (k : α) (es : List MapEntry) (ks : List α) (w : World), es.map (·.key) = ks.map Flat.val →
    (Instr.findKey T (Flat.val k) es).run P w = .ok ((ks.findIdx? (· == k)).bind fun i => (es[i]?).map fun e => (i, e.val)) w
  stay : ∀ (k : α) (w : World), (Instr.keyThatStays (Flat.val k) (Flat.val k)).run P w = .ok (Flat.val k) w

theorem findNow_flat {α : Type} [Flat α] [DecidableEq α] {d : TypeDesc} (hs : ∀ a b : α, Instr.sameNow d (Flat.val a) (Flat.val b) = some (a == b)) (k : α) :
    ∀ (es : List MapEntry) (ks : List α) (i : Nat), es.map (·.key) = ks.map Flat.val →
      Instr.findNow d (Flat.val k) es i = some ((ks.findIdx? (· == k)).bind fun j => (es[j]?).map fun e => (i + j, e.val)) := by
  intro es
  induction es with
  | nil => intro ks i h; cases ks with
    | nil => rfl
    | cons a ks => cases h
  | cons e es ih =>
    intro ks i h
    cases ks with
    | nil => cases h
    | cons a ks =>
      simp only [List.map_cons, List.cons.injEq] at h
      simp only [Instr.findNow, h.1, hs]
      rw [List.findIdx?_cons]
      by_cases e1 : a = k
      · subst e1; simp
      · have e2 : (k == a) = false := by simpa using fun h => e1 h.symm
        have e3 : (a == k) = false := by simpa using e1
        rw [e2, ih ks (i + 1) h.2]
        simp only [e3, Bool.false_eq_true, if_false]
        cases List.findIdx? (fun x => x == k) ks with
        | none => rfl
        | some j => simp [Nat.add_assoc, Nat.add_comm 1 j]

theorem findAsking_flat {P : Program} {T : TypeId} {α : Type} [Flat α] [DecidableEq α] (hs : ∀ (a b : α) (w : World), (Op.equal T (Flat.val a) (Flat.val b)).run P w = .ok (a == b) w) (k : α) :
    ∀ (es : List MapEntry) (ks : List α) (i : Nat) (w : World), es.map (·.key) = ks.map Flat.val →
      (Instr.findAsking T (Flat.val k) es i).run P w = .ok ((ks.findIdx? (· == k)).bind fun j => (es[j]?).map fun e => (i + j, e.val)) w := by
  intro es
  induction es with
  | nil => intro ks i w h; cases ks with
    | nil => rfl
    | cons a ks => cases h
  | cons e es ih =>
    intro ks i w h
    cases ks with
    | nil => cases h
    | cons a ks =>
      simp only [List.map_cons, List.cons.injEq] at h
      simp only [Instr.findAsking, Sem.run_bind, h.1, hs, Result.andThen_ok]
      rw [List.findIdx?_cons]
      by_cases e1 : a = k
      · subst e1; simp
      · have e2 : (k == a) = false := by simpa using fun h => e1 h.symm
        have e3 : (a == k) = false := by simpa using e1
        rw [e2]
        simp only [e3, Bool.false_eq_true, if_false, ih ks (i + 1) w h.2]
        cases List.findIdx? (fun x => x == k) ks with
        | none => rfl
        | some j => simp [Nat.add_assoc, Nat.add_comm 1 j]

theorem beq_bytes (a b : ByteArray) : (@BEq.beq ByteArray ByteArray.instBEq a b) = decide (a = b) := by
  obtain ⟨x⟩ := a
  obtain ⟨y⟩ := b
  show (x == y) = _
  rw [Bool.eq_iff_iff]
  simp
theorem run_stay {P : Program} {v : Value} (h : Instr.sameBits 10000 v v = true) (w : World) : (Instr.keyThatStays v v).run P w = .ok v w := by
  simp only [Instr.keyThatStays, h, if_true, Sem.run_pure]
theorem ck_string {P : Program} {T : TypeId} (hT : P.underlying T = some .string) (a : ByteArray) (b : Bool) (n : Nat) (w : World) : (Instr.checkKey b (n + 1) T (.string a)).run P w = .ok () w := by
  simp only [Instr.checkKey, Sem.run_bind, run_underlying hT, Result.andThen_ok]; rfl
theorem KeyT.string {P : Program} {T : TypeId} (hT : P.underlying T = some .string) : KeyT P T ByteArray where
  ck a b w := ck_string hT a b 9999 w
  fnd a es ks w h := by
    simp only [Instr.findKey, Sem.run_bind, run_underlying hT, Result.andThen_ok]
    rw [findNow_flat (d := .string) (fun a b => by simp only [Instr.sameNow, Flat.val]; exact congrArg some (beq_bytes a b)) a es ks 0 h]
    simp only [Nat.zero_add, Sem.run_pure]
  stay a w := run_stay (v := Flat.val a) (show (@BEq.beq ByteArray ByteArray.instBEq a a) = true by rw [beq_bytes]; simp) w
theorem KeyT.struct {P : Program} {T : TypeId} {α : Type} [Flat α] [DecidableEq α] {fs : Array Field} (hT : P.underlying T = some (.struct fs)) (hck : ∀ (k : α) b (w : World), (Instr.checkKey b 10000 T (Flat.val k)).run P w = .ok () w)
    (heq : ∀ (a b : α) (w : World), (Op.equal T (Flat.val a) (Flat.val b)).run P w = .ok (a == b) w) (hstay : ∀ k : α, Instr.sameBits 10000 (Flat.val k) (Flat.val k) = true) : KeyT P T α where
  ck := hck
  fnd a es ks w h := by
    simp only [Instr.findKey, Sem.run_bind, run_underlying hT, Result.andThen_ok]
    cases es with
    | nil =>
      cases ks with
      | nil => rfl
      | cons a ks => cases h
    | cons e es =>
      have hn : Instr.findNow (.struct fs) (Flat.val a) (e :: es) 0 = none := by
        simp [Instr.findNow, Instr.sameNow]
      rw [hn]
      rw [findAsking_flat heq a (e :: es) ks 0 w h]
      simp only [Nat.zero_add]
  stay a w := run_stay (hstay a) w

section
variable {P : Program} {n : Nat} {ds : Md} {ops : Array Oper} {rest : List Oper} {K : Fr → World → Prop} {f : Fr} {Dq : Nat → Prop} {w w0 : World} {L : List Item} {T T' T0 : TypeId} {pos : String} {aft : Array Edge}
  {g : Option (Nat × Bool)} {d : Nat}

theorem find_idx {α β : Type} [DecidableEq α] (k : α) : ∀ (kv : List (α × β)), (kv.find? fun p => p.1 == k) = ((kv.map Prod.fst).findIdx? (· == k)).bind fun i => kv[i]? := by
  intro kv
  induction kv with
  | nil => rfl
  | cons p kv ih =>
    rw [List.find?_cons, List.map_cons, List.findIdx?_cons]
    cases h : p.1 == k
    · simp only [Bool.false_eq_true, if_false, ih]
      cases List.findIdx? (fun x => x == k) (kv.map Prod.fst) <;> simp
    · simp

theorem run_lookup {α β : Type} [Flat α] [Flat β] [DecidableEq α] {kT eT : TypeId} {v : Value} {kv : List (α × β)} {z : β} (k : α) (c : Bool) (hT : P.underlying T = some (.map kT eT)) (hK : KeyT P kT α) (hz : ZeroT P eT (Flat.val z)) (hm : MapR w v kv) :
    (Instr.lookup T v (Flat.val k) c).run P w = .ok (if c then .tuple #[Flat.val ((mget kv k).getD z), .bool (mget kv k).isSome] else Flat.val ((mget kv k).getD z)) w := by
  rcases hm with ⟨rfl, rfl⟩ | ⟨r, rfl, es, clock, hh, hkv, _⟩
  · simp only [Instr.lookup, Sem.run_bind, run_underlying hT, Result.andThen_ok, Sem.run_pure, hK.ck, hK.fnd k [] [] w rfl]
    cases c <;> simp [mget, run_zeroValue' hz]
  · have hkeys : es.toList.map (·.key) = (kv.map Prod.fst).map Flat.val := by
      have := congrArg (List.map Prod.fst) hkv
      simpa [List.map_map, Function.comp_def] using this
    have hget : (getObj r).run P w = .ok (.map es clock) w := by simp [getObj, Sem.run, hh]
    simp only [Instr.lookup, Sem.run_bind, run_underlying hT, Result.andThen_ok, Sem.run_pure, hget, hK.ck, hK.fnd k es.toList (kv.map Prod.fst) w hkeys]
    have hg : mget kv k = (((kv.map Prod.fst).findIdx? (· == k)).bind fun i => kv[i]?).map (·.2) := by rw [mget, find_idx]
    rw [hg]
    cases hf : (kv.map Prod.fst).findIdx? (· == k) with
    | none => cases c <;> simp [run_zeroValue' hz]
    | some i =>
      have hi : i < kv.length := by
        have := (List.findIdx?_eq_some_iff_getElem.1 hf).1
        simpa using this
      have hlen : es.toList.length = kv.length := by simpa using congrArg List.length hkv
      have hie : i < es.toList.length := by omega
      have hv : (es.toList[i]).val = Flat.val (kv[i]).2 := by
        have := congrArg (fun l => l[i]?) hkv
        simp only [List.getElem?_map, List.getElem?_eq_getElem hie, List.getElem?_eq_getElem hi, Option.map_some, Option.some.injEq, Prod.mk.injEq] at this
        exact this.2
      simp only [Option.bind_some, List.getElem?_eq_getElem hie, List.getElem?_eq_getElem hi, Option.map_some]
      have hv2 : (es[i]'(by simpa using hie)).val = Flat.val (kv[i]).2 := by simpa using hv
      cases c <;> simp [hv2]

theorem O.lookup2 {α β : Type} [Flat α] [Flat β] [DecidableEq α] {kT eT : TypeId} {x y : Operand} {v : Value} {kv : List (α × β)} {z : β} (k : α) (hT : P.underlying T = some (.map kT eT)) (hK : KeyT P kT α) (hz : ZeroT P eT (Flat.val z)) (hm : MapR w v kv)
    (hg : want ops g f = true) (hd : Nat.blt d n = true) (hx : ev f x = v) (hy : ev f y = Flat.val k)
    (h : WL P n ds ops rest K (upd f d (.tuple #[Flat.val ((mget kv k).getD z), .bool (mget kv k).isSome])) w) : WL P n ds ops (⟨some d, .lookup T x y true, T0, pos, aft, g⟩ :: rest) K f w :=
  WL.val hg hd (by simp only [execOp, hx, hy, Sem.run_bind, run_lookup k true hT hK hz hm, Result.andThen_ok, Sem.run_pure, if_true]) h
theorem O.lookup1 {α β : Type} [Flat α] [Flat β] [DecidableEq α] {kT eT : TypeId} {x y : Operand} {v : Value} {kv : List (α × β)} {z : β} (k : α) (hT : P.underlying T = some (.map kT eT)) (hK : KeyT P kT α) (hz : ZeroT P eT (Flat.val z)) (hm : MapR w v kv)
    (hg : want ops g f = true) (hd : Nat.blt d n = true) (hx : ev f x = v) (hy : ev f y = Flat.val k)
    (h : WL P n ds ops rest K (upd f d (Flat.val ((mget kv k).getD z))) w) : WL P n ds ops (⟨some d, .lookup T x y false, T0, pos, aft, g⟩ :: rest) K f w :=
  WL.val hg hd (by simp only [execOp, hx, hy, Sem.run_bind, run_lookup k false hT hK hz hm, Result.andThen_ok, Sem.run_pure, Bool.false_eq_true, if_false]) h

theorem O.makeMap {α β : Type} [Flat α] [Flat β] (H : InvD Dq w0 w L) (hg : want ops g f = true) (hd : Nat.blt d n = true)
    (h : ∀ r w', InvD Dq w0 w' (L ++ [mapI (K := α) (V := β) r []]) → Below w.heap.size w w' → WL P n ds ops rest K (upd f d (.map (some r))) w') :
    WL P n ds ops (⟨some d, .makeMap T none, T0, pos, aft, g⟩ :: rest) K f w := by
  refine WL.val hg hd (w' := w.alloc (.map #[] 0)) (v := .map (some w.heap.size)) ?_ (h _ _ (H.addMap (below_alloc _ _) (Nat.le_refl _) ⟨#[], 0, alloc_at _ _, by simp, by simp, by simp, by simp⟩) (below_alloc _ _))
  simp [execOp, Instr.makeMap, newObj, Sem.run]

theorem heap_set {w : World} {r : Nat} {o : Obj} (hr : r < w.heap.size) : (w.heap.setIfInBounds r o)[r]? = some o := by simp [hr]
theorem map_modify {es : Array MapEntry} {i : Nat} {f : MapEntry → MapEntry} : (es.modify i f).toList = es.toList.modify i f := by simp

theorem run_mapUpdate {α β : Type} [Flat α] [Flat β] [DecidableEq α] {kT eT : TypeId} {r : Nat} {kv : List (α × β)} (k : α) (x : β) (hT : P.underlying T = some (.map kT eT)) (hK : KeyT P kT α) (hm : MapOk w r kv) :
    ∃ w', (Instr.mapUpdate T (.map (some r)) (Flat.val k) (Flat.val x)).run P w = .ok () w' ∧ Chg (fun b => b = r) w w' ∧ MapOk w' r (mput kv k x) := by
  obtain ⟨es, clock, hh, hkv, hnd, hborn, hclock⟩ := hm
  have hkeys : es.toList.map (·.key) = (kv.map Prod.fst).map Flat.val := by
    have := congrArg (List.map Prod.fst) hkv
    simpa [List.map_map, Function.comp_def] using this
  have hlen : es.toList.length = kv.length := by simpa using congrArg List.length hkv
  have hget : (getObj r).run P w = .ok (.map es clock) w := by simp [getObj, Sem.run, hh]
  have hset : ∀ o, (setObj r o).run P w = .ok () { w with heap := w.heap.setIfInBounds r o } := by intro o; simp [setObj, Sem.run, hh]
  have hr := heap_lt hh
  have hchg : ∀ o, Chg (fun b => b = r) w { w with heap := w.heap.setIfInBounds r o } := fun o =>
    ⟨rfl, rfl, rfl, by simp, fun b _ hb => by simp only []; rw [Array.getElem?_setIfInBounds_ne (fun e => hb e.symm)]⟩
  cases hf : (kv.map Prod.fst).findIdx? (· == k) with
  | none =>
    refine ⟨_, ?_, hchg (.map (es.push { key := Flat.val k, val := Flat.val x, born := clock }) (clock + 1)), ?_⟩
    · simp only [Instr.mapUpdate, Sem.run_bind, run_underlying hT, Result.andThen_ok, hget, hK.ck, hK.fnd k es.toList (kv.map Prod.fst) w hkeys, hf, Option.bind_none, hset]
    · have hany : kv.any (fun p => p.1 == k) = false := by
        rw [List.findIdx?_eq_none_iff] at hf
        rw [List.any_eq_false]
        intro p hp
        have := hf p.1 (List.mem_map.2 ⟨p, hp, rfl⟩)
        simpa using this
      have hnk : k ∉ kv.map Prod.fst := by
        intro hk
        obtain ⟨p, hp, rfl⟩ := List.mem_map.1 hk
        rw [List.any_eq_false] at hany
        exact hany p hp (by simp)
      refine ⟨_, _, heap_set hr, ?_, ?_, ?_, ?_⟩
      · simp [mput, hany, hkv]
      · simp only [mput, hany, Bool.false_eq_true, if_false, List.map_append, List.map_cons, List.map_nil]
        rw [List.nodup_append]
        refine ⟨hnd, by simp, ?_⟩
        intro a ha b hb
        simp at hb
        subst hb
        intro e; subst e; exact hnk ha
      · simp only [Array.toList_push, List.map_append, List.map_cons, List.map_nil]
        rw [List.pairwise_append]
        refine ⟨hborn, by simp, ?_⟩
        intro a ha b hb
        obtain ⟨e, he, rfl⟩ := List.mem_map.1 ha
        simp at hb; subst hb
        exact hclock e he
      · intro e he
        simp only [Array.toList_push, List.mem_append, List.mem_singleton] at he
        rcases he with he | rfl
        · have := hclock e he; omega
        · simp
  | some i =>
    obtain ⟨hi0, hki, _⟩ := List.findIdx?_eq_some_iff_getElem.1 hf
    have hi : i < kv.length := by simpa using hi0
    have hie : i < es.toList.length := by omega
    have hie' : i < es.size := by simpa using hie
    have hkk : (kv[i]).1 = k := by simpa using hki
    have hkey : (es.toList[i]).key = Flat.val k := by
      have := congrArg (fun l => l[i]?) hkv
      simp only [List.getElem?_map, List.getElem?_eq_getElem hie, List.getElem?_eq_getElem hi, Option.map_some, Option.some.injEq, Prod.mk.injEq] at this
      rw [this.1, hkk]
    refine ⟨_, ?_, hchg (.map (es.modify i fun e => { e with key := Flat.val k, val := Flat.val x }) clock), ?_⟩
    · have hk2 : (((es[i]?).map (·.key)).getD (Flat.val k)) = Flat.val k := by
        rw [Array.getElem?_eq_getElem hie']
        simpa using hkey
      simp only [Instr.mapUpdate, Sem.run_bind, run_underlying hT, Result.andThen_ok, hget, hK.ck, hK.fnd k es.toList (kv.map Prod.fst) w hkeys, hf, Option.bind_some, List.getElem?_eq_getElem hie, Option.map_some, hk2, hK.stay, hset]
    · have hany : kv.any (fun p => p.1 == k) = true := by
        rw [List.any_eq_true]
        exact ⟨kv[i], List.getElem_mem hi, by simp [hkk]⟩
      have huniq : ∀ j (hj : j < kv.length), (kv[j]).1 = k → j = i := by
        intro j hj hjk
        have h1 : (kv.map Prod.fst)[j]'(by simpa using hj) = (kv.map Prod.fst)[i]'(by simpa using hi) := by simp [hjk, hkk]
        have hp := List.pairwise_iff_getElem.1 hnd
        rcases Nat.lt_trichotomy j i with h | h | h
        · exact absurd h1 (hp j i _ _ h)
        · exact h
        · exact absurd h1.symm (hp i j _ _ h)
      have hmp : mput kv k x = kv.modify i fun _ => (k, x) := by
        simp only [mput, hany, if_true]
        apply List.ext_getElem
        · simp
        · intro j h1 h2
          simp only [List.getElem_map, List.getElem_modify]
          have hj : j < kv.length := by simpa using h1
          by_cases e : i = j
          · subst e; simp [hkk]
          · rw [if_neg e]
            have : ¬ ((kv[j]).1 == k) = true := by
              intro hb
              exact e (huniq j hj (by simpa using hb)).symm
            rw [if_neg this]
      rw [hmp]
      refine ⟨_, _, heap_set hr, ?_, ?_, ?_, ?_⟩
      · rw [map_modify]
        apply List.ext_getElem
        · simp [hlen]
        · intro j h1 h2
          have hj : j < kv.length := by simpa using h2
          have hje : j < es.toList.length := by omega
          simp only [List.getElem_map, List.getElem_modify]
          by_cases e : i = j
          · subst e; simp
          · simp only [if_neg e]
            have := congrArg (fun l => l[j]?) hkv
            simpa [hj, List.getElem?_eq_getElem hje] using this
      · have : (kv.modify i fun _ => (k, x)).map Prod.fst = kv.map Prod.fst := by
          apply List.ext_getElem
          · simp
          · intro j h1 h2
            simp only [List.getElem_map, List.getElem_modify]
            split
            · rename_i e; subst e; exact hkk.symm
            · rfl
        rw [this]; exact hnd
      · have : ((es.modify i fun e => { e with key := Flat.val k, val := Flat.val x }).toList.map (·.born)) = es.toList.map (·.born) := by
          rw [map_modify]
          apply List.ext_getElem
          · simp
          · intro j h1 h2
            simp only [List.getElem_map, List.getElem_modify]
            split <;> rfl
        rw [this]; exact hborn
      · intro e he
        rw [map_modify] at he
        obtain ⟨j, hj, rfl⟩ := List.mem_iff_getElem.1 he
        rw [List.getElem_modify]
        have hj' : j < es.toList.length := by simpa using hj
        split
        · exact hclock (es.toList[j]) (List.getElem_mem hj')
        · exact hclock _ (List.getElem_mem hj')

theorem O.mapUpdate {α β : Type} [Flat α] [Flat β] [DecidableEq α] {kT eT : TypeId} {m x y : Operand} {r : Nat} {kv : List (α × β)} (i : Nat) (k : α) (v : β) (hT : P.underlying T = some (.map kT eT)) (hK : KeyT P kT α) (H : InvD Dq w0 w L)
    (hi : L[i]? = some (mapI r kv)) (hg : want ops g f = true) (hm : ev f m = .map (some r)) (hx : ev f x = Flat.val k) (hy : ev f y = Flat.val v)
    (h : ∀ w', InvD Dq w0 w' (L.set i (mapI r (mput kv k v))) → WL P n ds ops rest K f w') : WL P n ds ops (⟨none, .mapUpdate T m x y, T0, pos, aft, g⟩ :: rest) K f w := by
  obtain ⟨w', h1, h2, h3⟩ := run_mapUpdate k v hT hK (H.mapOk i hi)
  refine WL.eff hg rfl (w' := w') ?_ (h w' (H.upd i _ _ hi h2 h3 ?_))
  · simp only [execOp, hm, hx, hy, Sem.run_bind, Sem.run_pure, Result.andThen_ok, h1]
  · rintro b rfl
    obtain ⟨es, c, hh, _⟩ := h3
    exact ⟨heap_lt hh, .inl rfl⟩
end
end Go.Fw
