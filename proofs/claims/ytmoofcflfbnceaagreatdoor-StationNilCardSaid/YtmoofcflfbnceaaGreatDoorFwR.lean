/-
  THE FRAMEWORK, PART R: regions that draw their order, walked in the order of the text: what the free operations yield does not hang on the order. No program in it.
-/
import Derived.Test.YtmoofcflfbnceaaGreatDoorFwQ
namespace Go.Fw
open Go.RowKit

def plainOp (o : Oper) : Bool := match o.op with | .defer _ => false | .select .. => false | _ => true
def lookB (l : List Oper) (i t : Nat) : Bool := ((l[i]?).map fun o => (o.looksAt l.toArray).contains t).getD false
def dstO (l : List Oper) (m : Nat) : Option Nat := (l[m]?).bind (·.dst)
def drawOkG (n : Nat) (l : List Oper) (m : Nat) (sp : Bool) (need : List Nat) : Bool :=
  (List.range l.length).all (fun i => ((l[i]?).map fun o => (bE o).all fun e => Nat.blt e.on i).getD false) &&
  (List.range l.length).all (fun i => Nat.blt i (m + sp.toNat) || (List.range i).all fun j => (maskF l l.length i).testBit j) &&
  Nat.ble (m + sp.toNat) l.length && (l.take m).all (fun o => o.dst.isSome) && nodupB (dstsOf' l m) && (dstsOf' l m).all (fun d => Nat.blt d n) &&
  (List.range (m + sp.toNat)).all (fun k => (List.range m).all fun j => !(lookB l k (dstOf l j)) || Nat.beq j k || (bif Nat.blt j k then (maskF l l.length k).testBit j else (maskF l l.length j).testBit k)) &&
  (!sp || (List.range m).all fun k => (maskF l l.length m).testBit k || need.contains k) &&
  (l.take (m + sp.toNat)).all plainOp &&
  (!sp || match dstO l m with | some d => Nat.blt d n && !(dstsOf' l m).contains d && (List.range m).all (fun k => !(lookB l k d)) | none => true)

section
variable {P : Program} {n : Nat} {ds : Md} {ops : Array Oper}
theorem tmps_get {a b : Act} {f g : Fr} (ha : Sim n ds a f) (hb : Sim n ds b g) {t : Nat} (h : g t = f t) : b.tmps[t]? = a.tmps[t]? := by
  have h1 := ha.get t
  have h2 := hb.get t
  have hsa := ha.size
  have hsb := hb.size
  simp only [Array.getD_eq_getD_getElem?] at h1 h2
  by_cases ht : t < n
  · have e1 : a.tmps[t]? = some a.tmps[t] := Array.getElem?_eq_getElem (by omega)
    have e2 : b.tmps[t]? = some b.tmps[t] := Array.getElem?_eq_getElem (by omega)
    rw [e1] at h1 ⊢
    rw [e2] at h2 ⊢
    simp only [Option.getD_some] at h1 h2
    rw [h2, h, ← h1]
  · rw [Array.getElem?_eq_none (by omega), Array.getElem?_eq_none (by omega)]
theorem Sim.putLike {a b : Act} {f g : Fr} (ha : Sim n ds a f) (hb : Sim n ds b g) {dst : Option Nat} {u v : Value} (h : Sim n ds (a.put dst u) (updo f dst v)) : Sim n ds (b.put dst u) (updo g dst v) := by
  cases dst with
  | none => exact hb
  | some d =>
    have hd := h.get d
    refine ⟨by simp [Act.put, hb.size], ?_, fun t => ?_⟩
    · have e1 := hb.dfs
      exact e1
    · show (b.tmps.setIfInBounds d u).getD t undef = cond (Nat.beq t d) v (g t)
      by_cases e : t = d
      · subst e
        have hd : (a.tmps.setIfInBounds t u).getD t undef = cond (Nat.beq t t) v (f t) := hd
        rw [Nat.beq_refl] at hd ⊢
        rw [show cond true v (g t) = v from rfl]
        rw [show cond true v (f t) = v from rfl] at hd
        rw [← hd]
        have hsa := ha.size
        have hsb := hb.size
        simp only [Array.getD_eq_getD_getElem?, Array.getElem?_setIfInBounds]
        by_cases ht : t < n
        · simp [hsa, hsb, ht]
        · simp [hsa, hsb, ht]
      · have e' : Nat.beq t d = false := by
          cases hb' : Nat.beq t d
          · rfl
          · exact absurd (Nat.eq_of_beq_eq_true hb') e
        rw [e']
        have := hb.get t
        simp only [Array.getD_eq_getD_getElem?] at this ⊢
        rw [Array.getElem?_setIfInBounds_ne (by omega)]
        exact this
theorem WL.congrE {o : Oper} {f g : Fr} {R : Value → World → Prop} {w : World} (hp : plainOp o = true) (hl : ∀ t ∈ o.looksAt ops, g t = f t) (hex : ∃ b0 : Act, Sim n ds b0 f)
    (h : WL P n ds ops [o] (fun f' w' => ∃ v, f' = updo f o.dst v ∧ R v w') f w) : WL P n ds ops [o] (fun g' w' => ∃ v, g' = updo g o.dst v ∧ R v w') g w := by
  obtain ⟨b0, hb0⟩ := hex
  intro b hb Q hQ hP
  have hnd : ∀ c, o.op ≠ .defer c := by
    intro c e; unfold plainOp at hp; rw [e] at hp; cases hp
  have hns : ∀ cs b, o.op ≠ .select cs b := by
    intro c b e; unfold plainOp at hp; rw [e] at hp; cases hp
  have h1 := h b0 hb0 (fun e a' w' => match e with | .normal => ∃ f', Sim n ds a' f' ∧ ∃ v, f' = updo f o.dst v ∧ R v w' | e => Q e b w') (fun a' w' h => h) (fun ch a' w' hp _ => hP ch b w' hp fun hm => by have := hb.dfs; rw [hm] at this; exact this)
  have heval : ∀ x ∈ o.op.operands, b.eval x = b0.eval x := by
    intro x hx
    rw [hb.ev, hb0.ev]
    cases x with
    | tmp t => exact hl t (List.mem_append_left _ (List.mem_filterMap.2 ⟨.tmp t, by simpa using hx, rfl⟩))
    | _ => rfl
  have hexec : execOp b.eval o = execOp b0.eval o := execOp_congr o hns heval
  have hw : Region.wanted o (yielded ops b.tmps) = Region.wanted o (yielded ops b0.tmps) := by
    unfold Region.wanted
    cases hg : o.guard with
    | none => rfl
    | some gw =>
      obtain ⟨gi, want⟩ := gw
      have hy : yielded ops b.tmps gi = yielded ops b0.tmps gi := by
        unfold yielded
        cases ht : (ops[gi]?).bind (·.dst) with
        | none => rfl
        | some t =>
          have := tmps_get hb0 hb (t := t) (hl t (by simp [Oper.looksAt, hg, ht]))
          simp only [Option.bind_some, this]
      simp only [hy]
  have hnext : ∀ u w', (∃ f', Sim n ds (b0.put o.dst u) f' ∧ ∃ v, f' = updo f o.dst v ∧ R v w') → Q .normal (b.put o.dst u) w' := by
    rintro u w' ⟨f', hs, v, rfl, hr⟩
    exact hQ _ _ ⟨_, Sim.putLike hb0 hb hs, v, rfl, hr⟩
  unfold wpListIn at h1 ⊢
  rw [hw]
  split
  · rename_i hwt
    rw [if_pos hwt] at h1
    unfold Oper.wpIn at h1 ⊢
    refine ⟨fun _ _ => trivial, ?_⟩
    have h2 := h1.2
    rw [Oper.semAt_eq _ _ _ hnd, hexec]
    rw [Oper.semAt_eq _ _ _ hnd] at h2
    generalize (execOp b0.eval o).run P w = r at h2 ⊢
    cases r with
    | ok x w' =>
      cases x <;> simp only [Oper.uponIn] at h2 ⊢
      case value u => exact hnext u w' h2
      case skip => exact hnext _ w' h2
      case defer d =>
        obtain ⟨f', hs, v, rfl, _⟩ := h2
        have e1 := hs.dfs
        have e2 := hb0.dfs
        have e3 : (updo f o.dst v).marks = f.marks := by cases o.dst <;> rfl
        rw [e3] at e1
        have e4 : (Act.put { b0 with defers := d :: b0.defers } o.dst undef).defers = d :: b0.defers := by cases o.dst <;> rfl
        rw [e4, ← e2] at e1
        exact absurd (congrArg List.length e1) (by simp)
      case enter k args =>
        refine ⟨h2.1, CallsIn.mono h2.2 fun e w'' he => ?_⟩
        cases e with
        | returned u => exact hnext u w'' he
        | panicked c => exact he
        | outgrown => obtain ⟨_, w3, h3⟩ := he; exact ⟨_, w3, h3⟩
      case row row args => exact ⟨h2.1, RowsIn.mono h2.2 fun u w'' he => hnext u w'' he⟩
      case round l k tmps assign body =>
        refine ⟨h2.1, RoundIn.mono h2.2 fun e w'' he => ?_⟩
        cases e with
        | returned u => exact hnext u w'' he
        | panicked c => exact he
        | outgrown => obtain ⟨_, w3, h3⟩ := he; exact ⟨_, w3, h3⟩
    | halt x w' =>
      cases x <;> simp only [Oper.uponIn] at h2 ⊢
      case panic u => exact h2
  · rename_i hwt
    rw [if_neg hwt] at h1
    exact ⟨fun _ _ => trivial, hnext _ w h1.2⟩

theorem WL.congr1 {o : Oper} {f g : Fr} {v : Value} {R : World → Prop} {w : World} (hp : plainOp o = true) (hl : ∀ t ∈ o.looksAt ops, g t = f t) (hex : ∃ b0 : Act, Sim n ds b0 f)
    (h : WL P n ds ops [o] (fun f' w' => f' = updo f o.dst v ∧ R w') f w) : WL P n ds ops [o] (fun g' w' => g' = updo g o.dst v ∧ R w') g w :=
  (WL.congrE (R := fun u w => u = v ∧ R w) hp hl hex (h.mono fun _ _ h => ⟨v, h.1, rfl, h.2⟩)).mono fun _ _ hh => by obtain ⟨u, rfl, rfl, hr⟩ := hh; exact ⟨rfl, hr⟩

def PL (P : Program) (n : Nat) (ds : Md) (ops : Array Oper) (R : Option Value → World → Prop) (need : Nat → Bool) : Nat → List Oper → (Fr → Prop) → Fr → Prop
  | _, [], K, f => K f
  | k, o :: rest, K, f => ∃ v, (∀ b w, (b.isSome = true → need k = true) → R b w → WL P n ds ops [o] (fun f' w' => f' = updo f o.dst v ∧ R b w') f w) ∧ PL P n ds ops R need (k + 1) rest K (updo f o.dst v)
variable {R : Option Value → World → Prop} {need : Nat → Bool} {K : Fr → Prop} {f : Fr}
theorem PL.nil {k : Nat} (h : K f) : PL P n ds ops R need k [] K f := h
theorem PL.of {k : Nat} {o : Oper} {rest : List Oper} {v : Value} (h : ∀ b w, (b.isSome = true → need k = true) → R b w → WL P n ds ops [o] (fun f' w' => f' = updo f o.dst v ∧ R b w') f w)
    (h2 : PL P n ds ops R need (k + 1) rest K (updo f o.dst v)) : PL P n ds ops R need k (o :: rest) K f := ⟨v, h, h2⟩
theorem PL.reset {k : Nat} {l : List Oper} {i : Nat} {v : Value} (hv : f i = v) (h : PL P n ds ops R need k l K (upd f i v)) : PL P n ds ops R need k l K f := by
  rw [upd_self hv] at h; exact h
theorem PL.cut : ∀ {k : Nat} {l : List Oper} {f : Fr} (j : Nat) (B : Fr → Prop), PL P n ds ops R need k (l.take j) B f → (∀ f, B f → PL P n ds ops R need (k + j) (l.drop j) K f) → PL P n ds ops R need k l K f
  | _, _, _, 0, _, h, h2 => h2 _ h
  | _, [], _, j + 1, _, h, h2 => by
    have := h2 _ h
    rw [List.drop_nil] at this
    exact this
  | k, o :: l, f, j + 1, B, h, h2 => by
    obtain ⟨v, h3, h4⟩ := h
    exact ⟨v, h3, PL.cut j B h4 fun g hg => by have := h2 g hg; rw [show k + 1 + j = k + (j + 1) by omega]; exact this⟩
def dstsL (l : List Oper) : List Nat := l.filterMap (·.dst)
theorem PL.facts : ∀ {l : List Oper} {k : Nat} {f : Fr}, PL P n ds ops R need k l K f → (dstsL l).Nodup → (∀ d ∈ dstsL l, d < n) → (∃ a : Act, Sim n ds a f) →
    ∃ fm : Fr, K fm ∧ fm.marks = f.marks ∧ (∀ t, t ∉ dstsL l → fm t = f t) ∧ (∃ a : Act, Sim n ds a fm) ∧ ∀ i o, l[i]? = some o → ∃ (fi : Fr) (v : Value), fi.marks = f.marks ∧ (∀ t, t ∉ dstsL (l.take i) → fi t = f t) ∧ (∀ t, t ∈ dstsL (l.take i) → fi t = fm t) ∧
      (∀ d, o.dst = some d → fm d = v) ∧ (∃ a : Act, Sim n ds a fi) ∧ ∀ b w, (b.isSome = true → need (k + i) = true) → R b w → WL P n ds ops [o] (fun f' w' => f' = updo fi o.dst v ∧ R b w') fi w
  | [], _, f, h, _, _, hs => ⟨f, h, rfl, fun _ _ => rfl, hs, fun i o hi => by simp at hi⟩
  | o :: l, k, f, ⟨v, h1, h2⟩, hnd, hlt, hs => by
    have hsub : ∀ d, d ∈ dstsL l → d ∈ dstsL (o :: l) := by
      intro d hd; unfold dstsL at hd ⊢; rw [List.filterMap_cons]; split
      · exact hd
      · exact List.mem_cons_of_mem _ hd
    have hnd' : (dstsL l).Nodup := by
      unfold dstsL at hnd ⊢; rw [List.filterMap_cons] at hnd; split at hnd
      · exact hnd
      · exact (List.nodup_cons.1 hnd).2
    have hself : ∀ d, o.dst = some d → d ∈ dstsL (o :: l) ∧ d ∉ dstsL l := by
      intro d hd
      unfold dstsL at hnd ⊢
      rw [List.filterMap_cons, hd] at hnd ⊢
      exact ⟨List.mem_cons_self .., (List.nodup_cons.1 hnd).1⟩
    have hs' : ∃ a : Act, Sim n ds a (updo f o.dst v) := by
      obtain ⟨a, ha⟩ := hs
      refine ⟨_, ha.put (d := o.dst) ?_ v⟩
      cases hd : o.dst with
      | none => rfl
      | some d => simpa [okDst, Nat.blt_eq] using hlt d (hself d hd).1
    obtain ⟨fm, k1, k2, k3, k4, k5⟩ := PL.facts h2 hnd' (fun d hd => hlt d (hsub d hd)) hs'
    have hmk : (updo f o.dst v).marks = f.marks := by cases o.dst <;> rfl
    have hupd : ∀ t, (∀ d, o.dst = some d → t ≠ d) → updo f o.dst v t = f t := by
      intro t ht
      cases hd : o.dst with
      | none => rfl
      | some d =>
        have : Nat.beq t d = false := by
          cases hb : Nat.beq t d
          · rfl
          · exact absurd (Nat.eq_of_beq_eq_true hb) (ht d hd)
        show cond (Nat.beq t d) v (f t) = f t
        rw [this]; rfl
    have hupd2 : ∀ d, o.dst = some d → updo f o.dst v d = v := by
      intro d hd
      rw [hd]
      show cond (Nat.beq d d) v (f d) = v
      rw [Nat.beq_refl]; rfl
    have hout : ∀ t, t ∉ dstsL (o :: l) → t ∉ dstsL l ∧ ∀ d, o.dst = some d → t ≠ d := fun t ht => ⟨fun h => ht (hsub t h), fun d hd e => ht (by subst e; exact (hself _ hd).1)⟩
    refine ⟨fm, k1, k2.trans hmk, fun t ht => (k3 t (hout t ht).1).trans (hupd t (hout t ht).2), k4, fun i p hi => ?_⟩
    cases i with
    | zero =>
      simp only [List.getElem?_cons_zero, Option.some.injEq] at hi
      subst hi
      refine ⟨f, v, rfl, fun _ _ => rfl, fun t ht => by simp [dstsL] at ht, fun d hd => (k3 d (hself d hd).2).trans (hupd2 d hd), hs, h1⟩
    | succ i =>
      obtain ⟨fi, u, q1, q2, q3, q4, q5, q6⟩ := k5 i p (by simpa using hi)
      have htk : ∀ t, t ∈ dstsL ((o :: l).take (i + 1)) ↔ (o.dst = some t ∨ t ∈ dstsL (l.take i)) := by
        intro t
        rw [List.take_succ_cons]
        unfold dstsL
        rw [List.filterMap_cons]
        cases hd : o.dst with
        | none => simp
        | some d => simp [eq_comm]
      have hin : ∀ t, t ∈ dstsL (l.take i) → t ∈ dstsL l := by
        intro t ht
        unfold dstsL at ht ⊢
        obtain ⟨x, hx, e⟩ := List.mem_filterMap.1 ht
        exact List.mem_filterMap.2 ⟨x, List.mem_of_mem_take hx, e⟩
      refine ⟨fi, u, q1.trans hmk, fun t ht => ?_, fun t ht => ?_, q4, q5, fun b w hb hw => q6 b w (fun h => by have := hb h; rw [show k + 1 + i = k + (i + 1) by omega]; exact this) hw⟩
      · rw [htk] at ht
        rw [q2 t (fun h => ht (.inr h)), hupd t (fun d hd e => ht (.inl (by subst e; exact hd)))]
      · by_cases h : t ∈ dstsL (l.take i)
        · exact q3 t h
        · have hd : o.dst = some t := ((htk t).1 ht).resolve_right h
          rw [q2 t h, hupd2 t hd, k3 t (hself t hd).2, hupd2 t hd]
end

section
variable {P : Program} {n : Nat} {ds : Md} {Kn : Fr → World → Prop} {Kx : Nat → Fr → World → Prop} {Kr : Fr → World → Prop} {f0 : Fr} {w1 : World}
theorem W.drawG {rid : Nat} {l : List Oper} (m : Nat) (sp : Bool) (need : List Nat) (R : Option Value → World → Prop) (B : Fr → Prop) (hfol : P.follows .mixedOrders = true) (hchk : drawOkG n l m sp need = true)
    (hR : ∀ d, w1.drawn ≤ d → R none { w1 with drawn := d }) (h : PL P n ds l.toArray R (fun k => need.contains k) 0 (l.take m) B f0)
    (hsp : sp = true → ∀ f, B f → ∀ w, R none w → WL P n ds l.toArray ((l.drop m).take 1) (fun f' w' => ∃ v, f' = updo f (dstO l m) v ∧ R (some v) w') f w)
    (hend : ∀ f w b, B f → f.marks = f0.marks → b.isSome = sp → R b w → WL P n ds l.toArray (l.drop (m + sp.toNat)) Kn (match b with | some v => updo f (dstO l m) v | none => f) w) : W P n ds (.region rid l.toArray true) Kn Kx Kr f0 w1 := by
  simp only [drawOkG, Bool.and_eq_true, List.all_eq_true, List.mem_range] at hchk
  obtain ⟨⟨⟨⟨⟨⟨⟨⟨⟨hlt0, hmask⟩, hm'⟩, hsome⟩, hnd⟩, hdn⟩, hlook⟩, hneed⟩, hplain⟩, hspd⟩ := hchk
  have hm' := Nat.le_of_ble_eq_true hm'
  have hm : m ≤ l.length := by omega
  have hnd := nodupB_nodup hnd
  have hlt : ∀ (i : Nat) (o : Oper), l[i]? = some o → ∀ e ∈ bE o, e.on < i := by
    intro i o ho e he
    have h := hlt0 i (List.getElem?_eq_some_iff.1 ho).1
    rw [ho] at h
    simp only [Option.map_some, Option.getD_some, List.all_eq_true] at h
    simpa [Nat.blt_eq] using h e he
  obtain ⟨M, hM⟩ : ∃ M, m + sp.toNat = M := ⟨_, rfl⟩
  rw [hM] at hm' hmask hplain hlook hend
  have hmM : m ≤ M := by omega
  intro a ha
  obtain ⟨fm, hB, hfmk, hfout, hfsim, hfat⟩ := PL.facts h hnd (fun d hd => by simpa [Nat.blt_eq] using hdn d hd) ⟨a, ha⟩
  have hdm : ∀ k, k < m → ∃ (o : Oper) (d : Nat), l[k]? = some o ∧ o.dst = some d ∧ dstOf l k = d ∧ d ∈ dstsL (l.take m) := by
    intro k hk
    have ho : l[k]? = some l[k] := List.getElem?_eq_getElem (by omega)
    have hmem : l[k] ∈ l.take m := List.mem_of_getElem? (i := k) (by rw [List.getElem?_take, if_pos hk, ho])
    have hs := hsome _ hmem
    cases hd : (l[k]).dst with
    | none => rw [hd] at hs; cases hs
    | some d => exact ⟨_, d, ho, hd, by simp [dstOf, ho, hd], List.mem_filterMap.2 ⟨_, hmem, hd⟩⟩
  have hdmem : ∀ i, i ≤ m → ∀ t, t ∈ dstsL (l.take i) ↔ ∃ k, k < i ∧ dstOf l k = t := by
    intro i hi t
    constructor
    · intro ht
      obtain ⟨o, ho, hd⟩ := List.mem_filterMap.1 ht
      obtain ⟨k, hk⟩ := List.getElem?_of_mem ho
      have hki : k < i := by
        have := (List.getElem?_eq_some_iff.1 hk).1
        rw [List.length_take] at this; omega
      rw [List.getElem?_take, if_pos hki] at hk
      exact ⟨k, hki, by simp [dstOf, hk, hd]⟩
    · rintro ⟨k, hk, rfl⟩
      obtain ⟨o, d, h1, h2, h3, _⟩ := hdm k (by omega)
      rw [h3]
      exact List.mem_filterMap.2 ⟨o, List.mem_of_getElem? (i := k) (by rw [List.getElem?_take, if_pos hk, h1]), h2⟩
  have hdm2 : ∀ d, sp = true → dstO l m = some d → d ∉ dstsL (l.take m) ∧ ∀ k, k < m → lookB l k d = false := by
    intro d hs hd
    rw [hs, hd] at hspd
    simp only [Bool.not_true, Bool.false_or, Bool.and_eq_true, Bool.not_eq_true', List.all_eq_true, List.mem_range] at hspd
    refine ⟨fun hm => ?_, hspd.2⟩
    have h1 := hspd.1.2
    have h2 : (dstsOf' l m).contains d = true := List.contains_iff_mem.2 hm
    rw [h2] at h1
    cases h1
  have hfull : ∀ (b : Option Value) (g : Fr) (listed : Array Bool), g.marks = f0.marks → (∀ k, k < m → listed.getD k false = true → g (dstOf l k) = fm (dstOf l k)) → (∀ t, (∀ k, k < m → listed.getD k false = true → dstOf l k ≠ t) → (b.isSome = true → dstO l m ≠ some t) → g t = f0 t) →
      (∀ v d, b = some v → dstO l m = some d → g d = v) → (∀ k, k < m → listed.getD k false = true) → g = match b with | some v => updo fm (dstO l m) v | none => fm := by
    intro b g listed h1 h2 h3 h5 h4
    have e0 : ∀ t, (b.isSome = true → dstO l m ≠ some t) → g t = fm t := by
      intro t hb
      by_cases ht : t ∈ dstsL (l.take m)
      · obtain ⟨k, hk, rfl⟩ := (hdmem m (Nat.le_refl _) t).1 ht
        exact h2 k hk (h4 k hk)
      · rw [h3 t (fun k hk _ e => ht ((hdmem m (Nat.le_refl _) t).2 ⟨k, hk, e⟩)) hb, hfout t ht]
    have hext : ∀ g' : Fr, (∀ t, g t = g' t) → g.marks = g'.marks → g = g' := by
      intro g' e1 e2
      obtain ⟨gt, gm⟩ := g
      obtain ⟨ft, fmm⟩ := g'
      have e1 : gt = ft := funext e1
      have e2 : gm = fmm := e2
      rw [e1, e2]
    cases b with
    | none => exact hext _ (fun t => e0 t (fun h => by cases h)) (h1.trans hfmk.symm)
    | some v =>
      show g = updo fm (dstO l m) v
      cases hd : dstO l m with
      | none => exact hext _ (fun t => e0 t (fun _ h => by rw [hd] at h; cases h)) (h1.trans hfmk.symm)
      | some d =>
        refine hext _ (fun t => ?_) (h1.trans hfmk.symm)
        show g t = cond (Nat.beq t d) v (fm t)
        by_cases e : t = d
        · subst e
          rw [Nat.beq_refl]
          exact h5 v t rfl hd
        · have : Nat.beq t d = false := by
            cases hb : Nat.beq t d with
            | false => rfl
            | true => exact absurd (Nat.eq_of_beq_eq_true hb) e
          rw [this]
          exact e0 t (fun _ h => e (by rw [hd] at h; exact (Option.some.inj h).symm))
  refine wpIn_region_any hfol ?_
  generalize hQ : post n ds Kn Kx Kr = Q
  have hQn : ∀ a' w', (∃ f', Sim n ds a' f' ∧ Kn f' w') → Q .normal a' w' := by subst hQ; exact fun _ _ h => h
  have hQp : ∀ ch (a' : Act) w', ds.pan ch w' → (ds.marked = false → a'.defers = ds.tl) → Q (.panic ch) a' w' := by subst hQ; exact fun _ _ _ h1 h2 => ⟨h1, h2⟩
  have key : ∀ (fuel : Nat) (listed : Array Bool) (a : Act) (w : World), listed.size = l.length → listed.toList.count false = fuel →
      (∀ (i : Nat) (o : Oper), l[i]? = some o → listed.getD i false = true → ∀ e ∈ bE o, listed.getD e.on false = true) →
      ((∃ b f, Sim n ds a f ∧ b.isSome = (sp && listed.getD m false) ∧ R b w ∧ f.marks = f0.marks ∧ (∀ k, k < m → listed.getD k false = true → f (dstOf l k) = fm (dstOf l k)) ∧ (∀ t, (∀ k, k < m → listed.getD k false = true → dstOf l k ≠ t) → (b.isSome = true → dstO l m ≠ some t) → f t = f0 t) ∧ (∀ v d, b = some v → dstO l m = some d → f d = v) ∧ ∀ i, M ≤ i → listed.getD i false = false) ∨
        ∃ p, M ≤ p ∧ p ≤ l.length ∧ (∀ i, listed.getD i false = true ↔ i < p) ∧ wpListIn (FR ds) 0 P l.toArray Q (l.drop p) a w) → wpAnyIn (FR ds) 0 P .any l.toArray Q fuel listed a w := by
    intro fuel
    induction fuel with
    | zero =>
      intro listed a w hsz hcnt hcl hph
      have hall : ∀ i, i < l.length → listed.getD i false = true := by
        intro i hi
        have h0 := List.count_eq_zero.1 hcnt
        have hi' : i < listed.size := by omega
        cases hb : listed[i] with
        | true => simp [Array.getD_eq_getD_getElem?, hi', hb]
        | false => exact absurd (by rw [← hb]; exact Array.mem_toList_iff.2 (Array.getElem_mem hi')) h0
      refine ⟨?_, ?_⟩
      · unfold Region.ready
        rw [List.filter_eq_nil_iff]
        intro i hi
        have hi' : i < l.length := by simpa using hi
        have := hall i hi'
        have hi2 : i < listed.size := by omega
        simp only [Array.getD_eq_getD_getElem?, hi2, Array.getElem?_eq_getElem, Option.getD_some] at this ⊢
        simp [this]
      · rcases hph with ⟨b, f, hs, hbs, hb, hfk, hφ, hf, hfd, hno⟩ | ⟨p, hp1, hp2, hpS, hwp⟩
        · have hMl : M = l.length := by
            by_cases e : M = l.length
            · exact e
            · have h1 := hall M (by omega)
              have h2 := hno M (Nat.le_refl _)
              rw [h1] at h2; cases h2
          have hbs' : b.isSome = sp := by
            rw [hbs]
            cases sp with
            | false => rfl
            | true => rw [hall m (by simp only [Bool.toNat_true] at hM; omega)]; rfl
          have hfe := hfull b f listed hfk hφ hf hfd (fun k hk => hall k (by omega))
          rw [hfe] at hs
          have h := hend fm w b hB hfmk hbs' hb a hs Q hQn hQp
          rw [List.drop_eq_nil_of_le (by omega)] at h
          exact h
        · have : p = l.length := by
            by_cases e : p = l.length
            · exact e
            · have h1 := (hpS p).1 (hall p (by omega)); omega
          rw [List.drop_eq_nil_of_le (by omega)] at hwp
          exact hwp
    | succ fuel ih =>
      intro listed a w hsz hcnt hcl hph
      -- all of the first kind listed: go over
      have hph2 : (∃ b f, Sim n ds a f ∧ b.isSome = (sp && listed.getD m false) ∧ R b w ∧ f.marks = f0.marks ∧ (∀ k, k < m → listed.getD k false = true → f (dstOf l k) = fm (dstOf l k)) ∧ (∀ t, (∀ k, k < m → listed.getD k false = true → dstOf l k ≠ t) → (b.isSome = true → dstO l m ≠ some t) → f t = f0 t) ∧ (∀ v d, b = some v → dstO l m = some d → f d = v) ∧
            (∀ i, M ≤ i → listed.getD i false = false) ∧ ∃ k, k < M ∧ listed.getD k false = false) ∨
          ∃ p, M ≤ p ∧ p ≤ l.length ∧ (∀ i, listed.getD i false = true ↔ i < p) ∧ wpListIn (FR ds) 0 P l.toArray Q (l.drop p) a w := by
        rcases hph with ⟨b, f, hs, hbs, hb, hfk, hφ, hf, hfd, hno⟩ | h
        · by_cases hk : ∃ k, k < M ∧ listed.getD k false = false
          · exact .inl ⟨b, f, hs, hbs, hb, hfk, hφ, hf, hfd, hno, hk⟩
          · have hall : ∀ k, k < M → listed.getD k false = true := by
              intro k hkm
              cases hb2 : listed.getD k false with
              | true => rfl
              | false => exact absurd ⟨k, hkm, hb2⟩ hk
            refine .inr ⟨M, Nat.le_refl _, hm', fun i => ⟨fun h => ?_, fun h => hall i h⟩, ?_⟩
            · by_cases e : i < M
              · exact e
              · rw [hno i (by omega)] at h; cases h
            · have hbs' : b.isSome = sp := by
                rw [hbs]
                cases sp with
                | false => rfl
                | true => rw [hall m (by simp only [Bool.toNat_true] at hM; omega)]; rfl
              have hfe := hfull b f listed hfk hφ hf hfd (fun k hk => hall k (by omega))
              rw [hfe] at hs
              exact hend fm w b hB hfmk hbs' hb a hs Q hQn hQp
        · exact .inr h
      have hnext : ∀ i, i < l.length → listed.getD i false = false → (listed.setIfInBounds i true).size = l.length ∧ (listed.setIfInBounds i true).toList.count false = fuel := by
        intro i hi hf
        refine ⟨by simp [hsz], ?_⟩
        have hi' : i < listed.toList.length := by simp; omega
        rw [Array.toList_setIfInBounds, List.count_set hi', hcnt]
        have : listed.toList[i] = false := by simpa [Array.getD_eq_getD_getElem?, show i < listed.size by omega] using hf
        simp [this]
      have hget : ∀ i j, (listed.setIfInBounds i true).getD j false = true ↔ (listed.getD j false = true ∨ (i = j ∧ j < l.length)) := by
        intro i j
        simp only [Array.getD_eq_getD_getElem?, Array.getElem?_setIfInBounds, hsz]
        by_cases e : i = j
        · subst e
          by_cases h : i < l.length
          · simp [h]
          · have : ¬ i < listed.size := by omega
            simp [h, this]
        · simp [e]
      have hready : ∀ i, i ∈ Region.ready .any l.toArray listed → i < l.length ∧ listed.getD i false = false ∧ ∀ o : Oper, l[i]? = some o → ∀ e ∈ bE o, listed.getD e.on false = true := by
        intro i hi
        unfold Region.ready at hi
        rw [List.mem_filter] at hi
        obtain ⟨h1, h2⟩ := hi
        have hil : i < l.length := by simpa using h1
        simp only [Bool.and_eq_true] at h2
        refine ⟨hil, ?_, ?_⟩
        · have := h2.1
          simpa [Array.getD_eq_getD_getElem?, show i < listed.size by omega] using this
        · intro o ho e he
          have h3 := h2.2
          simp only [List.getElem?_toArray, ho, Option.map_some, Option.getD_some] at h3
          obtain ⟨he1, h5⟩ := List.mem_filter.1 he
          have h4 := (Array.all_eq_true'.1 h3) e (Array.mem_toList_iff.1 he1)
          simpa [h5] using h4
      refine ⟨?_, ?_⟩
      · -- something is ready
        intro hnil
        exfalso
        have hex : ∃ i, i < l.length ∧ listed.getD i false = false := by
          have h0 : false ∈ listed.toList := by
            rw [← List.count_pos_iff]; omega
          obtain ⟨i, hi, he⟩ := List.mem_iff_getElem.1 h0
          have hi' : i < listed.size := by simpa using hi
          exact ⟨i, by omega, by simpa [Array.getD_eq_getD_getElem?, hi'] using he⟩
        obtain ⟨i, hi⟩ := hex
        -- the least
        have hleast : ∃ i, (i < l.length ∧ listed.getD i false = false) ∧ ∀ j, j < i → listed.getD j false = true := by
          clear hnil
          induction i using Nat.strongRecOn with
          | _ i ih2 =>
            by_cases h : ∃ j, j < i ∧ listed.getD j false = false
            · obtain ⟨j, h1, h2⟩ := h
              exact ih2 j h1 ⟨by omega, h2⟩
            · refine ⟨i, hi, fun j hj => ?_⟩
              cases hb : listed.getD j false with
              | true => rfl
              | false => exact absurd ⟨j, hj, hb⟩ h
        obtain ⟨i, ⟨hil, hif⟩, hmin⟩ := hleast
        have hmem : i ∈ Region.ready .any l.toArray listed := by
          unfold Region.ready
          rw [List.mem_filter]
          refine ⟨by simpa using hil, ?_⟩
          have ho : l[i]? = some l[i] := List.getElem?_eq_getElem hil
          simp only [List.getElem?_toArray, ho, Option.map_some, Option.getD_some, Bool.and_eq_true]
          refine ⟨by simpa [Array.getD_eq_getD_getElem?, show i < listed.size by omega] using hif, ?_⟩
          rw [Array.all_eq_true']
          intro e he
          by_cases h5 : Region.binds .any e = true
          · simp [hmin e.on (hlt i _ ho e (List.mem_filter.2 ⟨Array.mem_toList_iff.2 he, h5⟩))]
          · simp [h5]
        rw [hnil] at hmem
        cases hmem
      · intro i hi
        obtain ⟨hil, hif, hie⟩ := hready i hi
        have ho : l[i]? = some l[i] := List.getElem?_eq_getElem hil
        obtain ⟨hn1, hn2⟩ := hnext i hil hif
        have hcl2 : ∀ (j : Nat) (o : Oper), l[j]? = some o → (listed.setIfInBounds i true).getD j false = true → ∀ e ∈ bE o, (listed.setIfInBounds i true).getD e.on false = true := by
          intro j o hj hS e he
          rw [hget] at hS ⊢
          left
          rcases hS with hS | ⟨rfl, _⟩
          · exact hcl j o hj hS e he
          · exact hie o hj e he
        rcases hph2 with ⟨b, f, hs, hbs, hb, hfk, hφ, hf, hfd, hno, k, hk, hkf⟩ | ⟨p, hp1, hp2, hpS, hwp⟩
        · have hiM : i < M := by
            by_cases e : i < M
            · exact e
            · exfalso
              have h1 := hmask i hil
              have hbf : Nat.blt i M = false := by
                cases hb3 : Nat.blt i M with
                | false => rfl
                | true => exact absurd (by simpa [Nat.blt_eq] using hb3) e
              rw [hbf, Bool.false_or, List.all_eq_true] at h1
              have h2 := h1 k (List.mem_range.2 (by omega))
              have := mask_sound (S := fun j => listed.getD j false = true) hlt hcl l.length i _ ho (hie _ ho) k h2
              rw [hkf] at this; cases this
          have hnod : ∀ t, t ∈ (l[i]).looksAt l.toArray → b.isSome = true → dstO l m ≠ some t := by
            intro t ht hbt hd
            rw [hbs, Bool.and_eq_true] at hbt
            have him : i < m := by
              have : i ≠ m := fun e => by subst e; rw [hif] at hbt; cases hbt.2
              have := hbt.1
              rw [this] at hM
              simp only [Bool.toNat_true] at hM
              omega
            have h1 := (hdm2 t hbt.1 hd).2 i him
            have hlb : lookB l i t = true := by
              unfold lookB; rw [ho]
              simpa using ht
            rw [hlb] at h1; cases h1
          have hsee : ∀ (fi : Fr), (∀ t, t ∉ dstsL (l.take (min i m)) → fi t = f0 t) → (∀ t, t ∈ dstsL (l.take (min i m)) → fi t = fm t) → ∀ t ∈ (l[i]).looksAt l.toArray, f t = fi t := by
            intro fi h1 h2 t ht
            have hlb : lookB l i t = true := by
              unfold lookB; rw [ho]
              simpa using ht
            by_cases hd : ∃ j, j < m ∧ dstOf l j = t
            · obtain ⟨j, hj, rfl⟩ := hd
              have hjl : j < l.length := by omega
              have h3 := hlook i hiM j hj
              rw [hlb, Bool.not_true, Bool.false_or] at h3
              by_cases hji : j < i
              · have hbe : Nat.beq j i = false := by
                  cases hb3 : Nat.beq j i with
                  | false => rfl
                  | true => exact absurd (Nat.eq_of_beq_eq_true hb3) (by omega)
                have hbl : Nat.blt j i = true := by simpa [Nat.blt_eq] using hji
                rw [hbe, hbl, Bool.false_or] at h3
                have hl : listed.getD j false = true := mask_sound (S := fun j => listed.getD j false = true) hlt hcl l.length i _ ho (hie _ ho) j h3
                rw [hφ j hj hl, h2 _ ((hdmem (min i m) (Nat.min_le_right ..) _).2 ⟨j, by omega, rfl⟩)]
              · have hnl : listed.getD j false = false := by
                  by_cases e : j = i
                  · subst e; exact hif
                  · cases hb2 : listed.getD j false with
                    | false => rfl
                    | true =>
                      exfalso
                      have hbe : Nat.beq j i = false := by
                        cases hb3 : Nat.beq j i with
                        | false => rfl
                        | true => exact absurd (Nat.eq_of_beq_eq_true hb3) e
                      have hbl : Nat.blt j i = false := by
                        cases hb3 : Nat.blt j i with
                        | false => rfl
                        | true => exact absurd (by simpa [Nat.blt_eq] using hb3) hji
                      rw [hbe, hbl, Bool.false_or] at h3
                      have hoj : l[j]? = some l[j] := List.getElem?_eq_getElem hjl
                      have := mask_sound (S := fun j => listed.getD j false = true) hlt hcl l.length j _ hoj (hcl j _ hoj hb2) i h3
                      rw [hif] at this; cases this
                rw [hf _ (fun k' hk' hl' e => by
                  have := dst_inj hsome hnd hk' hj (by omega) hjl e
                  subst this
                  rw [hnl] at hl'; cases hl') (hnod _ ht), h1 _ (fun hmem => by
                  obtain ⟨k', hk', e⟩ := (hdmem (min i m) (Nat.min_le_right ..) _).1 hmem
                  have := dst_inj hsome hnd (by omega) hj (by omega) hjl e
                  omega)]
            · rw [hf t (fun k hk _ e => hd ⟨k, hk, e⟩) (hnod t ht), h1 t (fun hmem => by
                obtain ⟨k', hk', e⟩ := (hdmem (min i m) (Nat.min_le_right ..) _).1 hmem
                exact hd ⟨k', by omega, e⟩)]
          have hpl : plainOp l[i] = true := hplain _ (List.mem_of_getElem? (i := i) (by rw [List.getElem?_take, if_pos hiM, ho]))
          have h1 : WL P n ds l.toArray [l[i]] (fun f' w' => ∃ v, f' = updo f (l[i]).dst v ∧ ∃ b' : Option Value, b'.isSome = (sp && (listed.setIfInBounds i true).getD m false) ∧ R b' w' ∧ ((i < m ∧ b' = b ∧ ∀ d, (l[i]).dst = some d → fm d = v) ∨ (i = m ∧ b' = some v))) f w := by
            by_cases him : i < m
            · obtain ⟨fi, v, q1, q2, q3, q4, q5, q6⟩ := hfat i l[i] (by rw [List.getElem?_take, if_pos him, ho])
              rw [List.take_take] at q2 q3
              rw [getD_set_ne false (by omega : i ≠ m)]
              refine (WL.congr1 hpl (hsee fi q2 q3) q5 (q6 b w (fun hbt => ?_) hb)).mono fun f' w' h => ⟨v, h.1, b, hbs, h.2, .inl ⟨him, rfl, q4⟩⟩
              rw [hbs, Bool.and_eq_true] at hbt
              obtain ⟨rfl, hlm⟩ := hbt
              rw [Bool.not_true, Bool.false_or, List.all_eq_true] at hneed
              have h3 := hneed i (List.mem_range.2 him)
              rw [Bool.or_eq_true] at h3
              rcases h3 with h3 | h3
              · exfalso
                simp only [Bool.toNat_true] at hM
                have hom : l[m]? = some l[m] := List.getElem?_eq_getElem (by omega)
                have := mask_sound (S := fun j => listed.getD j false = true) hlt hcl l.length m _ hom (hcl m _ hom hlm) i h3
                rw [hif] at this; cases this
              · rw [Nat.zero_add]; exact h3
            · have hspt : sp = true := by
                cases sp with
                | true => rfl
                | false => simp only [Bool.toNat_false] at hM; omega
              subst hspt
              simp only [Bool.toNat_true] at hM
              obtain rfl : i = m := by omega
              have hb0 : b = none := by
                rw [hif] at hbs
                cases b with
                | none => rfl
                | some v => cases hbs
              subst hb0
              have h2 := hsp rfl fm hB w hb
              rw [show (l.drop i).take 1 = [l[i]] by rw [List.drop_eq_getElem_cons hil]; rfl] at h2
              have hdo : dstO l i = (l[i]).dst := by unfold dstO; rw [ho]; rfl
              rw [hdo] at h2
              have hset : (listed.setIfInBounds i true).getD i false = true := (hget i i).2 (.inr ⟨rfl, hil⟩)
              rw [hset]
              refine (WL.congrE (R := fun v w => R (some v) w) hpl (hsee fm (fun t ht => ?_) (fun _ _ => rfl)) hfsim h2).mono fun f' w' h => ?_
              · rw [Nat.min_self] at ht; exact hfout t ht
              · obtain ⟨v, e1, e2⟩ := h
                exact ⟨v, e1, some v, rfl, e2, .inr ⟨rfl, rfl⟩⟩
          have h2 := h1 a hs (fun e a' w' => match e with | .normal => wpAnyIn (FR ds) 0 P .any l.toArray Q fuel (listed.setIfInBounds i true) a' w' | _ => Q e a' w') ?_ hQp
          · unfold wpOpIn
            simp only [List.getElem?_toArray, ho]
            unfold wpListIn at h2
            split at h2
            · rename_i hw
              rw [if_pos hw]
              refine ⟨h2.1, ?_⟩
              have h2 := h2.2
              unfold Oper.uponIn at h2 ⊢
              split at h2
              · exact h2
              · exact h2
              · exact h2
              · refine ⟨h2.1, h2.2.mono ?_⟩
                intro e w'' hq
                cases e with
                | returned v => exact hq
                | panicked c => exact hq
                | outgrown => exact hq
              · exact h2
              · refine ⟨h2.1, h2.2.mono ?_⟩
                intro e w'' hq
                cases e with
                | returned v => exact hq
                | panicked c => exact hq
                | outgrown => exact hq
              · exact h2
              · exact h2.elim
            · rename_i hw
              rw [if_neg hw]
              exact h2
          · rintro a' w' ⟨f', hs', v, rfl, b', hbs', hv, hcase⟩
            have hne : ∀ t, (∀ d, (l[i]).dst = some d → t ≠ d) → updo f (l[i]).dst v t = f t := by
              intro t ht
              cases hd : (l[i]).dst with
              | none => rfl
              | some d =>
                have : Nat.beq t d = false := by
                  cases hb3 : Nat.beq t d with
                  | false => rfl
                  | true => exact absurd (Nat.eq_of_beq_eq_true hb3) (ht d hd)
                show cond (Nat.beq t d) v (f t) = f t
                rw [this]; rfl
            have hself : ∀ d, (l[i]).dst = some d → updo f (l[i]).dst v d = v := by
              intro d hd
              rw [hd]
              show cond (Nat.beq d d) v (f d) = v
              rw [Nat.beq_refl]; rfl
            have hdi : ∀ d, (l[i]).dst = some d → dstOf l i = d := fun d hd => by simp [dstOf, ho, hd]
            have hdo : ∀ d, i = m → (l[i]).dst = some d → dstO l m = some d := by
              rintro d rfl hd
              unfold dstO; rw [ho]; exact hd
            refine ih _ a' w' hn1 hn2 hcl2 (.inl ⟨b', _, hs', hbs', hv, ?_, ?_, ?_, ?_, ?_⟩)
            · have : (updo f (l[i]).dst v).marks = f.marks := by cases (l[i]).dst <;> rfl
              rw [this]; exact hfk
            · intro k hk hS
              rw [hget] at hS
              by_cases e : k = i
              · subst e
                obtain ⟨o, d, h1, h2, h3, _⟩ := hdm k hk
                have h2' : (l[k]).dst = some d := by rw [ho] at h1; cases h1; exact h2
                rw [h3, hself d h2']
                rcases hcase with ⟨_, _, h⟩ | ⟨h, _⟩
                · exact (h d h2').symm
                · omega
              · have hS' := hS.resolve_right (fun h => e h.1.symm)
                rw [hne _ (fun d hd h => by
                  rcases hcase with ⟨him, _, _⟩ | ⟨him, hbv⟩
                  · exact e (dst_inj hsome hnd hk him (by omega) hil (h.trans (hdi d hd).symm))
                  · have hsp' : sp = true := by
                      rw [hbv] at hbs'
                      have : (sp && (listed.setIfInBounds i true).getD m false) = true := hbs'.symm
                      rw [Bool.and_eq_true] at this
                      exact this.1
                    exact (hdm2 d hsp' (hdo d him hd)).1 ((hdmem m (Nat.le_refl _) d).2 ⟨k, hk, h⟩))]
                exact hφ k hk hS'
            · intro t ht hbt
              rcases hcase with ⟨him, rfl, _⟩ | ⟨him, hbv⟩
              · rw [hne _ (fun d hd h => ht i him ((hget i i).2 (.inr ⟨rfl, hil⟩)) ((hdi d hd).trans h.symm))]
                exact hf t (fun k hk hl => ht k hk ((hget i k).2 (.inl hl))) hbt
              · rw [hne _ (fun d hd h => by
                  subst h
                  exact hbt (by rw [hbv]; rfl) (hdo t him hd))]
                refine hf t (fun k hk hl => ht k hk ((hget i k).2 (.inl hl))) (fun hbt' => ?_)
                rw [hbs] at hbt'
                rw [him] at hif
                rw [hif, Bool.and_false] at hbt'
                cases hbt'
            · intro v' d hbv hd
              rcases hcase with ⟨him, rfl, _⟩ | ⟨him, hbv'⟩
              · have hsp' : sp = true := by
                  rw [hbv] at hbs
                  have : (sp && listed.getD m false) = true := hbs.symm
                  rw [Bool.and_eq_true] at this
                  exact this.1
                rw [hne _ (fun d' hd' h => by
                  subst h
                  obtain ⟨o, d2, h1, h2, h3, h4⟩ := hdm i him
                  have h2' : (l[i]).dst = some d2 := by rw [ho] at h1; cases h1; exact h2
                  rw [hd'] at h2'
                  cases h2'
                  exact (hdm2 _ hsp' hd).1 h4)]
                exact hfd v' d hbv hd
              · subst him
                have hd' : (l[i]).dst = some d := by unfold dstO at hd; rw [ho] at hd; exact hd
                rw [hself d hd']
                rw [hbv'] at hbv
                exact Option.some.inj hbv
            · intro j hj
              cases hb3 : (listed.setIfInBounds i true).getD j false with
              | false => rfl
              | true =>
                rw [hget] at hb3
                rcases hb3 with h | ⟨rfl, _⟩
                · rw [hno j hj] at h; cases h
                · omega
        · have hip : i = p := by
            have h1 : ¬ i < p := fun h => by rw [(hpS i).2 h] at hif; cases hif
            by_cases e : i = p
            · exact e
            · exfalso
              have h2 := hmask i hil
              have hbf : Nat.blt i M = false := by
                cases hb3 : Nat.blt i M with
                | false => rfl
                | true => exact absurd (by simpa [Nat.blt_eq] using hb3) (by omega)
              rw [hbf, Bool.false_or, List.all_eq_true] at h2
              have h3 := h2 p (List.mem_range.2 (by omega))
              have := mask_sound (S := fun j => listed.getD j false = true) hlt hcl l.length i _ ho (hie _ ho) p h3
              have := (hpS p).1 this
              omega
          subst hip
          rw [List.drop_eq_getElem_cons hil] at hwp
          unfold wpOpIn
          simp only [List.getElem?_toArray, ho]
          have hph3 : ∀ a' w', wpListIn (FR ds) 0 P l.toArray Q (l.drop (i + 1)) a' w' → wpAnyIn (FR ds) 0 P .any l.toArray Q fuel (listed.setIfInBounds i true) a' w' := by
            intro a' w' h
            refine ih _ a' w' hn1 hn2 hcl2 (.inr ⟨i + 1, by omega, by omega, fun j => ?_, h⟩)
            rw [hget, hpS]
            constructor
            · rintro (h | ⟨rfl, _⟩) <;> omega
            · intro h
              by_cases e : i = j
              · exact .inr ⟨e, by omega⟩
              · exact .inl (by omega)
          unfold wpListIn at hwp
          split at hwp
          · rename_i hw
            rw [if_pos hw]
            exact Oper.wpIn_mono hph3 hwp
          · rename_i hw
            rw [if_neg hw]
            exact ⟨hwp.1, hph3 _ _ hwp.2⟩
  have hrep : ∀ j, (Array.replicate l.toArray.size false).getD j false = false := by
    intro j
    simp only [Array.getD_eq_getD_getElem?, Array.getElem?_replicate]
    split <;> rfl
  refine key l.toArray.size _ a _ (by simp) (by simp) (fun i o _ h => by rw [hrep] at h; cases h) (.inl ⟨none, f0, ha, (by rw [hrep, Bool.and_false]; rfl), hR _ (Nat.le_add_right _ _), rfl, (fun k _ h => by rw [hrep] at h; cases h), fun _ _ _ => rfl, (fun v d h => by cases h), fun i _ => hrep i⟩)
end
section
variable {P : Program} {n : Nat} {ds : Md} {Kn : Fr → World → Prop} {Kx : Nat → Fr → World → Prop} {Kr : Fr → World → Prop} {f0 : Fr} {w1 : World}
theorem below_drawn (d : Nat) : Below w1.heap.size w1 { w1 with drawn := d } := ⟨rfl, rfl, rfl, Nat.le_refl _, fun _ _ => rfl⟩
theorem W.drawN {rid : Nat} {l : List Oper} (m : Nat) (B : Fr → Prop) (hfol : P.follows .mixedOrders = true) (hchk : drawOkG n l m false [] = true)
    (h : PL P n ds l.toArray (fun _ w => Below w1.heap.size w1 w) (fun k => ([] : List Nat).contains k) 0 (l.take m) B f0) (hend : ∀ f w, B f → f.marks = f0.marks → Below w1.heap.size w1 w → WL P n ds l.toArray (l.drop m) Kn f w) :
    W P n ds (.region rid l.toArray true) Kn Kx Kr f0 w1 := by
  refine W.drawG m false [] (fun _ w => Below w1.heap.size w1 w) B hfol hchk (fun d _ => below_drawn d) h (fun h => by cases h) fun f w b hB hm hb hr => ?_
  cases b with
  | none => exact hend f w hB hm hr
  | some v => cases hb
theorem W.drawS {rid : Nat} {l : List Oper} (m : Nat) (need : List Nat) (R1 : World → Prop) (B : Fr → Prop) (hfol : P.follows .mixedOrders = true) (hchk : drawOkG n l m true need = true) (hd : dstO l m = none)
    (h : PL P n ds l.toArray (fun b w => match b with | none => Below w1.heap.size w1 w | some _ => R1 w) (fun k => need.contains k) 0 (l.take m) B f0)
    (hsp : ∀ f, B f → ∀ w, Below w1.heap.size w1 w → WL P n ds l.toArray ((l.drop m).take 1) (fun f' w' => f' = f ∧ R1 w') f w) (hend : ∀ f w, B f → f.marks = f0.marks → R1 w → WL P n ds l.toArray (l.drop (m + 1)) Kn f w) :
    W P n ds (.region rid l.toArray true) Kn Kx Kr f0 w1 := by
  refine W.drawG m true need (fun b w => match b with | none => Below w1.heap.size w1 w | some _ => R1 w) B hfol hchk (fun d _ => below_drawn d) h (fun _ f hB w hr => (hsp f hB w hr).mono fun f' w' hh => ⟨undef, by rw [hd]; exact hh.1, hh.2⟩) fun f w b hB hm hb hr => ?_
  cases b with
  | none => cases hb
  | some v =>
    show WL _ _ _ _ _ _ (updo f (dstO l m) v) _
    rw [hd]
    exact hend f w hB hm hr
theorem W.drawA {rid : Nat} {l : List Oper} {d : Nat} (m : Nat) (need : List Nat) (R1 : Nat → World → Prop) (B : Fr → Prop) (hfol : P.follows .mixedOrders = true) (hchk : drawOkG n l m true need = true) (hd : dstO l m = some d)
    (h : PL P n ds l.toArray (fun b w => match b with | none => Below w1.heap.size w1 w | some v => ∃ b, v = .pointer (some ⟨b, 0, none⟩) ∧ Below w1.heap.size w1 w ∧ R1 b w) (fun k => need.contains k) 0 (l.take m) B f0)
    (hsp : ∀ f, B f → ∀ w, Below w1.heap.size w1 w → WL P n ds l.toArray ((l.drop m).take 1) (fun f' w' => ∃ v, f' = upd f d v ∧ ∃ b, v = .pointer (some ⟨b, 0, none⟩) ∧ Below w1.heap.size w1 w' ∧ R1 b w') f w)
    (hend : ∀ f w b, B f → f.marks = f0.marks → Below w1.heap.size w1 w → R1 b w → WL P n ds l.toArray (l.drop (m + 1)) Kn (upd f d (.pointer (some ⟨b, 0, none⟩))) w) :
    W P n ds (.region rid l.toArray true) Kn Kx Kr f0 w1 := by
  refine W.drawG m true need (fun b w => match b with | none => Below w1.heap.size w1 w | some v => ∃ b, v = .pointer (some ⟨b, 0, none⟩) ∧ Below w1.heap.size w1 w ∧ R1 b w) B hfol hchk (fun d _ => below_drawn d) h
    (fun _ f hB w hr => (hsp f hB w hr).mono fun f' w' ⟨v, h1, h2⟩ => ⟨v, by rw [hd]; exact h1, h2⟩) fun f w b hB hm hb hr => ?_
  cases b with
  | none => cases hb
  | some v =>
    obtain ⟨bb, rfl, h1, h2⟩ := hr
    show WL _ _ _ _ _ _ (updo f (dstO l m) _) _
    rw [hd]
    exact hend f w bb hB hm h1 h2
end

/-! Addresses and parts of slices that are the same in all worlds in which they may come up. -/
section
variable {P : Program} {w1 : World} {T E : TypeId}
theorem fix_indexAddr {α : Type} [Ty α] {v : Value} {l : List α} {i : Int} {x : α} (hT : P.underlying T = some (.slice E)) (hE : SizeT P E (Ty.size α)) (hR : SliceR w1 v l) (hi : idx l i = some x) :
    ∃ p, ElemAt w1 p x ∧ ∀ {n : Nat} {ds : Md} {ops : Array Oper} {rest : List Oper} {K : Fr → World → Prop} {f : Fr} {w : World} {s ix : Operand} {T0 : TypeId} {pos : String} {aft : Array Edge} {g : Option (Nat × Bool)} {d : Nat},
      want ops g f = true → Nat.blt d n = true → ev f s = v → ev f ix = .int .i64 i → WL P n ds ops rest K (upd f d (.pointer (some p))) w → WL P n ds ops (⟨some d, .indexAddr T s ix, T0, pos, aft, g⟩ :: rest) K f w := by
  obtain ⟨h0, h1, h2⟩ := idx_some hi
  obtain ⟨_, ⟨_, rfl⟩ | ⟨a, cap, rfl, _, _, h3⟩⟩ := hR
  · simp at h2
  · refine ⟨_, h3 _ _ h2, fun hg hd hs hx h => WL.val hg hd ?_ h⟩
    simp only [execOp, hs, hx, Instr.indexAt, asIntOf, Sem.run_bind, Sem.run_pure, Result.andThen_ok, run_underlying hT, h0, h1, and_self, if_true, run_sizeOf' hE]
theorem fix_sliceH {α : Type} [Ty α] {v : Value} {xs ys : List α} {hi : Int} (hT : P.underlying T = some (.slice E)) (hE : SizeT P E (Ty.size α)) (hR : SliceR w1 v xs) (hc : cutI xs 0 hi = some ys) :
    ∃ v', SliceR w1 v' ys ∧ ∀ {n : Nat} {ds : Md} {ops : Array Oper} {rest : List Oper} {K : Fr → World → Prop} {f : Fr} {w : World} {s b : Operand} {T0 : TypeId} {pos : String} {aft : Array Edge} {g : Option (Nat × Bool)} {d : Nat},
      want ops g f = true → Nat.blt d n = true → ev f s = v → ev f b = .int .i64 hi → WL P n ds ops rest K (upd f d v') w → WL P n ds ops (⟨some d, .slice T s none (some b) none, T0, pos, aft, g⟩ :: rest) K f w := by
  obtain ⟨h0, h1, h2, _⟩ := cutI_some hc
  obtain ⟨ad, len, cap, rfl, rfl, h4, h5⟩ := sliced_sliceR hR hc
  have he := elem_of hT
  have hT' : P.underlying T = some (.slice (P.elem T)) := by rw [he]; exact hT
  refine ⟨_, h5, fun hg hd hs hb h => WL.val hg hd ?_ h⟩
  simp only [execOp, Option.map_some, Option.map_none, hs, hb, Sem.run_bind, run_sliceAt_slice _ T _ _ _ _ hT', run_slice_h _ T ad _ cap hT' .i64 hi h1 (by omega), he, run_sizeOf' hE, Result.andThen_ok, Sem.run_pure]
  rfl
theorem fix_sliceL {α : Type} [Ty α] {v : Value} {xs ys : List α} {lo : Int} (hT : P.underlying T = some (.slice E)) (hE : SizeT P E (Ty.size α)) (hR : SliceR w1 v xs) (hc : cutI xs lo ((xs.length : Nat) : Int) = some ys) :
    ∃ v', SliceR w1 v' ys ∧ ∀ {n : Nat} {ds : Md} {ops : Array Oper} {rest : List Oper} {K : Fr → World → Prop} {f : Fr} {w : World} {s a : Operand} {T0 : TypeId} {pos : String} {aft : Array Edge} {g : Option (Nat × Bool)} {d : Nat},
      want ops g f = true → Nat.blt d n = true → ev f s = v → ev f a = .int .i64 lo → WL P n ds ops rest K (upd f d v') w → WL P n ds ops (⟨some d, .slice T s (some a) none none, T0, pos, aft, g⟩ :: rest) K f w := by
  obtain ⟨h0, h1, h2, _⟩ := cutI_some hc
  obtain ⟨ad, len, cap, rfl, hl, h4, h5⟩ := sliced_sliceR hR hc
  have he := elem_of hT
  have hT' : P.underlying T = some (.slice (P.elem T)) := by rw [he]; exact hT
  subst hl
  refine ⟨_, h5, fun hg hd hs ha h => WL.val hg hd ?_ h⟩
  simp only [execOp, Option.map_some, Option.map_none, hs, ha, Sem.run_bind, run_sliceAt_slice _ T _ _ _ _ hT', run_slice_l _ T ad _ cap hT' .i64 lo h0 (by omega), he, run_sizeOf' hE, Result.andThen_ok, Sem.run_pure]
  simp
end
end Go.Fw
