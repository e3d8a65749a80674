/-
  TopTransits, plain: stars whose crossings are wired at the times that a clock's error and an azimuth say agree, and both suit them.
-/
import Derived.Test.YtnkncedhanainaaWideLib
namespace Go.Fw
theorem law_noonguntop_TopTransits (a0 : GTube) (ok0 : okGTube a0) (a1 : (List GStar)) (ok1 : ∀ a ∈ a1, okGStar a) (len1 : a1.length ≤ maxLen) (a2 : Int) (ok2 : inI a2 = true) (a3 : Int) (ok3 : inI a3 = true) : noonguntop_TopTransits a0 a1 a2 a3 = some true := by
  unfold noonguntop_TopTransits
  rw [awake_eq]
  split
  · rfl
  rename_i hg
  simp only [Bool.or_eq_true, decide_eq_true_eq, not_or, Int.not_lt] at hg
  obtain ⟨⟨⟨⟨⟨⟨g1, g2⟩, g3⟩, g4⟩, g5⟩, g6⟩, g7⟩ := hg
  have hW : a0.Wires.length ≤ 20 := by omega
  rw [appI_ok (by simp; omega), Option.bind_some, List.nil_append, show GTube.mk a0.Wires a0.Error = a0 from rfl]
  -- the times that Wired is asked for
  have hq : ∀ y : GStar, quoI (IntKind.i64.wrap (y.Shift * a3)) 1000 = some ((IntKind.i64.wrap (y.Shift * a3)).tdiv 1000) := fun y => by
    have h1 := inI_iff.1 (show inI (IntKind.i64.wrap (y.Shift * a3)) = true by
      rw [inI_iff]; exact wrap_i64_in _)
    refine quoI_ok (by decide) ?_
    have h2 := Int.mul_tdiv_add_tmod (IntKind.i64.wrap (y.Shift * a3)) 1000
    have h3 : ((IntKind.i64.wrap (y.Shift * a3)).tmod 1000).natAbs < 1000 := by rw [Int.natAbs_tmod]; exact Nat.mod_lt _ (by decide)
    omega
  let at_ : GStar → Int := fun y => IntKind.i64.wrap (IntKind.i64.wrap (y.Ascension - a2) - (IntKind.i64.wrap (y.Shift * a3)).tdiv 1000)
  let wi : GStar → GTransit × Int := fun y => (transit_Wired a0 y (at_ y)).getD (⟨⟨ByteArray.empty, 0, 0, 0⟩, []⟩, 1)
  let gd : GStar → Bool := fun y => ((decide (50 < ((y.Name.size : Nat) : Int))) || (decide (y.Shift < (-10000)))) || (decide (10000 < y.Shift))
  have hwi : ∀ y : GStar, gd y = false → transit_Wired a0 y (at_ y) = some (wi y) ∧ ((wi y).2 = 0 → transit_ValidTube a0 = some true ∧ Good a0 a2 a3 (wi y).1) := by
    intro y hy
    have hy' : y.Name.size ≤ 50 ∧ -10000 ≤ y.Shift ∧ y.Shift ≤ 10000 := by
      simp only [gd, Bool.or_eq_false_iff, decide_eq_false_iff_not] at hy
      omega
    obtain ⟨r, hr, hr2⟩ := wired_ex a0 y (at_ y) hW hy'.1
    have e : wi y = r := by show (transit_Wired a0 y (at_ y)).getD _ = r; rw [hr]; rfl
    refine ⟨by rw [e]; exact hr, fun h0 => ?_⟩
    rw [e] at h0
    obtain ⟨h1, h2, h3, h4, h5⟩ := hr2 h0
    obtain ⟨bs, hs1, hs2⟩ := star_ex y hy'.1
    obtain rfl : bs = true := by rw [hs1] at h2; exact Option.some.inj h2
    obtain ⟨p1, p2, p3⟩ := hs2 rfl
    have hm : -10000000 ≤ y.Shift * a3 ∧ y.Shift * a3 ≤ 10000000 := by
      rcases Int.le_total 0 a3 with h | h
      · have := mul_in (A := 10000) (B := 1000) p2 ⟨h, by omega⟩ (by decide); omega
      · have := mul_in (A := 10000) (B := 1000) (m := -a3) p2 ⟨by omega, by omega⟩ (by decide)
        rw [Int.mul_neg] at this; omega
    have w1 : IntKind.i64.wrap (y.Shift * a3) = y.Shift * a3 := wrI_in (by omega)
    have w2 : IntKind.i64.wrap (y.Ascension - a2) = y.Ascension - a2 := wrI_in (by omega)
    have w3 : -10000 ≤ (y.Shift * a3).tdiv 1000 ∧ (y.Shift * a3).tdiv 1000 ≤ 10000 := by
      have q1 := Int.mul_tdiv_add_tmod (y.Shift * a3) 1000
      have q2 : ((y.Shift * a3).tmod 1000).natAbs < 1000 := by rw [Int.natAbs_tmod]; exact Nat.mod_lt _ (by decide)
      omega
    have w4 : at_ y = y.Ascension - a2 - (y.Shift * a3).tdiv 1000 := by
      show IntKind.i64.wrap (IntKind.i64.wrap (y.Ascension - a2) - (IntKind.i64.wrap (y.Shift * a3)).tdiv 1000) = _
      rw [w1, w2, wrI_in (by omega)]
    rw [w4] at h4
    refine ⟨h1, ?_⟩
    rw [e]
    rw [h4] at h5 ⊢
    exact ⟨h2, p1, p2, p3, rfl, h5⟩
  rw [rangeL_grow (fun y => gd y || ((wi y).2 != 0)) (fun y => (wi y).1) true a1 0 [] (by simp; omega) (by
    intro i y z hy hz
    show (if gd y = true then _ else _) = _
    cases hgd : gd y with
    | true => rfl
    | false =>
      rw [if_neg (by decide), hq y, Option.bind_some]
      show (transit_Wired a0 y (at_ y)).bind _ = _
      rw [(hwi y hgd).1, Option.bind_some]
      show (if ((wi y).2 != 0) = true then _ else _) = _
      cases (wi y).2 != 0 with
      | true => rfl
      | false =>
        rw [if_neg (by decide)]
        show (appI z [(wi y).1]).bind _ = _
        rw [app1 hz]
        rfl)]
  rw [Option.bind_some]
  cases hany : a1.any fun y => gd y || ((wi y).2 != 0) with
  | true => rfl
  | false =>
    have hall : ∀ y ∈ a1, gd y = false ∧ (wi y).2 = 0 := fun y hy => by
      rw [List.any_eq_false] at hany
      have := hany y hy
      simp only [Bool.or_eq_true, bne_iff_ne, ne_eq, not_or, Decidable.not_not, Bool.not_eq_true] at this
      exact this
    show (if ((decide (a0.Error < 2)) || (decide (10000 < a0.Error))) = true then _ else _) = _
    split
    · rfl
    rename_i hE
    simp only [Bool.or_eq_true, decide_eq_true_eq, not_or, Int.not_lt] at hE
    rw [List.nil_append]
    obtain ⟨y0, hy0⟩ : ∃ y, y ∈ a1 := by
      cases a1 with
      | nil => simp at g1
      | cons y l => exact ⟨y, List.mem_cons_self ..⟩
    have hT := ((hwi y0 (hall y0 hy0).1).2 (hall y0 hy0).2).1
    obtain ⟨bt, ht1, ht2⟩ := tube_ex a0 hW
    obtain rfl : bt = true := by rw [hT] at ht1; exact (Option.some.inj ht1).symm
    obtain ⟨q1, q2, q3⟩ := ht2 rfl
    have hs : Small a0 a2 a3 := ⟨q1, q2, by omega, by omega⟩
    have hG : ∀ t ∈ a1.map fun y => (wi y).1, Good a0 a2 a3 t := fun t ht => by
      obtain ⟨y, hy, rfl⟩ := List.mem_map.1 ht
      exact ((hwi y (hall y hy).1).2 (hall y hy).2).2
    obtain ⟨S, hS1, hS2, hS3⟩ := asked_eq (l := a1.map fun y => (wi y).1) hT hs hE (by rw [List.length_map]; omega) hG
    have hag : transit_Agree a0 (a1.map fun y => (wi y).1) = some (true, 0) := by
      unfold transit_Agree
      rw [show GTube.mk a0.Wires a0.Error = a0 from rfl, hS1, Option.bind_some]
      show ((if ((0 : Int) == 0) = true then _ else _) : Option Bool).bind _ = _
      rw [if_pos (by decide), agree_eq (by omega) hS3]
      rfl
    have hsu : transit_Suits a0 (a1.map fun y => (wi y).1) ⟨a2, 1⟩ ⟨a3, 1⟩ = some (true, 0) := by
      unfold transit_Suits
      rw [ratio_eq (by omega), ratio_eq (by omega), show GTube.mk a0.Wires a0.Error = a0 from rfl, hS1]
      rw [Option.bind_some, if_neg (by decide), Option.bind_some, Option.bind_some, if_neg (by decide), Option.bind_some]
      show (if ((0 : Int) != 0) = true then _ else _) = _
      rw [if_neg (by decide), containsS_eq S (fun x0 => transit_Suits_c1 x0 ⟨a2, 1⟩ ⟨a3, 1⟩) (fun _ => false) (fun s hs => by
        show (transit_strip_has s ⟨a2, 1⟩ ⟨a3, 1⟩).bind _ = _
        rw [has_eq (by omega) (by omega) (hS3 s hs)]
        rfl)]
      simp
    rw [hag, Option.bind_some]
    dsimp only
    rw [hsu]
    rfl
end Go.Fw
