/-
  What the functions compute, as functions of the values: written by a program from the functions. No condition.
-/
import Derived.Test.YtmoofcflfbnceaaGreatDoorFwJ
import Derived.Test.YtmoofcflfbnceaaGreatDoorFwU
import Derived.Test.YtmoofcflfbnceaaGreatDoorFwMx
import Derived.Test.YtmoofcflfbnceaaGreatDoorFwW
import Derived.Test.YtmoofcflfbnceaaGreatDoorFwX
import Derived.Test.YtmoofcflfbnceaaGreatDoorFwZ
import Derived.Test.YtmoofcflfbnceaaGreatDoorFwBd
import Derived.Test.YtmoofcflfbnceaaGreatDoorFwU6
import Derived.Test.YtmoofcflfbnceaaGreatDoorFwOb
import Derived.Test.YtmoofcflfbnceaaGreatDoorFwSt
import Derived.Test.YtmoofcflfbnceaaGreatDoorFwHx
import Derived.Test.YtmoofcflfbnceaaGreatDoorFwDl
namespace Go.Fw
structure GPoint where
  clock : Int
  at_ : Int
  deriving DecidableEq
instance : Flat GPoint := ⟨2, fun a => .agg #[.int .i64 a.clock, .int .i64 a.at_], fun a => [.int .i64 a.clock, .int .i64 a.at_], fun _ => rfl, fun _ => rfl, by simp [Value.oneCell'], by decide⟩

structure GSight where
  At : Int
  A : Int
  B : Int
  Lo : Int
  Hi : Int
  deriving DecidableEq
instance : Flat GSight := ⟨5, fun a => .agg #[.int .i64 a.At, .int .i64 a.A, .int .i64 a.B, .int .i64 a.Lo, .int .i64 a.Hi], fun a => [.int .i64 a.At, .int .i64 a.A, .int .i64 a.B, .int .i64 a.Lo, .int .i64 a.Hi], fun _ => rfl, fun _ => rfl, by simp [Value.oneCell'], by decide⟩

structure GNet where
  Rates : (List Int)
  Sights : (List GSight)
  deriving DecidableEq
instance : Ty GNet where
  size := 2
  rep w cs a := ∃ v0 : Value, ∃ v1 : Value, cs = [v0, v1] ∧ SliceR w v0 a.Rates ∧ SliceR w v1 a.Sights
  len h := by obtain ⟨v0, v1, rfl, h0, h1⟩ := h; rfl
  one h := by
    obtain ⟨v0, v1, rfl, h0, h1⟩ := h
    obtain ⟨_, _, rfl, _⟩ := h0.shape
    obtain ⟨_, _, rfl, _⟩ := h1.shape
    intro c hc
    simp only [List.mem_cons, List.not_mem_nil, or_false] at hc
    rcases hc with rfl | rfl <;> rfl
  monoC h hb := by obtain ⟨v0, v1, rfl, h0, h1⟩ := h; exact ⟨v0, v1, rfl, h0.monoC hb, h1.monoC hb⟩
  pos := by decide
theorem GNet_open {w : World} {p : Addr} {x : GNet} (h : ElemAt w p x) : ∃ v0 : Value, ∃ v1 : Value, SliceR w v0 x.Rates ∧ SliceR w v1 x.Sights ∧ ∀ j c, [v0, v1][j]? = some c → w.cell? (p.add j) = some c := by
  obtain ⟨_, cs, ⟨v0, v1, rfl, h0, h1⟩, hc⟩ := h
  exact ⟨v0, v1, h0, h1, hc⟩
theorem GNet_rep {w : World} {x : GNet} {v0 : Value} {v1 : Value} (h0 : SliceR w v0 x.Rates) (h1 : SliceR w v1 x.Sights) : Ty.rep w [v0, v1] x := ⟨_, _, rfl, h0, h1⟩

structure GEdge where
  from_ : Int
  to : Int
  cost : Int
  number : Int
  deriving DecidableEq
instance : Flat GEdge := ⟨4, fun a => .agg #[.int .i64 a.from_, .int .i64 a.to, .int .i64 a.cost, .int .i64 a.number], fun a => [.int .i64 a.from_, .int .i64 a.to, .int .i64 a.cost, .int .i64 a.number], fun _ => rfl, fun _ => rfl, by simp [Value.oneCell'], by decide⟩

structure GMast where
  Noon : Int
  Half : Int
  Full : Int
  Late : Int
  Again : Int
  Wind : Int
  deriving DecidableEq
instance : Flat GMast := ⟨6, fun a => .agg #[.int .i64 a.Noon, .int .i64 a.Half, .int .i64 a.Full, .int .i64 a.Late, .int .i64 a.Again, .int .i64 a.Wind], fun a => [.int .i64 a.Noon, .int .i64 a.Half, .int .i64 a.Full, .int .i64 a.Late, .int .i64 a.Again, .int .i64 a.Wind], fun _ => rfl, fun _ => rfl, by simp [Value.oneCell'], by decide⟩

structure GEvent where
  At : Int
  Kind : Int
  N : Int
  deriving DecidableEq
instance : Flat GEvent := ⟨3, fun a => .agg #[.int .i64 a.At, .int .i64 a.Kind, .int .i64 a.N], fun a => [.int .i64 a.At, .int .i64 a.Kind, .int .i64 a.N], fun _ => rfl, fun _ => rfl, by simp [Value.oneCell'], by decide⟩

structure GBall where
  Place : Int
  Wind : Int
  Flag : Bool
  At : Int
  deriving DecidableEq
instance : Flat GBall := ⟨4, fun a => .agg #[.int .i64 a.Place, .int .i64 a.Wind, .bool a.Flag, .int .i64 a.At], fun a => [.int .i64 a.Place, .int .i64 a.Wind, .bool a.Flag, .int .i64 a.At], fun _ => rfl, fun _ => rfl, by simp [Value.oneCell'], by decide⟩

structure GEntry where
  Day : Int
  Found : Bool
  Error : Int
  deriving DecidableEq
instance : Flat GEntry := ⟨3, fun a => .agg #[.int .i64 a.Day, .bool a.Found, .int .i64 a.Error], fun a => [.int .i64 a.Day, .bool a.Found, .int .i64 a.Error], fun _ => rfl, fun _ => rfl, by simp [Value.oneCell'], by decide⟩

structure GInside where
  mast : GMast
  day : Int
  net : GNet
  log : (List GEvent)
  state : GBall
  verdicts : (List Int)
  ledger : (List GEntry)
  flags : Int
  deriving DecidableEq
instance : Ty GInside where
  size := 17
  rep w cs a := ∃ v7 : Value, ∃ v8 : Value, ∃ v9 : Value, ∃ v14 : Value, ∃ v15 : Value, cs = [(.int .i64 a.mast.Noon), (.int .i64 a.mast.Half), (.int .i64 a.mast.Full), (.int .i64 a.mast.Late), (.int .i64 a.mast.Again), (.int .i64 a.mast.Wind), (.int .i64 a.day), v7, v8, v9, (.int .i64 a.state.Place), (.int .i64 a.state.Wind), (.bool a.state.Flag), (.int .i64 a.state.At), v14, v15, (.int .i64 a.flags)] ∧ SliceR w v7 a.net.Rates ∧ SliceR w v8 a.net.Sights ∧ SliceR w v9 a.log ∧ SliceR w v14 a.verdicts ∧ SliceR w v15 a.ledger
  len h := by obtain ⟨v7, v8, v9, v14, v15, rfl, h7, h8, h9, h14, h15⟩ := h; rfl
  one h := by
    obtain ⟨v7, v8, v9, v14, v15, rfl, h7, h8, h9, h14, h15⟩ := h
    obtain ⟨_, _, rfl, _⟩ := h7.shape
    obtain ⟨_, _, rfl, _⟩ := h8.shape
    obtain ⟨_, _, rfl, _⟩ := h9.shape
    obtain ⟨_, _, rfl, _⟩ := h14.shape
    obtain ⟨_, _, rfl, _⟩ := h15.shape
    intro c hc
    simp only [List.mem_cons, List.not_mem_nil, or_false] at hc
    rcases hc with rfl | rfl | rfl | rfl | rfl | rfl | rfl | rfl | rfl | rfl | rfl | rfl | rfl | rfl | rfl | rfl | rfl <;> rfl
  monoC h hb := by obtain ⟨v7, v8, v9, v14, v15, rfl, h7, h8, h9, h14, h15⟩ := h; exact ⟨v7, v8, v9, v14, v15, rfl, h7.monoC hb, h8.monoC hb, h9.monoC hb, h14.monoC hb, h15.monoC hb⟩
  pos := by decide
theorem GInside_open {w : World} {p : Addr} {x : GInside} (h : ElemAt w p x) : ∃ v7 : Value, ∃ v8 : Value, ∃ v9 : Value, ∃ v14 : Value, ∃ v15 : Value, SliceR w v7 x.net.Rates ∧ SliceR w v8 x.net.Sights ∧ SliceR w v9 x.log ∧ SliceR w v14 x.verdicts ∧ SliceR w v15 x.ledger ∧ ∀ j c, [(.int .i64 x.mast.Noon), (.int .i64 x.mast.Half), (.int .i64 x.mast.Full), (.int .i64 x.mast.Late), (.int .i64 x.mast.Again), (.int .i64 x.mast.Wind), (.int .i64 x.day), v7, v8, v9, (.int .i64 x.state.Place), (.int .i64 x.state.Wind), (.bool x.state.Flag), (.int .i64 x.state.At), v14, v15, (.int .i64 x.flags)][j]? = some c → w.cell? (p.add j) = some c := by
  obtain ⟨_, cs, ⟨v7, v8, v9, v14, v15, rfl, h7, h8, h9, h14, h15⟩, hc⟩ := h
  exact ⟨v7, v8, v9, v14, v15, h7, h8, h9, h14, h15, hc⟩
theorem GInside_rep {w : World} {x : GInside} {v7 : Value} {v8 : Value} {v9 : Value} {v14 : Value} {v15 : Value} (h7 : SliceR w v7 x.net.Rates) (h8 : SliceR w v8 x.net.Sights) (h9 : SliceR w v9 x.log) (h14 : SliceR w v14 x.verdicts) (h15 : SliceR w v15 x.ledger) : Ty.rep w [(.int .i64 x.mast.Noon), (.int .i64 x.mast.Half), (.int .i64 x.mast.Full), (.int .i64 x.mast.Late), (.int .i64 x.mast.Again), (.int .i64 x.mast.Wind), (.int .i64 x.day), v7, v8, v9, (.int .i64 x.state.Place), (.int .i64 x.state.Wind), (.bool x.state.Flag), (.int .i64 x.state.At), v14, v15, (.int .i64 x.flags)] x := ⟨_, _, _, _, _, rfl, h7, h8, h9, h14, h15⟩

structure GSession where
  inside : GInside
  deriving DecidableEq
instance : Ty GSession where
  size := 17
  rep w cs a := ∃ v7 : Value, ∃ v8 : Value, ∃ v9 : Value, ∃ v14 : Value, ∃ v15 : Value, cs = [(.int .i64 a.inside.mast.Noon), (.int .i64 a.inside.mast.Half), (.int .i64 a.inside.mast.Full), (.int .i64 a.inside.mast.Late), (.int .i64 a.inside.mast.Again), (.int .i64 a.inside.mast.Wind), (.int .i64 a.inside.day), v7, v8, v9, (.int .i64 a.inside.state.Place), (.int .i64 a.inside.state.Wind), (.bool a.inside.state.Flag), (.int .i64 a.inside.state.At), v14, v15, (.int .i64 a.inside.flags)] ∧ SliceR w v7 a.inside.net.Rates ∧ SliceR w v8 a.inside.net.Sights ∧ SliceR w v9 a.inside.log ∧ SliceR w v14 a.inside.verdicts ∧ SliceR w v15 a.inside.ledger
  len h := by obtain ⟨v7, v8, v9, v14, v15, rfl, h7, h8, h9, h14, h15⟩ := h; rfl
  one h := by
    obtain ⟨v7, v8, v9, v14, v15, rfl, h7, h8, h9, h14, h15⟩ := h
    obtain ⟨_, _, rfl, _⟩ := h7.shape
    obtain ⟨_, _, rfl, _⟩ := h8.shape
    obtain ⟨_, _, rfl, _⟩ := h9.shape
    obtain ⟨_, _, rfl, _⟩ := h14.shape
    obtain ⟨_, _, rfl, _⟩ := h15.shape
    intro c hc
    simp only [List.mem_cons, List.not_mem_nil, or_false] at hc
    rcases hc with rfl | rfl | rfl | rfl | rfl | rfl | rfl | rfl | rfl | rfl | rfl | rfl | rfl | rfl | rfl | rfl | rfl <;> rfl
  monoC h hb := by obtain ⟨v7, v8, v9, v14, v15, rfl, h7, h8, h9, h14, h15⟩ := h; exact ⟨v7, v8, v9, v14, v15, rfl, h7.monoC hb, h8.monoC hb, h9.monoC hb, h14.monoC hb, h15.monoC hb⟩
  pos := by decide
theorem GSession_open {w : World} {p : Addr} {x : GSession} (h : ElemAt w p x) : ∃ v7 : Value, ∃ v8 : Value, ∃ v9 : Value, ∃ v14 : Value, ∃ v15 : Value, SliceR w v7 x.inside.net.Rates ∧ SliceR w v8 x.inside.net.Sights ∧ SliceR w v9 x.inside.log ∧ SliceR w v14 x.inside.verdicts ∧ SliceR w v15 x.inside.ledger ∧ ∀ j c, [(.int .i64 x.inside.mast.Noon), (.int .i64 x.inside.mast.Half), (.int .i64 x.inside.mast.Full), (.int .i64 x.inside.mast.Late), (.int .i64 x.inside.mast.Again), (.int .i64 x.inside.mast.Wind), (.int .i64 x.inside.day), v7, v8, v9, (.int .i64 x.inside.state.Place), (.int .i64 x.inside.state.Wind), (.bool x.inside.state.Flag), (.int .i64 x.inside.state.At), v14, v15, (.int .i64 x.inside.flags)][j]? = some c → w.cell? (p.add j) = some c := by
  obtain ⟨_, cs, ⟨v7, v8, v9, v14, v15, rfl, h7, h8, h9, h14, h15⟩, hc⟩ := h
  exact ⟨v7, v8, v9, v14, v15, h7, h8, h9, h14, h15, hc⟩
theorem GSession_rep {w : World} {x : GSession} {v7 : Value} {v8 : Value} {v9 : Value} {v14 : Value} {v15 : Value} (h7 : SliceR w v7 x.inside.net.Rates) (h8 : SliceR w v8 x.inside.net.Sights) (h9 : SliceR w v9 x.inside.log) (h14 : SliceR w v14 x.inside.verdicts) (h15 : SliceR w v15 x.inside.ledger) : Ty.rep w [(.int .i64 x.inside.mast.Noon), (.int .i64 x.inside.mast.Half), (.int .i64 x.inside.mast.Full), (.int .i64 x.inside.mast.Late), (.int .i64 x.inside.mast.Again), (.int .i64 x.inside.mast.Wind), (.int .i64 x.inside.day), v7, v8, v9, (.int .i64 x.inside.state.Place), (.int .i64 x.inside.state.Wind), (.bool x.inside.state.Flag), (.int .i64 x.inside.state.At), v14, v15, (.int .i64 x.inside.flags)] x := ⟨_, _, _, _, _, rfl, h7, h8, h9, h14, h15⟩

structure GSpan where
  Lo : Int
  Hi : Int
  deriving DecidableEq
instance : Flat GSpan := ⟨2, fun a => .agg #[.int .i64 a.Lo, .int .i64 a.Hi], fun a => [.int .i64 a.Lo, .int .i64 a.Hi], fun _ => rfl, fun _ => rfl, by simp [Value.oneCell'], by decide⟩

structure GKey where
  day : Int
  found : Bool
  deriving DecidableEq
instance : Flat GKey := ⟨2, fun a => .agg #[.int .i64 a.day, .bool a.found], fun a => [.int .i64 a.day, .bool a.found], fun _ => rfl, fun _ => rfl, by simp [Value.oneCell'], by decide⟩

structure GLine where
  Number : Int
  Text : ByteArray
  Sum : Int
  deriving DecidableEq
instance : Flat GLine := ⟨3, fun a => .agg #[.int .i64 a.Number, .string a.Text, .int .u64 a.Sum], fun a => [.int .i64 a.Number, .string a.Text, .int .u64 a.Sum], fun _ => rfl, fun _ => rfl, by simp [Value.oneCell'], by decide⟩

structure GStation where
  inside : GInside
  lines : (List GLine)
  deriving DecidableEq
instance : Ty GStation where
  size := 18
  rep w cs a := ∃ v7 : Value, ∃ v8 : Value, ∃ v9 : Value, ∃ v14 : Value, ∃ v15 : Value, ∃ v17 : Value, cs = [(.int .i64 a.inside.mast.Noon), (.int .i64 a.inside.mast.Half), (.int .i64 a.inside.mast.Full), (.int .i64 a.inside.mast.Late), (.int .i64 a.inside.mast.Again), (.int .i64 a.inside.mast.Wind), (.int .i64 a.inside.day), v7, v8, v9, (.int .i64 a.inside.state.Place), (.int .i64 a.inside.state.Wind), (.bool a.inside.state.Flag), (.int .i64 a.inside.state.At), v14, v15, (.int .i64 a.inside.flags), v17] ∧ SliceR w v7 a.inside.net.Rates ∧ SliceR w v8 a.inside.net.Sights ∧ SliceR w v9 a.inside.log ∧ SliceR w v14 a.inside.verdicts ∧ SliceR w v15 a.inside.ledger ∧ SliceR w v17 a.lines
  len h := by obtain ⟨v7, v8, v9, v14, v15, v17, rfl, h7, h8, h9, h14, h15, h17⟩ := h; rfl
  one h := by
    obtain ⟨v7, v8, v9, v14, v15, v17, rfl, h7, h8, h9, h14, h15, h17⟩ := h
    obtain ⟨_, _, rfl, _⟩ := h7.shape
    obtain ⟨_, _, rfl, _⟩ := h8.shape
    obtain ⟨_, _, rfl, _⟩ := h9.shape
    obtain ⟨_, _, rfl, _⟩ := h14.shape
    obtain ⟨_, _, rfl, _⟩ := h15.shape
    obtain ⟨_, _, rfl, _⟩ := h17.shape
    intro c hc
    simp only [List.mem_cons, List.not_mem_nil, or_false] at hc
    rcases hc with rfl | rfl | rfl | rfl | rfl | rfl | rfl | rfl | rfl | rfl | rfl | rfl | rfl | rfl | rfl | rfl | rfl | rfl <;> rfl
  monoC h hb := by obtain ⟨v7, v8, v9, v14, v15, v17, rfl, h7, h8, h9, h14, h15, h17⟩ := h; exact ⟨v7, v8, v9, v14, v15, v17, rfl, h7.monoC hb, h8.monoC hb, h9.monoC hb, h14.monoC hb, h15.monoC hb, h17.monoC hb⟩
  pos := by decide
theorem GStation_open {w : World} {p : Addr} {x : GStation} (h : ElemAt w p x) : ∃ v7 : Value, ∃ v8 : Value, ∃ v9 : Value, ∃ v14 : Value, ∃ v15 : Value, ∃ v17 : Value, SliceR w v7 x.inside.net.Rates ∧ SliceR w v8 x.inside.net.Sights ∧ SliceR w v9 x.inside.log ∧ SliceR w v14 x.inside.verdicts ∧ SliceR w v15 x.inside.ledger ∧ SliceR w v17 x.lines ∧ ∀ j c, [(.int .i64 x.inside.mast.Noon), (.int .i64 x.inside.mast.Half), (.int .i64 x.inside.mast.Full), (.int .i64 x.inside.mast.Late), (.int .i64 x.inside.mast.Again), (.int .i64 x.inside.mast.Wind), (.int .i64 x.inside.day), v7, v8, v9, (.int .i64 x.inside.state.Place), (.int .i64 x.inside.state.Wind), (.bool x.inside.state.Flag), (.int .i64 x.inside.state.At), v14, v15, (.int .i64 x.inside.flags), v17][j]? = some c → w.cell? (p.add j) = some c := by
  obtain ⟨_, cs, ⟨v7, v8, v9, v14, v15, v17, rfl, h7, h8, h9, h14, h15, h17⟩, hc⟩ := h
  exact ⟨v7, v8, v9, v14, v15, v17, h7, h8, h9, h14, h15, h17, hc⟩
theorem GStation_rep {w : World} {x : GStation} {v7 : Value} {v8 : Value} {v9 : Value} {v14 : Value} {v15 : Value} {v17 : Value} (h7 : SliceR w v7 x.inside.net.Rates) (h8 : SliceR w v8 x.inside.net.Sights) (h9 : SliceR w v9 x.inside.log) (h14 : SliceR w v14 x.inside.verdicts) (h15 : SliceR w v15 x.inside.ledger) (h17 : SliceR w v17 x.lines) : Ty.rep w [(.int .i64 x.inside.mast.Noon), (.int .i64 x.inside.mast.Half), (.int .i64 x.inside.mast.Full), (.int .i64 x.inside.mast.Late), (.int .i64 x.inside.mast.Again), (.int .i64 x.inside.mast.Wind), (.int .i64 x.inside.day), v7, v8, v9, (.int .i64 x.inside.state.Place), (.int .i64 x.inside.state.Wind), (.bool x.inside.state.Flag), (.int .i64 x.inside.state.At), v14, v15, (.int .i64 x.inside.flags), v17] x := ⟨_, _, _, _, _, _, rfl, h7, h8, h9, h14, h15, h17⟩

def sight_num (kv : List (GPoint × Int)) (p : GPoint) : Int × List (GPoint × Int) := match mget kv p with | some n => (n, kv) | none => ((kv.length : Int), mput kv p (kv.length : Int))
def sight_pointOf (a0 : Int) (a1 : Int) : Option (GPoint) :=
  ((
  (if (a0 == 0) = true then
    some 0
  else
    some a1)) : Option (Int)).bind (fun s1 =>
  some (GPoint.mk a0 s1))

def sight_taken (a0 : GNet) (a1 : Int) : Option (GPoint × GPoint × Int) :=
  (quoI a1 2).bind (fun t1 =>
  (idx a0.Sights t1).bind (fun x1 =>
  (remI a1 2).bind (fun t2 =>
  (if (t2 == 0) = true then
  (sight_pointOf x1.B x1.At).bind (fun t3 =>
  (sight_pointOf x1.A x1.At).bind (fun t4 =>
  some (t3, t4, x1.Hi)))
  else
  (sight_pointOf x1.A x1.At).bind (fun t5 =>
  (sight_pointOf x1.B x1.At).bind (fun t6 =>
  (negI x1.Lo).bind (fun t7 =>
  some (t5, t6, t7))))))))

def sight_carry (a0 : GNet) (a1 : Int) (a2 : Int) : Option (Int) :=
  (idx a0.Rates a1).bind (fun x1 =>
  (negI a2).bind (fun t1 =>
  (mulI x1 (max a2 t1)).bind (fun t2 =>
  (addI t2 1000000000).bind (fun t3 =>
  (subI t3 1).bind (fun t4 =>
  (quoI t4 1000000000).bind (fun t5 =>
  some t5))))))

  abbrev Pn := GPoint × Int
def edgeOf (x : GNet) (a b : Pn) : Option GEdge := (subI a.1.at_ b.1.at_).bind fun dt => (sight_carry x a.1.clock dt).bind fun c => some ⟨a.2, b.2, c, -1⟩
def pairB (a b : Pn) : Bool := (a.1.clock == b.1.clock) && (a.2 != b.2)
def rowOf (g : Pn → Pn → GEdge) (a : Pn) (l : List Pn) : List GEdge := (l.filter (pairB a)).map (g a)
def sight_rowG (x : GNet) (a b : Pn) : GEdge := (edgeOf x a b).getD ⟨0, 0, 0, 0⟩
def sight_row (x : GNet) (kv : List Pn) : Option (List GEdge) := if (kv.all fun a => kv.all fun b => !pairB a b || (edgeOf x a b).isSome) = true then some (kv.flatMap fun a => rowOf (sight_rowG x) a kv) else none
theorem row_some {x : GNet} {kv : List Pn} {xs : List GEdge} (h : sight_row x kv = some xs) : (∀ a ∈ kv, ∀ b ∈ kv, pairB a b = true → edgeOf x a b = some (sight_rowG x a b)) ∧ xs = kv.flatMap fun a => rowOf (sight_rowG x) a kv := by
  unfold sight_row at h
  split at h
  case isFalse => cases h
  rename_i hc
  refine ⟨fun a ha b hb hp => ?_, (Option.some.inj h).symm⟩
  have h1 := List.all_eq_true.1 (List.all_eq_true.1 hc a ha) b hb
  rw [hp] at h1
  unfold sight_rowG
  cases he : edgeOf x a b with
  | some g => rfl
  | none => rw [he] at h1; cases h1

def sight_graphOf (a0 : GNet) (a1 : (List GPoint)) : Option (List (GPoint × Int) × List GEdge) :=
  ((
  rangeL (α := GPoint) (S := (List (GPoint × Int))) (X := (List (GPoint × Int))) (fun ik1 yk1 z2 =>
    some (Step.cont (sight_num z2 yk1).2)) (fun z2 => z2) a1 0 ([] : List (GPoint × Int))) : Option ((List (GPoint × Int)))).bind (fun s1 =>
  (mulI 2 ((a0.Sights.length : Nat) : Int)).bind (fun t1 =>
  ((
  chkI t1 (rangeN (S := (List (GPoint × Int)) × (List GEdge)) (X := (List (GPoint × Int)) × (List GEdge)) (fun ik2 s =>
  match s with
    | (z8, z9) =>
      (sight_taken (GNet.mk a0.Rates a0.Sights) (ik2 : Int)).bind (fun o => match o with
        | (t2, t3, t4) =>
          (appI z9 ([(GEdge.mk (sight_num z8 t2).1 (sight_num (sight_num z8 t2).2 t3).1 t4 (ik2 : Int))] : List GEdge)).bind (fun t5 =>
          some (Step.cont ((sight_num (sight_num z8 t2).2 t3).2, t5))))) (fun s => match s with | (z8, z9) => (z8, z9)) (Int.toNat t1) 0 (s1, ([] : List GEdge)))) : Option ((List (GPoint × Int)) × (List GEdge))).bind (fun o => match o with
  | (s2, s3) =>
    (sight_row a0 s2).bind (fun xs1 =>
    (appI s3 xs1).bind (fun t6 =>
    some (s2, t6))))))

def slices_Clone_step (a0 : (List GEdge)) : Option ((List GEdge)) :=
  (appI ([] : List GEdge) a0).bind (fun t1 =>
  some t1)

def cmp_isNaN_int (a0 : Int) : Option (Bool) :=
  some (a0 != a0)

def cmp_Compare_int (a0 : Int) (a1 : Int) : Option (Int) :=
  (cmp_isNaN_int a0).bind (fun t1 =>
  (cmp_isNaN_int a1).bind (fun t2 =>
  (if t1 = true then
  (if t2 = true then
    some 0
  else
    some (-1))
  else
  (if t2 = true then
    some 1
  else
    (if (decide (a0 < a1)) = true then
      some (-1)
    else
      (if (decide (a1 < a0)) = true then
        some 1
      else
        some 0))))))

def slices_Compare_int (a0 : (List Int)) (a1 : (List Int)) : Option (Int) :=
  ((
  rangeN (S := Unit) (X := Ctl (Unit) (Int)) (fun ik1 _ =>
    (idx a0 (ik1 : Int)).bind (fun x1 =>
    (if (decide (((a1.length : Nat) : Int) ≤ (ik1 : Int))) = true then
      some (Step.done (Ctl.ret 1))
    else
      (idx a1 (ik1 : Int)).bind (fun x2 =>
      (cmp_Compare_int x1 x2).bind (fun t1 =>
      (if (t1 != 0) = true then
        some (Step.done (Ctl.ret t1))
      else
        some (Step.cont ()))))))) (fun _ => Ctl.next ()) (Int.toNat ((a0.length : Nat) : Int)) 0 ()) : Option (Ctl (Unit) (Int))).bind (fun o => match o with
  | .next _ =>
    (if (decide (((a0.length : Nat) : Int) < ((a1.length : Nat) : Int))) = true then
      some (-1)
    else
      some 0)
  | .ret r => some r
  | .exit _ _ => none)

def sight_graph_sorted_c1 (a0 : GEdge) (a1 : GEdge) : Option (Int) :=
  (slices_Compare_int ([a0.from_, a0.to, a0.number] : List Int) ([a1.from_, a1.to, a1.number] : List Int)).bind (fun t1 =>
  some t1)

instance : Inhabited GEdge := ⟨⟨0, 0, 0, 0⟩⟩
def cmpZ (a b : Int) : Int := if a < b then -1 else if b < a then 1 else 0
theorem CompareZ_eq (a b : Int) : cmp_Compare_int a b = some (cmpZ a b) := by
  unfold cmp_Compare_int cmp_isNaN_int cmpZ
  by_cases h : a < b
  · simp [h]
  · by_cases h2 : b < a <;> simp [h, h2]
def edgeC (x y : GEdge) : Int := if cmpZ x.from_ y.from_ ≠ 0 then cmpZ x.from_ y.from_ else if cmpZ x.to y.to ≠ 0 then cmpZ x.to y.to else cmpZ x.number y.number
theorem edge_some (x y : GEdge) : sight_graph_sorted_c1 x y = some (edgeC x y) := by
  unfold sight_graph_sorted_c1 slices_Compare_int edgeC
  simp only [List.length_cons, List.length_nil]
  rw [show Int.toNat (((0 + 1 + 1 + 1 : Nat) : Nat) : Int) = 3 from rfl]
  simp only [rangeN, idx, CompareZ_eq, Option.bind_some]
  by_cases h1 : cmpZ x.from_ y.from_ = 0
  · by_cases h2 : cmpZ x.to y.to = 0
    · by_cases h3 : cmpZ x.number y.number = 0 <;> simp [h1, h2, h3]
    · simp [h1, h2]
  · simp [h1]
theorem edge_lt (x y : GEdge) : Go.Proofs.ltOf edgeC x y = true ↔ (x.from_ < y.from_ ∨ (x.from_ = y.from_ ∧ (x.to < y.to ∨ (x.to = y.to ∧ x.number < y.number)))) := by
  unfold Go.Proofs.ltOf edgeC cmpZ
  rw [decide_eq_true_eq]
  by_cases a1 : x.from_ < y.from_ <;> by_cases a2 : y.from_ < x.from_ <;> by_cases b1 : x.to < y.to <;> by_cases b2 : y.to < x.to <;> by_cases c1 : x.number < y.number <;> by_cases c2 : y.number < x.number <;> simp [a1, a2, b1, b2, c1, c2] <;> omega
theorem edge_swo : Go.Sort.SWO (Go.Proofs.ltOf edgeC) where
  irrefl x := by
    cases h : Go.Proofs.ltOf edgeC x x with
    | false => rfl
    | true => rw [edge_lt] at h; omega
  trans x y z h1 h2 := by rw [edge_lt] at *; omega
  ntrans x y z h1 h2 := by
    cases h : Go.Proofs.ltOf edgeC x z with
    | false => rfl
    | true =>
      have n1 : ¬ _ := fun h => by rw [(edge_lt x y).2 h] at h1; cases h1
      have n2 : ¬ _ := fun h => by rw [(edge_lt y z).2 h] at h2; cases h2
      rw [edge_lt] at h
      omega
noncomputable def sortEdges : List GEdge → List GEdge := srtOf edgeC
def neI {α β : Type} (l : List α) (o : Option β) : Option β := match l with | [] => none | _ :: _ => o
theorem ne_some {α β : Type} {l : List α} {o : Option β} {r : β} (h : neI l o = some r) : l ≠ [] ∧ o = some r := by
  cases l with
  | nil => cases h
  | cons a l => exact ⟨by simp, h⟩
theorem nilB_of {α : Type} [Flat α] {w0 w : World} {v : Value} {E : TypeId} {xs : List α} (h : OwnR w0 w v E xs) (hne : xs ≠ []) : NilB v false := by
  obtain ⟨_, ⟨_, h2⟩ | ⟨gb, cap, cur, rfl, _⟩⟩ := h
  · exact absurd (List.eq_nil_of_length_eq_zero h2) hne
  · exact ⟨_, _, _, rfl, rfl⟩

noncomputable def sight_graph_sorted (a0_0 : (List (GPoint × Int))) (a0_1 : (List GEdge)) : Option ((List GEdge)) :=
  (slices_Clone_step a0_1).bind (fun t1 =>
  (srtI sortEdges t1).bind (fun t2 =>
  some t2))

def sight_push (a0 : Int) (a1 : List GEdge) (a2 : List Int) (a3 : List GEdge) : Option (List Int × List GEdge × Int) :=
  ((
  rangeL (α := GEdge) (S := Int × (List Int) × (List GEdge)) (X := Int × (List Int) × (List GEdge)) (fun ik1 yk1 s =>
  match s with
    | (z4, z5, z6) =>
      ((
        (idx z5 yk1.from_).bind (fun x1 =>
        (addI x1 yk1.cost).bind (fun t1 =>
        (idx z5 yk1.to).bind (fun x2 =>
        ((
          (if (decide (t1 < x2)) = true then
            (idx z5 yk1.to).bind (fun x3 =>
            (idx z6 yk1.to).bind (fun x4 =>
            some (yk1.to, (z5.set (Int.toNat yk1.to) t1), (z6.set (Int.toNat yk1.to) yk1))))
          else
            some (z4, z5, z6))) : Option (Int × (List Int) × (List GEdge))).bind (fun o => match o with
          | (s7, s8, s9) =>
            some (s7, s8, s9)))))) : Option (Int × (List Int) × (List GEdge))).bind (fun o => match o with
        | (s4, s5, s6) =>
          some (Step.cont (s4, s5, s6)))) (fun s => match s with | (z4, z5, z6) => (z4, z5, z6)) a1 0 ((-1), a2, a3)) : Option (Int × (List Int) × (List GEdge))).bind (fun o => match o with
  | (s1, s2, s3) =>
    some (s2, s3, s1))

noncomputable def sight_graph_circle (a0_0 : (List (GPoint × Int))) (a0_1 : (List GEdge)) : Option (Bool × List Int) :=
  (makI (0 : Int) ((a0_0.length : Nat) : Int)).bind (fun t1 =>
  (makI ((GEdge.mk 0 0 0 0) : GEdge) ((a0_0.length : Nat) : Int)).bind (fun t2 =>
  (sight_graph_sorted a0_0 a0_1).bind (fun t3 =>
  (addI ((a0_0.length : Nat) : Int) 1).bind (fun t4 =>
  ((
  chkI t4 (rangeN (S := (List Int) × (List GEdge) × Int) (X := (List GEdge) × Int) (fun ik1 s =>
  match s with
    | (z4, z5, z6) =>
      (sight_push z6 t3 z4 z5).bind (fun o => match o with
        | (t5, t6, t7) =>
          some (Step.cont (t5, t6, t7)))) (fun s => match s with | (z4, z5, z6) => (z5, z6)) (Int.toNat t4) 0 (t1, t2, (-1)))) : Option ((List GEdge) × Int)).bind (fun o => match o with
  | (s1, s2) =>
    (if (decide (s2 < 0)) = true then
      some (true, [])
    else
      ((
        chkI ((a0_0.length : Nat) : Int) (rangeN (S := Int) (X := Int) (fun ik2 z11 =>
          (idx s1 z11).bind (fun x1 =>
          some (Step.cont x1.from_))) (fun z11 => z11) (Int.toNat ((a0_0.length : Nat) : Int)) 0 s2)) : Option (Int)).bind (fun s3 =>
      ((
        loopR (S := Int × (List Int)) (X := (List Int)) (fun (s : Int × (List Int)) => match s with
          | (z15, z16) =>
            (idx s1 z15).bind (fun x2 =>
            ((
              (if (decide (0 ≤ x2.number)) = true then
                (appI z16 ([x2.number] : List Int)).bind (fun t8 =>
                some t8)
              else
                some z16)) : Option ((List Int))).bind (fun s5 =>
            (idx s1 z15).bind (fun x3 =>
            (if (x3.from_ == s3) = true then
              some (Step.done s5)
            else
              some (Step.cont (x3.from_, s5))))))) (s3, ([] : List Int))) : Option ((List Int))).bind (fun s4 =>
      (turnL List.reverse s4).bind (fun t9 =>
      neI t9 (some (false, t9)))))))))))

def sight_graph_least (a0_0 : (List (GPoint × Int))) (a0_1 : (List GEdge)) (a1 : GPoint) (a2 : GPoint) : Option (Int × Bool) :=
  (makI (0 : Int) ((a0_0.length : Nat) : Int)).bind (fun t1 =>
  (makI (false : Bool) ((a0_0.length : Nat) : Int)).bind (fun t2 =>
  (idx t2 ((mget a0_0 a1).getD 0)).bind (fun x1 =>
  ((
  chkI ((a0_0.length : Nat) : Int) (rangeN (S := (List Int) × (List Bool)) (X := (List Int) × (List Bool)) (fun ik1 s =>
  match s with
    | (z3, z4) =>
      ((
        ((
          rangeL (α := GEdge) (S := (List Int) × (List Bool)) (X := (List Int) × (List Bool)) (fun ik2 yk2 s =>
          match s with
            | (z9, z10) =>
              ((
                (idx z9 yk2.from_).bind (fun x2 =>
                (addI x2 yk2.cost).bind (fun t3 =>
                (idx z10 yk2.from_).bind (fun x3 =>
                ((if x3 = true then
                  (idx z10 yk2.to).bind (fun x4 =>
                  ((if (!x4) = true then
                    some true
                  else
                    (idx z9 yk2.to).bind (fun x5 =>
                    some (decide (t3 < x5)))) : Option Bool).bind (fun b6 =>
                  some b6))
                else
                  some false) : Option Bool).bind (fun b5 =>
                ((
                  (if b5 = true then
                    (idx z9 yk2.to).bind (fun x6 =>
                    (idx z10 yk2.to).bind (fun x7 =>
                    some ((z9.set (Int.toNat yk2.to) t3), (z10.set (Int.toNat yk2.to) true))))
                  else
                    some (z9, z10))) : Option ((List Int) × (List Bool))).bind (fun o => match o with
                  | (s9, s10) =>
                    some (s9, s10))))))) : Option ((List Int) × (List Bool))).bind (fun o => match o with
                | (s7, s8) =>
                  some (Step.cont (s7, s8)))) (fun s => match s with | (z9, z10) => (z9, z10)) a0_1 0 (z3, z4)) : Option ((List Int) × (List Bool))).bind (fun o => match o with
          | (s5, s6) =>
            some (s5, s6))) : Option ((List Int) × (List Bool))).bind (fun o => match o with
        | (s3, s4) =>
          some (Step.cont (s3, s4)))) (fun s => match s with | (z3, z4) => (z3, z4)) (Int.toNat ((a0_0.length : Nat) : Int)) 0 (t1, (t2.set (Int.toNat ((mget a0_0 a1).getD 0)) true)))) : Option ((List Int) × (List Bool))).bind (fun o => match o with
  | (s1, s2) =>
    (idx s1 ((mget a0_0 a2).getD 0)).bind (fun x8 =>
    (idx s2 ((mget a0_0 a2).getD 0)).bind (fun x9 =>
    some (x8, x9)))))))

end Go.Fw
