/-
  What slots hold, as updates: several at once. No condition.
-/
import Derived.Test.YtmoofcflfbnceaaGreatDoorFwE
namespace Go.Fw
theorem nF {X : Prop} (a : false = true) : X := nomatch a
theorem nG {X : Prop} (a : true = false) : X := nomatch a
theorem nX {b : Bool} {X : Prop} (h : b = false) (a : b = true) : X := nomatch h.symm.trans a
theorem nT {b : Bool} {X : Prop} (h : b = true) (a : b = false) : X := nomatch h.symm.trans a
section
variable {f : Fr}
theorem up1 {a0 : Nat} {v0 : Value} (h0 : f a0 = v0) : ∃ u, f = (upd u a0 v0) := ⟨f, by rw [upd_self h0]⟩
theorem up2 {a0 a1 : Nat} {v0 v1 : Value} (h0 : f a0 = v0) (h1 : f a1 = v1) : ∃ u, f = (upd (upd u a0 v0) a1 v1) := ⟨f, by rw [upd_self h0, upd_self h1]⟩
theorem up3 {a0 a1 a2 : Nat} {v0 v1 v2 : Value} (h0 : f a0 = v0) (h1 : f a1 = v1) (h2 : f a2 = v2) : ∃ u, f = (upd (upd (upd u a0 v0) a1 v1) a2 v2) := ⟨f, by rw [upd_self h0, upd_self h1, upd_self h2]⟩
theorem up4 {a0 a1 a2 a3 : Nat} {v0 v1 v2 v3 : Value} (h0 : f a0 = v0) (h1 : f a1 = v1) (h2 : f a2 = v2) (h3 : f a3 = v3) : ∃ u, f = (upd (upd (upd (upd u a0 v0) a1 v1) a2 v2) a3 v3) := ⟨f, by rw [upd_self h0, upd_self h1, upd_self h2, upd_self h3]⟩
theorem up5 {a0 a1 a2 a3 a4 : Nat} {v0 v1 v2 v3 v4 : Value} (h0 : f a0 = v0) (h1 : f a1 = v1) (h2 : f a2 = v2) (h3 : f a3 = v3) (h4 : f a4 = v4) : ∃ u, f = (upd (upd (upd (upd (upd u a0 v0) a1 v1) a2 v2) a3 v3) a4 v4) := ⟨f, by rw [upd_self h0, upd_self h1, upd_self h2, upd_self h3, upd_self h4]⟩
theorem up6 {a0 a1 a2 a3 a4 a5 : Nat} {v0 v1 v2 v3 v4 v5 : Value} (h0 : f a0 = v0) (h1 : f a1 = v1) (h2 : f a2 = v2) (h3 : f a3 = v3) (h4 : f a4 = v4) (h5 : f a5 = v5) : ∃ u, f = (upd (upd (upd (upd (upd (upd u a0 v0) a1 v1) a2 v2) a3 v3) a4 v4) a5 v5) := ⟨f, by rw [upd_self h0, upd_self h1, upd_self h2, upd_self h3, upd_self h4, upd_self h5]⟩
theorem up7 {a0 a1 a2 a3 a4 a5 a6 : Nat} {v0 v1 v2 v3 v4 v5 v6 : Value} (h0 : f a0 = v0) (h1 : f a1 = v1) (h2 : f a2 = v2) (h3 : f a3 = v3) (h4 : f a4 = v4) (h5 : f a5 = v5) (h6 : f a6 = v6) : ∃ u, f = (upd (upd (upd (upd (upd (upd (upd u a0 v0) a1 v1) a2 v2) a3 v3) a4 v4) a5 v5) a6 v6) := ⟨f, by rw [upd_self h0, upd_self h1, upd_self h2, upd_self h3, upd_self h4, upd_self h5, upd_self h6]⟩
theorem up8 {a0 a1 a2 a3 a4 a5 a6 a7 : Nat} {v0 v1 v2 v3 v4 v5 v6 v7 : Value} (h0 : f a0 = v0) (h1 : f a1 = v1) (h2 : f a2 = v2) (h3 : f a3 = v3) (h4 : f a4 = v4) (h5 : f a5 = v5) (h6 : f a6 = v6) (h7 : f a7 = v7) : ∃ u, f = (upd (upd (upd (upd (upd (upd (upd (upd u a0 v0) a1 v1) a2 v2) a3 v3) a4 v4) a5 v5) a6 v6) a7 v7) := ⟨f, by rw [upd_self h0, upd_self h1, upd_self h2, upd_self h3, upd_self h4, upd_self h5, upd_self h6, upd_self h7]⟩
theorem up9 {a0 a1 a2 a3 a4 a5 a6 a7 a8 : Nat} {v0 v1 v2 v3 v4 v5 v6 v7 v8 : Value} (h0 : f a0 = v0) (h1 : f a1 = v1) (h2 : f a2 = v2) (h3 : f a3 = v3) (h4 : f a4 = v4) (h5 : f a5 = v5) (h6 : f a6 = v6) (h7 : f a7 = v7) (h8 : f a8 = v8) : ∃ u, f = (upd (upd (upd (upd (upd (upd (upd (upd (upd u a0 v0) a1 v1) a2 v2) a3 v3) a4 v4) a5 v5) a6 v6) a7 v7) a8 v8) := ⟨f, by rw [upd_self h0, upd_self h1, upd_self h2, upd_self h3, upd_self h4, upd_self h5, upd_self h6, upd_self h7, upd_self h8]⟩
end
end Go.Fw
