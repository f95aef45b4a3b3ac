/-
  What the arguments of this seat's laws are.
-/
import Derived.Test.YtjblgljalckihaaClk2
namespace Go.Proofs.Ytjblgljalckihaa
open Go.Pv Go.RowKit
theorem has_ck {u : V} (h : HasV (.struct [.int .i64, .int .i64, .bool, .int .i64, .int .i64]) u) : ∃ t r k e s, u = .agg [.int .i64 t, .int .i64 r, .bool k, .int .i64 e, .int .i64 s] := by
  simp only [HasV, HasL, HasC] at h
  obtain ⟨_, rfl, _, _, rfl, ⟨t, rfl, _⟩, _, _, rfl, ⟨r, rfl, _⟩, _, _, rfl, ⟨k, rfl⟩, _, _, rfl, ⟨e, rfl, _⟩, _, _, rfl, ⟨s, rfl, _⟩, rfl⟩ := h
  exact ⟨t, r, k, e, s, rfl⟩
structure Ev where
  d : Int
  o : Int
  s : Bool
def Ev.cs (x : Ev) : List V := [.int .i64 x.d, .int .i64 x.o, .bool x.s]
theorem has_evC {cs : List V} (h : HasC (.struct [.int .i64, .int .i64, .bool]) cs) : ∃ x : Ev, cs = x.cs ∧ (-9223372036854775808 ≤ x.o ∧ x.o ≤ 9223372036854775807) := by
  simp only [HasL, HasC, i64_min, i64_max] at h
  obtain ⟨_, _, rfl, ⟨d, rfl, _⟩, _, _, rfl, ⟨o, rfl, ho⟩, _, _, rfl, ⟨s, rfl⟩, rfl⟩ := h
  exact ⟨⟨d, o, s⟩, rfl, ho⟩
end Go.Proofs.Ytjblgljalckihaa
