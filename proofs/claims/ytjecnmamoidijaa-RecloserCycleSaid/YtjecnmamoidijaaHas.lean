/-
  What the arguments of this seat's laws are.
-/
import Derived.Test.YtjecnmamoidijaaRec2
namespace Go.Proofs.Ytjecnmamoidijaa
open Go.Pv Go.RowKit
theorem has_set {u : V} (h : HasV (.struct [.int .i64, .int .i64, .int .i64]) u) : ∃ s w g, u = .agg [.int .i64 s, .int .i64 w, .int .i64 g] ∧ (-9223372036854775808 ≤ s ∧ s ≤ 9223372036854775807) ∧ (-9223372036854775808 ≤ w ∧ w ≤ 9223372036854775807) ∧ (-9223372036854775808 ≤ g ∧ g ≤ 9223372036854775807) := by
  simp only [HasV, HasL, HasC, i64_min, i64_max] at h
  obtain ⟨cs, rfl, _, _, rfl, ⟨s, rfl, hs⟩, _, _, rfl, ⟨w, rfl, hw⟩, _, _, rfl, ⟨g, rfl, hg⟩, rfl⟩ := h
  exact ⟨s, w, g, rfl, hs, hw, hg⟩
theorem has_inC {cs : List V} (h : HasC (.struct [.bool, .bool, .bool, .bool]) cs) : ∃ x : Ip, cs = x.cs := by
  simp only [HasL, HasC] at h
  obtain ⟨_, _, rfl, ⟨a, rfl⟩, _, _, rfl, ⟨b, rfl⟩, _, _, rfl, ⟨c, rfl⟩, _, _, rfl, ⟨d, rfl⟩, rfl⟩ := h
  exact ⟨⟨a, b, c, d⟩, rfl⟩
theorem has_in {u : V} (h : HasV (.struct [.bool, .bool, .bool, .bool]) u) : ∃ a b c d, u = .agg [.bool a, .bool b, .bool c, .bool d] := by
  simp only [HasV, HasL, HasC] at h
  obtain ⟨_, rfl, _, _, rfl, ⟨a, rfl⟩, _, _, rfl, ⟨b, rfl⟩, _, _, rfl, ⟨c, rfl⟩, _, _, rfl, ⟨d, rfl⟩, rfl⟩ := h
  exact ⟨a, b, c, d, rfl⟩
end Go.Proofs.Ytjecnmamoidijaa
