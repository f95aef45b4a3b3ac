/-
  TeleprotectionSteps: the walk.
-/
import Derived.Test.YtjleadlkknnioaaTele2
namespace Go.Proofs.Ytjleadlkknnioaa
open Go.Pv Go.RowKit
set_option linter.unusedSimpArgs false
set_option linter.unusedVariables false
set_option maxRecDepth 100000

theorem va_step {s w g : Int} {t : Te} {x : In} (h : vaT s w g t = true) : vaT s w g (stT s w g t x).1 = true := by
  have hb := va_bounds h
  simp only [stT, h, if_true]
  simp only [vaT, Bool.and_eq_true, Bool.not_eq_true', ilt, decide_eq_false_iff_not] at h ⊢
  obtain ⟨⟨⟨⟨hu, h1⟩, h2⟩, h3⟩, h4⟩ := h
  rw [hu]
  grind [ilt, ieq]
theorem steps_ok (s w g a b : Int) (x1 x2 x3 x4 : Bool) : PCall Try.prog 4 [.agg [.int .i64 s, .int .i64 w, .int .i64 g], .agg [.int .i64 a, .int .i64 b], .agg [.bool x1, .bool x2, .bool x3, .bool x4]] (.bool true) := by
  obtain ⟨r, hr⟩ : ∃ r, stT s w g ⟨a, b⟩ ⟨x1, x2, x3, x4⟩ = r := ⟨_, rfl⟩
  cases hv : vaT s w g ⟨a, b⟩
  · refine pcall_cx G4_ok mixed (fun _ => none) Try.func4 rfl Try.ntmps4 Try.results4 (by simp) (by kernel_rfl) ?_
    repeat' first
      | (refine gw_bool (fun _ => ?_) (fun _ => ?_))
      | (refine condw_bool (fun _ => ?_) (fun _ => ?_))
      | simp [*, stV, stV']
  · have hq := va_step (x := ⟨x1, x2, x3, x4⟩) hv
    rw [hr] at hq
    obtain ⟨⟨u, v⟩, q1, q2⟩ := r
    simp only at hq
    refine pcall_cx G4_ok mixed (fun _ => none) Try.func4 rfl Try.ntmps4 Try.results4 (by simp) (by kernel_rfl) ?_
    repeat' first
      | (refine gw_bool (fun _ => ?_) (fun _ => ?_))
      | (refine condw_bool (fun _ => ?_) (fun _ => ?_))
      | simp [*, stV, stV']
theorem has_set {u : V} (h : HasV (.struct [.int .i64, .int .i64, .int .i64]) u) : ∃ s w g, u = .agg [.int .i64 s, .int .i64 w, .int .i64 g] ∧ (-9223372036854775808 ≤ s ∧ s ≤ 9223372036854775807) ∧ (-9223372036854775808 ≤ w ∧ w ≤ 9223372036854775807) ∧ (-9223372036854775808 ≤ g ∧ g ≤ 9223372036854775807) := by
  simp only [HasV, HasL, HasC, i64_min, i64_max] at h
  obtain ⟨cs, rfl, _, _, rfl, ⟨s, rfl, hs⟩, _, _, rfl, ⟨w, rfl, hw⟩, _, _, rfl, ⟨g, rfl, hg⟩, rfl⟩ := h
  exact ⟨s, w, g, rfl, hs, hw, hg⟩
theorem has_te {u : V} (h : HasV (.struct [.int .i64, .int .i64]) u) : ∃ s w, u = .agg [.int .i64 s, .int .i64 w] := by
  simp only [HasV, HasL, HasC, i64_min, i64_max] at h
  obtain ⟨cs, rfl, _, _, rfl, ⟨s, rfl, hs⟩, _, _, rfl, ⟨w, rfl, hw⟩, rfl⟩ := h
  exact ⟨s, w, rfl⟩
theorem has_inC {cs : List V} (h : HasC (.struct [.bool, .bool, .bool, .bool]) cs) : ∃ x : In, cs = x.cs := by
  simp only [HasL, HasC] at h
  obtain ⟨_, _, rfl, ⟨a, rfl⟩, _, _, rfl, ⟨b, rfl⟩, _, _, rfl, ⟨c, rfl⟩, _, _, rfl, ⟨d, rfl⟩, rfl⟩ := h
  exact ⟨⟨a, b, c, d⟩, rfl⟩
theorem has_in {u : V} (h : HasV (.struct [.bool, .bool, .bool, .bool]) u) : ∃ a b c d, u = .agg [.bool a, .bool b, .bool c, .bool d] := by
  simp only [HasV, HasL, HasC] at h
  obtain ⟨_, rfl, _, _, rfl, ⟨a, rfl⟩, _, _, rfl, ⟨b, rfl⟩, _, _, rfl, ⟨c, rfl⟩, _, _, rfl, ⟨d, rfl⟩, rfl⟩ := h
  exact ⟨a, b, c, d, rfl⟩
end Go.Proofs.Ytjleadlkknnioaa
