/-
  FrequencyMeasures returns true for every input, and leaves the input as it was. No condition.
-/
import Derived.Test.YtacmchjaldljjaaLaw6
import Derived.Test.YtacmchjaldljjaaRows
namespace Go.Proofs.Ytacmchjaldljjaa.frequencyMeasuresDone
open Go.Pv Go.ChangeShapes Go.WideShapes Go.ChangeAt Go.RowKit
set_option linter.unusedVariables false

theorem law : ∀ us, HasAll [.slice (.int .i64), .int .i64] us → PCall Try.prog 5 us (.bool true) := by
  rintro us ⟨b, _, rfl, hb, a, _, rfl, ha, rfl⟩
  obtain ⟨x, rfl, _⟩ := has_i64 ha
  obtain ⟨xs, rfl, hl, hx⟩ := has_slice hb
  obtain ⟨l, rfl⟩ := rows_of (enc := il) fun z hz => by
    have := hx z hz
    simp only [HasC] at this
    obtain ⟨k, hk, _⟩ := this
    exact ⟨k, hk⟩
  exact lawMeasures l x (by simpa using hl)

theorem own : ownKnob Try.prog.godebug = none := by kernel_rfl
theorem laidOut : laidOutB Try.prog = true := by kernel_rfl
theorem spec_at (H : Type) : ∀ ds : List (DataW H), ds.length = 2 → Rows.frequencyMeasuresSpec.fn H ds = { results := [.lit (.bool true)], args := ds } := by
  intro ds h
  rcases ds with _ | ⟨d0, _ | ⟨d1, _ | ⟨e, r⟩⟩⟩
  all_goals first | rfl | (simp at h; done) | (simp at h; omega)

set_option maxRecDepth 100000 in
theorem lifted (os : Os) (started : os.Started) (H : Type) (enc : TypeId × Value → H) :
    ReturnsInHanded {} Try.checked os 5 .any (Rows.frequencyMeasuresSpec.pre6 enc Try.prog Try.f5 Rows.frequencyMeasuresRow.domain false) (Rows.frequencyMeasuresSpec.post enc Try.prog Try.f5 false true false false) :=
  lift (C := Try.checked) (m := 9) own laidOut started (by kernel_rfl) Try.func5
    (ChangeSpec.witness6 (enc := enc) (C := Try.checked) false ⟨#[], #[.slice none 0 0, .int .i64 0], []⟩ 8 (by kernel_rfl) (by kernel_rfl) (by kernel_rfl) (by kernel_rfl))
    Try.params5 (by kernel_rfl) Try.underlying4 rfl (by kernel_rfl) (by kernel_rfl) (spec_at H) law

theorem over : Rows.frequencyMeasuresRow.holds Try.pinned (OpenSpec.ofChange Rows.frequencyMeasuresSpec) :=
  OpenClaim.holds_of_wide 5 Try.f5 rfl rfl rfl rfl rfl rfl rfl ⟨rfl, rfl, rfl, rfl, rfl⟩ rfl rfl rfl rfl rfl (by kernel_rfl) Try.func5 (by kernel_rfl)
    (of_decide_eq_true (by kernel_rfl)) (by unfold Func.isWrapper; first | (rw [if_pos (by decide +kernel)]; kernel_rfl) | (rw [if_neg (by decide +kernel)]; exact ⟨rfl, rfl⟩))
    (fun os started H enc _ => lifted os started H enc)

theorem proved : Rows.FrequencyMeasuresSaid := over
end Go.Proofs.Ytacmchjaldljjaa.frequencyMeasuresDone
