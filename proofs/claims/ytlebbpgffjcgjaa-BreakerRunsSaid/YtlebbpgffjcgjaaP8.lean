/-
  BreakerRuns returns true for every input, and leaves the input as it was. No condition.
-/
import Derived.Test.YtlebbpgffjcgjaaL8
import Derived.Test.YtlebbpgffjcgjaaRows
namespace Go.Proofs.Ytlebbpgffjcgjaa.breakerRunsDone
open Go.Pv Go.ChangeShapes Go.WideShapes Go.ChangeAt Go.RowKit
set_option linter.unusedVariables false

theorem law : ∀ us, HasAll [.struct [.bool, .int .i64, .bool, .slice .bool, .slice .bool]] us → PCall Try.prog 8 us (.bool true) := by
  rintro us ⟨a, _, rfl, ha, rfl⟩
  obtain ⟨_, rfl, c, t, s, os, cs, rfl, h1, h2⟩ := has_plan ha
  exact walk c t s os cs h1

theorem own : ownKnob Try.prog.godebug = none := by kernel_rfl
theorem laidOut : laidOutB Try.prog = true := by kernel_rfl
theorem spec_at (H : Type) : ∀ ds : List (DataW H), ds.length = 1 → Rows.breakerRunsSpec.fn H ds = { results := [.lit (.bool true)], args := ds } := by
  intro ds h
  rcases ds with _ | ⟨d0, _ | ⟨e, r⟩⟩
  all_goals first | rfl | (simp at h; done) | (simp at h; omega)

set_option maxRecDepth 100000 in
theorem lifted (os : Os) (started : os.Started) (H : Type) (enc : TypeId × Value → H) :
    ReturnsInHanded {} Try.checked os 8 .any (Rows.breakerRunsSpec.pre6 enc Try.prog Try.f8 Rows.breakerRunsRow.domain false) (Rows.breakerRunsSpec.post enc Try.prog Try.f8 false true false false) :=
  lift (C := Try.checked) (m := 9) own laidOut started (by kernel_rfl) Try.func8
    (ChangeSpec.witness6 (enc := enc) (C := Try.checked) false ⟨#[], #[.agg #[.bool false, .int .i64 0, .bool false, .slice none 0 0, .slice none 0 0]], []⟩ 8 (by kernel_rfl) (by kernel_rfl) (by kernel_rfl) (by kernel_rfl))
    Try.params8 (by kernel_rfl) Try.underlying4 rfl (by kernel_rfl) (by kernel_rfl) (spec_at H) law

theorem over : Rows.breakerRunsRow.holds Try.pinned (OpenSpec.ofChange Rows.breakerRunsSpec) :=
  OpenClaim.holds_of_wide 8 Try.f8 rfl rfl rfl rfl rfl rfl rfl ⟨rfl, rfl, rfl, rfl, rfl⟩ rfl rfl rfl rfl rfl (by kernel_rfl) Try.func8 (by kernel_rfl)
    (of_decide_eq_true (by kernel_rfl)) (by unfold Func.isWrapper; first | (rw [if_pos (by decide +kernel)]; kernel_rfl) | (rw [if_neg (by decide +kernel)]; exact ⟨rfl, rfl⟩))
    (fun os started H enc _ => lifted os started H enc)

theorem proved : Rows.BreakerRunsSaid := over
end Go.Proofs.Ytlebbpgffjcgjaa.breakerRunsDone
