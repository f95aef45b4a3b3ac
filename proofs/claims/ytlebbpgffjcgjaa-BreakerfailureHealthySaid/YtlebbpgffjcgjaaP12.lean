/-
  BreakerfailureHealthy returns true for every input, and leaves the input as it was. No condition.
-/
import Derived.Test.YtlebbpgffjcgjaaL12
import Derived.Test.YtlebbpgffjcgjaaRows
namespace Go.Proofs.Ytlebbpgffjcgjaa.breakerfailureHealthyDone
open Go.Pv Go.ChangeShapes Go.WideShapes Go.ChangeAt Go.RowKit
set_option linter.unusedVariables false

theorem law : ∀ us, HasAll [.struct [.int .i64, .int .i64, .int .i64], .slice .bool] us → PCall Try.prog 12 us (.bool true) := by
  rintro us ⟨a, _, rfl, ha, b, _, rfl, hb, rfl⟩
  simp only [HasV, HasC, HasL] at ha
  obtain ⟨_, rfl, _, _, rfl, ⟨T, rfl, _⟩, _, _, rfl, ⟨D, rfl, _⟩, _, _, rfl, ⟨F, rfl, _⟩, rfl⟩ := ha
  obtain ⟨cs, rfl, hl⟩ := has_bools hb
  exact walk T D F cs hl

theorem own : ownKnob Try.prog.godebug = none := by kernel_rfl
theorem laidOut : laidOutB Try.prog = true := by kernel_rfl
theorem spec_at (H : Type) : ∀ ds : List (DataW H), ds.length = 2 → Rows.breakerfailureHealthySpec.fn H ds = { results := [.lit (.bool true)], args := ds } := by
  intro ds h
  rcases ds with _ | ⟨d0, _ | ⟨d1, _ | ⟨e, r⟩⟩⟩
  all_goals first | rfl | (simp at h; done) | (simp at h; omega)

set_option maxRecDepth 100000 in
theorem lifted (os : Os) (started : os.Started) (H : Type) (enc : TypeId × Value → H) :
    ReturnsInHanded {} Try.checked os 12 .any (Rows.breakerfailureHealthySpec.pre6 enc Try.prog Try.f12 Rows.breakerfailureHealthyRow.domain false) (Rows.breakerfailureHealthySpec.post enc Try.prog Try.f12 false true false false) :=
  lift (C := Try.checked) (m := 9) own laidOut started (by kernel_rfl) Try.func12
    (ChangeSpec.witness6 (enc := enc) (C := Try.checked) false ⟨#[], #[.agg #[.int .i64 0, .int .i64 0, .int .i64 0], .slice none 0 0], []⟩ 8 (by kernel_rfl) (by kernel_rfl) (by kernel_rfl) (by kernel_rfl))
    Try.params12 (by kernel_rfl) Try.underlying4 rfl (by kernel_rfl) (by kernel_rfl) (spec_at H) law

theorem over : Rows.breakerfailureHealthyRow.holds Try.pinned (OpenSpec.ofChange Rows.breakerfailureHealthySpec) :=
  OpenClaim.holds_of_wide 12 Try.f12 rfl rfl rfl rfl rfl rfl rfl ⟨rfl, rfl, rfl, rfl, rfl⟩ rfl rfl rfl rfl rfl (by kernel_rfl) Try.func12 (by kernel_rfl)
    (of_decide_eq_true (by kernel_rfl)) (by unfold Func.isWrapper; first | (rw [if_pos (by decide +kernel)]; kernel_rfl) | (rw [if_neg (by decide +kernel)]; exact ⟨rfl, rfl⟩))
    (fun os started H enc _ => lifted os started H enc)

theorem proved : Rows.BreakerfailureHealthySaid := over
end Go.Proofs.Ytlebbpgffjcgjaa.breakerfailureHealthyDone
