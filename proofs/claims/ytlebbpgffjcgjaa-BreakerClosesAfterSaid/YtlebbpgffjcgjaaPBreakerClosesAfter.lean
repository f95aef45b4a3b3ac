/-
  BreakerClosesAfter returns true for every input, and leaves the input as it was. No condition.
-/
import Derived.Test.YtlebbpgffjcgjaaCloses
import Derived.Test.YtlebbpgffjcgjaaRows
namespace Go.Proofs.Ytlebbpgffjcgjaa.breakerClosesAfterDone
open Go.Pv Go.ChangeShapes Go.WideShapes Go.ChangeAt Go.RowKit
set_option linter.unusedVariables false

theorem law : ∀ us, HasAll [.struct [.bool, .int .i64, .bool, .slice .bool, .slice .bool]] us → PCall Try.prog 11 us (.bool true) := by
  rintro us ⟨a, _, rfl, ha, rfl⟩
  simp only [HasV, HasL] at ha
  obtain ⟨_, rfl, _, _, rfl, h1, _, _, rfl, h2, _, _, rfl, h3, _, _, rfl, h4, _, _, rfl, h5, rfl⟩ := ha
  simp only [HasC] at h1 h2 h3 h4 h5
  obtain ⟨c, rfl⟩ := h1
  obtain ⟨t, rfl, _⟩ := h2
  obtain ⟨s, rfl⟩ := h3
  obtain ⟨xs, rfl, k1, h4⟩ := h4
  obtain ⟨ys, rfl, k2, h5⟩ := h5
  obtain ⟨os, rfl⟩ := rows_of (enc := bl) h4
  obtain ⟨cs, rfl⟩ := rows_of (enc := bl) h5
  exact closes_ok c t s os cs (by simpa using k1)

theorem own : ownKnob Try.prog.godebug = none := by kernel_rfl
theorem laidOut : laidOutB Try.prog = true := by kernel_rfl
theorem spec_at (H : Type) : ∀ ds : List (DataW H), ds.length = 1 → Rows.breakerClosesAfterSpec.fn H ds = { results := [.lit (.bool true)], args := ds } := by
  intro ds h
  rcases ds with _ | ⟨d0, _ | ⟨e, r⟩⟩
  all_goals first | rfl | (simp at h; done) | (simp at h; omega)

set_option maxRecDepth 100000 in
theorem lifted (os : Os) (started : os.Started) (H : Type) (enc : TypeId × Value → H) :
    ReturnsInHanded {} Try.checked os 11 .any (Rows.breakerClosesAfterSpec.pre6 enc Try.prog Try.f11 Rows.breakerClosesAfterRow.domain false) (Rows.breakerClosesAfterSpec.post enc Try.prog Try.f11 false true false false) :=
  lift (C := Try.checked) (m := 9) own laidOut started (by kernel_rfl) Try.func11
    (ChangeSpec.witness6 (enc := enc) (C := Try.checked) false ⟨#[], #[.agg #[.bool false, .int .i64 0, .bool false, .slice none 0 0, .slice none 0 0]], []⟩ 8 (by kernel_rfl) (by kernel_rfl) (by kernel_rfl) (by kernel_rfl))
    Try.params11 (by kernel_rfl) Try.underlying4 rfl (by kernel_rfl) (by kernel_rfl) (spec_at H) law

theorem over : Rows.breakerClosesAfterRow.holds Try.pinned (OpenSpec.ofChange Rows.breakerClosesAfterSpec) :=
  OpenClaim.holds_of_wide 11 Try.f11 rfl rfl rfl rfl rfl rfl rfl ⟨rfl, rfl, rfl, rfl, rfl⟩ rfl rfl rfl rfl rfl (by kernel_rfl) Try.func11 (by kernel_rfl)
    (of_decide_eq_true (by kernel_rfl)) (by unfold Func.isWrapper; first | (rw [if_pos (by decide +kernel)]; kernel_rfl) | (rw [if_neg (by decide +kernel)]; exact ⟨rfl, rfl⟩))
    (fun os started H enc _ => lifted os started H enc)

theorem proved : Rows.BreakerClosesAfterSaid := over
end Go.Proofs.Ytlebbpgffjcgjaa.breakerClosesAfterDone
