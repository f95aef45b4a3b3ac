/-
  ResampleLowest returns true for every input, and leaves the input as it was. No condition.
-/
import Derived.Test.YtnilibgafkakpaaRes9
import Derived.Test.YtnilibgafkakpaaRows
namespace Go.Proofs.Ytnilibgafkakpaa.resampleLowestDone
open Go.Pv Go.ChangeShapes Go.WideShapes Go.ChangeAt Go.RowKit
set_option linter.unusedVariables false

theorem law : ∀ us, HasAll [.struct [.int .i64, .int .i64, .int .i64, .int .i64], .int .i64, .int .i64] us → PCall Try.prog 5 us (.bool true) := by
  rintro us ⟨s, _, rfl, hs, a, _, rfl, ha, b, _, rfl, hb, rfl⟩
  obtain ⟨x, rfl, _⟩ := has_i64 ha
  obtain ⟨y, rfl, _⟩ := has_i64 hb
  obtain ⟨s0, s1, s2, s3, rfl⟩ := has_arr hs
  exact lawLowest s0 s1 s2 s3 x y

theorem own : ownKnob Try.prog.godebug = none := by kernel_rfl
theorem laidOut : laidOutB Try.prog = true := by kernel_rfl
theorem spec_at (H : Type) : ∀ ds : List (DataW H), ds.length = 3 → Rows.resampleLowestSpec.fn H ds = { results := [.lit (.bool true)], args := ds } := by
  intro ds h
  rcases ds with _ | ⟨d0, _ | ⟨d1, _ | ⟨d2, _ | ⟨e, r⟩⟩⟩⟩
  all_goals first | rfl | (simp at h; done) | (simp at h; omega)

set_option maxRecDepth 100000 in
theorem lifted (os : Os) (started : os.Started) (H : Type) (enc : TypeId × Value → H) :
    ReturnsInHanded {} Try.checked os 5 .any (Rows.resampleLowestSpec.pre6 enc Try.prog Try.f5 Rows.resampleLowestRow.domain false) (Rows.resampleLowestSpec.post enc Try.prog Try.f5 false true false false) :=
  lift (C := Try.checked) (m := 9) own laidOut started (by kernel_rfl) Try.func5
    (ChangeSpec.witness6 (enc := enc) (C := Try.checked) false ⟨#[], #[.agg #[.int .i64 0, .int .i64 0, .int .i64 0, .int .i64 0], .int .i64 0, .int .i64 0], []⟩ 8 (by kernel_rfl) (by kernel_rfl) (by kernel_rfl) (by kernel_rfl))
    Try.params5 (by kernel_rfl) Try.underlying4 rfl (by kernel_rfl) (by kernel_rfl) (spec_at H) law

theorem over : Rows.resampleLowestRow.holds Try.pinned (OpenSpec.ofChange Rows.resampleLowestSpec) :=
  OpenClaim.holds_of_wide 5 Try.f5 rfl rfl rfl rfl rfl rfl rfl ⟨rfl, rfl, rfl, rfl, rfl⟩ rfl rfl rfl rfl rfl (by kernel_rfl) Try.func5 (by kernel_rfl)
    (of_decide_eq_true (by kernel_rfl)) (by unfold Func.isWrapper; first | (rw [if_pos (by decide +kernel)]; kernel_rfl) | (rw [if_neg (by decide +kernel)]; exact ⟨rfl, rfl⟩))
    (fun os started H enc _ => lifted os started H enc)

theorem proved : Rows.ResampleLowestSaid := over
end Go.Proofs.Ytnilibgafkakpaa.resampleLowestDone
