/-
  BreakerfailureExamples returns true for every input, and leaves the input as it was. No condition.
-/
import Derived.Test.YtcbddoopmkhlfaaExam
import Derived.Test.YtcbddoopmkhlfaaRows
namespace Go.Proofs.Ytcbddoopmkhlfaa.breakerfailureExamplesDone
open Go.Pv Go.ChangeShapes Go.WideShapes Go.ChangeAt Go.RowKit
set_option linter.unusedVariables false

theorem law : ∀ us, HasAll [] us → PCall Try.prog 3 us (.bool true) := by
  rintro us rfl
  exact bexamples_ok

theorem own : ownKnob Try.prog.godebug = none := by kernel_rfl
theorem laidOut : laidOutB Try.prog = true := by kernel_rfl
theorem spec_at (H : Type) : ∀ ds : List (DataW H), ds.length = 0 → Rows.breakerfailureExamplesSpec.fn H ds = { results := [.lit (.bool true)], args := ds } := by
  intro ds h
  cases ds with
  | nil => rfl
  | cons _ _ => simp at h

set_option maxRecDepth 100000 in
theorem lifted (os : Os) (started : os.Started) (H : Type) (enc : TypeId × Value → H) :
    ReturnsInHanded {} Try.checked os 3 .any (Rows.breakerfailureExamplesSpec.pre6 enc Try.prog Try.f3 Rows.breakerfailureExamplesRow.domain false) (Rows.breakerfailureExamplesSpec.post enc Try.prog Try.f3 false true false false) :=
  lift (C := Try.checked) (m := 9) own laidOut started (by kernel_rfl) Try.func3
    (ChangeSpec.witness6 (enc := enc) (C := Try.checked) false ⟨#[], #[], []⟩ 8 (by kernel_rfl) (by kernel_rfl) (by kernel_rfl) (by kernel_rfl))
    Try.params3 (by kernel_rfl) Try.underlying4 rfl (by kernel_rfl) (by kernel_rfl) (spec_at H) law

theorem over : Rows.breakerfailureExamplesRow.holds Try.pinned (OpenSpec.ofChange Rows.breakerfailureExamplesSpec) :=
  OpenClaim.holds_of_wide 3 Try.f3 rfl rfl rfl rfl rfl rfl rfl ⟨rfl, rfl, rfl, rfl, rfl⟩ rfl rfl rfl rfl rfl (by kernel_rfl) Try.func3 (by kernel_rfl)
    (of_decide_eq_true (by kernel_rfl)) (by unfold Func.isWrapper; first | (rw [if_pos (by decide +kernel)]; kernel_rfl) | (rw [if_neg (by decide +kernel)]; exact ⟨rfl, rfl⟩))
    (fun os started H enc _ => lifted os started H enc)

theorem proved : Rows.BreakerfailureExamplesSaid := over
end Go.Proofs.Ytcbddoopmkhlfaa.breakerfailureExamplesDone
