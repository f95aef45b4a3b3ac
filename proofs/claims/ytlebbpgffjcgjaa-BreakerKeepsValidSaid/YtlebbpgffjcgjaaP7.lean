/-
  BreakerKeepsValid returns true for every input, and leaves the input as it was. No condition.
-/
import Derived.Test.YtlebbpgffjcgjaaL6
import Derived.Test.YtlebbpgffjcgjaaRows
namespace Go.Proofs.Ytlebbpgffjcgjaa.breakerKeepsValidDone
open Go.Pv Go.ChangeShapes Go.WideShapes Go.ChangeAt Go.RowKit
set_option linter.unusedVariables false

theorem law : ∀ us, HasAll [.struct [.bool, .bool, .int .i64, .bool], .int .i64, .struct [.bool, .bool, .bool]] us → PCall Try.prog 7 us (.bool true) := by
  rintro us ⟨a, _, rfl, ha, b, _, rfl, hb, z, _, rfl, hz, rfl⟩
  simp only [HasV, HasC, HasL] at ha hz
  obtain ⟨_, rfl, _, _, rfl, ⟨c, rfl⟩, _, _, rfl, ⟨g, rfl⟩, _, _, rfl, ⟨l, rfl, _⟩, _, _, rfl, ⟨m, rfl⟩, rfl⟩ := ha
  obtain ⟨t, rfl, _⟩ := has_int hb
  obtain ⟨_, rfl, _, _, rfl, ⟨s, rfl⟩, _, _, rfl, ⟨o, rfl⟩, _, _, rfl, ⟨k, rfl⟩, rfl⟩ := hz
  exact walk7 c g l m t s o k

theorem own : ownKnob Try.prog.godebug = none := by kernel_rfl
theorem laidOut : laidOutB Try.prog = true := by kernel_rfl
theorem spec_at (H : Type) : ∀ ds : List (DataW H), ds.length = 3 → Rows.breakerKeepsValidSpec.fn H ds = { results := [.lit (.bool true)], args := ds } := by
  intro ds h
  rcases ds with _ | ⟨d0, _ | ⟨d1, _ | ⟨d2, _ | ⟨e, r⟩⟩⟩⟩
  all_goals first | rfl | (simp at h; done) | (simp at h; omega)

set_option maxRecDepth 100000 in
theorem lifted (os : Os) (started : os.Started) (H : Type) (enc : TypeId × Value → H) :
    ReturnsInHanded {} Try.checked os 7 .any (Rows.breakerKeepsValidSpec.pre6 enc Try.prog Try.f7 Rows.breakerKeepsValidRow.domain false) (Rows.breakerKeepsValidSpec.post enc Try.prog Try.f7 false true false false) :=
  lift (C := Try.checked) (m := 9) own laidOut started (by kernel_rfl) Try.func7
    (ChangeSpec.witness6 (enc := enc) (C := Try.checked) false ⟨#[], #[.agg #[.bool false, .bool false, .int .i64 0, .bool false], .int .i64 0, .agg #[.bool false, .bool false, .bool false]], []⟩ 8 (by kernel_rfl) (by kernel_rfl) (by kernel_rfl) (by kernel_rfl))
    Try.params7 (by kernel_rfl) Try.underlying4 rfl (by kernel_rfl) (by kernel_rfl) (spec_at H) law

theorem over : Rows.breakerKeepsValidRow.holds Try.pinned (OpenSpec.ofChange Rows.breakerKeepsValidSpec) :=
  OpenClaim.holds_of_wide 7 Try.f7 rfl rfl rfl rfl rfl rfl rfl ⟨rfl, rfl, rfl, rfl, rfl⟩ rfl rfl rfl rfl rfl (by kernel_rfl) Try.func7 (by kernel_rfl)
    (of_decide_eq_true (by kernel_rfl)) (by unfold Func.isWrapper; first | (rw [if_pos (by decide +kernel)]; kernel_rfl) | (rw [if_neg (by decide +kernel)]; exact ⟨rfl, rfl⟩))
    (fun os started H enc _ => lifted os started H enc)

theorem proved : Rows.BreakerKeepsValidSaid := over
end Go.Proofs.Ytlebbpgffjcgjaa.breakerKeepsValidDone
