/-
  Reading the events out of arguments.
  StampedMessages returns true for every input, and leaves the input as it was. No condition.
-/
import Derived.Test.YtpkibnkhllefaaaJ8
import Derived.Test.YtpkibnkhllefaaaRows
section
namespace Go.Proofs.Ytpkibnkhllefaaa
open Go.Pv Go.RowKit
set_option linter.unusedSimpArgs false
set_option linter.unusedVariables false

theorem has_evC {cs : List V} (h : HasC (.struct [.int .i64, .int .i64, .bool]) cs) : ∃ x : Ev, cs = x.cs := by
  simp only [HasL, HasC] at h
  obtain ⟨_, _, rfl, ⟨d, rfl, _⟩, _, _, rfl, ⟨o, rfl, ho⟩, _, _, rfl, ⟨s, rfl⟩, rfl⟩ := h
  exact ⟨⟨d, o, s⟩, rfl⟩
theorem has_evs : ∀ {xs : List (List V)}, (∀ x ∈ xs, HasC (.struct [.int .i64, .int .i64, .bool]) x) → ∃ l : List Ev, xs = l.map Ev.cs
  | [], _ => ⟨[], rfl⟩
  | c :: cs, hx => by
    obtain ⟨l, rfl⟩ := has_evs (xs := cs) fun y hy => hx y (by simp [hy])
    obtain ⟨y, rfl⟩ := has_evC (hx c (by simp))
    exact ⟨y :: l, rfl⟩
end Go.Proofs.Ytpkibnkhllefaaa
end
section
namespace Go.Proofs.Ytpkibnkhllefaaa.stampedMessagesDone
open Go.Pv Go.ChangeShapes Go.WideShapes Go.ChangeAt Go.RowKit
set_option linter.unusedVariables false

theorem law : ∀ us, HasAll [.int .i64, .slice (.struct [.int .i64, .int .i64, .bool])] us → PCall Try.prog 3 us (.bool true) := by
  rintro us ⟨a, _, rfl, ha, b, _, rfl, hb, rfl⟩
  obtain ⟨x, rfl, _⟩ := has_i64 ha
  obtain ⟨xs, rfl, hl, hx⟩ := has_slice hb
  obtain ⟨l, rfl⟩ := has_evs hx
  exact law_ok x l

theorem own : ownKnob Try.prog.godebug = none := by kernel_rfl
theorem laidOut : laidOutB Try.prog = true := by kernel_rfl
theorem spec_at (H : Type) : ∀ ds : List (DataW H), ds.length = 2 → Rows.stampedMessagesSpec.fn H ds = { results := [.lit (.bool true)], args := ds } := by
  intro ds h
  rcases ds with _ | ⟨d0, _ | ⟨d1, _ | ⟨e, r⟩⟩⟩
  all_goals first | rfl | (simp at h; done) | (simp at h; omega)

set_option maxRecDepth 100000 in
theorem lifted (os : Os) (started : os.Started) (H : Type) (enc : TypeId × Value → H) :
    ReturnsInHanded {} Try.checked os 3 .any (Rows.stampedMessagesSpec.pre6 enc Try.prog Try.f3 Rows.stampedMessagesRow.domain false) (Rows.stampedMessagesSpec.post enc Try.prog Try.f3 false true false false) :=
  lift (C := Try.checked) (m := 9) own laidOut started (by kernel_rfl) Try.func3
    (ChangeSpec.witness6 (enc := enc) (C := Try.checked) false ⟨#[], #[.int .i64 0, .slice none 0 0], []⟩ 8 (by kernel_rfl) (by kernel_rfl) (by kernel_rfl) (by kernel_rfl))
    Try.params3 (by kernel_rfl) Try.underlying4 rfl (by kernel_rfl) (by kernel_rfl) (spec_at H) law

theorem over : Rows.stampedMessagesRow.holds Try.pinned (OpenSpec.ofChange Rows.stampedMessagesSpec) :=
  OpenClaim.holds_of_wide 3 Try.f3 rfl rfl rfl rfl rfl rfl rfl ⟨rfl, rfl, rfl, rfl, rfl⟩ rfl rfl rfl rfl rfl (by kernel_rfl) Try.func3 (by kernel_rfl)
    (of_decide_eq_true (by kernel_rfl)) (by unfold Func.isWrapper; first | (rw [if_pos (by decide +kernel)]; kernel_rfl) | (rw [if_neg (by decide +kernel)]; exact ⟨rfl, rfl⟩))
    (fun os started H enc _ => lifted os started H enc)

theorem proved : Rows.StampedMessagesSaid := over
end Go.Proofs.Ytpkibnkhllefaaa.stampedMessagesDone
end
