/-
  Small tools for the proofs of this seat: numbers within the range, rows of truth values, measures.
-/
import Derived.Test.YtlebbpgffjcgjaaTd
namespace Go.Proofs.Ytlebbpgffjcgjaa
open Go.Pv

theorem wrap_id {n : Int} (h1 : -9223372036854775808 ≤ n) (h2 : n ≤ 9223372036854775807) : IntKind.i64.wrap n = n := by
  simp only [IntKind.wrap, IntKind.signed, IntKind.bits]; simp; omega
theorem wrap_succ {n : Nat} (h : n < 9223372036854775807) : IntKind.i64.wrap ((n : Int) + 1) = ((n + 1 : Nat) : Int) := by
  rw [wrap_id (by omega) (by omega)]; rfl
theorem maxLen_le : maxLen ≤ 9223372036854775807 := by decide
def bl (b : Bool) : List V := [.bool b]
theorem bools_of {xs : List (List V)} (h : ∀ x ∈ xs, ∃ b, x = [V.bool b]) : ∃ bs : List Bool, xs = bs.map bl := by
  induction xs with
  | nil => exact ⟨[], rfl⟩
  | cons x xs ih =>
    obtain ⟨bs, rfl⟩ := ih fun y hy => h y (by simp [hy])
    obtain ⟨b, rfl⟩ := h x (by simp)
    exact ⟨b :: bs, rfl⟩
theorem bl_at {bs : List Bool} {i : Nat} : (bs.map bl)[i]? = (bs[i]?).map bl := by simp
theorem at_ex {α : Type} {l : List α} {i : Nat} (h : i < l.length) : ∃ c, l[i]? = some c ∧ l[i] = c := ⟨_, List.getElem?_eq_getElem h, rfl⟩
theorem has_int {k : IntKind} {u : V} (h : HasV (.int k) u) : ∃ n, u = .int k n ∧ k.min ≤ n ∧ n ≤ k.max := by
  simp only [HasV, HasC] at h
  obtain ⟨n, hn, h⟩ := h
  simp only [List.cons.injEq, and_true] at hn
  exact ⟨n, hn, h⟩
theorem has_bool {u : V} (h : HasV .bool u) : ∃ b, u = .bool b := by
  simp only [HasV, HasC] at h
  obtain ⟨n, hn⟩ := h
  simp only [List.cons.injEq, and_true] at hn
  exact ⟨n, hn⟩
theorem has_bools {u : V} (h : HasV (.slice .bool) u) : ∃ bs : List Bool, u = .list 1 (bs.map bl) ∧ bs.length ≤ maxLen := by
  simp only [HasV, HasC] at h
  obtain ⟨xs, hn, hl, hx⟩ := h
  simp only [List.cons.injEq, and_true] at hn
  obtain ⟨bs, rfl⟩ := bools_of hx
  exact ⟨bs, hn, by simpa using hl⟩
theorem i64_min : IntKind.min .i64 = -9223372036854775808 := by decide
theorem i64_max : IntKind.max .i64 = 9223372036854775807 := by decide
def ival : V → Int
  | .int _ n => n
  | _ => 0
end Go.Proofs.Ytlebbpgffjcgjaa
