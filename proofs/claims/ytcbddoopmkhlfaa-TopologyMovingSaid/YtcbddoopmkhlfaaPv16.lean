/-
  Part 16: rows of typed elements, numbers within the range, small tools.
-/
import Derived.Test.YtcbddoopmkhlfaaPv15
namespace Go.Pv
open Go.RowKit
set_option linter.unusedSimpArgs false
set_option linter.unusedVariables false

/-! ### rows of one element kind -/
section
variable {α : Type} {enc : α → List V} {sz : Nat}
theorem flat_len (h : ∀ a, (enc a).length = sz) (l : List α) : (l.map enc).flatten.length = l.length * sz := by
  rw [length_flatten_rows (sz := sz) _ (by simp; intro a _; exact h a)]; simp
theorem flat_chunks (h : ∀ a, (enc a).length = sz) (l : List α) : chunks sz l.length (l.map enc).flatten = l.map enc := by
  have := chunks_rows (sz := sz) (l.map enc) (by simp; intro a _; exact h a)
  simpa using this
theorem flat_set (h : ∀ a, (enc a).length = sz) (l : List α) (i : Nat) (x : α) (hi : i < l.length) : setsV (l.map enc).flatten (i * sz) (enc x) = ((l.set i x).map enc).flatten := by
  rw [setsV_rows (sz := sz) _ i (enc x) (by simp; intro a _; exact h a) (h x) (by simpa using hi), List.map_set]
theorem flat_pure (h : ∀ a, (enc a).any ownC = false) (l : List α) : (l.map enc).flatten.any ownC = false := by
  induction l with
  | nil => rfl
  | cons a l ih => simp only [List.map_cons, List.flatten_cons, List.any_append, h a, ih, Bool.or_self]
theorem flat_one (h : ∀ a, (enc a).all oneV = true) (l : List α) : (l.map enc).flatten.all oneV = true := by
  induction l with
  | nil => rfl
  | cons a l ih => simp only [List.map_cons, List.flatten_cons, List.all_append, h a, ih, Bool.and_self]
theorem rows_flat (h : ∀ a, (enc a).all flatC = true) (l : List α) : (l.map enc).all (fun c => c.all flatC) = true := by
  simp only [List.all_map, List.all_eq_true]
  intro a _; exact h a
theorem flat_snoc (l : List α) (x : α) : (l.map enc).flatten ++ enc x = ((l ++ [x]).map enc).flatten := by simp
theorem flat_at (h : ∀ a, (enc a).length = sz) (l : List α) (i j : Nat) (x : α) (hi : l[i]? = some x) (hj : j < sz) : (l.map enc).flatten[i * sz + j]? = (enc x)[j]? := by
  induction l generalizing i with
  | nil => simp at hi
  | cons a l ih =>
    cases i with
    | zero =>
      simp only [List.getElem?_cons_zero, Option.some.injEq] at hi; subst hi
      simp only [List.map_cons, List.flatten_cons, Nat.zero_mul, Nat.zero_add]
      rw [List.getElem?_append_left (by rw [h]; exact hj)]
    | succ i =>
      simp only [List.getElem?_cons_succ] at hi
      simp only [List.map_cons, List.flatten_cons]
      rw [List.getElem?_append_right (by rw [h, Nat.succ_mul]; omega), h, show (i + 1) * sz + j - sz = i * sz + j by rw [Nat.succ_mul]; omega]
      exact ih i hi
theorem flat_part (h : ∀ a, (enc a).length = sz) (l : List α) (i : Nat) (x : α) (hi : l[i]? = some x) : ((l.map enc).flatten.drop (i * sz)).take sz = enc x := by
  induction l generalizing i with
  | nil => simp at hi
  | cons a l ih =>
    cases i with
    | zero =>
      simp only [List.getElem?_cons_zero, Option.some.injEq] at hi; subst hi
      simp only [List.map_cons, List.flatten_cons, Nat.zero_mul, List.drop_zero]
      rw [List.take_append_of_le_length (by rw [h]; exact Nat.le_refl _), List.take_of_length_le (by rw [h]; exact Nat.le_refl _)]
    | succ i =>
      simp only [List.getElem?_cons_succ] at hi
      simp only [List.map_cons, List.flatten_cons]
      have e : List.drop ((i + 1) * sz) (enc a ++ (List.map enc l).flatten) = List.drop (i * sz) (List.map enc l).flatten := by
        rw [List.drop_append, h, List.drop_of_length_le (by rw [h, Nat.succ_mul]; omega), List.nil_append, show (i + 1) * sz - sz = i * sz by rw [Nat.succ_mul]; omega]
      rw [e]
      exact ih i hi
theorem flat_lt (h : ∀ a, (enc a).length = sz) (l : List α) (i : Nat) (hi : i < l.length) : i * sz + sz ≤ (l.map enc).flatten.length := by
  rw [flat_len h]
  calc i * sz + sz = (i + 1) * sz := by rw [Nat.succ_mul]
    _ ≤ l.length * sz := Nat.mul_le_mul_right _ hi
end

/-- Reading rows back. -/
def decL {α : Type} (dec : List V → Option α) : List (List V) → Option (List α)
  | [] => some []
  | x :: xs => match dec x, decL dec xs with
    | some a, some l => some (a :: l)
    | _, _ => none
theorem decL_map {α : Type} {enc : α → List V} {dec : List V → Option α} (h : ∀ a, dec (enc a) = some a) (l : List α) : decL dec (l.map enc) = some l := by
  induction l with
  | nil => rfl
  | cons a l ih => simp only [List.map_cons, decL, h, ih]
theorem decL_inv {α : Type} {enc : α → List V} {dec : List V → Option α} (h : ∀ c a, dec c = some a → c = enc a) : ∀ (xs : List (List V)) (l : List α), decL dec xs = some l → xs = l.map enc
  | [], l, hl => by simp [decL] at hl; subst hl; rfl
  | x :: xs, l, hl => by
    unfold decL at hl
    split at hl
    · rename_i a l' h1 h2
      simp only [Option.some.injEq] at hl; subst hl
      rw [h x a h1, decL_inv h xs l' h2]; rfl
    · cases hl
theorem rows_of {α : Type} {enc : α → List V} {xs : List (List V)} (h : ∀ x ∈ xs, ∃ a, x = enc a) : ∃ l : List α, xs = l.map enc := by
  induction xs with
  | nil => exact ⟨[], rfl⟩
  | cons x xs ih =>
    obtain ⟨l, rfl⟩ := ih fun y hy => h y (by simp [hy])
    obtain ⟨b, rfl⟩ := h x (by simp)
    exact ⟨b :: l, rfl⟩

/-! ### numbers -/
theorem wrap_id {n : Int} (h1 : -9223372036854775808 ≤ n) (h2 : n ≤ 9223372036854775807) : IntKind.i64.wrap n = n := by
  simp only [IntKind.wrap, IntKind.signed, IntKind.bits]; simp; omega
theorem wrap_succ {n : Nat} (h : n < 9223372036854775807) : IntKind.i64.wrap ((n : Int) + 1) = ((n + 1 : Nat) : Int) := by
  rw [wrap_id (by omega) (by omega)]; rfl
theorem maxLen_le : maxLen ≤ 9223372036854775807 := by decide
theorem i64_min : IntKind.min .i64 = -9223372036854775808 := by decide
theorem i64_max : IntKind.max .i64 = 9223372036854775807 := by decide
theorem ilt_t {a b : Int} (h : a < b) : ilt a b = true := by simp [ilt, h]
theorem ilt_f {a b : Int} (h : b ≤ a) : ilt a b = false := by simp [ilt, h]
theorem ieq_t {a b : Int} (h : a = b) : ieq a b = true := by simp [ieq, h]
theorem ieq_f {a b : Int} (h : a ≠ b) : ieq a b = false := by simp [ieq, h]
theorem ilt_iff {a b : Int} : ilt a b = true ↔ a < b := by simp [ilt]
theorem ilt_iff' {a b : Int} : ilt a b = false ↔ b ≤ a := by simp [ilt]
theorem ieq_iff {a b : Int} : ieq a b = true ↔ a = b := by simp [ieq]
theorem ieq_iff' {a b : Int} : ieq a b = false ↔ a ≠ b := by simp [ieq]
theorem at_ex {α : Type} {l : List α} {i : Nat} (h : i < l.length) : ∃ c, l[i]? = some c ∧ l[i] = c := ⟨_, List.getElem?_eq_getElem h, rfl⟩

theorem ieq_l1 (a b : Nat) : ieq (no_index (OfNat.ofNat a)) (no_index (OfNat.ofNat b)) = decide ((OfNat.ofNat a : Int) = OfNat.ofNat b) := by simp only [ieq]; rfl
theorem ieq_l2 (a b : Nat) : ieq (-(no_index (OfNat.ofNat a))) (no_index (OfNat.ofNat b)) = decide (-(OfNat.ofNat a : Int) = OfNat.ofNat b) := by simp only [ieq]; rfl
theorem ieq_l3 (a b : Nat) : ieq (no_index (OfNat.ofNat a)) (-(no_index (OfNat.ofNat b))) = decide ((OfNat.ofNat a : Int) = -OfNat.ofNat b) := by simp only [ieq]; rfl
theorem ieq_l4 (a b : Nat) : ieq (-(no_index (OfNat.ofNat a))) (-(no_index (OfNat.ofNat b))) = decide (-(OfNat.ofNat a : Int) = -OfNat.ofNat b) := by simp only [ieq]; rfl
theorem ilt_l1 (a b : Nat) : ilt (no_index (OfNat.ofNat a)) (no_index (OfNat.ofNat b)) = decide ((OfNat.ofNat a : Int) < OfNat.ofNat b) := rfl
theorem ilt_l2 (a b : Nat) : ilt (-(no_index (OfNat.ofNat a))) (no_index (OfNat.ofNat b)) = decide (-(OfNat.ofNat a : Int) < OfNat.ofNat b) := rfl
theorem ilt_l3 (a b : Nat) : ilt (no_index (OfNat.ofNat a)) (-(no_index (OfNat.ofNat b))) = decide ((OfNat.ofNat a : Int) < -OfNat.ofNat b) := rfl
theorem ilt_l4 (a b : Nat) : ilt (-(no_index (OfNat.ofNat a))) (-(no_index (OfNat.ofNat b))) = decide (-(OfNat.ofNat a : Int) < -OfNat.ofNat b) := rfl
theorem wrap_lit (n : Nat) (h : Nat.ble n 9223372036854775807 = true) : IntKind.i64.wrap (no_index (OfNat.ofNat n)) = OfNat.ofNat n := by
  have h0 : (0 : Int) ≤ OfNat.ofNat n := Int.natCast_nonneg n
  have h1 : ((n : Nat) : Int) ≤ 9223372036854775807 := by have := Nat.le_of_ble_eq_true h; omega
  exact wrap_id (Int.le_trans (by decide) h0) h1
theorem wrap_nlit (n : Nat) (h : Nat.ble n 9223372036854775808 = true) : IntKind.i64.wrap (-(no_index (OfNat.ofNat n))) = -OfNat.ofNat n := by
  have h0 : (0 : Int) ≤ OfNat.ofNat n := Int.natCast_nonneg n
  have h1 : ((n : Nat) : Int) ≤ 9223372036854775808 := by have := Nat.le_of_ble_eq_true h; omega
  have h2 : (OfNat.ofNat n : Int) ≤ 9223372036854775808 := h1
  exact wrap_id (by omega) (by omega)
attribute [simp] ieq_l1 ieq_l2 ieq_l3 ieq_l4 ilt_l1 ilt_l2 ilt_l3 ilt_l4 wrap_lit wrap_nlit ieq_self ilt_self

/-! ### arguments -/
def bl (b : Bool) : List V := [.bool b]
def il (n : Int) : List V := [.int .i64 n]
def unB : List V → Option Bool
  | [.bool b] => some b
  | _ => none
def unI : List V → Option Int
  | [.int .i64 n] => some n
  | _ => none
theorem unB_bl (b : Bool) : unB (bl b) = some b := rfl
theorem unI_il (n : Int) : unI (il n) = some n := rfl
theorem unB_inv : ∀ c a, unB c = some a → c = bl a := by
  intro c a h; unfold unB at h; split at h
  · cases h; rfl
  · cases h
theorem unI_inv : ∀ c a, unI c = some a → c = il a := by
  intro c a h; unfold unI at h; split at h
  · cases h; rfl
  · cases h
theorem has_int {k : IntKind} {u : V} (h : HasV (.int k) u) : ∃ n, u = .int k n ∧ k.min ≤ n ∧ n ≤ k.max := by
  simp only [HasV, HasC] at h
  obtain ⟨n, hn, h⟩ := h
  simp only [List.cons.injEq, and_true] at hn
  exact ⟨n, hn, h⟩
theorem has_i64 {u : V} (h : HasV (.int .i64) u) : ∃ n, u = .int .i64 n ∧ -9223372036854775808 ≤ n ∧ n ≤ 9223372036854775807 := by
  obtain ⟨n, h1, h2⟩ := has_int h
  rw [i64_min, i64_max] at h2
  exact ⟨n, h1, h2⟩
theorem has_bool {u : V} (h : HasV .bool u) : ∃ b, u = .bool b := by
  simp only [HasV, HasC] at h
  obtain ⟨n, hn⟩ := h
  simp only [List.cons.injEq, and_true] at hn
  exact ⟨n, hn⟩
theorem has_slice {ty : Ty} {u : V} (h : HasV (.slice ty) u) : ∃ xs, u = .list (tsz ty) xs ∧ xs.length ≤ maxLen ∧ ∀ x ∈ xs, HasC ty x := by
  simp only [HasV, HasC] at h
  obtain ⟨xs, hn, hl, hx⟩ := h
  simp only [List.cons.injEq, and_true] at hn
  exact ⟨xs, hn, hl, hx⟩
end Go.Pv
