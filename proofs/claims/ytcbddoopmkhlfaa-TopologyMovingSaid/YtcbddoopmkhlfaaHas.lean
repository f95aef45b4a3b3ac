/-
  Reading diagrams and positions out of arguments.
-/
import Derived.Test.YtcbddoopmkhlfaaSt22
namespace Go.Proofs.Ytcbddoopmkhlfaa
open Go.Pv Go.RowKit
set_option linter.unusedSimpArgs false
set_option linter.unusedVariables false

theorem has_lk {cs : List V} (h : HasC (.struct [.int .i64, .int .i64]) cs) : ∃ x : Lk, cs = x.cs := by
  simp only [HasL, HasC] at h
  obtain ⟨_, _, rfl, ⟨a, rfl, _⟩, _, _, rfl, ⟨b, rfl, _⟩, rfl⟩ := h
  exact ⟨⟨a, b⟩, rfl⟩
theorem has_s1 {cs : List V} (h : HasC .str cs) : ∃ x : ByteArray, cs = s1 x := by
  simp only [HasC] at h
  obtain ⟨a, rfl, _⟩ := h
  exact ⟨a, rfl⟩
theorem has_b1 {cs : List V} (h : HasC .bool cs) : ∃ x : Bool, cs = b1 x := by
  simp only [HasC] at h
  obtain ⟨a, rfl⟩ := h
  exact ⟨a, rfl⟩
theorem has_i1 {cs : List V} (h : HasC (.int .i64) cs) : ∃ x : Int, cs = i1 x := by
  simp only [HasC] at h
  obtain ⟨a, rfl, _⟩ := h
  exact ⟨a, rfl⟩
theorem has_row {cs : List V} (h : HasC (.slice (.int .i64)) cs) : ∃ x : List Int, cs = r1 x ∧ x.length ≤ maxLen := by
  simp only [HasC] at h
  obtain ⟨xs, rfl, hl, hx⟩ := h
  obtain ⟨l, rfl⟩ := rows_of (enc := i1) fun x hx2 => has_i1 (by simpa only [HasC] using hx x hx2)
  exact ⟨l, rfl, by simpa using hl⟩
theorem has_pos {u : V} (h : HasV (.struct [.slice .bool, .slice (.slice (.int .i64))]) u) : ∃ p : Pos, u = .agg p.cs ∧ (∀ l ∈ p.lk, l.length ≤ maxLen) ∧ p.cl.length ≤ maxLen ∧ p.lk.length ≤ maxLen := by
  have h' : ∃ cs, u = .agg cs ∧ HasL [.slice .bool, .slice (.slice (.int .i64))] cs := by simpa only [HasV] using h
  clear h
  obtain ⟨cs, rfl, h⟩ := h'
  unfold HasL at h
  obtain ⟨a, b, rfl, ha, h⟩ := h
  unfold HasL at h
  obtain ⟨a2, b2, rfl, ha2, h⟩ := h
  unfold HasL at h
  subst h
  unfold HasC at ha ha2
  obtain ⟨xs, rfl, hl1, hx1⟩ := ha
  obtain ⟨ys, rfl, hl2, hx2⟩ := ha2
  obtain ⟨c, rfl⟩ := rows_of (enc := b1) fun x hx => has_b1 (hx1 x hx)
  obtain ⟨l, rfl⟩ := rows_of (enc := r1) fun x hx => by obtain ⟨y, hy, _⟩ := has_row (hx2 x hx); exact ⟨y, hy⟩
  refine ⟨⟨c, l⟩, rfl, fun y hy => ?_, by simpa using hl1, by simpa using hl2⟩
  obtain ⟨z, hz, hzl⟩ := has_row (hx2 (r1 y) (List.mem_map.2 ⟨y, hy, rfl⟩))
  have : y = z := by
    have := unR1_cs y
    rw [hz, unR1_cs] at this
    exact (Option.some.inj this).symm
  rw [this]; exact hzl
theorem has_ln {cs : List V} (h : HasC (.struct [.str, .struct [.int .i64, .int .i64], .struct [.int .i64, .int .i64]]) cs) : ∃ x : Ln, cs = x.cs := by
  simp only [HasL, HasC] at h
  obtain ⟨_, _, rfl, ⟨nm, rfl, _⟩, _, _, rfl, ⟨_, _, rfl, ⟨a, rfl, _⟩, _, _, rfl, ⟨b, rfl, _⟩, rfl⟩, _, _, rfl, ⟨_, _, rfl, ⟨c, rfl, _⟩, _, _, rfl, ⟨d, rfl, _⟩, rfl⟩, rfl⟩ := h
  exact ⟨⟨nm, a, b, c, d⟩, rfl⟩
theorem has_sr {cs : List V} (h : HasC (.struct [.str, .int .i64, .struct [.int .i64, .int .i64], .struct [.int .i64, .int .i64]]) cs) : ∃ x : Sr, cs = x.cs := by
  simp only [HasL, HasC] at h
  obtain ⟨_, _, rfl, ⟨nm, rfl, _⟩, _, _, rfl, ⟨e, rfl, _⟩, _, _, rfl, ⟨_, _, rfl, ⟨a, rfl, _⟩, _, _, rfl, ⟨b, rfl, _⟩, rfl⟩, _, _, rfl, ⟨_, _, rfl, ⟨c, rfl, _⟩, _, _, rfl, ⟨d, rfl, _⟩, rfl⟩, rfl⟩ := h
  exact ⟨⟨nm, e, a, b, c, d⟩, rfl⟩
theorem has_byL {cs : List V} (h : HasC (.struct [.str, .int .i64, .int .i64, .int .i64, .struct [.int .i64, .int .i64], .slice (.struct [.int .i64, .int .i64]), .bool, .int .i64, .int .i64, .int .i64, .int .i64]) cs) : ∃ x : By, cs = x.cs ∧ x.lks.length ≤ maxLen := by
  simp only [HasL, HasC] at h
  obtain ⟨_, _, rfl, ⟨nm, rfl, _⟩, _, _, rfl, ⟨k, rfl, _⟩, _, _, rfl, ⟨o, rfl, _⟩, _, _, rfl, ⟨en, rfl, _⟩, _, _, rfl, ⟨_, _, rfl, ⟨a, rfl, _⟩, _, _, rfl, ⟨b, rfl, _⟩, rfl⟩, _, _, rfl, ⟨xs, rfl, hxl, hx⟩, _, _, rfl, ⟨cl, rfl⟩, _, _, rfl, ⟨ct, rfl, _⟩, _, _, rfl, ⟨vt, rfl, _⟩, _, _, rfl, ⟨sa, rfl, _⟩, _, _, rfl, ⟨tr, rfl, _⟩, rfl⟩ := h
  obtain ⟨l, rfl⟩ := rows_of (enc := Lk.cs) (xs := xs) fun x hx2 => has_lk (by simpa only [HasL, HasC] using hx x hx2)
  exact ⟨⟨nm, k, o, en, a, b, l, cl, ct, vt, sa, tr⟩, rfl, by simpa using hxl⟩
theorem has_stnL {u : V} (h : HasV (.struct [.str, .slice .str, .slice (.struct [.str, .struct [.int .i64, .int .i64], .struct [.int .i64, .int .i64]]), .slice (.struct [.str, .int .i64, .struct [.int .i64, .int .i64], .struct [.int .i64, .int .i64]]), .slice (.struct [.str, .int .i64, .int .i64, .int .i64, .struct [.int .i64, .int .i64], .slice (.struct [.int .i64, .int .i64]), .bool, .int .i64, .int .i64, .int .i64, .int .i64])]) u) : ∃ s : Stn, u = .agg s.cs ∧ s.qs.length ≤ maxLen ∧ s.bs.length ≤ maxLen ∧ lkB s = true := by
  have h' : ∃ cs, u = .agg cs ∧ HasL [.str, .slice .str, .slice (.struct [.str, .struct [.int .i64, .int .i64], .struct [.int .i64, .int .i64]]), .slice (.struct [.str, .int .i64, .struct [.int .i64, .int .i64], .struct [.int .i64, .int .i64]]), .slice (.struct [.str, .int .i64, .int .i64, .int .i64, .struct [.int .i64, .int .i64], .slice (.struct [.int .i64, .int .i64]), .bool, .int .i64, .int .i64, .int .i64, .int .i64])] cs := by simpa only [HasV] using h
  clear h
  obtain ⟨cs, rfl, h⟩ := h'
  unfold HasL at h
  obtain ⟨a1, b1, rfl, ha1, h⟩ := h
  unfold HasL at h
  obtain ⟨a2, b2, rfl, ha2, h⟩ := h
  unfold HasL at h
  obtain ⟨a3, b3, rfl, ha3, h⟩ := h
  unfold HasL at h
  obtain ⟨a4, b4, rfl, ha4, h⟩ := h
  unfold HasL at h
  obtain ⟨a5, b5, rfl, ha5, h⟩ := h
  unfold HasL at h
  subst h
  unfold HasC at ha1 ha2 ha3 ha4 ha5
  obtain ⟨nm, rfl, _⟩ := ha1
  obtain ⟨x2, rfl, hl2, hx2⟩ := ha2
  obtain ⟨x3, rfl, _, hx3⟩ := ha3
  obtain ⟨x4, rfl, _, hx4⟩ := ha4
  obtain ⟨x5, rfl, hl5, hx5⟩ := ha5
  obtain ⟨bs, rfl⟩ := rows_of (enc := s1) fun x hx => has_s1 (hx2 x hx)
  obtain ⟨ls, rfl⟩ := rows_of (enc := Ln.cs) fun x hx => has_ln (hx3 x hx)
  obtain ⟨ss, rfl⟩ := rows_of (enc := Sr.cs) fun x hx => has_sr (hx4 x hx)
  obtain ⟨qs, rfl⟩ := rows_of (enc := By.cs) fun x hx => by obtain ⟨y, hy, _⟩ := has_byL (hx5 x hx); exact ⟨y, hy⟩
  refine ⟨⟨nm, bs, ls, ss, qs⟩, rfl, by simpa using hl5, by simpa using hl2, List.all_eq_true.2 fun q hq => ?_⟩
  obtain ⟨z, hz, hzl⟩ := has_byL (hx5 q.cs (List.mem_map.2 ⟨q, hq, rfl⟩))
  have : q = z := by
    have := unBy_cs q
    rw [hz, unBy_cs] at this
    exact (Option.some.inj this).symm
  have hm : maxLen = 9223372036854775807 := by decide
  rw [this]; simp only [decide_eq_true_eq]; rw [← hm]; exact hzl
end Go.Proofs.Ytcbddoopmkhlfaa
