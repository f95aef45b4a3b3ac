/-
  The targets of several failures: the plain law.
-/
import Derived.Test.YtcbddoopmkhlfaaSt15
import Derived.Test.YtcbddoopmkhlfaaExam
namespace Go.Proofs.Ytcbddoopmkhlfaa
open Go.Pv Go.RowKit
set_option linter.unusedSimpArgs false
set_option linter.unusedVariables false
set_option maxRecDepth 100000
set_option maxHeartbeats 2000000
attribute [-simp] Tclo_at Tgrp_at Tchk Tpchk TcI TcB Tclo Tgrp Tsid Tnod Tlook Tbnd Tres TSd TBd

/-! ### the plain law -/
theorem markL_at (ks : List Int) (hk : ∀ x ∈ ks, ∃ u : Nat, x = u) : ∀ (t : List Bool) (k : Nat) (b : Bool), t[k]? = some b → (markL t ks)[k]? = some (b || ks.contains (k : Int)) := by
  induction ks with
  | nil => intro t k b h; simpa [markL] using h
  | cons x ks ih =>
    intro t k b h
    obtain ⟨u, rfl⟩ := hk x (by simp)
    show (markL (t.set u true) ks)[k]? = _
    obtain ⟨hl, hb⟩ := get_of h
    by_cases e : u = k
    · subst e
      rw [ih (fun y hy => hk y (by simp [hy])) _ _ true (by rw [List.getElem?_set]; simp [hl])]
      simp
    · rw [ih (fun y hy => hk y (by simp [hy])) _ _ b (by rw [List.getElem?_set]; simp [e, h])]
      have e2 : ¬ ((k : Int) = (u : Int)) := by omega
      simp [List.contains_cons, e2]
theorem rowK_nat (s : Stn) (q : Pos) (i : Nat) : ∀ x ∈ rowK s q i, ∃ u : Nat, x = u := by
  intro x hx
  have hb : ∀ o, x ∈ bK s q o → ∃ u : Nat, x = u := fun o ho => by
    obtain ⟨j, hj, rfl⟩ := List.mem_iff_getElem.1 ho
    obtain ⟨u, hu, _⟩ := bK_in (List.getElem?_eq_getElem hj)
    exact ⟨u, hu⟩
  unfold rowK at hx
  split at hx
  · rcases List.mem_append.1 hx with h | h
    · unfold ifK at h; split at h
      · exact hb _ h
      · simp at h
    · unfold ifK at h; split at h
      · exact hb _ h
      · simp at h
  · simp at hx
def hitK (s : Stn) (q : Pos) (i k : Nat) : Bool := (rowK s q i).contains (k : Int)
def anyK (s : Stn) (q : Pos) (f : List Bool) (m k : Nat) : Bool := (List.range m).any fun i => fl f i && hitK s q i k
theorem tgN_at (s : Stn) (q : Pos) (f : List Bool) : ∀ (m k : Nat), k < s.qs.length → (tgN s q f m)[k]? = some (anyK s q f m k)
  | 0, k, h => by simp [tgN, anyK, h]
  | m + 1, k, h => by
    have ih := tgN_at s q f m k h
    have e : anyK s q f (m + 1) k = (anyK s q f m k || (fl f m && hitK s q m k)) := by simp [anyK, List.range_succ]
    rw [e]
    unfold tgN
    split
    · rename_i hf
      rw [markL_at _ (rowK_nat s q m) _ _ _ ih, hf]; simp [hitK]
    · rename_i hf
      rw [ih]; simp [hf]
def oneF (f : List Bool) (n i : Nat) : List Bool := (List.replicate n false).set i (fl f i)
theorem fl_one (f : List Bool) {n i : Nat} (hi : i < n) (j : Nat) : fl (oneF f n i) j = (decide (i = j) && fl f i) := by
  unfold fl oneF
  rw [List.getElem?_set]
  by_cases e : i = j
  · subst e; simp [hi, fl]
  · simp only [e, decide_false, Bool.false_and, if_false]
    rw [List.getElem?_replicate]
    split <;> rfl
theorem any_one (s : Stn) (q : Pos) (f : List Bool) {n i : Nat} (hi : i < n) (k : Nat) : anyK s q (oneF f n i) n k = (fl f i && hitK s q i k) := by
  unfold anyK
  rw [Bool.eq_iff_iff, List.any_eq_true]
  constructor
  · rintro ⟨j, hj, h⟩
    rw [fl_one f hi] at h
    simp only [Bool.and_eq_true, decide_eq_true_eq] at h
    obtain ⟨⟨rfl, h1⟩, h2⟩ := h
    simp [h1, h2]
  · intro h
    refine ⟨i, by simpa using hi, ?_⟩
    rw [fl_one f hi]; simpa using h
/-- What the law adds up. -/
def sumF (s : Stn) (q : Pos) (f : List Bool) (m : Nat) : List Bool := (List.range s.qs.length).map (anyK s q f m)
/-- Half way through a round. -/
def sumH (s : Stn) (q : Pos) (f : List Bool) (m j : Nat) : List Bool := (List.range s.qs.length).map fun k => anyK s q f m k || (decide (k < j) && (fl f m && hitK s q m k))
theorem sumF_len (s : Stn) (q : Pos) (f : List Bool) (m : Nat) : (sumF s q f m).length = s.qs.length := by simp [sumF]
theorem sumH_len (s : Stn) (q : Pos) (f : List Bool) (m j : Nat) : (sumH s q f m j).length = s.qs.length := by simp [sumH]
theorem sumF_zero (s : Stn) (q : Pos) (f : List Bool) : sumF s q f 0 = List.replicate s.qs.length false := by
  apply List.ext_getElem
  · simp [sumF]
  · intro i h1 h2; simp [sumF, anyK]
theorem sumH_zero (s : Stn) (q : Pos) (f : List Bool) (m : Nat) : sumH s q f m 0 = sumF s q f m := by simp [sumH, sumF]
theorem sumH_end (s : Stn) (q : Pos) (f : List Bool) (m : Nat) : sumH s q f m s.qs.length = sumF s q f (m + 1) := by
  unfold sumH sumF
  apply List.map_congr_left
  intro k hk
  have hk : k < s.qs.length := by simpa using hk
  simp [hk, anyK, List.range_succ]
theorem sumH_at {s : Stn} {q : Pos} {f : List Bool} {m j : Nat} (h : j < s.qs.length) : (sumH s q f m j)[j]? = some (anyK s q f m j) := by simp [sumH, h]
theorem sumH_step {s : Stn} {q : Pos} {f : List Bool} {m j : Nat} (h : j < s.qs.length) : sumH s q f m (j + 1) = (sumH s q f m j).set j (anyK s q f m j || (fl f m && hitK s q m j)) := by
  apply List.ext_getElem?
  intro k
  rw [List.getElem?_set]
  by_cases e : j = k
  · subst e; simp [sumH, h]
  · simp only [e, if_false]
    by_cases hk : k < s.qs.length
    · simp only [sumH, List.getElem?_map, List.getElem?_range hk, Option.map_some]
      congr 3
      have : (k < j + 1) ↔ (k < j) := by omega
      simp [this]
    · simp [sumH, List.getElem?_map, hk]
theorem tg_one {s : Stn} {p : Pos} {f : List Bool} {i j : Nat} (hok : okP s p = true) (hi : i < s.qs.length) (hj : j < s.qs.length) : (tgtF s p (oneF f s.qs.length i))[j]? = some (fl f i && hitK s (resP p true) i j) := by
  have hl : (oneF f s.qs.length i).length = s.qs.length := by simp [oneF]
  simp only [tgtF, hok, hl, and_self, if_true]
  rw [tgN_at _ _ _ _ _ hj, any_one _ _ _ hi]
theorem tgt_len {s : Stn} {p : Pos} {f : List Bool} (hok : okP s p = true) (hf : f.length = s.qs.length) : (tgtF s p f).length = s.qs.length := by simp only [tgtF, hok, hf, and_self, if_true]; exact tgN_len _ _ _ _
theorem tgt_sum {s : Stn} {p : Pos} {f : List Bool} (hok : okP s p = true) (hf : f.length = s.qs.length) : tgtF s p f = sumF s (resP p true) f s.qs.length := by
  simp only [tgtF, hok, hf, and_self, if_true]
  apply List.ext_getElem?
  intro k
  by_cases hk : k < s.qs.length
  · rw [tgN_at _ _ _ _ _ hk]; simp [sumF, hk]
  · rw [List.getElem?_eq_none (by rw [tgN_len]; omega), List.getElem?_eq_none (by rw [sumF_len]; omega)]
theorem tgt_bad {s : Stn} {p : Pos} {f : List Bool} (h : okP s p = false) : tgtF s p f = [] := by simp [tgtF, h]
/-! ### what the arguments are -/
def tyZ : Ty := .struct [.int .i64, .int .i64]
theorem has_lk {cs : List V} (h : HasC (.struct [.int .i64, .int .i64]) cs) : ∃ x : Lk, cs = x.cs := by
  simp only [HasL, HasC] at h
  obtain ⟨_, _, rfl, ⟨a, rfl, _⟩, _, _, rfl, ⟨b, rfl, _⟩, rfl⟩ := h
  exact ⟨⟨a, b⟩, rfl⟩
theorem has_s1 {cs : List V} (h : HasC .str cs) : ∃ x : ByteArray, cs = s1 x := by
  simp only [HasC] at h
  obtain ⟨a, rfl, _⟩ := h
  exact ⟨a, rfl⟩
theorem has_b1 {cs : List V} (h : HasC .bool cs) : ∃ x : Bool, cs = b1 x := by
  simp only [HasC] at h
  obtain ⟨a, rfl⟩ := h
  exact ⟨a, rfl⟩
theorem has_i1 {cs : List V} (h : HasC (.int .i64) cs) : ∃ x : Int, cs = i1 x := by
  simp only [HasC] at h
  obtain ⟨a, rfl, _⟩ := h
  exact ⟨a, rfl⟩
theorem has_row {cs : List V} (h : HasC (.slice (.int .i64)) cs) : ∃ x : List Int, cs = r1 x ∧ x.length ≤ maxLen := by
  simp only [HasC] at h
  obtain ⟨xs, rfl, hl, hx⟩ := h
  obtain ⟨l, rfl⟩ := rows_of (enc := i1) fun x hx2 => has_i1 (by simpa only [HasC] using hx x hx2)
  exact ⟨l, rfl, by simpa using hl⟩
theorem has_pos {u : V} (h : HasV (.struct [.slice .bool, .slice (.slice (.int .i64))]) u) : ∃ p : Pos, u = .agg p.cs ∧ (∀ l ∈ p.lk, l.length ≤ maxLen) ∧ p.cl.length ≤ maxLen ∧ p.lk.length ≤ maxLen := by
  have h' : ∃ cs, u = .agg cs ∧ HasL [.slice .bool, .slice (.slice (.int .i64))] cs := by simpa only [HasV] using h
  clear h
  obtain ⟨cs, rfl, h⟩ := h'
  unfold HasL at h
  obtain ⟨a, b, rfl, ha, h⟩ := h
  unfold HasL at h
  obtain ⟨a2, b2, rfl, ha2, h⟩ := h
  unfold HasL at h
  subst h
  unfold HasC at ha ha2
  obtain ⟨xs, rfl, hl1, hx1⟩ := ha
  obtain ⟨ys, rfl, hl2, hx2⟩ := ha2
  obtain ⟨c, rfl⟩ := rows_of (enc := b1) fun x hx => has_b1 (hx1 x hx)
  obtain ⟨l, rfl⟩ := rows_of (enc := r1) fun x hx => by obtain ⟨y, hy, _⟩ := has_row (hx2 x hx); exact ⟨y, hy⟩
  refine ⟨⟨c, l⟩, rfl, fun y hy => ?_, by simpa using hl1, by simpa using hl2⟩
  obtain ⟨z, hz, hzl⟩ := has_row (hx2 (r1 y) (List.mem_map.2 ⟨y, hy, rfl⟩))
  have : y = z := by
    have := unR1_cs y
    rw [hz, unR1_cs] at this
    exact (Option.some.inj this).symm
  rw [this]; exact hzl
theorem has_ln {cs : List V} (h : HasC (.struct [.str, .struct [.int .i64, .int .i64], .struct [.int .i64, .int .i64]]) cs) : ∃ x : Ln, cs = x.cs := by
  simp only [HasL, HasC] at h
  obtain ⟨_, _, rfl, ⟨nm, rfl, _⟩, _, _, rfl, ⟨_, _, rfl, ⟨a, rfl, _⟩, _, _, rfl, ⟨b, rfl, _⟩, rfl⟩, _, _, rfl, ⟨_, _, rfl, ⟨c, rfl, _⟩, _, _, rfl, ⟨d, rfl, _⟩, rfl⟩, rfl⟩ := h
  exact ⟨⟨nm, a, b, c, d⟩, rfl⟩
theorem has_sr {cs : List V} (h : HasC (.struct [.str, .int .i64, .struct [.int .i64, .int .i64], .struct [.int .i64, .int .i64]]) cs) : ∃ x : Sr, cs = x.cs := by
  simp only [HasL, HasC] at h
  obtain ⟨_, _, rfl, ⟨nm, rfl, _⟩, _, _, rfl, ⟨e, rfl, _⟩, _, _, rfl, ⟨_, _, rfl, ⟨a, rfl, _⟩, _, _, rfl, ⟨b, rfl, _⟩, rfl⟩, _, _, rfl, ⟨_, _, rfl, ⟨c, rfl, _⟩, _, _, rfl, ⟨d, rfl, _⟩, rfl⟩, rfl⟩ := h
  exact ⟨⟨nm, e, a, b, c, d⟩, rfl⟩
theorem has_by {cs : List V} (h : HasC (.struct [.str, .int .i64, .int .i64, .int .i64, .struct [.int .i64, .int .i64], .slice (.struct [.int .i64, .int .i64]), .bool, .int .i64, .int .i64, .int .i64, .int .i64]) cs) : ∃ x : By, cs = x.cs := by
  simp only [HasL, HasC] at h
  obtain ⟨_, _, rfl, ⟨nm, rfl, _⟩, _, _, rfl, ⟨k, rfl, _⟩, _, _, rfl, ⟨o, rfl, _⟩, _, _, rfl, ⟨en, rfl, _⟩, _, _, rfl, ⟨_, _, rfl, ⟨a, rfl, _⟩, _, _, rfl, ⟨b, rfl, _⟩, rfl⟩, _, _, rfl, ⟨xs, rfl, _, hx⟩, _, _, rfl, ⟨cl, rfl⟩, _, _, rfl, ⟨ct, rfl, _⟩, _, _, rfl, ⟨vt, rfl, _⟩, _, _, rfl, ⟨sa, rfl, _⟩, _, _, rfl, ⟨tr, rfl, _⟩, rfl⟩ := h
  obtain ⟨l, rfl⟩ := rows_of (enc := Lk.cs) (xs := xs) fun x hx2 => has_lk (by simpa only [HasL, HasC] using hx x hx2)
  exact ⟨⟨nm, k, o, en, a, b, l, cl, ct, vt, sa, tr⟩, rfl⟩
theorem has_stn {u : V} (h : HasV (.struct [.str, .slice .str, .slice (.struct [.str, .struct [.int .i64, .int .i64], .struct [.int .i64, .int .i64]]), .slice (.struct [.str, .int .i64, .struct [.int .i64, .int .i64], .struct [.int .i64, .int .i64]]), .slice (.struct [.str, .int .i64, .int .i64, .int .i64, .struct [.int .i64, .int .i64], .slice (.struct [.int .i64, .int .i64]), .bool, .int .i64, .int .i64, .int .i64, .int .i64])]) u) : ∃ s : Stn, u = .agg s.cs ∧ s.qs.length ≤ maxLen ∧ s.bs.length ≤ maxLen := by
  have h' : ∃ cs, u = .agg cs ∧ HasL [.str, .slice .str, .slice (.struct [.str, .struct [.int .i64, .int .i64], .struct [.int .i64, .int .i64]]), .slice (.struct [.str, .int .i64, .struct [.int .i64, .int .i64], .struct [.int .i64, .int .i64]]), .slice (.struct [.str, .int .i64, .int .i64, .int .i64, .struct [.int .i64, .int .i64], .slice (.struct [.int .i64, .int .i64]), .bool, .int .i64, .int .i64, .int .i64, .int .i64])] cs := by simpa only [HasV] using h
  clear h
  obtain ⟨cs, rfl, h⟩ := h'
  unfold HasL at h
  obtain ⟨a1, b1, rfl, ha1, h⟩ := h
  unfold HasL at h
  obtain ⟨a2, b2, rfl, ha2, h⟩ := h
  unfold HasL at h
  obtain ⟨a3, b3, rfl, ha3, h⟩ := h
  unfold HasL at h
  obtain ⟨a4, b4, rfl, ha4, h⟩ := h
  unfold HasL at h
  obtain ⟨a5, b5, rfl, ha5, h⟩ := h
  unfold HasL at h
  subst h
  unfold HasC at ha1 ha2 ha3 ha4 ha5
  obtain ⟨nm, rfl, _⟩ := ha1
  obtain ⟨x2, rfl, hl2, hx2⟩ := ha2
  obtain ⟨x3, rfl, _, hx3⟩ := ha3
  obtain ⟨x4, rfl, _, hx4⟩ := ha4
  obtain ⟨x5, rfl, hl5, hx5⟩ := ha5
  obtain ⟨bs, rfl⟩ := rows_of (enc := s1) fun x hx => has_s1 (hx2 x hx)
  obtain ⟨ls, rfl⟩ := rows_of (enc := Ln.cs) fun x hx => has_ln (hx3 x hx)
  obtain ⟨ss, rfl⟩ := rows_of (enc := Sr.cs) fun x hx => has_sr (hx4 x hx)
  obtain ⟨qs, rfl⟩ := rows_of (enc := By.cs) fun x hx => has_by (hx5 x hx)
  exact ⟨⟨nm, bs, ls, ss, qs⟩, rfl, by simpa using hl5, by simpa using hl2⟩
end Go.Proofs.Ytcbddoopmkhlfaa
