/-
  Resampling: the law Lowest.
-/
import Derived.Test.YtnilibgafkakpaaRes8
namespace Go.Proofs.Ytnilibgafkakpaa
open Go.Pv Go.RowKit
set_option linter.unusedSimpArgs false
set_option linter.unusedVariables false
set_option maxRecDepth 100000
set_option maxHeartbeats 4000000

def gcL (n d : Int) : Int := ((Nat.gcd n.natAbs d.natAbs : Nat) : Int)
def TgcdL : List V → Option V
  | [.int .i64 a, .int .i64 b] => bif decide (-4611686018427387904 ≤ a) && (decide (a ≤ 4611686018427387904) && (decide (0 ≤ b) && decide (b ≤ 9223372036854775807))) then some (.int .i64 (gcL a b)) else none
  | _ => none
theorem gcdL_tab : ∀ vs v, TgcdL vs = some v → PCall Try.prog 15 vs v := by
  intro vs v h; unfold TgcdL at h; split at h
  · simp only [cond_eq_ite, Bool.and_eq_true, decide_eq_true_eq] at h
    split at h
    · rename_i a b hc
      obtain ⟨h1, h2, h3, h4⟩ := hc
      cases h
      obtain ⟨B, rfl⟩ := Int.eq_ofNat_of_zero_le h3
      exact gcdL_ok a B h1 h2 (by omega)
    · cases h
  · cases h
def G8 : Tab := add 15 TgcdL (G7)
theorem G8_at (f : FuncId) (vs : List V) : G8.at' f vs = if f = 15 then TgcdL vs else G7.at' f vs := rfl
theorem G8_fr (f : FuncId) : G8.fr f = if f = 15 then false else G7.fr f := rfl
attribute [simp] G8_at G8_fr TgcdL
theorem G8_ok : TabOK Try.prog G8 := by
  refine add_ok (G7_ok) (by kernel_rfl) ?_
  · exact gcdL_tab
theorem low_cop {n d : Int} (hd : 0 < d) : gcL (low n d).1 (low n d).2 = 1 := by
  have hp : 0 < Nat.gcd n.natAbs d.natAbs := Nat.gcd_pos_of_pos_right _ (by omega)
  have h := Nat.coprime_div_gcd_div_gcd hp
  simp only [gcL, low, gcdI, Int.natAbs_tdiv, Int.natAbs_natCast]
  exact congrArg Nat.cast (show Nat.gcd (n.natAbs / Nat.gcd n.natAbs d.natAbs) (d.natAbs / Nat.gcd n.natAbs d.natAbs) = 1 from h)
theorem low_mul {x d : Int} (hd : 0 < d) : low (x * d) d = (x, 1) := by
  have hg : gcdI (x * d) d = d := by
    simp only [gcdI, Int.natAbs_mul, Nat.gcd_mul_left_left]; omega
  simp only [low, hg]
  rw [Int.mul_tdiv_cancel _ (by omega), Int.tdiv_self (by omega)]
theorem low_b {n d : Int} (hd : 0 < d) : (low n d).1.natAbs ≤ n.natAbs ∧ (low n d).2 ≤ d := by
  have h1 : ((low n d).1).natAbs = n.natAbs / (gcdI n d).natAbs := by simp only [low, Int.natAbs_tdiv]; rfl
  have h2 : ((low n d).2).natAbs = d.natAbs / (gcdI n d).natAbs := by simp only [low, Int.natAbs_tdiv]; rfl
  have h3 := Nat.div_le_self n.natAbs (gcdI n d).natAbs
  have h4 := Nat.div_le_self d.natAbs (gcdI n d).natAbs
  omega
theorem li_mid {B C P Q x y : Int} (hP : 0 ≤ P) (hPQ : P ≤ Q) (hQ : 0 < Q) (hy : 0 < y) (h : x * Q = (B * Q + (C - B) * P) * y) : min B C * y ≤ x ∧ x ≤ max B C * y := by
  have e : B * Q + (C - B) * P = B * (Q - P) + C * P := by grind
  have l1 : min B C * (Q - P) ≤ B * (Q - P) := Int.mul_le_mul_of_nonneg_right (by omega) (by omega)
  have l2 : min B C * P ≤ C * P := Int.mul_le_mul_of_nonneg_right (by omega) (by omega)
  have u1 : B * (Q - P) ≤ max B C * (Q - P) := Int.mul_le_mul_of_nonneg_right (by omega) (by omega)
  have u2 : C * P ≤ max B C * P := Int.mul_le_mul_of_nonneg_right (by omega) (by omega)
  have el : min B C * (Q - P) + min B C * P = min B C * Q := by rw [← Int.mul_add]; congr 1; omega
  have eu : max B C * (Q - P) + max B C * P = max B C * Q := by rw [← Int.mul_add]; congr 1; omega
  have l3 : min B C * Q * y ≤ (B * Q + (C - B) * P) * y := Int.mul_le_mul_of_nonneg_right (by omega) (by omega)
  have u3 : (B * Q + (C - B) * P) * y ≤ max B C * Q * y := Int.mul_le_mul_of_nonneg_right (by omega) (by omega)
  rw [← h] at l3 u3
  constructor
  · refine Int.le_of_mul_le_mul_right ?_ hQ
    rw [Int.mul_right_comm]; exact l3
  · refine Int.le_of_mul_le_mul_right ?_ hQ
    rw [Int.mul_right_comm (max B C)]; exact u3
theorem lawLowest (a b c e p q : Int) : PCall Try.prog 5 [.agg [.int .i64 a, .int .i64 b, .int .i64 c, .int .i64 e], .int .i64 p, .int .i64 q] (.bool true) := by
  have hf := lf_frc p q
  have b1 := lfD_b q
  have b2 := lfN_b p q
  obtain ⟨Q, hQ⟩ : ∃ Q, lfD q = Q := ⟨_, rfl⟩
  obtain ⟨P, hP⟩ : ∃ P, lfN p q = P := ⟨_, rfl⟩
  rw [hQ] at hf b1 b2
  rw [hP] at hf b2
  have s1 := wsp_s a
  have s2 := wsp_s b
  have s3 := wsp_s c
  have s4 := wsp_s e
  have w1 := wsp_w a
  have w2 := wsp_w b
  have w3 := wsp_w c
  have w4 := wsp_w e
  have v2 := wsp_b b
  have v3 := wsp_b c
  generalize wsp a = A at *
  generalize wsp b = B at *
  generalize wsp c = C at *
  generalize wsp e = E at *
  have hli : liF B C P Q = (low (B * Q + (C - B) * P) Q, 0) := by simp [liF, hf, s2, s3]
  have hcu : cuF A B C E P Q = (low (cuS A B C E P Q) (6 * Q * Q * Q), 0) := by simp [cuF, hf, s1, s2, s3, s4]
  have hb1 := li_b hf s2 s3
  obtain ⟨hb2, k1, k2⟩ := cu_b hf s1 s2 s3 s4
  have hQ0 : 0 < Q := by omega
  have x1 := low_cop (n := B * Q + (C - B) * P) hQ0
  have x2 := low_cop (n := cuS A B C E P Q) k1
  have y1 := low_b (n := B * Q + (C - B) * P) hQ0
  have y2 := low_b (n := cuS A B C E P Q) k1
  have z1 := low_eq (n := B * Q + (C - B) * P) hQ0
  have z2 := low_eq (n := cuS A B C E P Q) k1
  have m1 := li_mid b2.1 b2.2 hQ0 z1.2.2 (low_cross (n := B * Q + (C - B) * P) hQ0)
  have e0 : P = 0 → low (B * Q + (C - B) * P) Q = (B, 1) ∧ low (cuS A B C E P Q) (6 * Q * Q * Q) = (B, 1) := by
    intro h
    have h1 : B * Q + (C - B) * P = B * Q := by rw [h]; simp
    have h2 : cuS A B C E P Q = B * (6 * Q * Q * Q) := by rw [h]; unfold cuS; grind
    rw [h1, h2]; exact ⟨low_mul hQ0, low_mul k1⟩
  have e1 : P = Q → low (B * Q + (C - B) * P) Q = (C, 1) ∧ low (cuS A B C E P Q) (6 * Q * Q * Q) = (C, 1) := by
    intro h
    have h1 : B * Q + (C - B) * P = C * Q := by rw [h]; grind
    have h2 : cuS A B C E P Q = C * (6 * Q * Q * Q) := by rw [h]; unfold cuS; grind
    rw [h1, h2]; exact ⟨low_mul hQ0, low_mul k1⟩
  have z1' := z1.2.2
  have z2' := z2.2.2
  clear z1 z2
  obtain ⟨⟨x, y⟩, hxy⟩ : ∃ x, low (B * Q + (C - B) * P) Q = x := ⟨_, rfl⟩
  obtain ⟨⟨u, v⟩, huv⟩ : ∃ x, low (cuS A B C E P Q) (6 * Q * Q * Q) = x := ⟨_, rfl⟩
  rw [hxy] at hli x1 y1 m1 z1' e0 e1
  rw [huv] at hcu x2 y2 z2' e0 e1
  simp only at x1 x2 y1 y2 m1 z1' z2'
  obtain ⟨M, hM⟩ : ∃ M, min B C = M := ⟨_, rfl⟩
  obtain ⟨X, hX⟩ : ∃ X, max B C = X := ⟨_, rfl⟩
  have i1 := mul_b (x := min B C) (y := y) (X := 16383) (Y := 1000) (by omega) (by omega)
  have i2 := mul_b (x := max B C) (y := y) (X := 16383) (Y := 1000) (by omega) (by omega)
  rw [hM] at m1 i1
  rw [hX] at m1 i2
  obtain ⟨My, hMy⟩ : ∃ My, M * y = My := ⟨_, rfl⟩
  obtain ⟨Xy, hXy⟩ : ∃ Xy, X * y = Xy := ⟨_, rfl⟩
  rw [hMy] at m1 i1
  rw [hXy] at m1 i2
  have t1 : IntKind.i64.wrap My = My := wrap_id (by omega) (by omega)
  have t2 : IntKind.i64.wrap Xy = Xy := wrap_id (by omega) (by omega)
  have f1 : ilt x My = false := ilt_f (by omega)
  have f2 : ilt Xy x = false := ilt_f (by omega)
  have f3 : ilt y 1 = false := ilt_f (by omega)
  have f4 : ilt v 1 = false := ilt_f (by omega)
  generalize hL : B * Q + (C - B) * P = L at *
  generalize hS : cuS A B C E P Q = S at *
  generalize hR : 6 * Q * Q * Q = R at *
  have q1 : -4611686018427387904 ≤ x := by omega
  have q2 : x ≤ 4611686018427387904 := by omega
  have q3 : 0 ≤ y := by omega
  have q4 : y ≤ 9223372036854775807 := by omega
  have q5 : -4611686018427387904 ≤ u := by omega
  have q6 : u ≤ 4611686018427387904 := by omega
  have q7 : 0 ≤ v := by omega
  have q8 : v ≤ 9223372036854775807 := by omega
  have qn : ¬ Q = 0 := by omega
  by_cases c0 : P = 0
  · obtain ⟨c1, c2⟩ := e0 c0
    injection c1 with c1 c1'
    injection c2 with c2 c2'
    replace c1 : ieq x B = true := ieq_t c1
    replace c1' : ieq y 1 = true := ieq_t c1'
    replace c2 : ieq u B = true := ieq_t c2
    replace c2' : ieq v 1 = true := ieq_t c2'
    have j1 : ieq P 0 = true := ieq_t c0
    have j2 : P.tdiv Q = 0 := by rw [c0]; simp
    clear hf b1 b2 s1 s2 s3 s4 v2 v3 hb1 hb2 k1 k2 hQ0 y1 y2 e0 e1 z1' z2' m1 i1 i2 hL hS hR hxy huv c0
    refine pcall_cx G8_ok mixed (fun _ => none) Try.func5 rfl Try.ntmps5 Try.results5 (by simp) (by kernel_rfl) ?_
    repeat' first
      | (refine gw_bool (fun _ => ?_) (fun _ => ?_))
      | (refine condw_bool (fun _ => ?_) (fun _ => ?_))
      | (refine lp_unroll (D := (fun _ => none)) G8_ok mixed (by kernel_rfl) ?_)
      | simp [*, vF, vI]
  · have j1 : ieq P 0 = false := ieq_f c0
    by_cases c3 : P = Q
    · obtain ⟨c1, c2⟩ := e1 c3
      injection c1 with c1 c1'
      injection c2 with c2 c2'
      replace c1 : ieq x C = true := ieq_t c1
      replace c1' : ieq y 1 = true := ieq_t c1'
      replace c2 : ieq u C = true := ieq_t c2
      replace c2' : ieq v 1 = true := ieq_t c2'
      have j2 : P.tdiv Q = 1 := by rw [c3]; exact Int.tdiv_self qn
      have j3 : ieq P Q = true := ieq_t c3
      clear hf b1 b2 s1 s2 s3 s4 v2 v3 hb1 hb2 k1 k2 hQ0 y1 y2 e0 e1 z1' z2' m1 i1 i2 hL hS hR hxy huv c0 c3
      refine pcall_cx G8_ok mixed (fun _ => none) Try.func5 rfl Try.ntmps5 Try.results5 (by simp) (by kernel_rfl) ?_
      repeat' first
        | (refine gw_bool (fun _ => ?_) (fun _ => ?_))
        | (refine condw_bool (fun _ => ?_) (fun _ => ?_))
        | (refine lp_unroll (D := (fun _ => none)) G8_ok mixed (by kernel_rfl) ?_)
        | simp [*, vF, vI]
    · have j3 : ieq P Q = false := ieq_f c3
      clear hf b1 b2 s1 s2 s3 s4 v2 v3 hb1 hb2 k1 k2 hQ0 y1 y2 e0 e1 z1' z2' m1 i1 i2 hL hS hR hxy huv c0 c3
      refine pcall_cx G8_ok mixed (fun _ => none) Try.func5 rfl Try.ntmps5 Try.results5 (by simp) (by kernel_rfl) ?_
      repeat' first
        | (refine gw_bool (fun _ => ?_) (fun _ => ?_))
        | (refine condw_bool (fun _ => ?_) (fun _ => ?_))
        | (refine lp_unroll (D := (fun _ => none)) G8_ok mixed (by kernel_rfl) ?_)
        | simp [*, vF, vI]
end Go.Proofs.Ytnilibgafkakpaa
