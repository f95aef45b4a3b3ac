/-
  Frequency: a repeated cycle (plain).
-/
import Derived.Test.YtacmchjaldljjaaLaw1
namespace Go.Proofs.Ytacmchjaldljjaa
open Go.Pv Go.RowKit
set_option linter.unusedSimpArgs false
set_option linter.unusedVariables false
set_option maxRecDepth 100000
set_option maxHeartbeats 4000000

def upC (c : List Int) (k : Nat) : Bool := ilt (c.getD k 0) 0 && !ilt (c.getD ((k + 1) % c.length) 0) 0
def cycF (c : List Int) (i : Nat) : Int := c.getD (i % c.length) 0
def cntC (c : List Int) (k : Nat) : Nat := ((List.range k).filter (upC c)).length
theorem cntC_t {c : List Int} {k : Nat} (h : upC c k = true) : cntC c (k + 1) = cntC c k + 1 := by
  simp [cntC, List.range_succ, List.filter_append, h]
theorem cntC_f {c : List Int} {k : Nat} (h : upC c k = false) : cntC c (k + 1) = cntC c k := by
  simp [cntC, List.range_succ, List.filter_append, h]
theorem cnt_one {c : List Int} (h : cntC c c.length = 1) : ∃ k0, k0 < c.length ∧ ∀ k, k < c.length → (upC c k = true ↔ k = k0) := by
  unfold cntC at h
  obtain ⟨k0, hk⟩ := List.length_eq_one_iff.1 h
  have hm : ∀ k, k ∈ (List.range c.length).filter (upC c) ↔ k = k0 := fun k => by rw [hk]; simp
  have h0 := (hm k0).2 rfl
  simp only [List.mem_filter, List.mem_range] at h0 hm
  exact ⟨k0, h0.1, fun k hk' => ⟨fun hu => (hm k).1 ⟨hk', hu⟩, fun e => by rw [e]; exact h0.2⟩⟩
def ptsTo (k0 n : Nat) (N D : Int) (m : Nat) : List Pt := (List.range m).map fun j => ⟨((k0 + j * n : Nat) : Int), N, D⟩
theorem ptsTo_succ (k0 n : Nat) (N D : Int) (m : Nat) : ptsTo k0 n N D (m + 1) = ptsTo k0 n N D m ++ [⟨((k0 + m * n : Nat) : Int), N, D⟩] := by simp [ptsTo, List.range_succ]
theorem cyc_next {n i : Nat} (hn : 0 < n) : (i + 1) % n = (i % n + 1) % n := by
  rw [Nat.add_mod i 1 n, Nat.add_mod (i % n) 1 n, Nat.mod_mod]
theorem cyc_crs {c : List Int} {k0 T : Nat} (hn : 2 ≤ c.length) (hk0 : k0 < c.length) (hu : ∀ k, k < c.length → (upC c k = true ↔ k = k0)) :
    ∀ M, M + 1 ≤ T → ∃ a b, M = a * c.length + b ∧ b < c.length ∧ crsN (ilst (cycF c) T) M =
      ptsTo k0 c.length (low (-(c.getD k0 0)) (c.getD ((k0 + 1) % c.length) 0 - c.getD k0 0)).1 (low (-(c.getD k0 0)) (c.getD ((k0 + 1) % c.length) 0 - c.getD k0 0)).2 (if k0 < b then a + 1 else a) := by
  obtain ⟨n, hcn⟩ : ∃ n, c.length = n := ⟨_, rfl⟩
  simp only [hcn] at hn hk0 hu ⊢
  intro M
  induction M with
  | zero => intro _; exact ⟨0, 0, by simp, by omega, by simp [crsN, ptsTo]⟩
  | succ M ih =>
    intro hM
    obtain ⟨a, b, hab, hb, hc⟩ := ih (by omega)
    have hmod : M % n = b := by rw [hab, Nat.mul_comm, Nat.mul_add_mod, Nat.mod_eq_of_lt hb]
    have g1 : (ilst (cycF c) T).getD M 0 = c.getD b 0 := by rw [ilst_getD _ (by omega), cycF, hcn, hmod]
    have g2 : (ilst (cycF c) T).getD (M + 1) 0 = c.getD ((b + 1) % n) 0 := by rw [ilst_getD _ (by omega), cycF, hcn, cyc_next (by omega), hmod]
    have hup : upAt (ilst (cycF c) T) M = upC c b := by rw [upAt, g1, g2, upC, hcn]
    have hnext : ∃ a' b', M + 1 = a' * n + b' ∧ b' < n ∧ ((b + 1 < n ∧ a' = a ∧ b' = b + 1) ∨ (b + 1 = n ∧ a' = a + 1 ∧ b' = 0)) := by
      by_cases h : b + 1 < n
      · exact ⟨a, b + 1, by omega, h, .inl ⟨h, rfl, rfl⟩⟩
      · exact ⟨a + 1, 0, by rw [Nat.succ_mul]; omega, by omega, .inr ⟨by omega, rfl, rfl⟩⟩
    obtain ⟨a', b', e1, e2, e3⟩ := hnext
    refine ⟨a', b', e1, e2, ?_⟩
    by_cases hbk : b = k0
    · have hut : upAt (ilst (cycF c) T) M = true := by rw [hup]; exact (hu b hb).2 hbk
      rw [crsN_t hut, hc, if_neg (by omega)]
      have : (if k0 < b' then a' + 1 else a') = a + 1 := by
        rcases e3 with ⟨_, rfl, rfl⟩ | ⟨_, rfl, rfl⟩
        · rw [if_pos (by omega)]
        · rw [if_neg (by omega)]
      rw [this, ptsTo_succ]
      congr 2
      simp only [ptAt, g1, g2, hbk]
      congr 1
      rw [hab, hbk]; congr 1; omega
    · have huf : upAt (ilst (cycF c) T) M = false := by
        rw [hup]
        cases h : upC c b
        · rfl
        · exact absurd ((hu b hb).1 h) hbk
      rw [crsN_f huf, hc]
      congr 1
      rcases e3 with ⟨_, rfl, rfl⟩ | ⟨h1, rfl, rfl⟩
      · by_cases h : k0 < b
        · rw [if_pos h, if_pos (by omega)]
        · rw [if_neg h, if_neg (by omega)]
      · rw [if_pos (by omega), if_neg (by omega)]
theorem cyc_per {c : List Int} {t : Nat} (hn : 2 ≤ c.length) (hn2 : c.length ≤ 60) (ht : t = 3 ∨ t = 4) (hok : okS c = true) (h1 : cntC c c.length = 1) : okS (ilst (cycF c) (t * c.length)) = true ∧ perF (ilst (cycF c) (t * c.length)) = ((((c.length : Nat) : Int), 1), 0) := by
  obtain ⟨k0, hk0, hu⟩ := cnt_one h1
  have hT : t * c.length ≤ 240 := by rcases ht with rfl | rfl <;> omega
  have hT2 : 2 * c.length ≤ t * c.length := by rcases ht with rfl | rfl <;> omega
  have hokX : okS (ilst (cycF c) (t * c.length)) = true := okS_ilst hT fun i => by
    obtain ⟨x, hx, _⟩ := at_ex (show i % c.length < c.length from Nat.mod_lt _ (by omega))
    rw [cycF, gD hx]; exact okS_at hok hx
  refine ⟨hokX, ?_⟩
  obtain ⟨a, b, hab, hb, hc⟩ := cyc_crs (T := t * c.length) hn hk0 hu (t * c.length - 1) (by omega)
  obtain ⟨n, hcn⟩ : ∃ n, c.length = n := ⟨_, rfl⟩
  have hcrs : crs (ilst (cycF c) (t * c.length)) = crsN (ilst (cycF c) (t * c.length)) (t * c.length - 1) := by rw [crs, ilst_len]
  rw [hc] at hcrs
  have hab' : a = t - 1 ∧ b = n - 1 := by
    rw [hcn] at hab hb hT2 hn
    have e : (a + 1) * n ≤ t * n ∧ t * n < (a + 2) * n := by
      constructor
      · rcases Nat.lt_or_ge t (a + 1) with h | h
        · exfalso
          have := Nat.mul_le_mul_right n (show t ≤ a by omega)
          omega
        · exact Nat.mul_le_mul_right n h
      · rw [Nat.add_mul]; omega
    have h1 : a + 1 ≤ t := Nat.le_of_mul_le_mul_right e.1 (by omega)
    have h2 : t < a + 2 := Nat.lt_of_mul_lt_mul_right e.2
    have h3 : t = a + 1 := by omega
    rw [h3, Nat.succ_mul] at hab
    omega
  obtain ⟨N, hN⟩ : ∃ N, (low (-(c.getD k0 0)) (c.getD ((k0 + 1) % c.length) 0 - c.getD k0 0)).1 = N := ⟨_, rfl⟩
  obtain ⟨D, hD⟩ : ∃ D, (low (-(c.getD k0 0)) (c.getD ((k0 + 1) % c.length) 0 - c.getD k0 0)).2 = D := ⟨_, rfl⟩
  rw [hN, hD] at hcrs
  obtain ⟨m, hm⟩ : ∃ m, (if k0 < b then a + 1 else a) = m + 1 := ⟨(if k0 < b then a + 1 else a) - 1, by split <;> omega⟩
  have hm1 : 1 ≤ m := by split at hm <;> omega
  rw [hm] at hcrs
  have hlen : (crs (ilst (cycF c) (t * c.length))).length = m + 1 := by rw [hcrs]; simp [ptsTo]
  have hf : (crs (ilst (cycF c) (t * c.length)))[0]? = some ⟨((k0 + 0 * c.length : Nat) : Int), N, D⟩ := by rw [hcrs]; simp [ptsTo]
  have hg : (crs (ilst (cycF c) (t * c.length)))[m]? = some ⟨((k0 + m * c.length : Nat) : Int), N, D⟩ := by rw [hcrs]; simp [ptsTo]
  obtain ⟨b1, b2, b3, b4⟩ := per_b hokX hm1 hlen hf hg
  rw [perF_ok hokX hm1 hlen hf hg]
  have hmul : pnum ⟨((k0 + 0 * c.length : Nat) : Int), N, D⟩ ⟨((k0 + m * c.length : Nat) : Int), N, D⟩ = (c.length : Int) * pden ⟨((k0 + 0 * c.length : Nat) : Int), N, D⟩ ⟨((k0 + m * c.length : Nat) : Int), N, D⟩ ((m + 1 : Nat) : Int) := by
    simp only [pnum, pden]
    have e1 : ((k0 + m * c.length : Nat) : Int) - ((k0 + 0 * c.length : Nat) : Int) = (m : Int) * (c.length : Int) := by
      rw [Nat.zero_mul]; push_cast; omega
    have e2 : ((m + 1 : Nat) : Int) - 1 = (m : Int) := by omega
    rw [e1, e2]
    grind
  rw [hmul, low_mul b3]
end Go.Proofs.Ytacmchjaldljjaa
