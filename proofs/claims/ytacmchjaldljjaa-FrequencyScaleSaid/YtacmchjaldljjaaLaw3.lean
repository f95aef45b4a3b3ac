/-
  Frequency: the law Scale.
-/
import Derived.Test.YtacmchjaldljjaaLaw1
namespace Go.Proofs.Ytacmchjaldljjaa
open Go.Pv Go.RowKit
set_option linter.unusedSimpArgs false
set_option linter.unusedVariables false
set_option maxRecDepth 100000
set_option maxHeartbeats 4000000

theorem low_scale {k n d : Int} (hk : 0 < k) (hd : 0 < d) : low (k * n) (k * d) = low n d := by
  obtain ⟨K, rfl⟩ := Int.eq_ofNat_of_zero_le (Int.le_of_lt hk)
  have hg : gcdI ((K : Int) * n) ((K : Int) * d) = (K : Int) * gcdI n d := by
    simp only [gcdI, Int.natAbs_mul, Int.natAbs_natCast, Nat.gcd_mul_left]
    simp
  simp only [low, hg]
  rw [Int.mul_tdiv_mul_of_pos _ _ hk, Int.mul_tdiv_mul_of_pos _ _ hk]
theorem ilt_scale {k x : Int} (hk : 0 < k) : ilt (k * x) 0 = ilt x 0 := by
  simp only [ilt]
  congr 1
  apply propext
  constructor
  · intro h
    rcases Int.lt_or_le x 0 with h1 | h1
    · exact h1
    · exfalso; have := Int.mul_nonneg (Int.le_of_lt hk) h1; omega
  · intro h; have := Int.mul_neg_of_pos_of_neg hk h; omega
theorem crs_scale {k : Int} (hk : 0 < k) (f : Nat → Int) (n : Nat) : crs (ilst (fun i => k * f i) n) = crs (ilst f n) := by
  have hup : ∀ i, i + 1 < n → upAt (ilst (fun i => k * f i) n) i = upAt (ilst f n) i := fun i hi => by
    simp only [upAt]
    rw [ilst_getD _ (by omega), ilst_getD _ (by omega), ilst_getD _ (by omega), ilst_getD _ (by omega), ilt_scale hk, ilt_scale hk]
  have hpt : ∀ i, i + 1 < n → upAt (ilst f n) i = true → ptAt (ilst (fun i => k * f i) n) i = ptAt (ilst f n) i := fun i hi hu => by
    simp only [upAt] at hu
    rw [ilst_getD _ (by omega), ilst_getD _ (by omega)] at hu
    have c1 : f i < 0 := by cases h : ilt (f i) 0 <;> simp [h] at hu; exact ilt_iff.1 h
    have c2 : 0 ≤ f (i + 1) := by cases h : ilt (f (i + 1)) 0 <;> simp [h] at hu; exact ilt_iff'.1 h
    have e : low (-(k * f i)) (k * f (i + 1) - k * f i) = low (-(f i)) (f (i + 1) - f i) := by
      rw [← Int.mul_sub, ← Int.mul_neg]
      exact low_scale hk (by omega)
    simp only [ptAt]
    rw [ilst_getD _ (by omega), ilst_getD _ (by omega), ilst_getD _ (by omega), ilst_getD _ (by omega), e]
  unfold crs
  rw [ilst_len, ilst_len]
  have key : ∀ m, m ≤ n - 1 → crsN (ilst (fun i => k * f i) n) m = crsN (ilst f n) m := by
    intro m
    induction m with
    | zero => intro _; rfl
    | succ m ih =>
      intro hm
      have h1 := hup m (by omega)
      cases hu : upAt (ilst f n) m
      · rw [crsN_f hu, crsN_f (h1.trans hu)]; exact ih (by omega)
      · rw [crsN_t hu, crsN_t (h1.trans hu), ih (by omega), hpt m (by omega) hu]
  exact key _ (Nat.le_refl _)
theorem perF_scale {k : Int} {f : Nat → Int} {n : Nat} (hk : 0 < k) (h1 : okS (ilst (fun i => k * f i) n) = true) (h2 : okS (ilst f n) = true) : perF (ilst (fun i => k * f i) n) = perF (ilst f n) := by
  unfold perF
  rw [if_pos h1, if_pos h2, crs_scale hk]
theorem lawScale (l : List Int) (k0 : Int) (hl : l.length ≤ maxLen) : PCall Try.prog 4 [.list 1 (l.map il), .int .i64 k0] (.bool true) := by
  have hmx : maxLen = 9223372036854775807 := by decide
  rw [hmx] at hl
  obtain ⟨N, hN⟩ : ∃ N, l.length = N := ⟨_, rfl⟩
  obtain ⟨M, hM⟩ : ∃ M, min N 240 = M := ⟨_, rfl⟩
  rw [hN] at hl
  obtain ⟨K, hK⟩ : ∃ K, 1 + k0 % 100 = K := ⟨_, rfl⟩
  have k1 : 1 ≤ K := by omega
  have k2 : K ≤ 100 := by omega
  have wK : IntKind.i64.wrap (1 + k0 % 100) = K := by rw [wrap_id (by omega) (by omega)]; exact hK
  obtain ⟨f, hf⟩ : ∃ f : Nat → Int, f = fun i => (l.getD i 0).tmod 160 := ⟨_, rfl⟩
  have fb : ∀ i, -160 < f i ∧ f i < 160 := fun i => by rw [hf]; exact tmod_b (by omega)
  have gb : ∀ i, -16383 ≤ K * f i ∧ K * f i ≤ 16383 := fun i => by
    have := mul_b (x := K) (y := f i) (X := 100) (Y := 159) (by omega) (by have := fb i; omega)
    omega
  obtain ⟨g, hg⟩ : ∃ g : Nat → Int, g = fun i => K * f i := ⟨_, rfl⟩
  have ok1 : okS (ilst f M) = true := okS_ilst (by omega) fun i => by have := fb i; omega
  have ok2 : okS (ilst g M) = true := okS_ilst (by omega) fun i => by rw [hg]; exact gb i
  have hper : perF (ilst g M) = perF (ilst f M) := by rw [hg] at ok2 ⊢; exact perF_scale (by omega) ok2 ok1
  clear hK
  refine pcall_cx G6_ok mixed (fun _ => none) Try.func4 rfl Try.ntmps4 Try.results4 (by simp) (by kernel_rfl) ?_
  repeat' first
    | (refine gw_bool (fun _ => ?_) (fun _ => ?_))
    | (refine condw_bool (fun _ => ?_) (fun _ => ?_))
    | simp [*]
  refine lp_view ((View.nilOwn _ (t := 5) (key := 5) 1 3 rfl rfl).trans (View.nilOwn _ (t := 6) (key := 6) 1 3 rfl rfl)) ?_
  refine lp_go (D := (fun _ => none)) G6_ok mixed (by kernel_rfl) [0, 1] [41, 42, 47, 48] (α := Nat) (fun i e h => i ≤ M ∧ e 7 = .int .i64 i ∧ e 5 = .sl 5 0 i 1 ∧ h 5 = some ⟨3, icl f i⟩ ∧ e 6 = .sl 6 0 i 1 ∧ h 6 = some ⟨3, icl g i⟩) (fun i => M - i) 0 ?_ ?_
  · simp [icl_zero]
  · rintro i e h hk hkh ⟨hi, g7, g5, q5, g6, q6⟩
    simp [Keep] at hk
    simp [KeepH] at hkh
    by_cases hlt : i < M
    · obtain ⟨x, hx, hx'⟩ := at_ex (show i < l.length by omega)
      have f1 : ilt (i : Int) (N : Int) = true := ilt_t (by omega)
      have f2 : ilt (i : Int) 240 = true := ilt_t (by omega)
      have w1 : IntKind.i64.wrap ((i : Int) + 1) = ((i + 1 : Nat) : Int) := wrap_succ (by omega)
      have hyi : f i = x.tmod 160 := by rw [hf]; show (l.getD i 0).tmod 160 = _; rw [gD hx]
      have hgi : g i = K * f i := by rw [hg]
      have wf : IntKind.i64.wrap (x.tmod 160) = x.tmod 160 := by rw [← hyi]; have := fb i; exact wrap_id (by omega) (by omega)
      have wg : IntKind.i64.wrap (K * f i) = K * f i := by have := gb i; exact wrap_id (by omega) (by omega)
      have f5 : (i + 1) * 8 ≤ 140737488355328 := by omega
      have f6 : i + 1 ≤ 9223372036854775807 := by omega
      have r1 := icl_succ f i
      have r2 := icl_succ g i
      rw [hyi] at r1 hgi wg
      rw [hgi] at r2
      obtain ⟨X, hX⟩ : ∃ X, x.tmod 160 = X := ⟨_, rfl⟩
      rw [hX] at r1 r2 wf wg
      obtain ⟨C, hC⟩ : ∃ C, icl f i = C := ⟨_, rfl⟩
      obtain ⟨E, hE⟩ : ∃ C, icl g i = C := ⟨_, rfl⟩
      have z1 : C.length = i := by rw [← hC, icl_len]
      have z2 : E.length = i := by rw [← hE, icl_len]
      have s1 : C.map (scrC 5) = C := by rw [← hC, icl_scr]
      have s2 : C.map (scrC 6) = C := by rw [← hC, icl_scr]
      have s3 : C.map (scrC 41) = C := by rw [← hC, icl_scr]
      have s4 : C.map (scrC 47) = C := by rw [← hC, icl_scr]
      have s5 : E.map (scrC 5) = E := by rw [← hE, icl_scr]
      have s6 : E.map (scrC 6) = E := by rw [← hE, icl_scr]
      have s7 : E.map (scrC 41) = E := by rw [← hE, icl_scr]
      have s8 : E.map (scrC 47) = E := by rw [← hE, icl_scr]
      rw [hC] at q5 r1
      rw [hE] at q6 r2
      clear hC hE hyi hgi fb gb hper ok1 ok2 hf hg
      repeat' first
        | (refine gw_bool (fun _ => ?_) (fun _ => ?_))
        | (refine condw_bool (fun _ => ?_) (fun _ => ?_))
        | simp [*, il, appendV, srcCells, St.forget, scr, scrC]
      refine nxt_go (i + 1) ((View.forget _ _ 41).trans ((View.forget _ _ 47))) (by omega) (by simp [*, Keep, St.forget, scr, scrC]) (by simp [*, KeepH, St.forget, scr, scrC]) ?_
      refine ⟨by omega, ?_, ?_, ?_, ?_, ?_⟩
      all_goals simp [*, St.forget, scr, scrC]
    · have f2 : i = M := by omega
      subst f2
      have z1 : (icl f i).length = i := icl_len _ _
      have z2 : (icl g i).length = i := icl_len _ _
      have z3 : (icl f i).any ownC = false := icl_pure _ _
      have z4 : (icl g i).any ownC = false := icl_pure _ _
      have e1 := icl_chunks f i
      have e2 := icl_chunks g i
      have u1 := dec_i (ilst f i)
      have u2 := dec_i (ilst g i)
      have v1 : (ilst f i).length = i := ilst_len _ _
      have v2 : (ilst g i).length = i := ilst_len _ _
      generalize icl f i = CY at *
      generalize icl g i = CZ at *
      generalize ilst f i = LY at *
      generalize ilst g i = LZ at *
      have x1 : i ≤ 9223372036854775807 := by omega
      obtain ⟨⟨⟨p, q⟩, er⟩, hp⟩ : ∃ r, perF LY = r := ⟨_, rfl⟩
      rw [hp] at hper
      by_cases hlt2 : i < N
      · have f1 : ilt (i : Int) (N : Int) = true := ilt_t (by omega)
        have f2 : ilt (i : Int) 240 = false := ilt_f (by omega)
        clear hM hi hlt hlt2 hf hg fb gb
        repeat' first
          | (refine gw_bool (fun _ => ?_) (fun _ => ?_))
          | (refine condw_bool (fun _ => ?_) (fun _ => ?_))
          | simp [*, vF, vI]
      · have f1 : ilt (i : Int) (N : Int) = false := ilt_f (by omega)
        clear hM hi hlt hlt2 hf hg fb gb
        repeat' first
          | (refine gw_bool (fun _ => ?_) (fun _ => ?_))
          | (refine condw_bool (fun _ => ?_) (fun _ => ?_))
          | simp [*, vF, vI]
end Go.Proofs.Ytacmchjaldljjaa
