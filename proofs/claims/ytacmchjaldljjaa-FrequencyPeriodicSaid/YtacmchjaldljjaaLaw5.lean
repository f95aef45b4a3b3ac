/-
  Frequency: the law Periodic.
-/
import Derived.Test.YtacmchjaldljjaaLaw4
namespace Go.Proofs.Ytacmchjaldljjaa
open Go.Pv Go.RowKit
set_option linter.unusedSimpArgs false
set_option linter.unusedVariables false
set_option maxRecDepth 100000
set_option maxHeartbeats 4000000

theorem icl_cyc {c : List Int} (hn : 0 < c.length) (i : Nat) : ∀ j, j ≤ c.length → icl (cycF c) (i * c.length + j) = icl (cycF c) (i * c.length) ++ ((c.take j).map il).flatten
  | 0, _ => by simp
  | j + 1, hj => by
    have ih := icl_cyc hn i j (by omega)
    obtain ⟨x, hx, _⟩ := at_ex (show j < c.length by omega)
    have hm : (i * c.length + j) % c.length = j := by rw [Nat.mul_comm, Nat.mul_add_mod, Nat.mod_eq_of_lt (by omega)]
    rw [← Nat.add_assoc, icl_succ, ih, List.take_add_one, hx, cycF, hm, gD hx]
    simp [il]
theorem icl_round {c : List Int} (hn : 0 < c.length) (i : Nat) : icl (cycF c) ((i + 1) * c.length) = icl (cycF c) (i * c.length) ++ (c.map il).flatten := by
  have := icl_cyc hn i c.length (Nat.le_refl _)
  rw [List.take_length] at this
  rw [Nat.succ_mul]; exact this
theorem inB_cyc {n : Int} (h : 0 < n) : inB n 1 0 = ieq n 12 := by
  simp only [inB, ilt, ieq]
  by_cases h1 : n = 12
  · subst h1; decide
  · have : (n == 12) = false := by simpa using h1
    rw [this]
    by_cases h2 : n < 12
    · simp; omega
    · simp; omega
theorem lawPeriodic (l : List Int) (times : Int) (hl : l.length ≤ maxLen) : PCall Try.prog 6 [.list 1 (l.map il), .int .i64 times] (.bool true) := by
  have hmx : maxLen = 9223372036854775807 := by decide
  rw [hmx] at hl
  have hdec := dec_i l
  have hok := okS_fn l
  have hly := fine_len l
  obtain ⟨c, hc⟩ : ∃ c, fnL l = c := ⟨_, rfl⟩
  rw [hc] at hok hly
  have hdecy := dec_i c
  obtain ⟨n, hn⟩ : ∃ n, c.length = n := ⟨_, rfl⟩
  rw [hn] at hly
  have hly' : n ≤ 9223372036854775807 := by omega
  cases b1 : ilt (n : Int) 2
  · cases b2 : ilt 60 (n : Int)
    · have n1 := ilt_iff'.1 b1
      have n2 := ilt_iff'.1 b2
      have hnn : ¬ n = 0 := by omega
      refine pcall_cx G6_ok mixed (fun _ => none) Try.func6 rfl Try.ntmps6 Try.results6 (by simp) (by kernel_rfl) ?_
      repeat' first
        | (refine gw_bool (fun _ => ?_) (fun _ => ?_))
        | (refine condw_bool (fun _ => ?_) (fun _ => ?_))
        | simp [*]
      refine lp_go (D := (fun _ => none)) G6_ok mixed (by kernel_rfl) [1, 5] [72] (α := Nat) (fun k e h => k ≤ n ∧ e 7 = .int .i64 k ∧ e 6 = .int .i64 (cntC c k : Nat)) (fun k => n - k) 0 ?_ ?_
      · simp [cntC]
      · rintro k e h hk hkh ⟨hi, g7, g6⟩
        simp [Keep] at hk
        simp [KeepH] at hkh
        by_cases hlt : k < n
        · obtain ⟨x, hx, hx'⟩ := at_ex (show k < c.length by omega)
          have hj : (k + 1) % n < n := Nat.mod_lt _ (by omega)
          obtain ⟨j, hjj⟩ : ∃ j, (k + 1) % n = j := ⟨_, rfl⟩
          rw [hjj] at hj
          obtain ⟨z, hz, hz'⟩ := at_ex (show j < c.length by omega)
          have f1 : ilt (k : Int) (n : Int) = true := ilt_t (by omega)
          have w1 : IntKind.i64.wrap ((k : Int) + 1) = ((k + 1 : Nat) : Int) := wrap_succ (by omega)
          have hrem : ((k : Int) + 1).tmod (n : Int) = (j : Int) := by
            rw [show ((k : Int) + 1) = ((k + 1 : Nat) : Int) by omega, Int.tmod_eq_emod_of_nonneg (by omega), ← hjj]; rfl
          have hrem' : ((k + 1 : Nat) : Int).tmod (n : Int) = (j : Int) := by rw [← hrem]; rfl
          have wj : IntKind.i64.wrap (j : Int) = j := wrap_id (by omega) (by omega)
          have hup : upC c k = (ilt x 0 && !ilt z 0) := by rw [upC, gD hx, hn, hjj, gD hz]
          have hcl : cntC c k ≤ k := by
            simp only [cntC]; exact Nat.le_trans (List.length_filter_le _ _) (by simp)
          obtain ⟨A, hA⟩ : ∃ A, cntC c k = A := ⟨_, rfl⟩
          rw [hA] at g6 hcl
          have wA : IntKind.i64.wrap ((A : Int) + 1) = ((A + 1 : Nat) : Int) := wrap_succ (by omega)
          cases hu : upC c k
          · rw [hu] at hup
            have hnx : cntC c (k + 1) = A := by rw [cntC_f hu, hA]
            cases c1 : ilt x 0
            · clear hup hA
              repeat' first
                | (refine gw_bool (fun _ => ?_) (fun _ => ?_))
                | (refine condw_bool (fun _ => ?_) (fun _ => ?_))
                | simp [*, il]
              refine nxt_go (k + 1) (View.refl _ _) (by omega) (by simp [*, Keep, St.forget, scr, scrC]) (by simp [*, KeepH, St.forget, scr, scrC]) ?_
              refine ⟨by omega, ?_, ?_⟩
              all_goals simp [*]
            · have c2 : ilt z 0 = true := by simpa [c1] using hup.symm
              clear hup hA
              repeat' first
                | (refine gw_bool (fun _ => ?_) (fun _ => ?_))
                | (refine condw_bool (fun _ => ?_) (fun _ => ?_))
                | simp [*, il]
              refine nxt_go (k + 1) (View.refl _ _) (by omega) (by simp [*, Keep, St.forget, scr, scrC]) (by simp [*, KeepH, St.forget, scr, scrC]) ?_
              refine ⟨by omega, ?_, ?_⟩
              all_goals simp [*]
          · rw [hu] at hup
            have hnx : cntC c (k + 1) = A + 1 := by rw [cntC_t hu, hA]
            have c1 : ilt x 0 = true := by cases h : ilt x 0 <;> simp [h] at hup ⊢
            have c2 : ilt z 0 = false := by cases h : ilt z 0 <;> simp [h] at hup ⊢
            clear hup hA
            repeat' first
              | (refine gw_bool (fun _ => ?_) (fun _ => ?_))
              | (refine condw_bool (fun _ => ?_) (fun _ => ?_))
              | simp [*, il]
            refine nxt_go (k + 1) (View.refl _ _) (by omega) (by simp [*, Keep, St.forget, scr, scrC]) (by simp [*, KeepH, St.forget, scr, scrC]) ?_
            refine ⟨by omega, ?_, ?_⟩
            all_goals simp [*]
        · have f1 : ilt (k : Int) (n : Int) = false := ilt_f (by omega)
          have f2 : k = n := by omega
          subst f2
          by_cases h1 : cntC c k = 1
          · obtain ⟨t, ht, htt⟩ : ∃ t : Nat, (t = 3 ∨ t = 4) ∧ 3 + times % 2 = (t : Int) := by
              rcases (show times % 2 = 0 ∨ times % 2 = 1 by omega) with h | h
              · exact ⟨3, .inl rfl, by omega⟩
              · exact ⟨4, .inr rfl, by omega⟩
            have wt : IntKind.i64.wrap (3 + times % 2) = (t : Int) := by rw [htt]; exact wrap_id (by omega) (by omega)
            obtain ⟨okX, hper⟩ := cyc_per (t := t) (by omega) (by omega) ht hok (by rw [hn]; exact h1)
            have hrd : ∀ i, icl (cycF c) ((i + 1) * c.length) = icl (cycF c) (i * c.length) ++ (c.map il).flatten := fun i => icl_round (by omega) i
            simp only [hn] at okX hper hrd
            obtain ⟨Rw, hRw⟩ : ∃ R, c.map il = R := ⟨_, rfl⟩
            obtain ⟨F, hF⟩ : ∃ F, Rw.flatten = F := ⟨_, rfl⟩
            rw [hRw, hF] at hrd
            rw [hRw] at hdecy
            have hRl : Rw.length = k := by rw [← hRw]; simpa using hn
            have hF1 : F.all oneV = true := by rw [← hF, ← hRw]; exact flat_one (fun _ => rfl) c
            have hF2 : F.map (scrC 72) = F := by rw [← hF, ← hRw]; exact scrC_cells (flat_pure (fun _ => rfl) c)
            rw [hRw] at hk
            clear hlt hi
            repeat' first
              | (refine gw_bool (fun _ => ?_) (fun _ => ?_))
              | (refine condw_bool (fun _ => ?_) (fun _ => ?_))
              | simp [*]
            refine lp_view (View.nilOwn _ (t := 8) (key := 72) 1 3 rfl (by simp [*])) ?_
            refine lp_go (D := (fun _ => none)) G6_ok mixed (by kernel_rfl) [1, 5] [] (α := Nat) (fun i e h => i ≤ t ∧ e 9 = .int .i64 i ∧ e 8 = .sl 72 0 (i * k) 1 ∧ h 72 = some ⟨3, icl (cycF c) (i * k)⟩) (fun i => t - i) 0 ?_ ?_
            · simp [icl_zero]
            · rintro i e2 h2 hk2 hkh2 ⟨hi2, g9, g8, q72⟩
              simp [Keep] at hk2
              simp [KeepH] at hkh2
              have ht4 : t ≤ 4 := by omega
              obtain ⟨P, hP⟩ : ∃ P, i * k = P := ⟨_, rfl⟩
              by_cases hlt : i < t
              · have hsu : (i + 1) * k = P + k := by rw [Nat.succ_mul, hP]
                have hr := hrd i
                rw [hsu, hP] at hr
                rw [hP] at g8 q72
                have hP3 : P ≤ 3 * k := by rw [← hP]; exact Nat.mul_le_mul_right k (by omega)
                have hPk : P + k ≤ 240 := by omega
                have f3 : ilt (i : Int) (t : Int) = true := ilt_t (by omega)
                have w2 : IntKind.i64.wrap ((i : Int) + 1) = ((i + 1 : Nat) : Int) := wrap_succ (by omega)
                have w3 : IntKind.i64.wrap ((P : Int) + (k : Int)) = (P : Int) + (k : Int) := wrap_id (by omega) (by omega)
                have f4 : ilt 240 ((P : Int) + (k : Int)) = false := ilt_f (by omega)
                have f5 : (P + k) * 8 ≤ 140737488355328 := by omega
                have f6 : P + k ≤ 9223372036854775807 := by omega
                obtain ⟨C0, hC0⟩ : ∃ C, icl (cycF c) P = C := ⟨_, rfl⟩
                have z1 : C0.length = P := by rw [← hC0, icl_len]
                have z2 : C0.map (scrC 72) = C0 := by rw [← hC0, icl_scr]
                rw [hC0] at q72 hr
                clear okX hper hrd hC0 hP hP3 hPk htt ht4
                repeat' first
                  | (refine gw_bool (fun _ => ?_) (fun _ => ?_))
                  | (refine condw_bool (fun _ => ?_) (fun _ => ?_))
                  | simp [*, appendV, srcCells, St.forget, scr, scrC]
                refine nxt_go (i + 1) (View.refl _ _) (by omega) (by simp [*, Keep, St.forget, scr, scrC]) (by simp [*, KeepH, St.forget, scr, scrC]) ?_
                refine ⟨by omega, ?_, ?_, ?_⟩
                all_goals simp [*, St.forget, scr, scrC]
              · have e1 : i = t := by omega
                subst e1
                rw [hP] at g8 q72 hper okX
                have f3 : ilt (i : Int) (i : Int) = false := ilt_self _
                have hP4 : P ≤ 240 := by rw [← hP]; have := Nat.mul_le_mul_right k ht4; omega
                have z1 := icl_len (cycF c) P
                have z3 := icl_pure (cycF c) P
                have z4 := icl_chunks (cycF c) P
                have z5 := dec_i (ilst (cycF c) P)
                have z6 := ilst_len (cycF c) P
                obtain ⟨X, hX⟩ : ∃ X, ilst (cycF c) P = X := ⟨_, rfl⟩
                obtain ⟨CX, hCX⟩ : ∃ X, icl (cycF c) P = X := ⟨_, rfl⟩
                rw [hX] at z4 z5 z6 hper okX
                rw [hCX] at z1 z3 z4 q72
                have z7 : P ≤ 9223372036854775807 := by omega
                obtain ⟨A, hA⟩ : ∃ A, 1200000 + (k : Int) = A := ⟨_, rfl⟩
                obtain ⟨B, hB⟩ : ∃ B : Nat, 2 * (k : Int) = (B : Int) := ⟨2 * k, by omega⟩
                have hmh : mhF (((k : Int), 1), 0) = (A / (B : Int), 0) := by simp [mhF, hA, hB]
                have v1 : IntKind.i64.wrap A = A := wrap_id (by omega) (by omega)
                have v2 : IntKind.i64.wrap (B : Int) = B := wrap_id (by omega) (by omega)
                have v3 : A.tdiv (B : Int) = A / (B : Int) := Int.tdiv_eq_ediv_of_nonneg (by omega)
                have v4 : IntKind.i64.wrap (A / (B : Int)) = A / (B : Int) := by rw [← v3]; exact tdiv_b (by omega) (by omega)
                have v5 : ¬ B = 0 := by omega
                have hwi : wiF X 0 = (ieq (k : Int) 12, 0) := by
                  have hi := inB_cyc (n := (k : Int)) (by omega)
                  simp only [wiF, okX, hper]
                  rw [hi]
                  rfl
                clear okX hrd hX hCX hP htt ht4 ht hi2 hlt n1 n2 h1
                repeat' first
                  | (refine gw_bool (fun _ => ?_) (fun _ => ?_))
                  | (refine condw_bool (fun _ => ?_) (fun _ => ?_))
                  | simp [*, vF, vI, vW]
          · have f3 : ieq ((cntC c k : Nat) : Int) 1 = false := ieq_f (by omega)
            clear h1
            repeat' first
              | (refine gw_bool (fun _ => ?_) (fun _ => ?_))
              | (refine condw_bool (fun _ => ?_) (fun _ => ?_))
              | simp [*]
    · refine pcall_cx G6_ok mixed (fun _ => none) Try.func6 rfl Try.ntmps6 Try.results6 (by simp) (by kernel_rfl) ?_
      repeat' first
        | (refine gw_bool (fun _ => ?_) (fun _ => ?_))
        | (refine condw_bool (fun _ => ?_) (fun _ => ?_))
        | simp [*]
  · refine pcall_cx G6_ok mixed (fun _ => none) Try.func6 rfl Try.ntmps6 Try.results6 (by simp) (by kernel_rfl) ?_
    repeat' first
      | (refine gw_bool (fun _ => ?_) (fun _ => ?_))
      | (refine condw_bool (fun _ => ?_) (fun _ => ?_))
      | simp [*]
end Go.Proofs.Ytacmchjaldljjaa
