/-
  Resampling: the law Ends.
-/
import Derived.Test.YtnilibgafkakpaaRes11
namespace Go.Proofs.Ytnilibgafkakpaa
open Go.Pv Go.RowKit
set_option linter.unusedSimpArgs false
set_option linter.unusedVariables false
set_option maxRecDepth 100000
set_option maxHeartbeats 4000000

theorem icl_map (f : Nat → Int) : ∀ n, icl f n = (List.range n).map fun i => .int .i64 (f i)
  | 0 => rfl
  | n + 1 => by rw [icl_succ, icl_map f n, List.range_succ, List.map_append]; rfl
theorem icl_cons (f : Nat → Int) (n : Nat) : icl f (n + 1) = .int .i64 (f 0) :: icl (fun i => f (i + 1)) n := by
  rw [icl_map, icl_map, List.range_succ_eq_map, List.map_cons, List.map_map]; rfl
theorem chunks_one : ∀ (m : Nat) (cs : List V), m ≤ cs.length → chunks 1 m cs = (cs.take m).map fun v => [v]
  | 0, _, _ => rfl
  | m + 1, [], h => by simp at h
  | m + 1, c :: cs, h => by
    have := chunks_one m cs (by simpa using h)
    simp [chunks, this]
theorem chunks_pre (f : Nat → Int) {m n : Nat} (h : m ≤ n) : chunks 1 m (icl f n) = (ilst f m).map il := by
  rw [chunks_one _ _ (by rw [icl_len]; exact h), icl_map, ← List.map_take, List.take_range, Nat.min_eq_left h, ilst, List.map_map, List.map_map]
  rfl
theorem chunks_suf (f : Nat → Int) (m : Nat) : chunks 1 m ((icl f (m + 1)).drop 1) = (ilst (fun i => f (i + 1)) m).map il := by
  rw [icl_cons, List.drop_succ_cons, List.drop_zero, icl_chunks]
theorem ilst_getD (f : Nat → Int) {n i : Nat} (h : i < n) : (ilst f n).getD i 0 = f i := by
  refine getD_of ?_
  simp [ilst, h]
theorem ne_one {x : Int} (h : smp x = true) : (neF x 1).1 = x := by
  have := smp_b h
  have h2 : neR x 1 = true := by simp [neR, btw, ilt]; omega
  simp only [neF, h2, if_true]; omega
theorem sh_is {f : Nat → Int} {n k : Nat} {p q v : Int} (hf : frc p q = true) (hs : ∀ i, smp (f i) = true) (hk : k + 1 < n) (hv : smp v = true)
    (h1 : f k * q + (f (k + 1) - f k) * p = v * q) (h2 : 1 ≤ k → cuS (f (k - 1)) (f k) (f (k + 1)) (f (k + 2)) p q = v * (6 * q * q * q)) : shN (ilst f n) p q k = v := by
  have ⟨q1, q2, q3, q4⟩ := frc_b hf
  have key : valF (ilst f n) k p q = ((v, 1), 0) := by
    unfold valF
    rw [ilst_len]
    split
    · rename_i hc
      rw [ilst_getD f (by omega), ilst_getD f (by omega), ilst_getD f (by omega), ilst_getD f (by omega)]
      have hp := (cu_b hf (hs (k - 1)) (hs k) (hs (k + 1)) (hs (k + 2))).2.1
      simp only [cuF, hf, hs, Bool.and_self, if_true, h2 hc.1, low_mul hp]
    · rw [ilst_getD f (by omega), ilst_getD f (by omega)]
      simp only [liF, hf, hs, Bool.and_self, if_true, h1, low_mul (show 0 < q by omega)]
  simp only [shN, key, ne_one hv]
theorem sh_all {f g : Nat → Int} {m : Nat} {p q : Int} (hm : 1 ≤ m) (hm2 : m ≤ 239) (hf : frc p q = true) (hs : ∀ i, smp (f i) = true) (hg : ∀ k, k < m → shN (ilst f (m + 1)) p q k = g k) :
    shF (ilst f (m + 1)) p q = .tup [.list 1 ((ilst g m).map il), .int .i64 0] := by
  have hok : shOk (ilst f (m + 1)) p q = true := by
    simp only [shOk, hf, ilst_len, Bool.true_and, Bool.and_eq_true]
    refine ⟨?_, ?_⟩
    · simp [btw, ilt]; omega
    · simp only [ilst, List.all_map, List.all_eq_true]; intro i _; exact hs i
  unfold shF
  rw [hok, if_pos rfl, ilst_len, show m + 1 - 1 = m by omega, ilst_congr hg]
theorem frc_0 {q : Int} (h1 : 1 ≤ q) (h2 : q ≤ 1000) : frc 0 q = true := by simp [frc, btw, ilt]; omega
theorem frc_1 {q : Int} (h1 : 1 ≤ q) (h2 : q ≤ 1000) : frc q q = true := by simp [frc, btw, ilt]; omega
theorem lawEnds (l : List Int) (p q : Int) (hl : l.length ≤ maxLen) : PCall Try.prog 9 [.list 1 (l.map il), .int .i64 p, .int .i64 q] (.bool true) := by
  have hm : maxLen = 9223372036854775807 := by decide
  rw [hm] at hl
  obtain ⟨n, hn⟩ : ∃ n, l.length = n := ⟨_, rfl⟩
  cases b1 : ilt (n : Int) 2
  · cases b2 : ilt 240 (n : Int)
    · have c1 := ilt_iff'.1 b1
      have c2 := ilt_iff'.1 b2
      have hn2 : 2 ≤ n := by omega
      obtain ⟨m, hm1, hm2⟩ : ∃ m, n ≤ m + 1 ∧ m + 1 ≤ n := ⟨n - 1, by omega, by omega⟩
      have hn240 : n ≤ 240 := by omega
      obtain ⟨y, hy⟩ : ∃ y : Nat → Int, y = fun i => wsp (l.getD i 0) := ⟨_, rfl⟩
      have hys : ∀ i, smp (y i) = true := fun i => by rw [hy]; exact wsp_s _
      have hf := lf_frc p q
      have d1 := lfD_b q
      have d2 := lfN_b p q
      obtain ⟨Q, hQ⟩ : ∃ Q, lfD q = Q := ⟨_, rfl⟩
      obtain ⟨P, hP⟩ : ∃ P, lfN p q = P := ⟨_, rfl⟩
      rw [hQ] at hf d1 d2
      rw [hP] at hf d2
      have s1 : shF (ilst y (m + 1)) 0 Q = .tup [.list 1 ((ilst y m).map il), .int .i64 0] :=
        sh_all (by omega) (by omega) (frc_0 (by omega) (by omega)) hys fun k hk => sh_is (frc_0 (by omega) (by omega)) hys (by omega) (hys k) (by simp) (fun _ => by unfold cuS; grind)
      have s2 : shF (ilst y (m + 1)) Q Q = .tup [.list 1 ((ilst (fun i => y (i + 1)) m).map il), .int .i64 0] :=
        sh_all (by omega) (by omega) (frc_1 (by omega) (by omega)) hys fun k hk => sh_is (frc_1 (by omega) (by omega)) hys (by omega) (hys (k + 1)) (by grind) (fun _ => by unfold cuS; grind)
      have s3 : shF (ilst (fun _ => y 0) (m + 1)) P Q = .tup [.list 1 ((ilst (fun _ => y 0) m).map il), .int .i64 0] :=
        sh_all (by omega) (by omega) hf (fun _ => hys 0) fun k hk => sh_is hf (fun _ => hys 0) (by omega) (hys 0) (by grind) (fun _ => by unfold cuS; grind)
      have e1 := chunks_pre y (m := m + 1) (n := m + 1) (Nat.le_refl _)
      have e2 := chunks_pre y (m := m) (n := m + 1) (by omega)
      have e3 := chunks_suf y m
      have e4 := chunks_pre (fun _ => y 0) (m := m + 1) (n := m + 1) (Nat.le_refl _)
      have e5 := chunks_suf (fun _ => y 0) m
      have wm : IntKind.i64.wrap ((n : Int) - 1) = (m : Int) := by rw [wrap_id (by omega) (by omega)]; omega
      clear hl c1 c2
      refine pcall_cx G10_ok mixed (fun _ => none) Try.func9 rfl Try.ntmps9 Try.results9 (by simp) (by kernel_rfl) ?_
      repeat' first
        | (refine gw_bool (fun _ => ?_) (fun _ => ?_))
        | (refine condw_bool (fun _ => ?_) (fun _ => ?_))
        | simp [*]
      refine lp_view ((View.nilOwn _ (t := 7) (key := 7) 1 3 rfl rfl).trans (View.nilOwn _ (t := 8) (key := 8) 1 3 rfl rfl)) ?_
      refine lp_go (D := (fun _ => none)) G10_ok mixed (by kernel_rfl) [0, 1, 2] [39, 40, 45, 46] (α := Nat) (fun i e h => i ≤ n ∧ e 9 = .int .i64 i ∧ e 7 = .sl 7 0 i 1 ∧ h 7 = some ⟨3, icl y i⟩ ∧ e 8 = .sl 8 0 i 1 ∧ h 8 = some ⟨3, icl (fun _ => y 0) i⟩) (fun i => n - i) 0 ?_ ?_
      · simp [icl_zero]
      · rintro i e h hk hkh ⟨hi, g9, g7, q7, g8, q8⟩
        simp [Keep] at hk
        simp [KeepH] at hkh
        by_cases hlt : i < n
        · obtain ⟨x, hx, hx'⟩ := at_ex (show i < l.length by omega)
          have f1 : ilt (i : Int) (n : Int) = true := ilt_t (by omega)
          have w1 : IntKind.i64.wrap ((i : Int) + 1) = ((i + 1 : Nat) : Int) := wrap_succ (by omega)
          have hw := wsp_w x
          have hyi : y i = wsp x := by rw [hy]; show wsp (l.getD i 0) = _; rw [getD_of hx]
          have f5 : (i + 1) * 8 ≤ 140737488355328 := by omega
          have f6 : i + 1 ≤ 9223372036854775807 := by omega
          have r1 := icl_succ y i
          have r2 := icl_succ (fun _ => y 0) i
          rw [hyi] at r1
          clear s1 s2 s3 e1 e2 e3 e4 e5 hy hys hf hQ hP d1 d2
          rcases Nat.eq_zero_or_pos i with hi0 | hi0
          · subst hi0
            have r0 : y 0 = wsp x := hyi
            generalize wsp x = X at hw r1 hyi r0
            rw [r0] at r2
            have f1' : ilt 0 (n : Int) = true := ilt_t (by omega)
            repeat' first
              | (refine gw_bool (fun _ => ?_) (fun _ => ?_))
              | (refine condw_bool (fun _ => ?_) (fun _ => ?_))
              | simp [*, il, appendV, srcCells, St.forget, scr, scrC, icl_zero]
            refine nxt_go 1 ((View.forget _ _ 39).trans ((View.forget _ _ 45))) (by omega) (by simp [*, Keep, St.forget, scr, scrC]) (by simp [*, KeepH, St.forget, scr, scrC]) ?_
            refine ⟨by omega, ?_, ?_, ?_, ?_, ?_⟩
            all_goals simp [*, St.forget, scr, scrC, icl_zero]
          · obtain ⟨j, hj⟩ : ∃ j, j + 1 = i := ⟨i - 1, by omega⟩
            generalize wsp x = X at hw r1 hyi
            obtain ⟨Y0, hY0⟩ : ∃ z, y 0 = z := ⟨_, rfl⟩
            have t1 := icl_cons y j
            rw [hj] at t1
            rw [hY0] at t1 r2 q8
            obtain ⟨T, hT⟩ : ∃ T, icl (fun i => y (i + 1)) j = T := ⟨_, rfl⟩
            have t2 : T.length + 1 = i := by rw [← hT, icl_len]; exact hj
            have t3 : T.map (scrC 7) = T := by rw [← hT, icl_scr]
            have t3' : T.map (scrC 8) = T := by rw [← hT, icl_scr]
            have t6 : T.map (scrC 39) = T := by rw [← hT, icl_scr]
            have t7 : T.map (scrC 45) = T := by rw [← hT, icl_scr]
            rw [hT] at t1
            rw [t1] at q7 r1
            obtain ⟨Z, hZ⟩ : ∃ Z, icl (fun _ => Y0) i = Z := ⟨_, rfl⟩
            have t4 : Z.length = i := by rw [← hZ, icl_len]
            have t5 : Z.map (scrC 8) = Z := by rw [← hZ, icl_scr]
            have t5' : Z.map (scrC 7) = Z := by rw [← hZ, icl_scr]
            have t8 : Z.map (scrC 39) = Z := by rw [← hZ, icl_scr]
            have t9 : Z.map (scrC 45) = Z := by rw [← hZ, icl_scr]
            rw [hZ] at q8 r2
            have p0 : (0 : Int) < (i : Int) + 1 := by omega
            clear hT hZ t1 hj
            repeat' first
              | (refine gw_bool (fun _ => ?_) (fun _ => ?_))
              | (refine condw_bool (fun _ => ?_) (fun _ => ?_))
              | simp [*, il, appendV, srcCells, St.forget, scr, scrC]
            refine nxt_go (i + 1) ((View.forget _ _ 39).trans ((View.forget _ _ 45))) (by omega) (by simp [*, Keep, St.forget, scr, scrC]) (by simp [*, KeepH, St.forget, scr, scrC]) ?_
            refine ⟨by omega, ?_, ?_, ?_, ?_, ?_⟩
            all_goals simp [*, St.forget, scr, scrC]
        · have f1 : ilt (i : Int) (n : Int) = false := ilt_f (by omega)
          have f2 : i = n := by omega
          subst f2
          have hmn : m + 1 = i := by omega
          rw [hmn] at s1 s2 s3 e1 e2 e3 e4 e5
          rw [List.drop_one] at e3 e5
          have z1 : (icl y i).length = i := icl_len _ _
          have z2 : (icl (fun _ => y 0) i).length = i := icl_len _ _
          have z3 : (icl y i).any ownC = false := icl_pure _ _
          have z4 : (icl (fun _ => y 0) i).any ownC = false := icl_pure _ _
          have u1 := dec_i (ilst y i)
          have u2 := dec_i (ilst y m)
          have u3 := dec_i (ilst (fun i => y (i + 1)) m)
          have u4 := dec_i (ilst (fun _ => y 0) i)
          have u5 := dec_i (ilst (fun _ => y 0) m)
          have v1 : (ilst y i).length = i := ilst_len _ _
          have v2 : (ilst y m).length = m := ilst_len _ _
          have v3 : (ilst (fun i => y (i + 1)) m).length = m := ilst_len _ _
          have v4 : (ilst (fun _ => y 0) i).length = i := ilst_len _ _
          have v5 : (ilst (fun _ => y 0) m).length = m := ilst_len _ _
          generalize icl y i = CY at *
          generalize icl (fun _ => y 0) i = CZ at *
          generalize ilst y i = LY at *
          generalize ilst (fun _ => y 0) i = LZ at *
          generalize ilst y m = LA at *
          generalize ilst (fun i => y (i + 1)) m = LB at *
          generalize ilst (fun _ => y 0) m = LC at *
          have x1 : i ≤ 9223372036854775807 := by omega
          have x2 : m ≤ 9223372036854775807 := by omega
          have x3 : (0 : Int) ≤ m := by omega
          have x4 : ¬ m = 0 := by omega
          have x4' : ¬ 0 = m := by omega
          have x5 : i - 1 = m := by omega
          have x6 : 1 ≤ i := by omega
          have x7 : ¬ 1 = i := by omega
          have x7' : ¬ i = 1 := by omega
          have x8 : 1 + m = i := by omega
          have x9 : m ≤ i := by omega
          clear hy hys hf b1 b2 d1 d2 hi hlt hmn hm1 hm2
          repeat' first
            | (refine gw_bool (fun _ => ?_) (fun _ => ?_))
            | (refine condw_bool (fun _ => ?_) (fun _ => ?_))
            | simp [*, vI]
    · refine pcall_cx G10_ok mixed (fun _ => none) Try.func9 rfl Try.ntmps9 Try.results9 (by simp) (by kernel_rfl) ?_
      repeat' first
        | (refine gw_bool (fun _ => ?_) (fun _ => ?_))
        | (refine condw_bool (fun _ => ?_) (fun _ => ?_))
        | simp [*]
  · refine pcall_cx G10_ok mixed (fun _ => none) Try.func9 rfl Try.ntmps9 Try.results9 (by simp) (by kernel_rfl) ?_
    repeat' first
      | (refine gw_bool (fun _ => ?_) (fun _ => ?_))
      | (refine condw_bool (fun _ => ?_) (fun _ => ?_))
      | simp [*]
end Go.Proofs.Ytnilibgafkakpaa
