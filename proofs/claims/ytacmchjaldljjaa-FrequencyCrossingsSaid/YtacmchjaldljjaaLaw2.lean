/-
  Frequency: the laws Crossings and Scale.
-/
import Derived.Test.YtacmchjaldljjaaOk3
namespace Go.Proofs.Ytacmchjaldljjaa
open Go.Pv Go.RowKit
set_option linter.unusedSimpArgs false
set_option linter.unusedVariables false
set_option maxRecDepth 100000
set_option maxHeartbeats 4000000

theorem low_cop {n d : Int} (hn : 0 ≤ n) (hd : 0 < d) : Nat.gcd (low n d).1.toNat (low n d).2.toNat = 1 := by
  have hp : 0 < Nat.gcd n.natAbs d.natAbs := Nat.gcd_pos_of_pos_right _ (by omega)
  have h := Nat.coprime_div_gcd_div_gcd hp
  have e1 : (low n d).1.natAbs = n.natAbs / Nat.gcd n.natAbs d.natAbs := by simp only [low, gcdI, Int.natAbs_tdiv, Int.natAbs_natCast]; rfl
  have e2 : (low n d).2.natAbs = d.natAbs / Nat.gcd n.natAbs d.natAbs := by simp only [low, gcdI, Int.natAbs_tdiv, Int.natAbs_natCast]; rfl
  have p1 : 0 ≤ (low n d).1 := by
    obtain ⟨q1, _, _⟩ := low_eq (n := n) hd
    have hg := gcd_pos (n := n) hd
    rcases Int.lt_or_le (low n d).1 0 with h1 | h1
    · exfalso
      have := Int.mul_neg_of_neg_of_pos h1 hg
      omega
    · exact h1
  have p2 := (low_eq (n := n) hd).2.2
  have f1 : (low n d).1.toNat = (low n d).1.natAbs := by omega
  have f2 : (low n d).2.toNat = (low n d).2.natAbs := by omega
  rw [f1, f2, e1, e2]
  exact h
theorem crsN_pre (l : List Int) {a b : Nat} (h : a ≤ b) : crsN l a <+: crsN l b := by
  induction h with
  | refl => exact List.prefix_rfl
  | step _ ih =>
    rename_i m _
    cases hu : upAt l m
    · rw [crsN_f hu]; exact ih
    · rw [crsN_t hu]; exact ih.trans (List.prefix_append _ _)
theorem crs_at {l : List Int} {k : Nat} (hu : upAt l k = true) (hk : k + 1 ≤ l.length - 1) : (crs l)[(crsN l k).length]? = some (ptAt l k) := by
  have hp := crsN_pre l hk
  rw [crsN_t hu] at hp
  obtain ⟨t, ht⟩ := hp
  rw [crs, ← ht]
  simp
theorem lawCrossings (l : List Int) (hl : l.length ≤ maxLen) : PCall Try.prog 3 [.list 1 (l.map il)] (.bool true) := by
  have hmx : maxLen = 9223372036854775807 := by decide
  rw [hmx] at hl
  have hdec := dec_i l
  have hok := okS_fn l
  have hly := fine_len l
  obtain ⟨y, hy⟩ : ∃ y, fnL l = y := ⟨_, rfl⟩
  rw [hy] at hok hly
  have hdecy := dec_i y
  have hly' : y.length ≤ 9223372036854775807 := by omega
  have hcr : crV y = .tup [.list 3 ((crs y).map Pt.cs), .int .i64 0] := by unfold crV; rw [if_pos hok]
  obtain ⟨N, hN⟩ : ∃ N, y.length = N := ⟨_, rfl⟩
  rw [hN] at hly hly'
  obtain ⟨M, hM⟩ : ∃ M, (crs y).length = M := ⟨_, rfl⟩
  refine pcall_cx G6_ok mixed (fun _ => none) Try.func3 rfl Try.ntmps3 Try.results3 (by simp) okc3 ?_
  repeat' first
    | (refine gw_bool (fun _ => ?_) (fun _ => ?_))
    | (refine condw_bool (fun _ => ?_) (fun _ => ?_))
    | simp [*]
  refine lp_go (D := fun _ => none) G6_ok mixed okl3 [3, 4] [] (α := Nat) (fun k e h => k ≤ N - 1 ∧ e 7 = .int .i64 k ∧ e 6 = .int .i64 ((crsN y k).length : Nat)) (fun k => N - k) 0 ?_ ?_
  · simp [crsN]
  · rintro k e h hk hkh ⟨hi, g7, g6⟩
    simp [Keep] at hk
    simp [KeepH] at hkh
    have p0 : (0 : Int) ≤ (k : Int) + 1 := by omega
    have w1 : IntKind.i64.wrap ((k : Int) + 1) = ((k + 1 : Nat) : Int) := wrap_succ (by omega)
    by_cases hlt : k + 1 < N
    · obtain ⟨x, hx, hx'⟩ := at_ex (show k < y.length by omega)
      obtain ⟨z, hz, hz'⟩ := at_ex (show k + 1 < y.length by omega)
      have f1 : ilt ((k : Int) + 1) (N : Int) = true := ilt_t (by omega)
      have hup : upAt y k = (ilt x 0 && !ilt z 0) := by rw [upAt, gD hx, gD hz]
      cases hu : upAt y k
      · rw [hu] at hup
        have hnx := crsN_f hu
        cases c1 : ilt x 0
        · clear hup
          repeat' first
            | (refine gw_bool (fun _ => ?_) (fun _ => ?_))
            | (refine condw_bool (fun _ => ?_) (fun _ => ?_))
            | simp [*, il]
          refine nxt_go (k + 1) (View.refl _ _) (by omega) (by simp [*, Keep, St.forget, scr, scrC]) (by simp [*, KeepH, St.forget, scr, scrC]) ?_
          refine ⟨by omega, ?_, ?_⟩
          all_goals simp [*]
        · have c2 : ilt z 0 = true := by simpa [c1] using hup.symm
          clear hup
          repeat' first
            | (refine gw_bool (fun _ => ?_) (fun _ => ?_))
            | (refine condw_bool (fun _ => ?_) (fun _ => ?_))
            | simp [*, il]
          refine nxt_go (k + 1) (View.refl _ _) (by omega) (by simp [*, Keep, St.forget, scr, scrC]) (by simp [*, KeepH, St.forget, scr, scrC]) ?_
          refine ⟨by omega, ?_, ?_⟩
          all_goals simp [*]
      · rw [hu] at hup
        have c1 : ilt x 0 = true := by cases h : ilt x 0 <;> simp [h] at hup ⊢
        have c2 : ilt z 0 = false := by cases h : ilt z 0 <;> simp [h] at hup ⊢
        have d1 := ilt_iff.1 c1
        have d2 := ilt_iff'.1 c2
        have bx := okS_at hok hx
        have bz := okS_at hok hz
        have hat := crs_at hu (show k + 1 ≤ y.length - 1 by omega)
        have hpo := ptOk hok (show k + 1 < y.length by omega) hu
        have hpt : ptAt y k = ⟨k, (low (-x) (z - x)).1, (low (-x) (z - x)).2⟩ := by rw [ptAt, gD hx, gD hz]
        have hcop := low_cop (n := -x) (d := z - x) (by omega) (by omega)
        have hcross := low_cross (n := -x) (d := z - x) (by omega)
        obtain ⟨⟨pn, pd⟩, hlo⟩ : ∃ r, low (-x) (z - x) = r := ⟨_, rfl⟩
        rw [hlo] at hpt hcop hcross
        have n1 := hpo.n1
        have n2 := hpo.n2
        have n3 := hpo.d2
        rw [hpt] at n1 n2 n3 hat
        simp only at n1 n2 n3 hcop hcross
        obtain ⟨A, hA⟩ : ∃ A, (crsN y k).length = A := ⟨_, rfl⟩
        rw [hA] at hat g6
        obtain ⟨hat1, hat2⟩ := List.getElem?_eq_some_iff.1 hat
        rw [hM] at hat1
        have hA240 : A ≤ 240 := by rw [← hA]; have := crsN_len y k; omega
        have fA : ilt (A : Int) (M : Int) = true := ilt_t (by omega)
        have fA2 : ¬ ((M : Int) ≤ (A : Int)) := by omega
        have wA : IntKind.i64.wrap ((A : Int) + 1) = ((A + 1 : Nat) : Int) := wrap_succ (by omega)
        have hnx : (crsN y (k + 1)).length = A + 1 := by rw [crsN_t hu]; simp [hA]
        have i1 : ilt pn 1 = false := ilt_f (by omega)
        have i2 : ilt pd pn = false := ilt_f (by omega)
        have m1 := mul_b (x := pn) (y := z - x) (X := 32766) (Y := 32766) (by omega) (by omega)
        have m2 := mul_b (x := x) (y := pd) (X := 32766) (Y := 32766) (by omega) (by omega)
        obtain ⟨D, hD⟩ : ∃ D, z - x = D := ⟨_, rfl⟩
        rw [hD] at hcross m1
        obtain ⟨T, hT⟩ : ∃ T, pn * D = T := ⟨_, rfl⟩
        obtain ⟨U, hU⟩ : ∃ U, x * pd = U := ⟨_, rfl⟩
        have hTU : -U = T := by rw [← hT, hcross, ← hU]; grind
        rw [hT] at m1
        rw [hU] at m2
        have v1 : IntKind.i64.wrap D = D := wrap_id (by omega) (by omega)
        have v2 : IntKind.i64.wrap T = T := wrap_id (by omega) (by omega)
        have v3 : IntKind.i64.wrap U = U := wrap_id (by omega) (by omega)
        have j1 : 0 ≤ pn := by omega
        have j2 : pn ≤ 9223372036854775807 := by omega
        have j3 : 0 ≤ pd := by omega
        have j4 : pd ≤ 9223372036854775807 := by omega
        clear hup hpo hpt hcross hlo hA n1 n2 n3 hA240 m1 m2 bx bz d1 d2
        repeat' first
          | (refine gw_bool (fun _ => ?_) (fun _ => ?_))
          | (refine condw_bool (fun _ => ?_) (fun _ => ?_))
          | simp [*, il, Pt.cs]
        refine nxt_go (k + 1) (View.refl _ _) (by omega) (by simp [*, Keep, St.forget, scr, scrC]) (by simp [*, KeepH, St.forget, scr, scrC]) ?_
        refine ⟨by omega, ?_, ?_⟩
        all_goals simp [*]
    · have f1 : ilt ((k : Int) + 1) (N : Int) = false := ilt_f (by omega)
      have f2 : (crsN y k).length = M := by rw [← hM, crs, show y.length - 1 = k by omega]
      repeat' first
        | (refine gw_bool (fun _ => ?_) (fun _ => ?_))
        | (refine condw_bool (fun _ => ?_) (fun _ => ?_))
        | simp [*]
end Go.Proofs.Ytacmchjaldljjaa
