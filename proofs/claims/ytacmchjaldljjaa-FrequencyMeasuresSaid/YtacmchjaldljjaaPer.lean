/-
  Frequency: the period, the frequency.
-/
import Derived.Test.YtacmchjaldljjaaCrs
namespace Go.Proofs.Ytacmchjaldljjaa
open Go.Pv Go.RowKit
set_option linter.unusedSimpArgs false
set_option linter.unusedVariables false
set_option maxRecDepth 100000
set_option maxHeartbeats 4000000

theorem low_eq {n d : Int} (hd : 0 < d) : (low n d).1 * gcdI n d = n ∧ (low n d).2 * gcdI n d = d ∧ 0 < (low n d).2 := by
  have hg := gcd_pos (n := n) hd
  have h1 : gcdI n d ∣ n := by
    rw [← Int.dvd_natAbs]; exact Int.natCast_dvd_natCast.2 (Nat.gcd_dvd_left _ _)
  have h2 : gcdI n d ∣ d := by
    rw [← Int.dvd_natAbs]; exact Int.natCast_dvd_natCast.2 (Nat.gcd_dvd_right _ _)
  have e2 : (low n d).2 * gcdI n d = d := Int.tdiv_mul_cancel h2
  refine ⟨Int.tdiv_mul_cancel h1, e2, ?_⟩
  rcases Int.lt_trichotomy (low n d).2 0 with h | h | h
  · exfalso
    have := Int.mul_neg_of_neg_of_pos h hg
    omega
  · rw [h] at e2; omega
  · exact h
theorem low_cross {n d : Int} (hd : 0 < d) : (low n d).1 * d = n * (low n d).2 := by
  obtain ⟨h1, h2, h3⟩ := low_eq (n := n) hd
  generalize (low n d).1 = u at *
  generalize (low n d).2 = v at *
  generalize gcdI n d = g at *
  rw [← h1, ← h2]; grind
theorem low_mul {x d : Int} (hd : 0 < d) : low (x * d) d = (x, 1) := by
  have hg : gcdI (x * d) d = d := by
    simp only [gcdI, Int.natAbs_mul, Nat.gcd_mul_left_left]; omega
  simp only [low, hg]
  rw [Int.mul_tdiv_cancel _ (by omega), Int.tdiv_self (by omega)]
theorem low_b {n d : Int} (hd : 0 < d) : (low n d).1.natAbs ≤ n.natAbs ∧ (low n d).2 ≤ d := by
  have h1 : ((low n d).1).natAbs = n.natAbs / (gcdI n d).natAbs := by simp only [low, Int.natAbs_tdiv]; rfl
  have h2 : ((low n d).2).natAbs = d.natAbs / (gcdI n d).natAbs := by simp only [low, Int.natAbs_tdiv]; rfl
  have h3 := Nat.div_le_self n.natAbs (gcdI n d).natAbs
  have h4 := Nat.div_le_self d.natAbs (gcdI n d).natAbs
  omega
theorem mul_b {x y : Int} {X Y : Nat} (hx : x.natAbs ≤ X) (hy : y.natAbs ≤ Y) : (x * y).natAbs ≤ X * Y := by
  rw [Int.natAbs_mul]; exact Nat.mul_le_mul hx hy
theorem dec_i (l : List Int) : decL unI (l.map il) = some l := decL_map unI_il _
def Tcr : List V → Option V
  | [.list 1 xs] => (match decL unI xs with
    | some l => bif decide (l.length ≤ 9223372036854775807) then some (crV l) else none
    | none => none)
  | _ => none
theorem cr_tab : ∀ vs v, Tcr vs = some v → PFresh Try.prog 10 vs v := by
  intro vs v h; unfold Tcr at h; split at h
  · split at h
    · rename_i l h1
      rw [decL_inv unI_inv _ _ h1]
      simp only [cond_eq_ite, decide_eq_true_eq] at h
      split at h
      · rename_i hc; cases h; exact crossings_ok _ hc
      · cases h
    · cases h
  · cases h
theorem crossingsR_ok (l : List Int) (hl : l.length ≤ maxLen) : PFresh Try.prog 15 [.list 1 (l.map il)] (crV l) := by
  have hm : maxLen = 9223372036854775807 := by decide
  rw [hm] at hl
  have hdec := dec_i l
  cases hok : okS l
  · unfold crV
    rw [hok, if_neg (by decide)]
    refine PFresh.weaken (v := .tup [.nils, .int .i64 1]) ?_ (WkL.refl _) (Wk.tup (.cons (Wk.nils 3) (.cons (Wk.refl _) .nil)))
    refine pfresh_cx G2_ok mixed (fun _ => none) Try.func15 rfl Try.ntmps15 Try.results15 (by simp) (by kernel_rfl) ?_
    repeat' first
      | (refine gw_bool (fun _ => ?_) (fun _ => ?_))
      | (refine condw_bool (fun _ => ?_) (fun _ => ?_))
      | simp [*]
  · unfold crV
    rw [if_pos hok]
    obtain ⟨N, hN⟩ : ∃ N, l.length = N := ⟨_, rfl⟩
    have hN3 : N ≤ 9223372036854775807 := by omega
    have hN2 : N ≤ 240 := by simp only [okS, Bool.and_eq_true, decide_eq_true_eq] at hok; omega
    have hsm : ∀ i x, l[i]? = some x → smp x = true := fun i x hx => by
      simp only [okS, Bool.and_eq_true] at hok
      exact List.all_eq_true.1 hok.2 x (List.mem_of_getElem? hx)
    refine pfresh_cx G2_ok mixed (fun _ => none) Try.func15 rfl Try.ntmps15 Try.results15 (by simp) (by kernel_rfl) ?_
    repeat' first
      | (refine gw_bool (fun _ => ?_) (fun _ => ?_))
      | (refine condw_bool (fun _ => ?_) (fun _ => ?_))
      | simp [*]
    refine lp_view (View.nilOwn _ (t := 4) (key := 56) 3 41 rfl rfl) ?_
    refine lp_go (D := (fun _ => none)) G2_ok mixed (by kernel_rfl) [0] [55] (α := Nat) (fun k e h => k ≤ N - 1 ∧ e 5 = .int .i64 k ∧ e 4 = .sl 56 0 (crsN l k).length 3 ∧ h 56 = some ⟨41, ptsC (crsN l k)⟩) (fun k => N - k) 0 ?_ ?_
    · simp [crsN, ptsC]
    · rintro k e h hk hkh ⟨hi, g5, g4, q56⟩
      simp [Keep] at hk
      simp [KeepH] at hkh
      have p0 : (0 : Int) ≤ (k : Int) + 1 := by omega
      have w1 : IntKind.i64.wrap ((k : Int) + 1) = ((k + 1 : Nat) : Int) := wrap_succ (by omega)
      by_cases hlt : k + 1 < N
      · obtain ⟨x, hx, hx'⟩ := at_ex (show k < l.length by omega)
        obtain ⟨y, hy, hy'⟩ := at_ex (show k + 1 < l.length by omega)
        have f1 : ilt ((k : Int) + 1) (N : Int) = true := ilt_t (by omega)
        have hup : upAt l k = (ilt x 0 && !ilt y 0) := by rw [upAt, gD hx, gD hy]
        have hlen := crsN_len l k
        have f5 : ((crsN l k).length + 1) * 24 ≤ 140737488355328 := by omega
        have f6 : (crsN l k).length + 1 ≤ 9223372036854775807 := by omega
        cases hu : upAt l k
        · rw [hu] at hup
          have hnx := crsN_f hu
          cases c1 : ilt x 0
          · clear hup hsm hlen
            repeat' first
              | (refine gw_bool (fun _ => ?_) (fun _ => ?_))
              | (refine condw_bool (fun _ => ?_) (fun _ => ?_))
              | simp [*, il]
            refine nxt_go (k + 1) (View.refl _ _) (by omega) (by simp [*, Keep, St.forget, scr, scrC]) (by simp [*, KeepH, St.forget, scr, scrC]) ?_
            refine ⟨by omega, ?_, ?_, ?_⟩
            all_goals simp [*]
          · have c2 : ilt y 0 = true := by simpa [c1] using hup.symm
            clear hup hsm hlen
            repeat' first
              | (refine gw_bool (fun _ => ?_) (fun _ => ?_))
              | (refine condw_bool (fun _ => ?_) (fun _ => ?_))
              | simp [*, il]
            refine nxt_go (k + 1) (View.refl _ _) (by omega) (by simp [*, Keep, St.forget, scr, scrC]) (by simp [*, KeepH, St.forget, scr, scrC]) ?_
            refine ⟨by omega, ?_, ?_, ?_⟩
            all_goals simp [*]
        · rw [hu] at hup
          have c1 : ilt x 0 = true := by cases h : ilt x 0 <;> simp [h] at hup ⊢
          have c2 : ilt y 0 = false := by cases h : ilt y 0 <;> simp [h] at hup ⊢
          have hnx := crsN_t hu
          have hxs := smp_b (hsm k x hx)
          have hys := smp_b (hsm (k + 1) y hy)
          have d1 := ilt_iff.1 c1
          have d2 := ilt_iff'.1 c2
          have hpt : ptAt l k = ⟨k, (low (-x) (y - x)).1, (low (-x) (y - x)).2⟩ := by rw [ptAt, gD hx, gD hy]
          obtain ⟨⟨pn, pd⟩, hlo⟩ : ∃ r, low (-x) (y - x) = r := ⟨_, rfl⟩
          rw [hlo] at hpt
          have v1 : IntKind.i64.wrap (-x) = -x := wrap_id (by omega) (by omega)
          have v2 : IntKind.i64.wrap (y - x) = y - x := wrap_id (by omega) (by omega)
          obtain ⟨mx, hmx⟩ : ∃ z, -x = z := ⟨_, rfl⟩
          obtain ⟨yx, hyx⟩ : ∃ z, y - x = z := ⟨_, rfl⟩
          rw [hmx] at v1 hlo
          rw [hyx] at v2 hlo
          have q1 : 0 < yx := by omega
          have q2 : yx ≤ 4611686018427387904 := by omega
          have q3 : 0 ≤ mx := by omega
          have q4 : mx ≤ 4611686018427387904 := by omega
          have hsn := ptsC_snoc (crsN l k) (ptAt l k)
          rw [← hnx] at hsn
          have hln : (crsN l (k + 1)).length = (crsN l k).length + 1 := by rw [hnx]; simp
          rw [hpt] at hsn
          obtain ⟨C0, hC0⟩ : ∃ C, ptsC (crsN l k) = C := ⟨_, rfl⟩
          obtain ⟨L0, hL0⟩ : ∃ L, (crsN l k).length = L := ⟨_, rfl⟩
          have z1 : C0.length = L0 * 3 := by rw [← hC0, ptsC_len, hL0]
          have z2 : C0.map (scrC 56) = C0 := by rw [← hC0, ptsC_scr]
          have z3 : C0.map (scrC 55) = C0 := by rw [← hC0, ptsC_scr]
          rw [hC0] at q56 hsn
          rw [hL0] at g4 f5 f6 hln
          clear hup hsm hlen hu hnx hpt hxs hys d1 d2 hC0 hL0
          repeat' first
            | (refine gw_bool (fun _ => ?_) (fun _ => ?_))
            | (refine condw_bool (fun _ => ?_) (fun _ => ?_))
            | simp [*, il, vI, appendV, srcCells, St.forget, scr, scrC, Pt.cs]
          refine nxt_go (k + 1) ((View.forget _ _ 55)) (by omega) (by simp [*, Keep, St.forget, scr, scrC]) (by simp [*, KeepH, St.forget, scr, scrC]) ?_
          refine ⟨by omega, ?_, ?_, ?_⟩
          all_goals simp [*, St.forget, scr, scrC, Pt.cs]
      · have f1 : ilt ((k : Int) + 1) (N : Int) = false := ilt_f (by omega)
        have f2 : crsN l k = crs l := by rw [crs, show l.length - 1 = k by omega]
        have f6 : ((crs l).map Pt.cs).all (fun c => c.all flatC) = true := pts_flat _
        clear hsm
        repeat' first
          | (refine gw_bool (fun _ => ?_) (fun _ => ?_))
          | (refine condw_bool (fun _ => ?_) (fun _ => ?_))
          | simp [*]
theorem crR_tab : ∀ vs v, Tcr vs = some v → PFresh Try.prog 15 vs v := by
  intro vs v h; unfold Tcr at h; split at h
  · split at h
    · rename_i l h1
      rw [decL_inv unI_inv _ _ h1]
      simp only [cond_eq_ite, decide_eq_true_eq] at h
      split at h
      · rename_i hc; cases h; exact crossingsR_ok _ hc
      · cases h
    · cases h
  · cases h
def G3 : Tab := addF 10 Tcr (addF 15 Tcr (G2))
theorem G3_at (f : FuncId) (vs : List V) : G3.at' f vs = if f = 10 then Tcr vs else if f = 15 then Tcr vs else G2.at' f vs := rfl
theorem G3_fr (f : FuncId) : G3.fr f = if f = 10 then true else if f = 15 then true else G2.fr f := rfl
attribute [simp] G3_at G3_fr Tcr
theorem G3_ok : TabOK Try.prog G3 := by
  refine addF_ok (addF_ok (G2_ok) (by kernel_rfl) ?_) (by kernel_rfl) ?_
  · exact crR_tab
  · exact cr_tab
end Go.Proofs.Ytacmchjaldljjaa
