/-
  Resampling: Shift, and the document's; the law Shifts.
-/
import Derived.Test.YtnilibgafkakpaaRes10
namespace Go.Proofs.Ytnilibgafkakpaa
open Go.Pv Go.RowKit
set_option linter.unusedSimpArgs false
set_option linter.unusedVariables false
set_option maxRecDepth 100000
set_option maxHeartbeats 4000000

def ilst (f : Nat → Int) (n : Nat) : List Int := (List.range n).map f
def icl (f : Nat → Int) (n : Nat) : List V := ((ilst f n).map il).flatten
theorem ilst_len (f : Nat → Int) (n : Nat) : (ilst f n).length = n := by simp [ilst]
theorem icl_len (f : Nat → Int) (n : Nat) : (icl f n).length = n := by
  rw [icl, flat_len (sz := 1) (fun _ => rfl), ilst_len]; omega
theorem icl_pure (f : Nat → Int) (n : Nat) : (icl f n).any ownC = false := flat_pure (fun _ => rfl) _
theorem icl_chunks (f : Nat → Int) (n : Nat) : chunks 1 n (icl f n) = (ilst f n).map il := by
  have := flat_chunks (enc := il) (sz := 1) (fun _ => rfl) (ilst f n)
  rwa [ilst_len] at this
theorem ilst_succ (f : Nat → Int) (n : Nat) : ilst f (n + 1) = ilst f n ++ [f n] := by simp [ilst, List.range_succ]
theorem icl_succ (f : Nat → Int) (n : Nat) : icl f (n + 1) = icl f n ++ [.int .i64 (f n)] := by
  rw [icl, ilst_succ, ← flat_snoc]; rfl
theorem icl_scr (f : Nat → Int) (n key : Nat) : (icl f n).map (scrC key) = icl f n := scrC_cells (icl_pure f n)
theorem icl_zero (f : Nat → Int) : icl f 0 = [] := rfl
theorem icl_set (f : Nat → Int) (n i : Nat) (x : Int) (h : i < n) : setsV (icl f n) i [.int .i64 x] = icl (fun j => if j = i then x else f j) n := by
  have := flat_set (enc := il) (sz := 1) (fun _ => rfl) (ilst f n) i x (by rw [ilst_len]; exact h)
  rw [Nat.mul_one] at this
  refine this.trans ?_
  unfold icl
  congr 2
  apply List.ext_getElem (by simp [ilst])
  intro j h1 h2
  simp only [ilst, List.getElem_set, List.getElem_map, List.getElem_range]
  by_cases e : i = j
  · subst e; simp
  · simp [e, show ¬ j = i from fun e' => e e'.symm]
theorem ilst_flat (f : Nat → Int) (n : Nat) : ((ilst f n).map il).all (fun c => c.all flatC) = true := rows_flat (fun _ => rfl) _
theorem ilst_congr {f g : Nat → Int} {n : Nat} (h : ∀ j, j < n → f j = g j) : ilst f n = ilst g n := by
  unfold ilst; exact List.map_congr_left fun j hj => h j (List.mem_range.1 hj)
theorem dec_i (l : List Int) : decL unI (l.map il) = some l := decL_map unI_il _
attribute [simp] icl_len icl_pure icl_chunks icl_scr ilst_len ilst_flat

def shN (l : List Int) (p q : Int) (k : Nat) : Int := (neF (valF l k p q).1.1 (valF l k p q).1.2).1
def shOk (l : List Int) (p q : Int) : Bool := frc p q && (btw (l.length : Int) 2 240 && l.all smp)
def shF (l : List Int) (p q : Int) : V := if shOk l p q = true then .tup [.list 1 ((ilst (shN l p q) (l.length - 1)).map il), .int .i64 0] else .tup [.list 1 [], .int .i64 1]
theorem all_smp {l : List Int} (h : l.all smp = true) {i : Nat} (hi : i < l.length) : smp (l.getD i 0) = true := by
  obtain ⟨c, hc, _⟩ := at_ex hi
  rw [getD_of hc]
  exact List.all_eq_true.1 h c (List.mem_of_getElem? hc)
theorem ne_fine {n d : Int} (h1 : 0 < d) (h2 : d ≤ 6000000000) (h3 : n.natAbs ≤ 1000000000000000) : (neF (low n d).1 (low n d).2).2 = 0 := by
  have h4 := low_b (n := n) h1
  have h5 := (low_eq (n := n) h1).2.2
  have : neR (low n d).1 (low n d).2 = true := by simp [neR, btw, ilt]; omega
  simp [neF, this]
theorem val_fine {l : List Int} {p q : Int} {k : Nat} (h : shOk l p q = true) (hk : k + 1 < l.length) : ∃ n d, valF l k p q = ((n, d), 0) ∧ neF n d = (shN l p q k, 0) := by
  simp only [shOk, Bool.and_eq_true] at h
  obtain ⟨hf, hb, ha⟩ := h
  have key : ∃ n d, valF l k p q = ((n, d), 0) ∧ (neF n d).2 = 0 := by
    unfold valF
    split
    · rename_i hc
      have s1 := all_smp ha (show k - 1 < l.length by omega)
      have s2 := all_smp ha (show k < l.length by omega)
      have s3 := all_smp ha (show k + 1 < l.length by omega)
      have s4 := all_smp ha (show k + 2 < l.length by omega)
      obtain ⟨b1, b2, b3⟩ := cu_b hf s1 s2 s3 s4
      refine ⟨_, _, by simp only [cuF, hf, s1, s2, s3, s4, Bool.and_self, if_true], ne_fine b2 b3 b1⟩
    · have s2 := all_smp ha (show k < l.length by omega)
      have s3 := all_smp ha (show k + 1 < l.length by omega)
      have b1 := li_b hf s2 s3
      have ⟨q1, q2, q3, q4⟩ := frc_b hf
      refine ⟨_, _, by simp only [liF, hf, s2, s3, Bool.and_self, if_true]; rfl, ne_fine (by omega) (by omega) (by omega)⟩
  obtain ⟨n, d, h1, h2⟩ := key
  refine ⟨n, d, h1, ?_⟩
  rw [← h2]; simp [shN, h1]
theorem shift_ok (l : List Int) (p q : Int) (hl : l.length ≤ maxLen) : PFresh Try.prog 20 [.list 1 (l.map il), .int .i64 p, .int .i64 q] (shF l p q) := by
  have hm : maxLen = 9223372036854775807 := by decide
  cases hok : shOk l p q
  · unfold shF
    rw [hok, if_neg (by decide)]
    refine PFresh.weaken (v := .tup [.nils, .int .i64 1]) ?_ (WkL.refl _) (Wk.tup (.cons (Wk.nils 1) (.cons (Wk.refl _) .nil)))
    simp only [shOk] at hok
    rw [hm] at hl
    cases h1 : frc p q
    · clear hok
      refine pfresh_cx G9_ok mixed (fun _ => none) Try.func20 rfl Try.ntmps20 Try.results20 (by simp) (by kernel_rfl) ?_
      repeat' first
        | (refine gw_bool (fun _ => ?_) (fun _ => ?_))
        | (refine condw_bool (fun _ => ?_) (fun _ => ?_))
        | simp [*]
    · rw [h1, Bool.true_and] at hok
      cases h2 : btw (l.length : Int) 2 240
      · clear hok
        refine pfresh_cx G9_ok mixed (fun _ => none) Try.func20 rfl Try.ntmps20 Try.results20 (by simp) (by kernel_rfl) ?_
        repeat' first
          | (refine gw_bool (fun _ => ?_) (fun _ => ?_))
          | (refine condw_bool (fun _ => ?_) (fun _ => ?_))
          | simp [*]
      · rw [h2, Bool.true_and] at hok
        have hd := dec_i l
        refine pfresh_cx G9_ok mixed (fun _ => none) Try.func20 rfl Try.ntmps20 Try.results20 (by simp) (by kernel_rfl) ?_
        repeat' first
          | (refine gw_bool (fun _ => ?_) (fun _ => ?_))
          | (refine condw_bool (fun _ => ?_) (fun _ => ?_))
          | simp [*]
  · have hok' := hok
    unfold shF
    rw [hok, if_pos rfl]
    simp only [shOk, Bool.and_eq_true] at hok'
    obtain ⟨h1, h2, h3⟩ := hok'
    have h2' : 2 ≤ l.length ∧ l.length ≤ 240 := by simp [btw, ilt] at h2; omega
    obtain ⟨m, hmn⟩ : ∃ m, l.length = m + 1 := ⟨l.length - 1, by omega⟩
    have hsub : l.length - 1 = m := by omega
    rw [hsub]
    have w1 : IntKind.i64.wrap ((l.length : Int) - 1) = (m : Int) := by rw [wrap_id (by omega) (by omega)]; omega
    have k1 : (8 : Int) * (m : Int) ≤ 281474976710656 := by omega
    have k2 : (m : Int) ≤ 9223372036854775807 := by omega
    have k3 : l.length ≤ 9223372036854775807 := by omega
    have hd := dec_i l
    have hv : ∀ k, k < m → ∃ n d, valF l k p q = ((n, d), 0) ∧ neF n d = (shN l p q k, 0) := fun k hk => val_fine hok (by omega)
    obtain ⟨N, hN⟩ : ∃ N, l.length = N := ⟨_, rfl⟩
    have hvk : ∀ k, k < m → k + 1 < N := fun k hk => by omega
    have hN240 : N ≤ 240 := by omega
    rw [hN] at w1 k3 h2
    clear h2' hl hsub hok hmn
    refine pfresh_cx G9_ok mixed (fun _ => none) Try.func20 rfl Try.ntmps20 Try.results20 (by simp) (by kernel_rfl) ?_
    repeat' first
      | (refine gw_bool (fun _ => ?_) (fun _ => ?_))
      | (refine condw_bool (fun _ => ?_) (fun _ => ?_))
      | simp [*]
    refine lp_go (D := (fun _ => none)) G9_ok mixed (by kernel_rfl) [0, 1, 2, 8, 36] [] (α := Nat) (fun i e h => i ≤ m ∧ e 37 = .int .i64 i ∧ e 9 = .int .i64 0 ∧ ∃ R, h 34 = some ⟨3, R⟩ ∧ Hid (R = icl (fun j => if j < i then shN l p q j else 0) m)) (fun i => m - i) 0 ?_ ?_
    · refine ⟨by omega, rfl, rfl, _, rfl, show _ = _ from ?_⟩
      simp [icl, ilst, List.map_const', il]
    · rintro i e h hk hkh ⟨hi, g37, g9, R, q34, hR⟩
      simp [Keep] at hk
      simp [KeepH] at hkh
      have fl : R.length = m := by rw [hR.out, icl_len]
      have fp : R.any ownC = false := by rw [hR.out, icl_pure]
      by_cases hlt : i < m
      · obtain ⟨n, d, hv1, hv2⟩ := hv i hlt
        have hv3 := hvk i hlt
        have w1 : IntKind.i64.wrap ((i : Int) + 1) = ((i + 1 : Nat) : Int) := wrap_succ (by omega)
        have f1 : ilt (i : Int) (m : Int) = true := ilt_t (by omega)
        have f4 : ¬ ((m : Int) ≤ (i : Int)) := by omega
        have f5 : i + 1 ≤ m := by omega
        have hnx : Hid (setsV R i [.int .i64 (shN l p q i)] = icl (fun j => if j < i + 1 then shN l p q j else 0) m) := by
          show _ = _
          rw [hR.out, icl_set _ _ _ _ hlt]
          congr 1; funext j
          by_cases e1 : j = i
          · subst e1; simp
          · by_cases e2 : j < i
            · simp [e1, e2, show j < i + 1 by omega]
            · simp [e1, e2, show ¬ j < i + 1 by omega]
        generalize shN l p q i = S at hv2 hnx
        clear hv hvk
        repeat' first
          | (refine gw_bool (fun _ => ?_) (fun _ => ?_))
          | (refine condw_bool (fun _ => ?_) (fun _ => ?_))
          | simp [*, vF, vI]
        refine nxt_go (i + 1) (View.refl _ _) (by omega) (by simp [*, Keep, St.forget, scr, scrC]) (by simp [*, KeepH, St.forget, scr, scrC]) ?_
        refine ⟨by omega, ?_, ?_, setsV R i [.int .i64 S], ?_, hnx⟩
        all_goals simp [*]
      · have f1 : ilt (i : Int) (m : Int) = false := ilt_f (by omega)
        have f2 : i = m := by omega
        have f5 : chunks 1 m R = (ilst (shN l p q) m).map il := by
          rw [hR.out, icl_chunks, f2]
          congr 1
          exact ilst_congr fun j hj => by simp [hj]
        have f6 : ((ilst (shN l p q) m).map il).all (fun c => c.all flatC) = true := ilst_flat _ _
        clear hv hvk
        repeat' first
          | (refine gw_bool (fun _ => ?_) (fun _ => ?_))
          | (refine condw_bool (fun _ => ?_) (fun _ => ?_))
          | simp [*]
theorem shiftR_ok (l : List Int) (p q : Int) (hl : l.length ≤ maxLen) : PFresh Try.prog 21 [.list 1 (l.map il), .int .i64 p, .int .i64 q] (shF l p q) := by
  have hm : maxLen = 9223372036854775807 := by decide
  rw [hm] at hl
  cases hok : shOk l p q
  · unfold shF
    rw [hok, if_neg (by decide)]
    refine PFresh.weaken (v := .tup [.nils, .int .i64 1]) ?_ (WkL.refl _) (Wk.tup (.cons (Wk.nils 1) (.cons (Wk.refl _) .nil)))
    simp only [shOk] at hok
    obtain ⟨n, hn⟩ : ∃ n, l.length = n := ⟨_, rfl⟩
    rw [hn] at hok hl
    cases h1 : frc p q
    · clear hok
      refine pfresh_cx G9_ok mixed (fun _ => none) Try.func21 rfl Try.ntmps21 Try.results21 (by simp) (by kernel_rfl) ?_
      repeat' first
        | (refine gw_bool (fun _ => ?_) (fun _ => ?_))
        | (refine condw_bool (fun _ => ?_) (fun _ => ?_))
        | simp [*]
    · rw [h1, Bool.true_and] at hok
      cases h2 : ilt (n : Int) 2
      · cases h3 : ilt 240 (n : Int)
        · have hall : l.all smp = false := by simpa [btw, h2, h3] using hok
          clear hok
          refine pfresh_cx G9_ok mixed (fun _ => none) Try.func21 rfl Try.ntmps21 Try.results21 (by simp) (by kernel_rfl) ?_
          repeat' first
            | (refine gw_bool (fun _ => ?_) (fun _ => ?_))
            | (refine condw_bool (fun _ => ?_) (fun _ => ?_))
            | simp [*]
          refine lp_go (D := (fun _ => none)) G9_ok mixed (by kernel_rfl) [0, 1, 2, 8] [107, 108] (α := Nat) (fun i e h => i ≤ n ∧ e 9 = .int .i64 i ∧ Hid ((l.take i).all smp = true)) (fun i => n - i) 0 ?_ ?_
          · exact ⟨by omega, rfl, show _ = _ by simp⟩
          · rintro i e h hk hkh ⟨hi, g9, hinv⟩
            simp [Keep] at hk
            simp [KeepH] at hkh
            by_cases hlt : i < n
            · obtain ⟨x, hx, hx'⟩ := at_ex (show i < l.length by omega)
              have f1 : ilt (i : Int) (n : Int) = true := ilt_t (by omega)
              have w1 : IntKind.i64.wrap ((i : Int) + 1) = ((i + 1 : Nat) : Int) := wrap_succ (by omega)
              have hnext : (l.take (i + 1)).all smp = smp x := by
                rw [List.take_add_one, hx, List.all_append, hinv.out]; simp
              cases hs : smp x
              · clear hinv hnext
                repeat' first
                  | (refine gw_bool (fun _ => ?_) (fun _ => ?_))
                  | (refine condw_bool (fun _ => ?_) (fun _ => ?_))
                  | simp [*, il]
              · have hz : Hid ((l.take (i + 1)).all smp = true) := by rw [hs] at hnext; exact hnext
                clear hinv hnext
                repeat' first
                  | (refine gw_bool (fun _ => ?_) (fun _ => ?_))
                  | (refine condw_bool (fun _ => ?_) (fun _ => ?_))
                  | simp [*, il]
                refine nxt_go (i + 1) (View.refl _ _) (by omega) (by simp [*, Keep, St.forget, scr, scrC]) (by simp [*, KeepH, St.forget, scr, scrC]) ?_
                refine ⟨by omega, ?_, hz⟩; simp [*]
            · exfalso
              have := hinv.out
              rw [show i = n by omega, ← hn, List.take_length, hall] at this
              cases this
        · clear hok
          refine pfresh_cx G9_ok mixed (fun _ => none) Try.func21 rfl Try.ntmps21 Try.results21 (by simp) (by kernel_rfl) ?_
          repeat' first
            | (refine gw_bool (fun _ => ?_) (fun _ => ?_))
            | (refine condw_bool (fun _ => ?_) (fun _ => ?_))
            | simp [*]
      · clear hok
        refine pfresh_cx G9_ok mixed (fun _ => none) Try.func21 rfl Try.ntmps21 Try.results21 (by simp) (by kernel_rfl) ?_
        repeat' first
          | (refine gw_bool (fun _ => ?_) (fun _ => ?_))
          | (refine condw_bool (fun _ => ?_) (fun _ => ?_))
          | simp [*]
  · have hok' := hok
    unfold shF
    rw [hok, if_pos rfl]
    simp only [shOk, Bool.and_eq_true] at hok'
    obtain ⟨h1, h2, h3⟩ := hok'
    have h2' : 2 ≤ l.length ∧ l.length ≤ 240 := by simp [btw, ilt] at h2; omega
    obtain ⟨n, hn⟩ : ∃ n, l.length = n := ⟨_, rfl⟩
    have b1 : ilt (n : Int) 2 = false := ilt_f (by omega)
    have b2 : ilt 240 (n : Int) = false := ilt_f (by omega)
    obtain ⟨m, hm1, hm2⟩ : ∃ m, n ≤ m + 1 ∧ m + 1 ≤ n := ⟨n - 1, by omega, by omega⟩
    rw [show l.length - 1 = m by omega]
    have wm : IntKind.i64.wrap ((n : Int) - 1) = (m : Int) := by rw [wrap_id (by omega) (by omega)]; omega
    have hv : ∀ k, k < m → ∃ n d, valF l k p q = ((n, d), 0) ∧ neF n d = (shN l p q k, 0) := fun k hk => val_fine hok (by omega)
    have hsm : ∀ i x, l[i]? = some x → smp x = true := fun i x hx => List.all_eq_true.1 h3 x (List.mem_of_getElem? hx)
    clear hok h2 hl h3
    refine pfresh_cx G9_ok mixed (fun _ => none) Try.func21 rfl Try.ntmps21 Try.results21 (by simp) (by kernel_rfl) ?_
    repeat' first
      | (refine gw_bool (fun _ => ?_) (fun _ => ?_))
      | (refine condw_bool (fun _ => ?_) (fun _ => ?_))
      | simp [*]
    refine lp_go (D := (fun _ => none)) G9_ok mixed (by kernel_rfl) [0, 1, 2, 8] [107, 108] (α := Nat) (fun i e h => i ≤ n ∧ e 9 = .int .i64 i) (fun i => n - i) 0 ?_ ?_
    · exact ⟨by omega, rfl⟩
    · rintro i e h hk hkh ⟨hi, g9⟩
      simp [Keep] at hk
      simp [KeepH] at hkh
      by_cases hlt : i < n
      · obtain ⟨x, hx, hx'⟩ := at_ex (show i < l.length by omega)
        have f1 : ilt (i : Int) (n : Int) = true := ilt_t (by omega)
        have w1 : IntKind.i64.wrap ((i : Int) + 1) = ((i + 1 : Nat) : Int) := wrap_succ (by omega)
        have hs := hsm i x hx
        clear hv hsm
        repeat' first
          | (refine gw_bool (fun _ => ?_) (fun _ => ?_))
          | (refine condw_bool (fun _ => ?_) (fun _ => ?_))
          | simp [*, il]
        refine nxt_go (i + 1) (View.refl _ _) (by omega) (by simp [*, Keep, St.forget, scr, scrC]) (by simp [*, KeepH, St.forget, scr, scrC]) ?_
        refine ⟨by omega, ?_⟩; simp [*]
      · have f1 : ilt (i : Int) (n : Int) = false := ilt_f (by omega)
        clear hsm
        repeat' first
          | (refine gw_bool (fun _ => ?_) (fun _ => ?_))
          | (refine condw_bool (fun _ => ?_) (fun _ => ?_))
          | simp [*]
        refine lp_view (View.nilOwn _ (t := 10) (key := 108) 1 3 rfl (by simp [*])) ?_
        refine lp_go (D := (fun _ => none)) G9_ok mixed (by kernel_rfl) [0, 1, 2, 8] [107] (α := Nat) (fun k e h => k ≤ m ∧ e 11 = .int .i64 k ∧ e 10 = .sl 108 0 k 1 ∧ h 108 = some ⟨3, icl (shN l p q) k⟩) (fun k => m - k) 0 ?_ ?_
        · simp [icl_zero]
        · clear g9 f1 hi hlt
          rintro k e2 h2 hk2 hkh2 ⟨hi, g11, g10, q10⟩
          simp [Keep] at hk2
          simp [KeepH] at hkh2
          by_cases hlt : k < m
          · obtain ⟨x, y, hv1, hv2⟩ := hv k hlt
            obtain ⟨b, hb, hb'⟩ := at_ex (show k < l.length by omega)
            obtain ⟨c, hc, hc'⟩ := at_ex (show k + 1 < l.length by omega)
            have f1 : ilt (k : Int) (m : Int) = true := ilt_t (by omega)
            have w1 : IntKind.i64.wrap ((k : Int) + 1) = ((k + 1 : Nat) : Int) := wrap_succ (by omega)
            have w2 : IntKind.i64.wrap ((k : Int) + 2) = ((k + 2 : Nat) : Int) := by rw [wrap_id (by omega) (by omega)]; omega
            have f5 : (k + 1) * 8 ≤ 140737488355328 := by omega
            have f6 : k + 1 ≤ 9223372036854775807 := by omega
            have hsu := icl_succ (shN l p q) k
            obtain ⟨S, hS⟩ : ∃ S, shN l p q k = S := ⟨_, rfl⟩
            rw [hS] at hv2 hsu
            obtain ⟨⟨⟨u, v⟩, z⟩, hli⟩ : ∃ r, liF b c p q = r := ⟨_, rfl⟩
            obtain ⟨C0, hC0⟩ : ∃ C, icl (shN l p q) k = C := ⟨_, rfl⟩
            have z1 : C0.length = k := by rw [← hC0, icl_len]
            have z2 : C0.map (scrC 108) = C0 := by rw [← hC0, icl_scr]
            have z3 : C0.map (scrC 107) = C0 := by rw [← hC0, icl_scr]
            rw [hC0] at hsu
            rw [hC0] at q10
            have p0 : (0 : Int) ≤ (k : Int) + 1 := by omega
            have p1 : (0 : Int) ≤ (k : Int) + 2 := by omega
            have p2 : ((k : Int) + 2).toNat = k + 2 := by omega
            by_cases hcub : 1 ≤ k ∧ k + 2 < n
            · obtain ⟨j, hj⟩ : ∃ j, j + 1 = k := ⟨k - 1, by omega⟩
              obtain ⟨a, ha, ha'⟩ := at_ex (show j < l.length by omega)
              obtain ⟨d, hd, hd'⟩ := at_ex (show k + 2 < l.length by omega)
              have g1 : ilt (k : Int) 1 = false := ilt_f (by omega)
              have g2 : ilt ((k : Int) + 2) (n : Int) = true := ilt_t (by omega)
              have w3 : IntKind.i64.wrap ((k : Int) - 1) = ((j : Nat) : Int) := by rw [wrap_id (by omega) (by omega)]; omega
              have hcu : cuF a b c d p q = ((x, y), 0) := by
                rw [← hv1]; unfold valF
                rw [if_pos ⟨hcub.1, by omega⟩, show k - 1 = j by omega, getD_of ha, getD_of hb, getD_of hc, getD_of hd]
              clear hv hv1 hC0 hS
              repeat' first
                | (refine gw_bool (fun _ => ?_) (fun _ => ?_))
                | (refine condw_bool (fun _ => ?_) (fun _ => ?_))
                | simp [*, vF, vI, il, appendV, srcCells, St.forget, scr, scrC]
              refine nxt_go (k + 1) ((View.forget _ _ 107)) (by omega) (by simp [*, Keep, St.forget, scr, scrC]) (by simp [*, KeepH, St.forget, scr, scrC]) ?_
              refine ⟨by omega, ?_, ?_, ?_⟩
              all_goals simp [*, St.forget, scr, scrC]
            · have hli' : liF b c p q = ((x, y), 0) := by
                rw [← hv1]; unfold valF
                rw [if_neg (by rw [hn]; exact hcub), getD_of hb, getD_of hc]
              cases g1 : ilt (k : Int) 1
              · have g2 : ilt ((k : Int) + 2) (n : Int) = false := ilt_f (by have := ilt_iff'.1 g1; omega)
                clear hv hcub hv1 hC0 hS hli
                repeat' first
                  | (refine gw_bool (fun _ => ?_) (fun _ => ?_))
                  | (refine condw_bool (fun _ => ?_) (fun _ => ?_))
                  | simp [*, vF, vI, il, appendV, srcCells, St.forget, scr, scrC]
                refine nxt_go (k + 1) ((View.forget _ _ 107)) (by omega) (by simp [*, Keep, St.forget, scr, scrC]) (by simp [*, KeepH, St.forget, scr, scrC]) ?_
                refine ⟨by omega, ?_, ?_, ?_⟩
                all_goals simp [*, St.forget, scr, scrC]
              · clear hv hcub hv1 hC0 hS hli
                repeat' first
                  | (refine gw_bool (fun _ => ?_) (fun _ => ?_))
                  | (refine condw_bool (fun _ => ?_) (fun _ => ?_))
                  | simp [*, vF, vI, il, appendV, srcCells, St.forget, scr, scrC]
                refine nxt_go (k + 1) ((View.forget _ _ 107)) (by omega) (by simp [*, Keep, St.forget, scr, scrC]) (by simp [*, KeepH, St.forget, scr, scrC]) ?_
                refine ⟨by omega, ?_, ?_, ?_⟩
                all_goals simp [*, St.forget, scr, scrC]
          · have f1 : ilt (k : Int) (m : Int) = false := ilt_f (by omega)
            have f2 : k = m := by omega
            subst f2
            have f6 : ((ilst (shN l p q) k).map il).all (fun c => c.all flatC) = true := ilst_flat _ _
            clear hv
            repeat' first
              | (refine gw_bool (fun _ => ?_) (fun _ => ?_))
              | (refine condw_bool (fun _ => ?_) (fun _ => ?_))
              | simp [*]
def Tsh : List V → Option V
  | [.list 1 xs, .int .i64 p, .int .i64 q] => (match decL unI xs with
    | some l => bif decide (l.length ≤ 9223372036854775807) then some (shF l p q) else none
    | none => none)
  | _ => none
theorem sh_tab : ∀ vs v, Tsh vs = some v → PFresh Try.prog 20 vs v := by
  intro vs v h; unfold Tsh at h; split at h
  · split at h
    · rename_i l h1
      rw [decL_inv unI_inv _ _ h1]
      simp only [cond_eq_ite, decide_eq_true_eq] at h
      split at h
      · rename_i hc; cases h; exact shift_ok _ _ _ hc
      · cases h
    · cases h
  · cases h
theorem shR_tab : ∀ vs v, Tsh vs = some v → PFresh Try.prog 21 vs v := by
  intro vs v h; unfold Tsh at h; split at h
  · split at h
    · rename_i l h1
      rw [decL_inv unI_inv _ _ h1]
      simp only [cond_eq_ite, decide_eq_true_eq] at h
      split at h
      · rename_i hc; cases h; exact shiftR_ok _ _ _ hc
      · cases h
    · cases h
  · cases h
def G10 : Tab := addF 20 Tsh (addF 21 Tsh (G9))
theorem G10_at (f : FuncId) (vs : List V) : G10.at' f vs = if f = 20 then Tsh vs else if f = 21 then Tsh vs else G9.at' f vs := rfl
theorem G10_fr (f : FuncId) : G10.fr f = if f = 20 then true else if f = 21 then true else G9.fr f := rfl
attribute [simp] G10_at G10_fr Tsh
theorem G10_ok : TabOK Try.prog G10 := by
  refine addF_ok (addF_ok (G9_ok) (by kernel_rfl) ?_) (by kernel_rfl) ?_
  · exact shR_tab
  · exact sh_tab
theorem lawShifts (l : List Int) (p q : Int) (hl : l.length ≤ maxLen) : PCall Try.prog 8 [.list 1 (l.map il), .int .i64 p, .int .i64 q] (.bool true) := by
  have hm : maxLen = 9223372036854775807 := by decide
  rw [hm] at hl
  have hd := dec_i l
  cases hok : shOk l p q
  · have hs : shF l p q = .tup [.list 1 [], .int .i64 1] := by unfold shF; rw [hok, if_neg (by decide)]
    clear hok
    refine pcall_cx G10_ok mixed (fun _ => none) Try.func8 rfl Try.ntmps8 Try.results8 (by simp) (by kernel_rfl) ?_
    repeat' first
      | (refine gw_bool (fun _ => ?_) (fun _ => ?_))
      | (refine condw_bool (fun _ => ?_) (fun _ => ?_))
      | simp [*, decL]
  · have hs : shF l p q = .tup [.list 1 ((ilst (shN l p q) (l.length - 1)).map il), .int .i64 0] := by unfold shF; rw [hok, if_pos rfl]
    obtain ⟨L, hL⟩ : ∃ L, ilst (shN l p q) (l.length - 1) = L := ⟨_, rfl⟩
    rw [hL] at hs
    have hdL := dec_i L
    have hLl : L.length ≤ 9223372036854775807 := by rw [← hL, ilst_len]; omega
    clear hok hL
    refine pcall_cx G10_ok mixed (fun _ => none) Try.func8 rfl Try.ntmps8 Try.results8 (by simp) (by kernel_rfl) ?_
    repeat' first
      | (refine gw_bool (fun _ => ?_) (fun _ => ?_))
      | (refine condw_bool (fun _ => ?_) (fun _ => ?_))
      | simp [*]
end Go.Proofs.Ytnilibgafkakpaa
