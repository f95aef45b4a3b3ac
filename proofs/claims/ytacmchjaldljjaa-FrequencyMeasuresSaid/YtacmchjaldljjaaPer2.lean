/-
  Frequency: the mean period, the frequency, and whether it deviates.
-/
import Derived.Test.YtacmchjaldljjaaPer
namespace Go.Proofs.Ytacmchjaldljjaa
open Go.Pv Go.RowKit
set_option linter.unusedSimpArgs false
set_option linter.unusedVariables false
set_option maxRecDepth 100000
set_option maxHeartbeats 4000000

theorem okS_at {l : List Int} (h : okS l = true) {i : Nat} {x : Int} (hx : l[i]? = some x) : -16383 ≤ x ∧ x ≤ 16383 := by
  simp only [okS, Bool.and_eq_true] at h
  exact smp_b (List.all_eq_true.1 h.2 x (List.mem_of_getElem? hx))
theorem okS_len {l : List Int} (h : okS l = true) : l.length ≤ 240 := by
  simp only [okS, Bool.and_eq_true, decide_eq_true_eq] at h; exact h.1
structure PtOk (l : List Int) (p : Pt) (k : Nat) : Prop where
  eq : p = ptAt l k
  up : upAt l k = true
  lt : k + 1 < l.length
  k1 : p.k = k
  n1 : 1 ≤ p.n
  n2 : p.n ≤ p.d
  d2 : p.d ≤ 32766
theorem ptOk {l : List Int} (h : okS l = true) {k : Nat} (hk : k + 1 < l.length) (hu : upAt l k = true) : PtOk l (ptAt l k) k := by
  obtain ⟨x, hx, _⟩ := at_ex (show k < l.length by omega)
  obtain ⟨y, hy, _⟩ := at_ex (show k + 1 < l.length by omega)
  have bx := okS_at h hx
  have by' := okS_at h hy
  have hup : upAt l k = (ilt x 0 && !ilt y 0) := by rw [upAt, gD hx, gD hy]
  rw [hu] at hup
  have c1 : x < 0 := by cases h : ilt x 0 <;> simp [h] at hup; exact ilt_iff.1 h
  have c2 : 0 ≤ y := by cases h : ilt y 0 <;> simp [h] at hup; exact ilt_iff'.1 h
  have hpt : ptAt l k = ⟨k, (low (-x) (y - x)).1, (low (-x) (y - x)).2⟩ := by rw [ptAt, gD hx, gD hy]
  obtain ⟨e1, e2, e3⟩ := low_eq (n := -x) (d := y - x) (by omega)
  have e4 := low_b (n := -x) (d := y - x) (by omega)
  have hg := gcd_pos (n := -x) (d := y - x) (by omega)
  refine ⟨rfl, hu, hk, by rw [hpt], ?_, ?_, ?_⟩
  · rw [hpt]
    show 1 ≤ (low (-x) (y - x)).1
    rcases Int.lt_or_le 0 (low (-x) (y - x)).1 with h1 | h1
    · omega
    · exfalso
      have := Int.mul_nonpos_of_nonpos_of_nonneg h1 (Int.le_of_lt hg)
      omega
  · rw [hpt]
    show (low (-x) (y - x)).1 ≤ (low (-x) (y - x)).2
    refine Int.le_of_mul_le_mul_right ?_ hg
    omega
  · rw [hpt]
    show (low (-x) (y - x)).2 ≤ 32766
    omega
theorem crs_get {l : List Int} (h : okS l = true) {i : Nat} {p : Pt} (hp : (crs l)[i]? = some p) : ∃ k, ((List.range (l.length - 1)).filter (upAt l))[i]? = some k ∧ PtOk l p k := by
  simp only [crs, crsN, List.getElem?_map, Option.map_eq_some_iff] at hp
  obtain ⟨k, hk, rfl⟩ := hp
  have hm := List.mem_of_getElem? hk
  simp only [List.mem_filter, List.mem_range] at hm
  exact ⟨k, hk, ptOk h (by omega) hm.2⟩
theorem ks_lt (l : List Int) (n i j a b : Nat) (hij : i < j) (ha : ((List.range n).filter (upAt l))[i]? = some a) (hb : ((List.range n).filter (upAt l))[j]? = some b) : a < b := by
  have hp : ((List.range n).filter (upAt l)).Pairwise (· < ·) := List.Pairwise.filter _ List.pairwise_lt_range
  obtain ⟨h1, h1'⟩ := List.getElem?_eq_some_iff.1 ha
  obtain ⟨h2, h2'⟩ := List.getElem?_eq_some_iff.1 hb
  rw [← h1', ← h2']
  exact List.pairwise_iff_getElem.1 hp i j h1 h2 hij
def pnum (f g : Pt) : Int := (g.k - f.k) * f.d * g.d + g.n * f.d - f.n * g.d
def pden (f g : Pt) (c : Int) : Int := f.d * g.d * (c - 1)
theorem per_b {l : List Int} (h : okS l = true) {m : Nat} {f g : Pt} (hm : 1 ≤ m) (hlen : (crs l).length = m + 1) (hf : (crs l)[0]? = some f) (hg : (crs l)[m]? = some g) :
    0 < pnum f g ∧ pnum f g ≤ 300000000000 ∧ 0 < pden f g ((m + 1 : Nat) : Int) ∧ pden f g ((m + 1 : Nat) : Int) ≤ 300000000000 := by
  obtain ⟨a, ha, fa⟩ := crs_get h hf
  obtain ⟨b, hb, gb⟩ := crs_get h hg
  have hab := ks_lt l _ 0 m a b (by omega) ha hb
  have hl := okS_len h
  have hb2 := gb.lt
  have hml : m + 1 ≤ 240 := by rw [← hlen]; have := crsN_len l (l.length - 1); simp only [crs]; omega
  have f1 := fa.k1
  have g1 := gb.k1
  obtain ⟨fn1, fn2, fd2⟩ := (⟨fa.n1, fa.n2, fa.d2⟩ : _ ∧ _ ∧ _)
  obtain ⟨gn1, gn2, gd2⟩ := (⟨gb.n1, gb.n2, gb.d2⟩ : _ ∧ _ ∧ _)
  have m1 := mul_b (x := f.d) (y := g.d) (X := 32766) (Y := 32766) (by omega) (by omega)
  have p1 : 0 < f.d * g.d := Int.mul_pos (by omega) (by omega)
  have m2 := mul_b (x := g.k - f.k) (y := f.d * g.d) (X := 240) (Y := 1073610756) (by omega) (by omega)
  have m3 := mul_b (x := g.n) (y := f.d) (X := 32766) (Y := 32766) (by omega) (by omega)
  have m4 := mul_b (x := f.n) (y := g.d) (X := 32766) (Y := 32766) (by omega) (by omega)
  have m5 := mul_b (x := f.d * g.d) (y := ((m + 1 : Nat) : Int) - 1) (X := 1073610756) (Y := 240) (by omega) (by omega)
  have p2 : 0 < g.n * f.d := Int.mul_pos (by omega) (by omega)
  have p3 : f.n * g.d ≤ f.d * g.d := Int.mul_le_mul_of_nonneg_right fn2 (by omega)
  have p5 : 0 < f.n * g.d := Int.mul_pos (by omega) (by omega)
  have p4 : f.d * g.d ≤ (g.k - f.k) * (f.d * g.d) := by
    have := Int.mul_le_mul_of_nonneg_right (show 1 ≤ g.k - f.k by omega) (Int.le_of_lt p1)
    omega
  have p6 : 0 < f.d * g.d * (((m + 1 : Nat) : Int) - 1) := Int.mul_pos p1 (by omega)
  have e1 : (g.k - f.k) * f.d * g.d = (g.k - f.k) * (f.d * g.d) := Int.mul_assoc _ _ _
  unfold pnum pden
  rw [e1]
  generalize (g.k - f.k) * (f.d * g.d) = A at *
  generalize f.d * g.d * (((m + 1 : Nat) : Int) - 1) = B at *
  generalize f.d * g.d = C at *
  generalize g.n * f.d = E at *
  generalize f.n * g.d = F at *
  omega
def perF (l : List Int) : (Int × Int) × Int :=
  if okS l = true then (match (crs l)[0]?, (crs l)[(crs l).length - 1]? with
    | some f, some g => if 2 ≤ (crs l).length then (low (pnum f g) (pden f g ((crs l).length : Int)), 0) else ((0, 0), 18)
    | _, _ => ((0, 0), 18)) else ((0, 0), 1)
def vF (r : (Int × Int) × Int) : V := .tup [.int .i64 r.1.1, .int .i64 r.1.2, .int .i64 r.2]
theorem perF_bad {l : List Int} (h : okS l = false) : perF l = ((0, 0), 1) := by simp [perF, h]
theorem perF_few {l : List Int} (h : okS l = true) (h2 : (crs l).length < 2) : perF l = ((0, 0), 18) := by
  unfold perF
  rw [if_pos h]
  split
  · rw [if_neg (by omega)]
  · rfl
theorem perF_ok {l : List Int} (h : okS l = true) {m : Nat} {f g : Pt} (hm : 1 ≤ m) (hlen : (crs l).length = m + 1) (hf : (crs l)[0]? = some f) (hg : (crs l)[m]? = some g) : perF l = (low (pnum f g) (pden f g ((m + 1 : Nat) : Int)), 0) := by
  unfold perF
  rw [if_pos h, hf, show (crs l).length - 1 = m by omega, hg]
  simp only [hlen]
  rw [if_pos (by omega)]
theorem period_ok (l : List Int) (hl : l.length ≤ maxLen) : PCall Try.prog 13 [.list 1 (l.map il)] (vF (perF l)) := by
  have hmx : maxLen = 9223372036854775807 := by decide
  rw [hmx] at hl
  have hdec := dec_i l
  cases hok : okS l
  · rw [perF_bad hok]
    have hcr : crV l = .tup [.list 3 [], .int .i64 1] := by unfold crV; rw [hok, if_neg (by decide)]
    refine pcall_cx G3_ok mixed (fun id => if id = 6 then some ⟨[(11, 7), (12, 8)], [8]⟩ else none) Try.func13 rfl Try.ntmps13 Try.results13 (by simp) (by kernel_rfl) ?_
    repeat' first
      | (refine gw_bool (fun _ => ?_) (fun _ => ?_))
      | (refine condw_bool (fun _ => ?_) (fun _ => ?_))
      | simp [*, vF]
  · have hcr : crV l = .tup [.list 3 ((crs l).map Pt.cs), .int .i64 0] := by unfold crV; rw [if_pos hok]
    by_cases h2 : (crs l).length < 2
    · rw [perF_few hok h2]
      have f1 : ilt (((crs l).length : Nat) : Int) 2 = true := ilt_t (by omega)
      clear h2
      refine pcall_cx G3_ok mixed (fun id => if id = 6 then some ⟨[(11, 7), (12, 8)], [8]⟩ else none) Try.func13 rfl Try.ntmps13 Try.results13 (by simp) (by kernel_rfl) ?_
      repeat' first
        | (refine gw_bool (fun _ => ?_) (fun _ => ?_))
        | (refine condw_bool (fun _ => ?_) (fun _ => ?_))
        | simp [*, vF]
    · obtain ⟨m, hlen⟩ : ∃ m, (crs l).length = m + 1 := ⟨(crs l).length - 1, by omega⟩
      obtain ⟨f, hf, hf'⟩ := at_ex (show 0 < (crs l).length by omega)
      obtain ⟨g, hg, hg'⟩ := at_ex (show m < (crs l).length by omega)
      obtain ⟨b1, b2, b3, b4⟩ := per_b hok (by omega) hlen hf hg
      rw [perF_ok hok (by omega) hlen hf hg]
      obtain ⟨S, hS⟩ : ∃ S, pnum f g = S := ⟨_, rfl⟩
      obtain ⟨D, hD⟩ : ∃ D, pden f g ((m + 1 : Nat) : Int) = D := ⟨_, rfl⟩
      rw [hS] at b1 b2 ⊢
      rw [hD] at b3 b4 ⊢
      have hm240 : m + 1 ≤ 240 := by rw [← hlen]; have := crsN_len l (l.length - 1); have := okS_len hok; simp only [crs]; omega
      obtain ⟨L, hL⟩ : ∃ L, crs l = L := ⟨_, rfl⟩
      have wm : IntKind.i64.wrap (((m + 1 : Nat) : Int) - 1) = (m : Int) := by rw [wrap_id (by omega) (by omega)]; omega
      have hD' : f.d * g.d * (m : Int) = D := by rw [← hD, pden]; congr 1; omega
      have f1 : ilt (((m + 1 : Nat)) : Int) 2 = false := ilt_f (by omega)
      obtain ⟨M, hM⟩ : ∃ M, m + 1 = M := ⟨_, rfl⟩
      rw [hM] at wm f1 hlen
      simp only [hL] at hcr hlen hf hg hf' hg'
      have w1 : IntKind.i64.wrap S = S := wrap_id (by omega) (by omega)
      have w2 : IntKind.i64.wrap D = D := wrap_id (by omega) (by omega)
      have q2 : D ≤ 4611686018427387904 := by omega
      have q3 : 0 ≤ S := by omega
      have q4 : S ≤ 4611686018427387904 := by omega
      have q5 : (0 : Int) < M := by omega
      have q6 : m < M := by omega
      have q7 : 0 < M := by omega
      have q8 : M ≠ 0 := by omega
      unfold pnum at hS
      clear hD b1 b2 b4 hm240
      refine pcall_cx G3_ok mixed (fun id => if id = 6 then some ⟨[(11, 7), (12, 8)], [8]⟩ else none) Try.func13 rfl Try.ntmps13 Try.results13 (by simp) (by kernel_rfl) ?_
      repeat' first
        | (refine gw_bool (fun _ => ?_) (fun _ => ?_))
        | (refine condw_bool (fun _ => ?_) (fun _ => ?_))
        | simp [*, vF, vI, Pt.cs, wrap_al, wrap_ar, wrap_sl, wrap_sr, wrap_ml, wrap_mr, wrap_ng]
theorem periodR_ok (l : List Int) (hl : l.length ≤ maxLen) : PCall Try.prog 16 [.list 1 (l.map il)] (vF (perF l)) := by
  have hmx : maxLen = 9223372036854775807 := by decide
  rw [hmx] at hl
  have hdec := dec_i l
  cases hok : okS l
  · rw [perF_bad hok]
    have hcr : crV l = .tup [.list 3 [], .int .i64 1] := by unfold crV; rw [hok, if_neg (by decide)]
    refine pcall_cx G3_ok mixed (fun id => if id = 6 then some ⟨[(11, 7), (12, 8)], [8]⟩ else none) Try.func16 rfl Try.ntmps16 Try.results16 (by simp) (by kernel_rfl) ?_
    repeat' first
      | (refine gw_bool (fun _ => ?_) (fun _ => ?_))
      | (refine condw_bool (fun _ => ?_) (fun _ => ?_))
      | simp [*, vF]
  · have hcr : crV l = .tup [.list 3 ((crs l).map Pt.cs), .int .i64 0] := by unfold crV; rw [if_pos hok]
    by_cases h2 : (crs l).length < 2
    · rw [perF_few hok h2]
      have f1 : ilt (((crs l).length : Nat) : Int) 2 = true := ilt_t (by omega)
      clear h2
      refine pcall_cx G3_ok mixed (fun id => if id = 6 then some ⟨[(11, 7), (12, 8)], [8]⟩ else none) Try.func16 rfl Try.ntmps16 Try.results16 (by simp) (by kernel_rfl) ?_
      repeat' first
        | (refine gw_bool (fun _ => ?_) (fun _ => ?_))
        | (refine condw_bool (fun _ => ?_) (fun _ => ?_))
        | simp [*, vF]
    · obtain ⟨m, hlen⟩ : ∃ m, (crs l).length = m + 1 := ⟨(crs l).length - 1, by omega⟩
      obtain ⟨f, hf, hf'⟩ := at_ex (show 0 < (crs l).length by omega)
      obtain ⟨g, hg, hg'⟩ := at_ex (show m < (crs l).length by omega)
      obtain ⟨b1, b2, b3, b4⟩ := per_b hok (by omega) hlen hf hg
      rw [perF_ok hok (by omega) hlen hf hg]
      obtain ⟨S, hS⟩ : ∃ S, pnum f g = S := ⟨_, rfl⟩
      obtain ⟨D, hD⟩ : ∃ D, pden f g ((m + 1 : Nat) : Int) = D := ⟨_, rfl⟩
      rw [hS] at b1 b2 ⊢
      rw [hD] at b3 b4 ⊢
      have hm240 : m + 1 ≤ 240 := by rw [← hlen]; have := crsN_len l (l.length - 1); have := okS_len hok; simp only [crs]; omega
      obtain ⟨L, hL⟩ : ∃ L, crs l = L := ⟨_, rfl⟩
      have wm : IntKind.i64.wrap (((m + 1 : Nat) : Int) - 1) = (m : Int) := by rw [wrap_id (by omega) (by omega)]; omega
      have hD' : f.d * g.d * (m : Int) = D := by rw [← hD, pden]; congr 1; omega
      have f1 : ilt (((m + 1 : Nat)) : Int) 2 = false := ilt_f (by omega)
      obtain ⟨M, hM⟩ : ∃ M, m + 1 = M := ⟨_, rfl⟩
      rw [hM] at wm f1 hlen
      simp only [hL] at hcr hlen hf hg hf' hg'
      have w1 : IntKind.i64.wrap S = S := wrap_id (by omega) (by omega)
      have w2 : IntKind.i64.wrap D = D := wrap_id (by omega) (by omega)
      have q2 : D ≤ 4611686018427387904 := by omega
      have q3 : 0 ≤ S := by omega
      have q4 : S ≤ 4611686018427387904 := by omega
      have q5 : (0 : Int) < M := by omega
      have q6 : m < M := by omega
      have q7 : 0 < M := by omega
      have q8 : M ≠ 0 := by omega
      unfold pnum at hS
      clear hD b1 b2 b4 hm240
      refine pcall_cx G3_ok mixed (fun id => if id = 6 then some ⟨[(11, 7), (12, 8)], [8]⟩ else none) Try.func16 rfl Try.ntmps16 Try.results16 (by simp) (by kernel_rfl) ?_
      repeat' first
        | (refine gw_bool (fun _ => ?_) (fun _ => ?_))
        | (refine condw_bool (fun _ => ?_) (fun _ => ?_))
        | simp [*, vF, vI, Pt.cs, wrap_al, wrap_ar, wrap_sl, wrap_sr, wrap_ml, wrap_mr, wrap_ng]
end Go.Proofs.Ytacmchjaldljjaa
