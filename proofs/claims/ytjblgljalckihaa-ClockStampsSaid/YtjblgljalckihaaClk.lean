/-
  The clock: what each function answers, by its text, for numbers of a clock's size; the document's functions answer the same.
-/
import Derived.Test.YtjblgljalckihaaTd
import Derived.Laws.Externs
namespace Go.Proofs.Ytjblgljalckihaa
open Go.Pv Go.RowKit
set_option linter.unusedSimpArgs false
set_option linter.unusedVariables false
set_option maxRecDepth 100000
set_option maxHeartbeats 4000000

theorem tmod_fix {n m : Int} (hm : 0 < m) : (if n.tmod m < 0 then n.tmod m + m else n.tmod m) = n % m := by
  rw [Int.tmod_eq_emod]
  have h1 := Int.emod_nonneg n (show m ≠ 0 by omega)
  have h2 := Int.emod_lt_of_pos n hm
  by_cases h : 0 ≤ n ∨ m ∣ n
  · simp [h, show ¬ n % m < 0 by omega]
  · simp only [h, if_false]
    have : (m.toNat : Int) = m := Int.toNat_of_nonneg (by omega)
    split <;> omega
theorem tdiv_fix {n m : Int} (hm : 0 < m) : (if n.tmod m < 0 then n.tdiv m - 1 else n.tdiv m) = n / m := by
  have h1 := Int.mul_tdiv_add_tmod n m
  have h3 := Int.mul_ediv_add_emod n m
  have h4 := tmod_fix (n := n) hm
  have h5 := Int.emod_nonneg n (show m ≠ 0 by omega)
  have h6 := Int.emod_lt_of_pos n hm
  by_cases h : n.tmod m < 0
  · simp only [h, if_true] at h4 ⊢
    have : m * (n.tdiv m - 1) = m * (n / m) := by rw [Int.mul_sub]; omega
    exact Int.eq_of_mul_eq_mul_left (by omega) this
  · simp only [h, if_false] at h4 ⊢
    have : m * (n.tdiv m) = m * (n / m) := by omega
    exact Int.eq_of_mul_eq_mul_left (by omega) this
theorem within_ok (n m : Int) (hm : 0 < m) (hm2 : m ≤ 4611686018427387904) : PCall Try.prog 9 [.int .i64 n, .int .i64 m] (.int .i64 (n % m)) := by
  have h0 : m ≠ 0 := by omega
  have h1 := tmod_fix (n := n) hm
  have h2 := Int.emod_nonneg n h0
  have h3 := Int.emod_lt_of_pos n hm
  cases hn : ilt (n.tmod m) 0
  · have h4 : n.tmod m = n % m := by rw [← h1, if_neg (by have := ilt_iff'.1 hn; omega)]
    rw [h4] at hn
    clear h1 h2 h3
    refine pcall_cx noTab_ok mixed (fun _ => none) Try.func9 rfl Try.ntmps9 Try.results9 (by simp) (by kernel_rfl) ?_
    repeat' first
      | (refine gw_bool (fun _ => ?_) (fun _ => ?_))
      | (refine condw_bool (fun _ => ?_) (fun _ => ?_))
      | simp [*]
  · have h4 : n.tmod m + m = n % m := by rw [← h1, if_pos (ilt_iff.1 hn)]
    have h5 : IntKind.i64.wrap (n.tmod m + m) = n % m := by rw [h4]; exact wrap_id (by omega) (by omega)
    clear h1 h2 h3 h4
    refine pcall_cx noTab_ok mixed (fun _ => none) Try.func9 rfl Try.ntmps9 Try.results9 (by simp) (by kernel_rfl) ?_
    repeat' first
      | (refine gw_bool (fun _ => ?_) (fun _ => ?_))
      | (refine condw_bool (fun _ => ?_) (fun _ => ?_))
      | simp [*]
def Twithin : List V → Option V
  | [.int .i64 n, .int .i64 m] => bif decide (0 < m) && decide (m ≤ 4611686018427387904) then some (.int .i64 (n % m)) else none
  | _ => none
theorem within_tab : ∀ vs v, Twithin vs = some v → PCall Try.prog 9 vs v := by
  intro vs v h; unfold Twithin at h; split at h
  · simp only [cond_eq_ite, Bool.and_eq_true, decide_eq_true_eq] at h
    split at h
    · rename_i hc; cases h; exact within_ok _ _ hc.1 hc.2
    · cases h
  · cases h
theorem split_ok (n : Int) (h1 : -4611686018427387904 ≤ n) (h2 : n ≤ 4611686018427387904) : PCall Try.prog 23 [.int .i64 n] (.tup [.int .i64 (n / 1000000), .int .i64 (n % 1000000)]) := by
  have h3 := tmod_fix (n := n) (m := 1000000) (by omega)
  have h4 := tdiv_fix (n := n) (m := 1000000) (by omega)
  cases hn : ilt (n.tmod 1000000) 0
  · have hh := ilt_iff'.1 hn
    rw [if_neg (by omega)] at h3 h4
    have w1 : IntKind.i64.wrap (n.tdiv 1000000) = n / 1000000 := by rw [h4]; exact wrap_id (by omega) (by omega)
    rw [h3] at hn
    clear h4 hh
    refine pcall_cx noTab_ok mixed (fun _ => none) Try.func23 rfl Try.ntmps23 Try.results23 (by simp) (by kernel_rfl) ?_
    repeat' first
      | (refine gw_bool (fun _ => ?_) (fun _ => ?_))
      | (refine condw_bool (fun _ => ?_) (fun _ => ?_))
      | simp [*]
  · have hh := ilt_iff.1 hn
    rw [if_pos hh] at h3 h4
    have w0 : IntKind.i64.wrap (n.tdiv 1000000) = n.tdiv 1000000 := wrap_id (by omega) (by omega)
    have w1 : IntKind.i64.wrap (n.tdiv 1000000 - 1) = n / 1000000 := by rw [h4]; exact wrap_id (by omega) (by omega)
    have w2 : IntKind.i64.wrap (n.tmod 1000000 + 1000000) = n % 1000000 := by rw [h3]; exact wrap_id (by omega) (by omega)
    clear h3 h4 hh
    refine pcall_cx noTab_ok mixed (fun _ => none) Try.func23 rfl Try.ntmps23 Try.results23 (by simp) (by kernel_rfl) ?_
    repeat' first
      | (refine gw_bool (fun _ => ?_) (fun _ => ?_))
      | (refine condw_bool (fun _ => ?_) (fun _ => ?_))
      | simp [*]
def Tsplit : List V → Option V
  | [.int .i64 n] => bif decide (-4611686018427387904 ≤ n) && decide (n ≤ 4611686018427387904) then some (.tup [.int .i64 (n / 1000000), .int .i64 (n % 1000000)]) else none
  | _ => none
theorem split_tab : ∀ vs v, Tsplit vs = some v → PCall Try.prog 23 vs v := by
  intro vs v h; unfold Tsplit at h; split at h
  · simp only [cond_eq_ite, Bool.and_eq_true, decide_eq_true_eq] at h
    split at h
    · rename_i hc; cases h; exact split_ok _ hc.1 hc.2
    · cases h
  · cases h
structure Ck where
  t : Int
  r : Int
  k : Bool
  e : Int
  s : Int
def Ck.v (c : Ck) : V := .agg [.int .i64 c.t, .int .i64 c.r, .bool c.k, .int .i64 c.e, .int .i64 c.s]
theorem new_ok (t : Int) : PCall Try.prog 10 [.int .i64 t] (Ck.v ⟨t, 0, false, 0, 0⟩) := by
  refine pcall_cx noTab_ok mixed (fun _ => none) Try.func10 rfl Try.ntmps10 Try.results10 (by simp) (by kernel_rfl) ?_
  repeat' first
    | (refine gw_bool (fun _ => ?_) (fun _ => ?_))
    | (refine condw_bool (fun _ => ?_) (fun _ => ?_))
    | simp [*, Ck.v]
def Tnew : List V → Option V
  | [.int .i64 t] => some (Ck.v ⟨t, 0, false, 0, 0⟩)
  | _ => none
def G1 : Tab := add 9 Twithin (add 23 Tsplit (add 10 Tnew (noTab)))
theorem G1_at (f : FuncId) (vs : List V) : G1.at' f vs = if f = 9 then Twithin vs else if f = 23 then Tsplit vs else if f = 10 then Tnew vs else noTab.at' f vs := rfl
theorem G1_fr (f : FuncId) : G1.fr f = if f = 9 then false else if f = 23 then false else if f = 10 then false else noTab.fr f := rfl
attribute [simp] G1_at G1_fr Tnew Tsplit Twithin
theorem G1_ok : TabOK Try.prog G1 := by
  refine add_ok (add_ok (add_ok (noTab_ok) (by kernel_rfl) ?_) (by kernel_rfl) ?_) (by kernel_rfl) ?_
  · intro vs v h; unfold Tnew at h; split at h
    · cases h; apply new_ok
    · cases h
  · exact split_tab
  · exact within_tab
/-- A clock whose numbers are far from the ends of their range. -/
def Ck.ok (c : Ck) : Bool := decide (-1152921504606846976 ≤ c.t) && decide (c.t ≤ 1152921504606846976) && decide (0 ≤ c.r) && decide (c.r ≤ 1000000) && decide (0 ≤ c.e) && decide (c.e ≤ 1000000) && decide (0 ≤ c.s) && decide (c.s ≤ 1099511627776)
def lim (d : Int) : Int := min (max d (-100)) 100
def stC (c : Ck) (d : Int) : Ck := ⟨c.t + 20000 + (c.r + 20000 * lim d) / 1000000, (c.r + 20000 * lim d) % 1000000, c.k, c.e, if c.k then c.s + 1 else c.s⟩
theorem ok_iff {c : Ck} : c.ok = true ↔ (-1152921504606846976 ≤ c.t ∧ c.t ≤ 1152921504606846976 ∧ 0 ≤ c.r ∧ c.r ≤ 1000000 ∧ 0 ≤ c.e ∧ c.e ≤ 1000000 ∧ 0 ≤ c.s ∧ c.s ≤ 1099511627776) := by
  simp only [Ck.ok, Bool.and_eq_true, decide_eq_true_eq]
  constructor
  · rintro ⟨⟨⟨⟨⟨⟨⟨h1, h2⟩, h3⟩, h4⟩, h5⟩, h6⟩, h7⟩, h8⟩; exact ⟨h1, h2, h3, h4, h5, h6, h7, h8⟩
  · rintro ⟨h1, h2, h3, h4, h5, h6, h7, h8⟩; exact ⟨⟨⟨⟨⟨⟨⟨h1, h2⟩, h3⟩, h4⟩, h5⟩, h6⟩, h7⟩, h8⟩
theorem step_ok (t r : Int) (k : Bool) (e s d : Int) (h : Ck.ok ⟨t, r, k, e, s⟩ = true) : PCall Try.prog 11 [.agg [.int .i64 t, .int .i64 r, .bool k, .int .i64 e, .int .i64 s], .int .i64 d] (stC ⟨t, r, k, e, s⟩ d).v := by
  have hb := ok_iff.1 h
  simp only at hb
  obtain ⟨l, hl⟩ : ∃ l, lim d = l := ⟨_, rfl⟩
  have hl' : min (max d (-100)) 100 = l := hl
  have hlb : -100 ≤ l ∧ l ≤ 100 := by rw [← hl']; omega
  obtain ⟨q, hq⟩ : ∃ q, r + 20000 * l = q := ⟨_, rfl⟩
  have w1 : IntKind.i64.wrap (20000 * l) = 20000 * l := wrap_id (by omega) (by omega)
  have w2 : IntKind.i64.wrap q = q := wrap_id (by omega) (by omega)
  have w3 : IntKind.i64.wrap (20000 + q / 1000000) = 20000 + q / 1000000 := wrap_id (by omega) (by omega)
  have w4 : IntKind.i64.wrap (t + (20000 + q / 1000000)) = t + (20000 + q / 1000000) := wrap_id (by omega) (by omega)
  have w5 : IntKind.i64.wrap (s + 1) = s + 1 := wrap_id (by omega) (by omega)
  have c1 : -4611686018427387904 ≤ q := by omega
  have c2 : q ≤ 4611686018427387904 := by omega
  have hfin : stC ⟨t, r, k, e, s⟩ d = ⟨t + (20000 + q / 1000000), q % 1000000, k, e, if k then s + 1 else s⟩ := by
    simp only [stC, hl, hq, Ck.mk.injEq, and_true]; omega
  rw [hfin]
  clear hb hlb hl hfin h
  cases k
  · refine pcall_cx G1_ok mixed (fun _ => none) Try.func11 rfl Try.ntmps11 Try.results11 (by simp) (by kernel_rfl) ?_
    repeat' first
      | (refine gw_bool (fun _ => ?_) (fun _ => ?_))
      | (refine condw_bool (fun _ => ?_) (fun _ => ?_))
      | simp [*, Ck.v]
  · refine pcall_cx G1_ok mixed (fun _ => none) Try.func11 rfl Try.ntmps11 Try.results11 (by simp) (by kernel_rfl) ?_
    repeat' first
      | (refine gw_bool (fun _ => ?_) (fun _ => ?_))
      | (refine condw_bool (fun _ => ?_) (fun _ => ?_))
      | simp [*, Ck.v]
theorem floor_ok (n : Int) (h1 : -4611686018427387904 ≤ n) (h2 : n ≤ 4611686018427387904) : PCall Try.prog 25 [.int .i64 n, .int .i64 1000000] (.int .i64 (n / 1000000)) := by
  have h3 := tmod_fix (n := n) (m := 1000000) (by omega)
  have h4 := tdiv_fix (n := n) (m := 1000000) (by omega)
  cases hn : ilt (n.tmod 1000000) 0
  · have hh := ilt_iff'.1 hn
    rw [if_neg (by omega)] at h3 h4
    have w1 : IntKind.i64.wrap (n.tdiv 1000000) = n / 1000000 := by rw [h4]; exact wrap_id (by omega) (by omega)
    clear h4 hh h3
    refine pcall_cx noTab_ok mixed (fun _ => none) Try.func25 rfl Try.ntmps25 Try.results25 (by simp) (by kernel_rfl) ?_
    repeat' first
      | (refine gw_bool (fun _ => ?_) (fun _ => ?_))
      | (refine condw_bool (fun _ => ?_) (fun _ => ?_))
      | simp [*]
  · have hh := ilt_iff.1 hn
    rw [if_pos hh] at h3 h4
    have w0 : IntKind.i64.wrap (n.tdiv 1000000) = n.tdiv 1000000 := wrap_id (by omega) (by omega)
    have w1 : IntKind.i64.wrap (n.tdiv 1000000 - 1) = n / 1000000 := by rw [h4]; exact wrap_id (by omega) (by omega)
    clear h3 h4 hh
    refine pcall_cx noTab_ok mixed (fun _ => none) Try.func25 rfl Try.ntmps25 Try.results25 (by simp) (by kernel_rfl) ?_
    repeat' first
      | (refine gw_bool (fun _ => ?_) (fun _ => ?_))
      | (refine condw_bool (fun _ => ?_) (fun _ => ?_))
      | simp [*]
def Tfloor : List V → Option V
  | [.int .i64 n, .int .i64 1000000] => bif decide (-4611686018427387904 ≤ n) && decide (n ≤ 4611686018427387904) then some (.int .i64 (n / 1000000)) else none
  | _ => none
theorem floor_tab : ∀ vs v, Tfloor vs = some v → PCall Try.prog 25 vs v := by
  intro vs v h; unfold Tfloor at h; split at h
  · simp only [cond_eq_ite, Bool.and_eq_true, decide_eq_true_eq] at h
    split at h
    · rename_i hc; cases h; exact floor_ok _ hc.1 hc.2
    · cases h
  · cases h
def G2 : Tab := add 25 Tfloor (G1)
theorem G2_at (f : FuncId) (vs : List V) : G2.at' f vs = if f = 25 then Tfloor vs else G1.at' f vs := rfl
theorem G2_fr (f : FuncId) : G2.fr f = if f = 25 then false else G1.fr f := rfl
attribute [simp] G2_at G2_fr Tfloor
theorem G2_ok : TabOK Try.prog G2 := by
  refine add_ok (G1_ok) (by kernel_rfl) ?_
  · exact floor_tab
theorem stepR_ok (t r : Int) (k : Bool) (e s d : Int) (h : Ck.ok ⟨t, r, k, e, s⟩ = true) : PCall Try.prog 19 [.agg [.int .i64 t, .int .i64 r, .bool k, .int .i64 e, .int .i64 s], .int .i64 d] (stC ⟨t, r, k, e, s⟩ d).v := by
  have hb := ok_iff.1 h
  simp only at hb
  obtain ⟨l, hl⟩ : ∃ l, lim d = l := ⟨_, rfl⟩
  have hl' : min (max d (-100)) 100 = l := hl
  have hlb : -100 ≤ l ∧ l ≤ 100 := by rw [← hl']; omega
  obtain ⟨q, hq⟩ : ∃ q, r + 20000 * l = q := ⟨_, rfl⟩
  have w1 : IntKind.i64.wrap (20000 * l) = 20000 * l := wrap_id (by omega) (by omega)
  have w2 : IntKind.i64.wrap q = q := wrap_id (by omega) (by omega)
  have w3 : IntKind.i64.wrap (t + 20000) = t + 20000 := wrap_id (by omega) (by omega)
  have w4 : IntKind.i64.wrap (t + 20000 + q / 1000000) = t + 20000 + q / 1000000 := wrap_id (by omega) (by omega)
  have w5 : IntKind.i64.wrap (s + 1) = s + 1 := wrap_id (by omega) (by omega)
  have w6 : IntKind.i64.wrap (1000000 * (q / 1000000)) = 1000000 * (q / 1000000) := wrap_id (by omega) (by omega)
  have w7 : IntKind.i64.wrap (q - 1000000 * (q / 1000000)) = q % 1000000 := by rw [wrap_id (by omega) (by omega)]; omega
  have c1 : -4611686018427387904 ≤ q := by omega
  have c2 : q ≤ 4611686018427387904 := by omega
  have hfin : stC ⟨t, r, k, e, s⟩ d = ⟨t + 20000 + q / 1000000, q % 1000000, k, e, if k then s + 1 else s⟩ := by
    simp only [stC, hl, hq]
  rw [hfin]
  clear hb hlb hl hfin h
  cases k
  · refine pcall_cx G2_ok mixed (fun _ => none) Try.func19 rfl Try.ntmps19 Try.results19 (by simp) (by kernel_rfl) ?_
    repeat' first
      | (refine gw_bool (fun _ => ?_) (fun _ => ?_))
      | (refine condw_bool (fun _ => ?_) (fun _ => ?_))
      | simp [*, Ck.v]
  · refine pcall_cx G2_ok mixed (fun _ => none) Try.func19 rfl Try.ntmps19 Try.results19 (by simp) (by kernel_rfl) ?_
    repeat' first
      | (refine gw_bool (fun _ => ?_) (fun _ => ?_))
      | (refine condw_bool (fun _ => ?_) (fun _ => ?_))
      | simp [*, Ck.v]
def Tstep : List V → Option V
  | [.agg [.int .i64 t, .int .i64 r, .bool k, .int .i64 e, .int .i64 s], .int .i64 d] => bif Ck.ok ⟨t, r, k, e, s⟩ then some (stC ⟨t, r, k, e, s⟩ d).v else none
  | _ => none
theorem step_tab : ∀ vs v, Tstep vs = some v → PCall Try.prog 11 vs v := by
  intro vs v h; unfold Tstep at h; split at h
  · simp only [cond_eq_ite] at h
    split at h
    · rename_i hc; cases h; exact step_ok _ _ _ _ _ _ hc
    · cases h
  · cases h
theorem stepR_tab : ∀ vs v, Tstep vs = some v → PCall Try.prog 19 vs v := by
  intro vs v h; unfold Tstep at h; split at h
  · simp only [cond_eq_ite] at h
    split at h
    · rename_i hc; cases h; exact stepR_ok _ _ _ _ _ _ hc
    · cases h
  · cases h
def syC (c : Ck) (ref acc : Int) : Ck × Int := if ilt acc 0 || ilt 1000 acc || ilt ref (-1125899906842624) || ilt 1125899906842624 ref then (c, 2) else (⟨ref, 0, true, acc, 0⟩, 0)
def vE (y : Ck × Int) : V := .tup [y.1.v, .int .i64 y.2]
theorem sync_ok (t r : Int) (k : Bool) (e s ref acc : Int) : PCall Try.prog 12 [.agg [.int .i64 t, .int .i64 r, .bool k, .int .i64 e, .int .i64 s], .int .i64 ref, .int .i64 acc] (vE (syC ⟨t, r, k, e, s⟩ ref acc)) := by
  refine pcall_cx noTab_ok mixed (fun _ => none) Try.func12 rfl Try.ntmps12 Try.results12 (by simp) (by kernel_rfl) ?_
  repeat' first
    | (refine gw_bool (fun _ => ?_) (fun _ => ?_))
    | (refine condw_bool (fun _ => ?_) (fun _ => ?_))
    | simp [*, syC, vE, Ck.v]
theorem syncR_ok (t r : Int) (k : Bool) (e s ref acc : Int) : PCall Try.prog 17 [.agg [.int .i64 t, .int .i64 r, .bool k, .int .i64 e, .int .i64 s], .int .i64 ref, .int .i64 acc] (vE (syC ⟨t, r, k, e, s⟩ ref acc)) := by
  refine pcall_cx noTab_ok mixed (fun _ => none) Try.func17 rfl Try.ntmps17 Try.results17 (by simp) (by kernel_rfl) ?_
  repeat' first
    | (refine gw_bool (fun _ => ?_) (fun _ => ?_))
    | (refine condw_bool (fun _ => ?_) (fun _ => ?_))
    | simp [*, syC, vE, Ck.v]
def Tsync : List V → Option V
  | [.agg [.int .i64 t, .int .i64 r, .bool k, .int .i64 e, .int .i64 s], .int .i64 ref, .int .i64 acc] => some (vE (syC ⟨t, r, k, e, s⟩ ref acc))
  | _ => none
theorem jump_ok (t r : Int) (k : Bool) (e s d : Int) : PCall Try.prog 20 [.agg [.int .i64 t, .int .i64 r, .bool k, .int .i64 e, .int .i64 s], .int .i64 d] (Ck.v ⟨IntKind.i64.wrap (t + d), r, k, e, s⟩) := by
  refine pcall_cx noTab_ok mixed (fun _ => none) Try.func20 rfl Try.ntmps20 Try.results20 (by simp) (by kernel_rfl) ?_
  repeat' first
    | (refine gw_bool (fun _ => ?_) (fun _ => ?_))
    | (refine condw_bool (fun _ => ?_) (fun _ => ?_))
    | simp [*, Ck.v]
theorem jumpR_ok (t r : Int) (k : Bool) (e s d : Int) : PCall Try.prog 21 [.agg [.int .i64 t, .int .i64 r, .bool k, .int .i64 e, .int .i64 s], .int .i64 d] (Ck.v ⟨IntKind.i64.wrap (t + d), r, k, e, s⟩) := by
  refine pcall_cx noTab_ok mixed (fun _ => none) Try.func21 rfl Try.ntmps21 Try.results21 (by simp) (by kernel_rfl) ?_
  repeat' first
    | (refine gw_bool (fun _ => ?_) (fun _ => ?_))
    | (refine condw_bool (fun _ => ?_) (fun _ => ?_))
    | simp [*, Ck.v]
def Tjump : List V → Option V
  | [.agg [.int .i64 t, .int .i64 r, .bool k, .int .i64 e, .int .i64 s], .int .i64 d] => some (Ck.v ⟨IntKind.i64.wrap (t + d), r, k, e, s⟩)
  | _ => none
theorem newR_ok (t : Int) : PCall Try.prog 22 [.int .i64 t] (Ck.v ⟨t, 0, false, 0, 0⟩) := by
  refine pcall_cx noTab_ok mixed (fun _ => none) Try.func22 rfl Try.ntmps22 Try.results22 (by simp) (by kernel_rfl) ?_
  repeat' first
    | (refine gw_bool (fun _ => ?_) (fun _ => ?_))
    | (refine condw_bool (fun _ => ?_) (fun _ => ?_))
    | simp [*, Ck.v]
theorem to_ok (t r : Int) (k : Bool) (e s : Int) : PCall Try.prog 18 [.agg [.int .i64 t, .int .i64 r, .bool k, .int .i64 e, .int .i64 s]] (Ck.v ⟨t, r, k, e, s⟩) := by
  refine pcall_cx noTab_ok mixed (fun _ => none) Try.func18 rfl Try.ntmps18 Try.results18 (by simp) (by kernel_rfl) ?_
  repeat' first
    | (refine gw_bool (fun _ => ?_) (fun _ => ?_))
    | (refine condw_bool (fun _ => ?_) (fun _ => ?_))
    | simp [*, Ck.v]
def Tto : List V → Option V
  | [.agg [.int .i64 t, .int .i64 r, .bool k, .int .i64 e, .int .i64 s]] => some (Ck.v ⟨t, r, k, e, s⟩)
  | _ => none
def fineC (c : Ck) : Bool := !ilt c.t (-36028797018963968) && !ilt 36028797018963968 c.t && !ilt c.r 0 && !ilt 999999 c.r && !ilt c.s 0 && !ilt 1073741824 c.s && !ilt c.e 0 && !ilt 1000 c.e
theorem fine_ok (t r : Int) (k : Bool) (e s : Int) : PCall Try.prog 16 [.agg [.int .i64 t, .int .i64 r, .bool k, .int .i64 e, .int .i64 s]] (.bool (fineC ⟨t, r, k, e, s⟩)) := by
  refine pcall_cx noTab_ok mixed (fun _ => none) Try.func16 rfl Try.ntmps16 Try.results16 (by simp) (by kernel_rfl) ?_
  repeat' first
    | (refine gw_bool (fun _ => ?_) (fun _ => ?_))
    | (refine condw_bool (fun _ => ?_) (fun _ => ?_))
    | simp [*, fineC]
def Tfine : List V → Option V
  | [.agg [.int .i64 t, .int .i64 r, .bool k, .int .i64 e, .int .i64 s]] => some (.bool (fineC ⟨t, r, k, e, s⟩))
  | _ => none
def G3 : Tab := add 11 Tstep (add 19 Tstep (add 12 Tsync (add 17 Tsync (add 20 Tjump (add 21 Tjump (add 22 Tnew (add 18 Tto (add 16 Tfine (G2)))))))))
theorem G3_at (f : FuncId) (vs : List V) : G3.at' f vs = if f = 11 then Tstep vs else if f = 19 then Tstep vs else if f = 12 then Tsync vs else if f = 17 then Tsync vs else if f = 20 then Tjump vs else if f = 21 then Tjump vs else if f = 22 then Tnew vs else if f = 18 then Tto vs else if f = 16 then Tfine vs else G2.at' f vs := rfl
theorem G3_fr (f : FuncId) : G3.fr f = if f = 11 then false else if f = 19 then false else if f = 12 then false else if f = 17 then false else if f = 20 then false else if f = 21 then false else if f = 22 then false else if f = 18 then false else if f = 16 then false else G2.fr f := rfl
attribute [simp] G3_at G3_fr Tfine Tjump Tnew Tstep Tsync Tto
theorem G3_ok : TabOK Try.prog G3 := by
  refine add_ok (add_ok (add_ok (add_ok (add_ok (add_ok (add_ok (add_ok (add_ok (G2_ok) (by kernel_rfl) ?_) (by kernel_rfl) ?_) (by kernel_rfl) ?_) (by kernel_rfl) ?_) (by kernel_rfl) ?_) (by kernel_rfl) ?_) (by kernel_rfl) ?_) (by kernel_rfl) ?_) (by kernel_rfl) ?_
  · intro vs v h; unfold Tfine at h; split at h
    · cases h; apply fine_ok
    · cases h
  · intro vs v h; unfold Tto at h; split at h
    · cases h; apply to_ok
    · cases h
  · intro vs v h; unfold Tnew at h; split at h
    · cases h; apply newR_ok
    · cases h
  · intro vs v h; unfold Tjump at h; split at h
    · cases h; apply jumpR_ok
    · cases h
  · intro vs v h; unfold Tjump at h; split at h
    · cases h; apply jump_ok
    · cases h
  · intro vs v h; unfold Tsync at h; split at h
    · cases h; apply syncR_ok
    · cases h
  · intro vs v h; unfold Tsync at h; split at h
    · cases h; apply sync_ok
    · cases h
  · exact stepR_tab
  · exact step_tab
end Go.Proofs.Ytjblgljalckihaa
