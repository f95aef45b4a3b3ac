/-
  Resampling: fractions in lowest terms, ranges, numbers modulo 2^64.
-/
import Derived.Test.YtnilibgafkakpaaTd
namespace Go.Proofs.Ytnilibgafkakpaa
open Go.Pv Go.RowKit
set_option linter.unusedSimpArgs false
set_option linter.unusedVariables false
set_option maxRecDepth 100000
set_option maxHeartbeats 4000000

theorem tmod_fix {n m : Int} (hm : 0 < m) : (if n.tmod m < 0 then n.tmod m + m else n.tmod m) = n % m := by
  rw [Int.tmod_eq_emod]
  have h1 := Int.emod_nonneg n (show m ≠ 0 by omega)
  have h2 := Int.emod_lt_of_pos n hm
  by_cases h : 0 ≤ n ∨ m ∣ n
  · simp [h, show ¬ n % m < 0 by omega]
  · simp only [h, if_false]
    have : (m.toNat : Int) = m := Int.toNat_of_nonneg (by omega)
    split <;> omega
theorem tdiv_fix {n m : Int} (hm : 0 < m) : (if n.tmod m < 0 then n.tdiv m - 1 else n.tdiv m) = n / m := by
  have h1 := Int.mul_tdiv_add_tmod n m
  have h3 := Int.mul_ediv_add_emod n m
  have h4 := tmod_fix (n := n) hm
  have h5 := Int.emod_nonneg n (show m ≠ 0 by omega)
  have h6 := Int.emod_lt_of_pos n hm
  by_cases h : n.tmod m < 0
  · simp only [h, if_true] at h4 ⊢
    have : m * (n.tdiv m - 1) = m * (n / m) := by rw [Int.mul_sub]; omega
    exact Int.eq_of_mul_eq_mul_left (by omega) this
  · simp only [h, if_false] at h4 ⊢
    have : m * (n.tdiv m) = m * (n / m) := by omega
    exact Int.eq_of_mul_eq_mul_left (by omega) this
theorem tmod_small {n m : Int} (h1 : -m < n) (h2 : n < m) : n.tmod m = n := by
  by_cases h : 0 ≤ n
  · exact Int.tmod_eq_of_lt h h2
  · have e : n = -(-n) := by omega
    rw [e, Int.neg_tmod, Int.tmod_eq_of_lt (by omega) (by omega)]
theorem tmod_b {n m : Int} (hm : 0 < m) : -m < n.tmod m ∧ n.tmod m < m := by
  by_cases h : 0 ≤ n
  · rw [Int.tmod_eq_emod_of_nonneg h]
    have h2 := Int.emod_nonneg n (show m ≠ 0 by omega)
    have h3 := Int.emod_lt_of_pos n hm
    omega
  · have e : n = -(-n) := by omega
    rw [e, Int.neg_tmod, Int.tmod_eq_emod_of_nonneg (by omega)]
    have h2 := Int.emod_nonneg (-n) (show m ≠ 0 by omega)
    have h3 := Int.emod_lt_of_pos (-n) hm
    omega
theorem within_ok (n m : Int) (hm : 0 < m) (hm2 : m ≤ 4611686018427387904) : PCall Try.prog 11 [.int .i64 n, .int .i64 m] (.int .i64 (n % m)) := by
  have h0 : m ≠ 0 := by omega
  have h1 := tmod_fix (n := n) hm
  have h2 := Int.emod_nonneg n h0
  have h3 := Int.emod_lt_of_pos n hm
  cases hn : ilt (n.tmod m) 0
  · have h4 : n.tmod m = n % m := by rw [← h1, if_neg (by have := ilt_iff'.1 hn; omega)]
    rw [h4] at hn
    clear h1 h2 h3
    refine pcall_cx noTab_ok mixed (fun _ => none) Try.func11 rfl Try.ntmps11 Try.results11 (by simp) (by kernel_rfl) ?_
    repeat' first
      | (refine gw_bool (fun _ => ?_) (fun _ => ?_))
      | (refine condw_bool (fun _ => ?_) (fun _ => ?_))
      | simp [*]
  · have h4 : n.tmod m + m = n % m := by rw [← h1, if_pos (ilt_iff.1 hn)]
    have h5 : IntKind.i64.wrap (n.tmod m + m) = n % m := by rw [h4]; exact wrap_id (by omega) (by omega)
    clear h1 h2 h3 h4
    refine pcall_cx noTab_ok mixed (fun _ => none) Try.func11 rfl Try.ntmps11 Try.results11 (by simp) (by kernel_rfl) ?_
    repeat' first
      | (refine gw_bool (fun _ => ?_) (fun _ => ?_))
      | (refine condw_bool (fun _ => ?_) (fun _ => ?_))
      | simp [*]
def Twithin : List V → Option V
  | [.int .i64 n, .int .i64 m] => bif decide (0 < m) && decide (m ≤ 4611686018427387904) then some (.int .i64 (n % m)) else none
  | _ => none
theorem within_tab : ∀ vs v, Twithin vs = some v → PCall Try.prog 11 vs v := by
  intro vs v h; unfold Twithin at h; split at h
  · simp only [cond_eq_ite, Bool.and_eq_true, decide_eq_true_eq] at h
    split at h
    · rename_i hc; cases h; exact within_ok _ _ hc.1 hc.2
    · cases h
  · cases h

/-! ### the ring of the machine's numbers -/
theorem wrap_ex (a : Int) : ∃ k, IntKind.i64.wrap a = a + 18446744073709551616 * k := by
  refine ⟨-((a + 9223372036854775808) / 18446744073709551616), ?_⟩
  simp only [IntKind.wrap, IntKind.signed, IntKind.bits]; simp; omega
theorem wrap_sh (a k : Int) : IntKind.i64.wrap (a + 18446744073709551616 * k) = IntKind.i64.wrap a := by
  simp only [IntKind.wrap, IntKind.signed, IntKind.bits]; simp <;> omega
theorem wrap_al (a b : Int) : IntKind.i64.wrap (IntKind.i64.wrap a + b) = IntKind.i64.wrap (a + b) := by
  obtain ⟨k, hk⟩ := wrap_ex a
  rw [hk, show a + 18446744073709551616 * k + b = a + b + 18446744073709551616 * k by omega, wrap_sh]
theorem wrap_ar (a b : Int) : IntKind.i64.wrap (a + IntKind.i64.wrap b) = IntKind.i64.wrap (a + b) := by
  rw [Int.add_comm, wrap_al, Int.add_comm]
theorem wrap_sl (a b : Int) : IntKind.i64.wrap (IntKind.i64.wrap a - b) = IntKind.i64.wrap (a - b) := by
  rw [Int.sub_eq_add_neg, wrap_al, Int.sub_eq_add_neg]
theorem wrap_sr (a b : Int) : IntKind.i64.wrap (a - IntKind.i64.wrap b) = IntKind.i64.wrap (a - b) := by
  obtain ⟨k, hk⟩ := wrap_ex b
  rw [hk, show a - (b + 18446744073709551616 * k) = a - b + 18446744073709551616 * (-k) by omega, wrap_sh]
theorem wrap_ml (a b : Int) : IntKind.i64.wrap (IntKind.i64.wrap a * b) = IntKind.i64.wrap (a * b) := by
  obtain ⟨k, hk⟩ := wrap_ex a
  rw [hk, Int.add_mul, Int.mul_assoc, wrap_sh]
theorem wrap_mr (a b : Int) : IntKind.i64.wrap (a * IntKind.i64.wrap b) = IntKind.i64.wrap (a * b) := by
  rw [Int.mul_comm, wrap_ml, Int.mul_comm]
theorem wrap_ng (a : Int) : IntKind.i64.wrap (-IntKind.i64.wrap a) = IntKind.i64.wrap (-a) := by
  have := wrap_sr 0 a
  simpa using this
/-! ### ranges -/
def btw (x lo hi : Int) : Bool := !ilt x lo && !ilt hi x
theorem btw_ok (x lo hi : Int) : PCall Try.prog 26 [.int .i64 x, .int .i64 lo, .int .i64 hi] (.bool (btw x lo hi)) := by
  refine pcall_cx noTab_ok mixed (fun _ => none) Try.func26 rfl Try.ntmps26 Try.results26 (by simp) (by kernel_rfl) ?_
  repeat' first
    | (refine gw_bool (fun _ => ?_) (fun _ => ?_))
    | (refine condw_bool (fun _ => ?_) (fun _ => ?_))
    | simp [*, btw]
def Tbtw : List V → Option V
  | [.int .i64 x, .int .i64 lo, .int .i64 hi] => some (.bool (btw x lo hi))
  | _ => none
def G1 : Tab := add 11 Twithin (add 26 Tbtw (noTab))
theorem G1_at (f : FuncId) (vs : List V) : G1.at' f vs = if f = 11 then Twithin vs else if f = 26 then Tbtw vs else noTab.at' f vs := rfl
theorem G1_fr (f : FuncId) : G1.fr f = if f = 11 then false else if f = 26 then false else noTab.fr f := rfl
attribute [simp] G1_at G1_fr Tbtw Twithin
theorem G1_ok : TabOK Try.prog G1 := by
  refine add_ok (add_ok (noTab_ok) (by kernel_rfl) ?_) (by kernel_rfl) ?_
  · intro vs v h; unfold Tbtw at h; split at h
    · cases h; apply btw_ok
    · cases h
  · exact within_tab
def smp (x : Int) : Bool := btw x (-16383) 16383
def frc (n d : Int) : Bool := btw d 1 1000 && btw n 0 d
theorem sample_ok (x : Int) : PCall Try.prog 27 [.int .i64 x] (.bool (smp x)) := by
  refine pcall_cx noTab_ok mixed (fun _ => none) Try.func27 rfl Try.ntmps27 Try.results27 (by simp) (by kernel_rfl) ?_
  repeat' first
    | (refine gw_bool (fun _ => ?_) (fun _ => ?_))
    | (refine condw_bool (fun _ => ?_) (fun _ => ?_))
    | simp [*, smp, btw]
def Tsmp : List V → Option V
  | [.int .i64 x] => some (.bool (smp x))
  | _ => none
theorem frac_ok (n d : Int) : PCall Try.prog 23 [.int .i64 n, .int .i64 d] (.bool (frc n d)) := by
  refine pcall_cx G1_ok mixed (fun _ => none) Try.func23 rfl Try.ntmps23 Try.results23 (by simp) (by kernel_rfl) ?_
  repeat' first
    | (refine gw_bool (fun _ => ?_) (fun _ => ?_))
    | (refine condw_bool (fun _ => ?_) (fun _ => ?_))
    | simp [*, frc]
theorem fracR_ok (n d : Int) : PCall Try.prog 28 [.int .i64 n, .int .i64 d] (.bool (frc n d)) := by
  refine pcall_cx noTab_ok mixed (fun _ => none) Try.func28 rfl Try.ntmps28 Try.results28 (by simp) (by kernel_rfl) ?_
  repeat' first
    | (refine gw_bool (fun _ => ?_) (fun _ => ?_))
    | (refine condw_bool (fun _ => ?_) (fun _ => ?_))
    | simp [*, frc, btw]
def Tfrc : List V → Option V
  | [.int .i64 n, .int .i64 d] => some (.bool (frc n d))
  | _ => none
theorem valid_ok (l : List Int) (hl : l.length ≤ maxLen) : PCall Try.prog 24 [.list 1 (l.map il)] (.bool (l.all smp)) := by
  obtain ⟨n, hn⟩ : ∃ n, l.length = n := ⟨_, rfl⟩
  have hm : maxLen = 9223372036854775807 := by decide
  refine pcall_cx G1_ok mixed (fun _ => none) Try.func24 rfl Try.ntmps24 Try.results24 (by simp) (by kernel_rfl) ?_
  repeat' first
    | (refine gw_bool (fun _ => ?_) (fun _ => ?_))
    | (refine condw_bool (fun _ => ?_) (fun _ => ?_))
    | simp [*]
  refine lp_go (D := (fun _ => none)) G1_ok mixed (by kernel_rfl) [5, 6] [] (α := Nat) (fun i e h => i ≤ n ∧ e 7 = .int .i64 i ∧ Hid ((l.take i).all smp = true)) (fun i => n - i) 0 ?_ ?_
  · exact ⟨by omega, rfl, show _ = _ by simp⟩
  · rintro i e h hk hkh ⟨hi, g7, hinv⟩
    simp [Keep] at hk
    simp [KeepH] at hkh
    by_cases hlt : i < n
    · obtain ⟨x, hx, hx'⟩ := at_ex (show i < l.length by omega)
      have f1 : ilt (i : Int) (n : Int) = true := ilt_t (by omega)
      have w1 : IntKind.i64.wrap ((i : Int) + 1) = ((i + 1 : Nat) : Int) := wrap_succ (by omega)
      have hnext : (l.take (i + 1)).all smp = smp x := by
        rw [List.take_add_one, hx, List.all_append, hinv.out]; simp
      cases hs : smp x
      · have hall : l.all smp = false := by
          rw [Bool.eq_false_iff]
          intro hc
          have := List.all_eq_true.1 hc x (List.mem_of_getElem? hx)
          rw [hs] at this; cases this
        have hs' : btw x (-16383) 16383 = false := hs
        clear hinv hnext
        repeat' first
          | (refine gw_bool (fun _ => ?_) (fun _ => ?_))
          | (refine condw_bool (fun _ => ?_) (fun _ => ?_))
          | simp [*, il]
      · have hs' : btw x (-16383) 16383 = true := hs
        have hz : Hid ((l.take (i + 1)).all smp = true) := by rw [hs] at hnext; exact hnext
        clear hinv hnext
        repeat' first
          | (refine gw_bool (fun _ => ?_) (fun _ => ?_))
          | (refine condw_bool (fun _ => ?_) (fun _ => ?_))
          | simp [*, il]
        refine nxt_go (i + 1) (View.refl _ _) (by omega) (by simp [*, Keep, St.forget, scr, scrC]) (by simp [*, KeepH, St.forget, scr, scrC]) ?_
        refine ⟨by omega, ?_, hz⟩; simp [*]
    · have f1 : ilt (i : Int) (n : Int) = false := ilt_f (by omega)
      have e1 : i = n := by omega
      have hall : l.all smp = true := by
        have := hinv.out
        rwa [e1, ← hn, List.take_length] at this
      clear hinv
      repeat' first
        | (refine gw_bool (fun _ => ?_) (fun _ => ?_))
        | (refine condw_bool (fun _ => ?_) (fun _ => ?_))
        | simp [*]
def Tvalid : List V → Option V
  | [.list 1 xs] => (match decL unI xs with
    | some l => bif decide (l.length ≤ 9223372036854775807) then some (.bool (l.all smp)) else none
    | none => none)
  | _ => none
theorem valid_tab : ∀ vs v, Tvalid vs = some v → PCall Try.prog 24 vs v := by
  intro vs v h; unfold Tvalid at h; split at h
  · split at h
    · rename_i l h1
      rw [decL_inv unI_inv _ _ h1]
      simp only [cond_eq_ite, decide_eq_true_eq] at h
      split at h
      · rename_i hc; cases h; exact valid_ok _ hc
      · cases h
    · cases h
  · cases h
/-! ### lowest terms -/
def gcdI (n d : Int) : Int := ((Nat.gcd n.natAbs d.natAbs : Nat) : Int)
def low (n d : Int) : Int × Int := (n.tdiv (gcdI n d), d.tdiv (gcdI n d))
def vI (p : Int × Int) : V := .tup [.int .i64 p.1, .int .i64 p.2]
theorem gcd_pos {n d : Int} (hd : 0 < d) : 0 < gcdI n d := by
  have : 0 < Nat.gcd n.natAbs d.natAbs := Nat.gcd_pos_of_pos_right _ (by omega)
  simp only [gcdI]; omega
theorem lowest_ok (n d : Int) (hd : 0 < d) (hd2 : d ≤ 4611686018427387904) (hn1 : -4611686018427387904 ≤ n) (hn2 : n ≤ 4611686018427387904) : PCall Try.prog 25 [.int .i64 n, .int .i64 d] (vI (low n d)) := by
  have w1 : IntKind.i64.wrap (-n) = -n := wrap_id (by omega) (by omega)
  have hmax : max n (-n) = ((n.natAbs : Nat) : Int) := by omega
  obtain ⟨D, rfl⟩ := Int.eq_ofNat_of_zero_le (show 0 ≤ d by omega)
  obtain ⟨g, hg⟩ : ∃ g, Nat.gcd n.natAbs D = g := ⟨_, rfl⟩
  have hgI : gcdI n D = (g : Int) := by simp only [gcdI, Int.natAbs_natCast, hg]
  have hgp : 0 < g := by rw [← hg]; exact Nat.gcd_pos_of_pos_right _ (by omega)
  have hb1 : -4611686018427387904 ≤ n.tdiv (g : Int) ∧ n.tdiv (g : Int) ≤ 4611686018427387904 := by
    have h1 : (n.tdiv (g : Int)).natAbs = n.natAbs / g := by rw [Int.natAbs_tdiv]; rfl
    have h2 : n.natAbs / g ≤ n.natAbs := Nat.div_le_self _ _
    generalize n.natAbs / g = c at h1 h2
    omega
  have hb2 : -4611686018427387904 ≤ (D : Int).tdiv (g : Int) ∧ (D : Int).tdiv (g : Int) ≤ 4611686018427387904 := by
    have h1 : ((D : Int).tdiv (g : Int)).natAbs = D / g := by rw [Int.natAbs_tdiv]; rfl
    have h2 : D / g ≤ D := Nat.div_le_self _ _
    generalize D / g = c at h1 h2
    omega
  have w2 : IntKind.i64.wrap (n.tdiv (g : Int)) = n.tdiv (g : Int) := wrap_id (by omega) (by omega)
  have w3 : IntKind.i64.wrap ((D : Int).tdiv (g : Int)) = (D : Int).tdiv (g : Int) := wrap_id (by omega) (by omega)
  have w3' : IntKind.i64.wrap ((D : Int) / (g : Int)) = (D : Int) / (g : Int) := by rw [← Int.tdiv_eq_ediv_of_nonneg (by omega)]; exact w3
  have g0 : ¬ g = 0 := by omega
  obtain ⟨N, hN⟩ : ∃ N, n.natAbs = N := ⟨_, rfl⟩
  rw [hN] at hg hmax
  clear hb1 hb2
  refine pcall_cx noTab_ok mixed (fun _ => none) Try.func25 rfl Try.ntmps25 Try.results25 (by simp) (by kernel_rfl) ?_
  repeat' first
    | (refine gw_bool (fun _ => ?_) (fun _ => ?_))
    | (refine condw_bool (fun _ => ?_) (fun _ => ?_))
    | simp [*]
  refine lp_go (D := (fun _ => none)) noTab_ok mixed (by kernel_rfl) [0, 1] [] (α := Nat × Nat) (fun x e h => e 6 = .int .i64 x.1 ∧ e 7 = .int .i64 x.2 ∧ Hid (Nat.gcd x.1 x.2 = g)) (fun x => x.2) (N, D) ?_ ?_
  · exact ⟨by simp [hmax], rfl, hg⟩
  · rintro ⟨A, B⟩ e h hk hkh ⟨g6, g7, hinv⟩
    simp [Keep] at hk
    simp [KeepH] at hkh
    simp only at g6 g7 hinv
    by_cases hB : B = 0
    · subst hB
      have : A = g := by have := hinv.out; simpa using this
      subst this
      clear hinv
      repeat' first
        | (refine gw_bool (fun _ => ?_) (fun _ => ?_))
        | (refine condw_bool (fun _ => ?_) (fun _ => ?_))
        | simp [*, low, vI]
    · have f1 : ieq (B : Int) 0 = false := ieq_f (by omega)
      have f3 : (A : Int).tmod (B : Int) = ((A % B : Nat) : Int) := by rw [Int.tmod_eq_emod_of_nonneg (by omega)]; simp
      have hz : Hid (Nat.gcd B (A % B) = g) := by
        show _ = _
        rw [← hinv.out, Nat.gcd_comm A B, Nat.gcd_rec B A, Nat.gcd_comm]
      have hlt : A % B < B := Nat.mod_lt _ (by omega)
      clear hinv
      repeat' first
        | (refine gw_bool (fun _ => ?_) (fun _ => ?_))
        | (refine condw_bool (fun _ => ?_) (fun _ => ?_))
        | simp [*]
      refine nxt_go (B, A % B) (View.refl _ _) (by simp only; exact hlt) (by simp [*, Keep, St.forget, scr, scrC]) (by simp [*, KeepH, St.forget, scr, scrC]) ?_
      refine ⟨?_, ?_, hz⟩
      · simp [*]
      · simp [*]
theorem gcdR_ok (A0 B0 : Nat) (h1 : A0 ≤ 9223372036854775807) (h2 : B0 ≤ 9223372036854775807) : PCall Try.prog 32 [.int .i64 A0, .int .i64 B0] (.int .i64 (Nat.gcd A0 B0 : Nat)) := by
  obtain ⟨g, hg⟩ : ∃ g, Nat.gcd A0 B0 = g := ⟨_, rfl⟩
  rw [hg]
  refine pcall_cx noTab_ok mixed (fun _ => none) Try.func32 rfl Try.ntmps32 Try.results32 (by simp) (by kernel_rfl) ?_
  repeat' first
    | (refine gw_bool (fun _ => ?_) (fun _ => ?_))
    | (refine condw_bool (fun _ => ?_) (fun _ => ?_))
    | simp [*]
  refine lp_go (D := (fun _ => none)) noTab_ok mixed (by kernel_rfl) [] [] (α := Nat × Nat) (fun x e h => e 0 = .int .i64 x.1 ∧ e 1 = .int .i64 x.2 ∧ Hid (Nat.gcd x.1 x.2 = g)) (fun x => x.2) (A0, B0) ?_ ?_
  · exact ⟨rfl, rfl, hg⟩
  · rintro ⟨A, B⟩ e h hk hkh ⟨g6, g7, hinv⟩
    simp [Keep] at hk
    simp [KeepH] at hkh
    simp only at g6 g7 hinv
    by_cases hB : B = 0
    · subst hB
      have : A = g := by have := hinv.out; simpa using this
      subst this
      have f1 : ilt 0 (((0 : Nat)) : Int) = false := by decide
      clear hinv
      repeat' first
        | (refine gw_bool (fun _ => ?_) (fun _ => ?_))
        | (refine condw_bool (fun _ => ?_) (fun _ => ?_))
        | simp [*]
    · have f1 : ilt 0 (B : Int) = true := ilt_t (by omega)
      have f3 : (A : Int).tmod (B : Int) = ((A % B : Nat) : Int) := by rw [Int.tmod_eq_emod_of_nonneg (by omega)]; simp
      have hz : Hid (Nat.gcd B (A % B) = g) := by
        show _ = _
        rw [← hinv.out, Nat.gcd_comm A B, Nat.gcd_rec B A, Nat.gcd_comm]
      have hlt : A % B < B := Nat.mod_lt _ (by omega)
      clear hinv
      repeat' first
        | (refine gw_bool (fun _ => ?_) (fun _ => ?_))
        | (refine condw_bool (fun _ => ?_) (fun _ => ?_))
        | simp [*]
      refine nxt_go (B, A % B) (View.refl _ _) (by simp only; exact hlt) (by simp [*, Keep, St.forget, scr, scrC]) (by simp [*, KeepH, St.forget, scr, scrC]) ?_
      refine ⟨?_, ?_, hz⟩
      · simp [*]
      · simp [*]
def TgcdR : List V → Option V
  | [.int .i64 a, .int .i64 b] => bif decide (0 ≤ a) && (decide (a ≤ 9223372036854775807) && (decide (0 ≤ b) && decide (b ≤ 9223372036854775807))) then some (.int .i64 (Nat.gcd a.toNat b.toNat : Nat)) else none
  | _ => none
theorem gcdR_tab : ∀ vs v, TgcdR vs = some v → PCall Try.prog 32 vs v := by
  intro vs v h; unfold TgcdR at h; split at h
  · simp only [cond_eq_ite, Bool.and_eq_true, decide_eq_true_eq] at h
    split at h
    · rename_i a b hc
      obtain ⟨h1, h2, h3, h4⟩ := hc
      cases h
      obtain ⟨A, rfl⟩ := Int.eq_ofNat_of_zero_le h1
      obtain ⟨B, rfl⟩ := Int.eq_ofNat_of_zero_le h3
      exact gcdR_ok A B (by omega) (by omega)
    · cases h
  · cases h
def Tlow : List V → Option V
  | [.int .i64 n, .int .i64 d] => bif decide (0 < d) && (decide (d ≤ 4611686018427387904) && (decide (-4611686018427387904 ≤ n) && decide (n ≤ 4611686018427387904))) then some (vI (low n d)) else none
  | _ => none
theorem low_tab : ∀ vs v, Tlow vs = some v → PCall Try.prog 25 vs v := by
  intro vs v h; unfold Tlow at h; split at h
  · simp only [cond_eq_ite, Bool.and_eq_true, decide_eq_true_eq] at h
    split at h
    · rename_i hc; cases h; exact lowest_ok _ _ hc.1 hc.2.1 hc.2.2.1 hc.2.2.2
    · cases h
  · cases h
def G2 : Tab := add 27 Tsmp (add 23 Tfrc (add 28 Tfrc (add 24 Tvalid (add 25 Tlow (add 32 TgcdR (G1))))))
theorem G2_at (f : FuncId) (vs : List V) : G2.at' f vs = if f = 27 then Tsmp vs else if f = 23 then Tfrc vs else if f = 28 then Tfrc vs else if f = 24 then Tvalid vs else if f = 25 then Tlow vs else if f = 32 then TgcdR vs else G1.at' f vs := rfl
theorem G2_fr (f : FuncId) : G2.fr f = if f = 27 then false else if f = 23 then false else if f = 28 then false else if f = 24 then false else if f = 25 then false else if f = 32 then false else G1.fr f := rfl
attribute [simp] G2_at G2_fr Tfrc TgcdR Tlow Tsmp Tvalid
theorem G2_ok : TabOK Try.prog G2 := by
  refine add_ok (add_ok (add_ok (add_ok (add_ok (add_ok (G1_ok) (by kernel_rfl) ?_) (by kernel_rfl) ?_) (by kernel_rfl) ?_) (by kernel_rfl) ?_) (by kernel_rfl) ?_) (by kernel_rfl) ?_
  · exact gcdR_tab
  · exact low_tab
  · exact valid_tab
  · intro vs v h; unfold Tfrc at h; split at h
    · cases h; apply fracR_ok
    · cases h
  · intro vs v h; unfold Tfrc at h; split at h
    · cases h; apply frac_ok
    · cases h
  · intro vs v h; unfold Tsmp at h; split at h
    · cases h; apply sample_ok
    · cases h
theorem tdiv_b {n : Int} {g : Nat} (h1 : -4611686018427387904 ≤ n) (h2 : n ≤ 4611686018427387904) : IntKind.i64.wrap (n.tdiv (g : Int)) = n.tdiv (g : Int) := by
  have h3 : (n.tdiv (g : Int)).natAbs = n.natAbs / g := by rw [Int.natAbs_tdiv]; rfl
  have h4 : n.natAbs / g ≤ n.natAbs := Nat.div_le_self _ _
  generalize n.natAbs / g = c at h3 h4
  exact wrap_id (by omega) (by omega)
theorem lowestR_ok (n d : Int) (hd : 0 < d) (hd2 : d ≤ 4611686018427387904) (hn1 : -4611686018427387904 ≤ n) (hn2 : n ≤ 4611686018427387904) : PCall Try.prog 29 [.int .i64 n, .int .i64 d] (vI (low n d)) := by
  have w1 : IntKind.i64.wrap (-n) = -n := wrap_id (by omega) (by omega)
  have w1' : IntKind.i64.wrap (0 - n) = -n := by rw [Int.zero_sub]; exact w1
  obtain ⟨D, rfl⟩ := Int.eq_ofNat_of_zero_le (show 0 ≤ d by omega)
  obtain ⟨N, hN⟩ : ∃ N, n.natAbs = N := ⟨_, rfl⟩
  have hmax : max n (-n) = (N : Int) := by omega
  obtain ⟨g, hg⟩ : ∃ g, Nat.gcd N D = g := ⟨_, rfl⟩
  have hgI : gcdI n D = (g : Int) := by simp only [gcdI, Int.natAbs_natCast, hN, hg]
  have g0 : ¬ g = 0 := by have : 0 < g := by rw [← hg]; exact Nat.gcd_pos_of_pos_right _ (by omega)
                          omega
  have w2 := tdiv_b (g := g) hn1 hn2
  have w3 := tdiv_b (n := (D : Int)) (g := g) (by omega) (by omega)
  have w3' : IntKind.i64.wrap ((D : Int) / (g : Int)) = (D : Int) / (g : Int) := by rw [← Int.tdiv_eq_ediv_of_nonneg (by omega)]; exact w3
  have c1 : (N : Int) ≤ 9223372036854775807 := by omega
  have c2 : (D : Int) ≤ 9223372036854775807 := by omega
  have c3 : N ≤ 9223372036854775807 := by omega
  have c4 : D ≤ 9223372036854775807 := by omega
  clear hn1 hn2
  refine pcall_cx G2_ok mixed (fun _ => none) Try.func29 rfl Try.ntmps29 Try.results29 (by simp) (by kernel_rfl) ?_
  repeat' first
    | (refine gw_bool (fun _ => ?_) (fun _ => ?_))
    | (refine condw_bool (fun _ => ?_) (fun _ => ?_))
    | simp [*, low, vI]
theorem lowR_tab : ∀ vs v, Tlow vs = some v → PCall Try.prog 29 vs v := by
  intro vs v h; unfold Tlow at h; split at h
  · simp only [cond_eq_ite, Bool.and_eq_true, decide_eq_true_eq] at h
    split at h
    · rename_i hc; cases h; exact lowestR_ok _ _ hc.1 hc.2.1 hc.2.2.1 hc.2.2.2
    · cases h
  · cases h
def G3 : Tab := add 29 Tlow (G2)
theorem G3_at (f : FuncId) (vs : List V) : G3.at' f vs = if f = 29 then Tlow vs else G2.at' f vs := rfl
theorem G3_fr (f : FuncId) : G3.fr f = if f = 29 then false else G2.fr f := rfl
attribute [simp] G3_at G3_fr Tlow
theorem G3_ok : TabOK Try.prog G3 := by
  refine add_ok (G2_ok) (by kernel_rfl) ?_
  · exact lowR_tab
end Go.Proofs.Ytnilibgafkakpaa
