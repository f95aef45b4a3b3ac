/-
  Frequency: fractions in lowest terms, ranges, series.
-/
import Derived.Test.YtacmchjaldljjaaTd
namespace Go.Proofs.Ytacmchjaldljjaa
open Go.Pv Go.RowKit
set_option linter.unusedSimpArgs false
set_option linter.unusedVariables false
set_option maxRecDepth 100000
set_option maxHeartbeats 4000000

theorem tmod_fix {n m : Int} (hm : 0 < m) : (if n.tmod m < 0 then n.tmod m + m else n.tmod m) = n % m := by
  rw [Int.tmod_eq_emod]
  have h1 := Int.emod_nonneg n (show m ≠ 0 by omega)
  have h2 := Int.emod_lt_of_pos n hm
  by_cases h : 0 ≤ n ∨ m ∣ n
  · simp [h, show ¬ n % m < 0 by omega]
  · simp only [h, if_false]
    have : (m.toNat : Int) = m := Int.toNat_of_nonneg (by omega)
    split <;> omega
theorem tdiv_fix {n m : Int} (hm : 0 < m) : (if n.tmod m < 0 then n.tdiv m - 1 else n.tdiv m) = n / m := by
  have h1 := Int.mul_tdiv_add_tmod n m
  have h3 := Int.mul_ediv_add_emod n m
  have h4 := tmod_fix (n := n) hm
  have h5 := Int.emod_nonneg n (show m ≠ 0 by omega)
  have h6 := Int.emod_lt_of_pos n hm
  by_cases h : n.tmod m < 0
  · simp only [h, if_true] at h4 ⊢
    have : m * (n.tdiv m - 1) = m * (n / m) := by rw [Int.mul_sub]; omega
    exact Int.eq_of_mul_eq_mul_left (by omega) this
  · simp only [h, if_false] at h4 ⊢
    have : m * (n.tdiv m) = m * (n / m) := by omega
    exact Int.eq_of_mul_eq_mul_left (by omega) this
theorem tmod_small {n m : Int} (h1 : -m < n) (h2 : n < m) : n.tmod m = n := by
  by_cases h : 0 ≤ n
  · exact Int.tmod_eq_of_lt h h2
  · have e : n = -(-n) := by omega
    rw [e, Int.neg_tmod, Int.tmod_eq_of_lt (by omega) (by omega)]
theorem tmod_b {n m : Int} (hm : 0 < m) : -m < n.tmod m ∧ n.tmod m < m := by
  by_cases h : 0 ≤ n
  · rw [Int.tmod_eq_emod_of_nonneg h]
    have h2 := Int.emod_nonneg n (show m ≠ 0 by omega)
    have h3 := Int.emod_lt_of_pos n hm
    omega
  · have e : n = -(-n) := by omega
    rw [e, Int.neg_tmod, Int.tmod_eq_emod_of_nonneg (by omega)]
    have h2 := Int.emod_nonneg (-n) (show m ≠ 0 by omega)
    have h3 := Int.emod_lt_of_pos (-n) hm
    omega
theorem within_ok (n m : Int) (hm : 0 < m) (hm2 : m ≤ 4611686018427387904) : PCall Try.prog 12 [.int .i64 n, .int .i64 m] (.int .i64 (n % m)) := by
  have h0 : m ≠ 0 := by omega
  have h1 := tmod_fix (n := n) hm
  have h2 := Int.emod_nonneg n h0
  have h3 := Int.emod_lt_of_pos n hm
  cases hn : ilt (n.tmod m) 0
  · have h4 : n.tmod m = n % m := by rw [← h1, if_neg (by have := ilt_iff'.1 hn; omega)]
    rw [h4] at hn
    clear h1 h2 h3
    refine pcall_cx noTab_ok mixed (fun _ => none) Try.func12 rfl Try.ntmps12 Try.results12 (by simp) (by kernel_rfl) ?_
    repeat' first
      | (refine gw_bool (fun _ => ?_) (fun _ => ?_))
      | (refine condw_bool (fun _ => ?_) (fun _ => ?_))
      | simp [*]
  · have h4 : n.tmod m + m = n % m := by rw [← h1, if_pos (ilt_iff.1 hn)]
    have h5 : IntKind.i64.wrap (n.tmod m + m) = n % m := by rw [h4]; exact wrap_id (by omega) (by omega)
    clear h1 h2 h3 h4
    refine pcall_cx noTab_ok mixed (fun _ => none) Try.func12 rfl Try.ntmps12 Try.results12 (by simp) (by kernel_rfl) ?_
    repeat' first
      | (refine gw_bool (fun _ => ?_) (fun _ => ?_))
      | (refine condw_bool (fun _ => ?_) (fun _ => ?_))
      | simp [*]
def Twithin : List V → Option V
  | [.int .i64 n, .int .i64 m] => bif decide (0 < m) && decide (m ≤ 4611686018427387904) then some (.int .i64 (n % m)) else none
  | _ => none
theorem within_tab : ∀ vs v, Twithin vs = some v → PCall Try.prog 12 vs v := by
  intro vs v h; unfold Twithin at h; split at h
  · simp only [cond_eq_ite, Bool.and_eq_true, decide_eq_true_eq] at h
    split at h
    · rename_i hc; cases h; exact within_ok _ _ hc.1 hc.2
    · cases h
  · cases h

/-! ### the ring of the machine's numbers -/
theorem wrap_ex (a : Int) : ∃ k, IntKind.i64.wrap a = a + 18446744073709551616 * k := by
  refine ⟨-((a + 9223372036854775808) / 18446744073709551616), ?_⟩
  simp only [IntKind.wrap, IntKind.signed, IntKind.bits]; simp; omega
theorem wrap_sh (a k : Int) : IntKind.i64.wrap (a + 18446744073709551616 * k) = IntKind.i64.wrap a := by
  simp only [IntKind.wrap, IntKind.signed, IntKind.bits]; simp <;> omega
theorem wrap_al (a b : Int) : IntKind.i64.wrap (IntKind.i64.wrap a + b) = IntKind.i64.wrap (a + b) := by
  obtain ⟨k, hk⟩ := wrap_ex a
  rw [hk, show a + 18446744073709551616 * k + b = a + b + 18446744073709551616 * k by omega, wrap_sh]
theorem wrap_ar (a b : Int) : IntKind.i64.wrap (a + IntKind.i64.wrap b) = IntKind.i64.wrap (a + b) := by
  rw [Int.add_comm, wrap_al, Int.add_comm]
theorem wrap_sl (a b : Int) : IntKind.i64.wrap (IntKind.i64.wrap a - b) = IntKind.i64.wrap (a - b) := by
  rw [Int.sub_eq_add_neg, wrap_al, Int.sub_eq_add_neg]
theorem wrap_sr (a b : Int) : IntKind.i64.wrap (a - IntKind.i64.wrap b) = IntKind.i64.wrap (a - b) := by
  obtain ⟨k, hk⟩ := wrap_ex b
  rw [hk, show a - (b + 18446744073709551616 * k) = a - b + 18446744073709551616 * (-k) by omega, wrap_sh]
theorem wrap_ml (a b : Int) : IntKind.i64.wrap (IntKind.i64.wrap a * b) = IntKind.i64.wrap (a * b) := by
  obtain ⟨k, hk⟩ := wrap_ex a
  rw [hk, Int.add_mul, Int.mul_assoc, wrap_sh]
theorem wrap_mr (a b : Int) : IntKind.i64.wrap (a * IntKind.i64.wrap b) = IntKind.i64.wrap (a * b) := by
  rw [Int.mul_comm, wrap_ml, Int.mul_comm]
theorem wrap_ng (a : Int) : IntKind.i64.wrap (-IntKind.i64.wrap a) = IntKind.i64.wrap (-a) := by
  have := wrap_sr 0 a
  simpa using this
/-! ### ranges -/
def smp (x : Int) : Bool := !ilt x (-16383) && !ilt 16383 x
theorem smp_b {x : Int} (h : smp x = true) : -16383 ≤ x ∧ x ≤ 16383 := by simp [smp, ilt] at h; omega
theorem smp_of {x : Int} (h1 : -16383 ≤ x) (h2 : x ≤ 16383) : smp x = true := by simp [smp, ilt]; omega
def okS (l : List Int) : Bool := decide (l.length ≤ 240) && l.all smp
theorem valid_ok (l : List Int) (hl : l.length ≤ maxLen) : PCall Try.prog 20 [.list 1 (l.map il)] (.bool (okS l)) := by
  obtain ⟨n, hn⟩ : ∃ n, l.length = n := ⟨_, rfl⟩
  have hm : maxLen = 9223372036854775807 := by decide
  cases b1 : ilt 240 (n : Int)
  · have hok : okS l = l.all smp := by
      have := ilt_iff'.1 b1
      simp only [okS, decide_eq_true (show l.length ≤ 240 by omega), Bool.true_and]
    rw [hok]
    refine pcall_cx noTab_ok mixed (fun _ => none) Try.func20 rfl Try.ntmps20 Try.results20 (by simp) (by kernel_rfl) ?_
    repeat' first
      | (refine gw_bool (fun _ => ?_) (fun _ => ?_))
      | (refine condw_bool (fun _ => ?_) (fun _ => ?_))
      | simp [*]
    refine lp_go (D := (fun _ => none)) noTab_ok mixed (by kernel_rfl) [8, 9] [] (α := Nat) (fun i e h => i ≤ n ∧ e 10 = .int .i64 i ∧ Hid ((l.take i).all smp = true)) (fun i => n - i) 0 ?_ ?_
    · exact ⟨by omega, rfl, show _ = _ by simp⟩
    · rintro i e h hk hkh ⟨hi, g7, hinv⟩
      simp [Keep] at hk
      simp [KeepH] at hkh
      by_cases hlt : i < n
      · obtain ⟨x, hx, hx'⟩ := at_ex (show i < l.length by omega)
        have f1 : ilt (i : Int) (n : Int) = true := ilt_t (by omega)
        have w1 : IntKind.i64.wrap ((i : Int) + 1) = ((i + 1 : Nat) : Int) := wrap_succ (by omega)
        have hnext : (l.take (i + 1)).all smp = smp x := by
          rw [List.take_add_one, hx, List.all_append, hinv.out]; simp
        cases hs : smp x
        · have hall : l.all smp = false := by
            rw [Bool.eq_false_iff]
            intro hc
            have := List.all_eq_true.1 hc x (List.mem_of_getElem? hx)
            rw [hs] at this; cases this
          cases hs1 : ilt x (-16383)
          · have hs2 : ilt 16383 x = true := by simpa [smp, hs1] using hs
            clear hinv hnext hs
            repeat' first
              | (refine gw_bool (fun _ => ?_) (fun _ => ?_))
              | (refine condw_bool (fun _ => ?_) (fun _ => ?_))
              | simp [*, il]
          · clear hinv hnext hs
            repeat' first
              | (refine gw_bool (fun _ => ?_) (fun _ => ?_))
              | (refine condw_bool (fun _ => ?_) (fun _ => ?_))
              | simp [*, il]
        · have hz : Hid ((l.take (i + 1)).all smp = true) := by rw [hs] at hnext; exact hnext
          have hs' := smp_b hs
          have hs1 : ilt x (-16383) = false := ilt_f hs'.1
          have hs2 : ilt 16383 x = false := ilt_f hs'.2
          clear hinv hnext hs hs'
          repeat' first
            | (refine gw_bool (fun _ => ?_) (fun _ => ?_))
            | (refine condw_bool (fun _ => ?_) (fun _ => ?_))
            | simp [*, il]
          refine nxt_go (i + 1) (View.refl _ _) (by omega) (by simp [*, Keep, St.forget, scr, scrC]) (by simp [*, KeepH, St.forget, scr, scrC]) ?_
          refine ⟨by omega, ?_, hz⟩; simp [*]
      · have f1 : ilt (i : Int) (n : Int) = false := ilt_f (by omega)
        have e1 : i = n := by omega
        have hall : l.all smp = true := by
          have := hinv.out
          rwa [e1, ← hn, List.take_length] at this
        clear hinv
        repeat' first
          | (refine gw_bool (fun _ => ?_) (fun _ => ?_))
          | (refine condw_bool (fun _ => ?_) (fun _ => ?_))
          | simp [*]
  · have hok : okS l = false := by
      have := ilt_iff.1 b1
      simp only [okS, decide_eq_false (show ¬ l.length ≤ 240 by omega), Bool.false_and]
    refine pcall_cx noTab_ok mixed (fun _ => none) Try.func20 rfl Try.ntmps20 Try.results20 (by simp) (by kernel_rfl) ?_
    repeat' first
      | (refine gw_bool (fun _ => ?_) (fun _ => ?_))
      | (refine condw_bool (fun _ => ?_) (fun _ => ?_))
      | simp [*]
def Tvalid : List V → Option V
  | [.list 1 xs] => (match decL unI xs with
    | some l => bif decide (l.length ≤ 9223372036854775807) then some (.bool (okS l)) else none
    | none => none)
  | _ => none
theorem valid_tab : ∀ vs v, Tvalid vs = some v → PCall Try.prog 20 vs v := by
  intro vs v h; unfold Tvalid at h; split at h
  · split at h
    · rename_i l h1
      rw [decL_inv unI_inv _ _ h1]
      simp only [cond_eq_ite, decide_eq_true_eq] at h
      split at h
      · rename_i hc; cases h; exact valid_ok _ hc
      · cases h
    · cases h
  · cases h
theorem fine_ok (l : List Int) (hl : l.length ≤ maxLen) : PCall Try.prog 23 [.list 1 (l.map il)] (.bool (okS l)) := by
  obtain ⟨n, hn⟩ : ∃ n, l.length = n := ⟨_, rfl⟩
  have hm : maxLen = 9223372036854775807 := by decide
  cases b1 : ilt 240 (n : Int)
  · have hok : okS l = l.all smp := by
      have := ilt_iff'.1 b1
      simp only [okS, decide_eq_true (show l.length ≤ 240 by omega), Bool.true_and]
    rw [hok]
    refine pcall_cx noTab_ok mixed (fun _ => none) Try.func23 rfl Try.ntmps23 Try.results23 (by simp) (by kernel_rfl) ?_
    repeat' first
      | (refine gw_bool (fun _ => ?_) (fun _ => ?_))
      | (refine condw_bool (fun _ => ?_) (fun _ => ?_))
      | simp [*]
    refine lp_go (D := (fun _ => none)) noTab_ok mixed (by kernel_rfl) [0] [] (α := Nat) (fun i e h => i ≤ n ∧ e 3 = .int .i64 i ∧ Hid ((l.take i).all smp = true)) (fun i => n - i) 0 ?_ ?_
    · exact ⟨by omega, rfl, show _ = _ by simp⟩
    · rintro i e h hk hkh ⟨hi, g7, hinv⟩
      simp [Keep] at hk
      simp [KeepH] at hkh
      by_cases hlt : i < n
      · obtain ⟨x, hx, hx'⟩ := at_ex (show i < l.length by omega)
        have f1 : ilt (i : Int) (n : Int) = true := ilt_t (by omega)
        have w1 : IntKind.i64.wrap ((i : Int) + 1) = ((i + 1 : Nat) : Int) := wrap_succ (by omega)
        have hnext : (l.take (i + 1)).all smp = smp x := by
          rw [List.take_add_one, hx, List.all_append, hinv.out]; simp
        cases hs : smp x
        · have hall : l.all smp = false := by
            rw [Bool.eq_false_iff]
            intro hc
            have := List.all_eq_true.1 hc x (List.mem_of_getElem? hx)
            rw [hs] at this; cases this
          cases hs1 : ilt x (-16383)
          · have hs2 : ilt 16383 x = true := by simpa [smp, hs1] using hs
            clear hinv hnext hs
            repeat' first
              | (refine gw_bool (fun _ => ?_) (fun _ => ?_))
              | (refine condw_bool (fun _ => ?_) (fun _ => ?_))
              | simp [*, il]
          · clear hinv hnext hs
            repeat' first
              | (refine gw_bool (fun _ => ?_) (fun _ => ?_))
              | (refine condw_bool (fun _ => ?_) (fun _ => ?_))
              | simp [*, il]
        · have hz : Hid ((l.take (i + 1)).all smp = true) := by rw [hs] at hnext; exact hnext
          have hs' := smp_b hs
          have hs1 : ilt x (-16383) = false := ilt_f hs'.1
          have hs2 : ilt 16383 x = false := ilt_f hs'.2
          clear hinv hnext hs hs'
          repeat' first
            | (refine gw_bool (fun _ => ?_) (fun _ => ?_))
            | (refine condw_bool (fun _ => ?_) (fun _ => ?_))
            | simp [*, il]
          refine nxt_go (i + 1) (View.refl _ _) (by omega) (by simp [*, Keep, St.forget, scr, scrC]) (by simp [*, KeepH, St.forget, scr, scrC]) ?_
          refine ⟨by omega, ?_, hz⟩; simp [*]
      · have f1 : ilt (i : Int) (n : Int) = false := ilt_f (by omega)
        have e1 : i = n := by omega
        have hall : l.all smp = true := by
          have := hinv.out
          rwa [e1, ← hn, List.take_length] at this
        clear hinv
        repeat' first
          | (refine gw_bool (fun _ => ?_) (fun _ => ?_))
          | (refine condw_bool (fun _ => ?_) (fun _ => ?_))
          | simp [*]
  · have hok : okS l = false := by
      have := ilt_iff.1 b1
      simp only [okS, decide_eq_false (show ¬ l.length ≤ 240 by omega), Bool.false_and]
    refine pcall_cx noTab_ok mixed (fun _ => none) Try.func23 rfl Try.ntmps23 Try.results23 (by simp) (by kernel_rfl) ?_
    repeat' first
      | (refine gw_bool (fun _ => ?_) (fun _ => ?_))
      | (refine condw_bool (fun _ => ?_) (fun _ => ?_))
      | simp [*]
theorem fine_tab : ∀ vs v, Tvalid vs = some v → PCall Try.prog 23 vs v := by
  intro vs v h; unfold Tvalid at h; split at h
  · split at h
    · rename_i l h1
      rw [decL_inv unI_inv _ _ h1]
      simp only [cond_eq_ite, decide_eq_true_eq] at h
      split at h
      · rename_i hc; cases h; exact fine_ok _ hc
      · cases h
    · cases h
  · cases h
/-! ### lowest terms -/
def gcdI (n d : Int) : Int := ((Nat.gcd n.natAbs d.natAbs : Nat) : Int)
def low (n d : Int) : Int × Int := (n.tdiv (gcdI n d), d.tdiv (gcdI n d))
def vI (p : Int × Int) : V := .tup [.int .i64 p.1, .int .i64 p.2]
theorem gcd_pos {n d : Int} (hd : 0 < d) : 0 < gcdI n d := by
  have : 0 < Nat.gcd n.natAbs d.natAbs := Nat.gcd_pos_of_pos_right _ (by omega)
  simp only [gcdI]; omega
theorem tdiv_b {n : Int} {g : Nat} (h1 : -4611686018427387904 ≤ n) (h2 : n ≤ 4611686018427387904) : IntKind.i64.wrap (n.tdiv (g : Int)) = n.tdiv (g : Int) := by
  have h3 : (n.tdiv (g : Int)).natAbs = n.natAbs / g := by rw [Int.natAbs_tdiv]; rfl
  have h4 : n.natAbs / g ≤ n.natAbs := Nat.div_le_self _ _
  generalize n.natAbs / g = c at h3 h4
  exact wrap_id (by omega) (by omega)
theorem lowest_ok (n d : Int) (hd : 0 < d) (hd2 : d ≤ 4611686018427387904) (hn1 : 0 ≤ n) (hn2 : n ≤ 4611686018427387904) : PCall Try.prog 22 [.int .i64 n, .int .i64 d] (vI (low n d)) := by
  obtain ⟨D, rfl⟩ := Int.eq_ofNat_of_zero_le (show 0 ≤ d by omega)
  obtain ⟨N, rfl⟩ := Int.eq_ofNat_of_zero_le hn1
  obtain ⟨g, hg⟩ : ∃ g, Nat.gcd N D = g := ⟨_, rfl⟩
  have hgI : gcdI N D = (g : Int) := by simp only [gcdI, Int.natAbs_natCast, hg]
  have hgp : 0 < g := by rw [← hg]; exact Nat.gcd_pos_of_pos_right _ (by omega)
  have w2 : IntKind.i64.wrap (((N : Int)).tdiv (g : Int)) = (N : Int).tdiv (g : Int) := tdiv_b (by omega) (by omega)
  have w3 : IntKind.i64.wrap ((D : Int).tdiv (g : Int)) = (D : Int).tdiv (g : Int) := tdiv_b (by omega) (by omega)
  have w3' : IntKind.i64.wrap ((D : Int) / (g : Int)) = (D : Int) / (g : Int) := by rw [← Int.tdiv_eq_ediv_of_nonneg (by omega)]; exact w3
  have w2' : IntKind.i64.wrap ((N : Int) / (g : Int)) = (N : Int) / (g : Int) := by rw [← Int.tdiv_eq_ediv_of_nonneg (by omega)]; exact w2
  have g0 : ¬ g = 0 := by omega
  refine pcall_cx noTab_ok mixed (fun _ => none) Try.func22 rfl Try.ntmps22 Try.results22 (by simp) (by kernel_rfl) ?_
  repeat' first
    | (refine gw_bool (fun _ => ?_) (fun _ => ?_))
    | (refine condw_bool (fun _ => ?_) (fun _ => ?_))
    | simp [*]
  refine lp_go (D := (fun _ => none)) noTab_ok mixed (by kernel_rfl) [0, 1] [] (α := Nat × Nat) (fun x e h => e 6 = .int .i64 x.1 ∧ e 7 = .int .i64 x.2 ∧ Hid (Nat.gcd x.1 x.2 = g)) (fun x => x.2) (N, D) ?_ ?_
  · exact ⟨rfl, rfl, hg⟩
  · rintro ⟨A, B⟩ e h hk hkh ⟨g6, g7, hinv⟩
    simp [Keep] at hk
    simp [KeepH] at hkh
    simp only at g6 g7 hinv
    by_cases hB : B = 0
    · subst hB
      have : A = g := by have := hinv.out; simpa using this
      subst this
      clear hinv
      repeat' first
        | (refine gw_bool (fun _ => ?_) (fun _ => ?_))
        | (refine condw_bool (fun _ => ?_) (fun _ => ?_))
        | simp [*, low, vI]
    · have f1 : ieq (B : Int) 0 = false := ieq_f (by omega)
      have f3 : (A : Int).tmod (B : Int) = ((A % B : Nat) : Int) := by rw [Int.tmod_eq_emod_of_nonneg (by omega)]; simp
      have hz : Hid (Nat.gcd B (A % B) = g) := by
        show _ = _
        rw [← hinv.out, Nat.gcd_comm A B, Nat.gcd_rec B A, Nat.gcd_comm]
      have hlt : A % B < B := Nat.mod_lt _ (by omega)
      clear hinv
      repeat' first
        | (refine gw_bool (fun _ => ?_) (fun _ => ?_))
        | (refine condw_bool (fun _ => ?_) (fun _ => ?_))
        | simp [*]
      refine nxt_go (B, A % B) (View.refl _ _) (by simp only; exact hlt) (by simp [*, Keep, St.forget, scr, scrC]) (by simp [*, KeepH, St.forget, scr, scrC]) ?_
      refine ⟨?_, ?_, hz⟩
      · simp [*]
      · simp [*]
theorem gcdR_ok (A0 B0 : Nat) (h1 : A0 ≤ 9223372036854775807) (h2 : B0 ≤ 9223372036854775807) : PCall Try.prog 28 [.int .i64 A0, .int .i64 B0] (.int .i64 (Nat.gcd A0 B0 : Nat)) := by
  obtain ⟨g, hg⟩ : ∃ g, Nat.gcd A0 B0 = g := ⟨_, rfl⟩
  rw [hg]
  refine pcall_cx noTab_ok mixed (fun _ => none) Try.func28 rfl Try.ntmps28 Try.results28 (by simp) (by kernel_rfl) ?_
  repeat' first
    | (refine gw_bool (fun _ => ?_) (fun _ => ?_))
    | (refine condw_bool (fun _ => ?_) (fun _ => ?_))
    | simp [*]
  refine lp_go (D := (fun _ => none)) noTab_ok mixed (by kernel_rfl) [] [] (α := Nat × Nat) (fun x e h => e 0 = .int .i64 x.1 ∧ e 1 = .int .i64 x.2 ∧ Hid (Nat.gcd x.1 x.2 = g)) (fun x => x.2) (A0, B0) ?_ ?_
  · exact ⟨rfl, rfl, hg⟩
  · rintro ⟨A, B⟩ e h hk hkh ⟨g6, g7, hinv⟩
    simp [Keep] at hk
    simp [KeepH] at hkh
    simp only at g6 g7 hinv
    by_cases hB : B = 0
    · subst hB
      have : A = g := by have := hinv.out; simpa using this
      subst this
      have f1 : ilt 0 (((0 : Nat)) : Int) = false := by decide
      clear hinv
      repeat' first
        | (refine gw_bool (fun _ => ?_) (fun _ => ?_))
        | (refine condw_bool (fun _ => ?_) (fun _ => ?_))
        | simp [*]
    · have f1 : ilt 0 (B : Int) = true := ilt_t (by omega)
      have f3 : (A : Int).tmod (B : Int) = ((A % B : Nat) : Int) := by rw [Int.tmod_eq_emod_of_nonneg (by omega)]; simp
      have hz : Hid (Nat.gcd B (A % B) = g) := by
        show _ = _
        rw [← hinv.out, Nat.gcd_comm A B, Nat.gcd_rec B A, Nat.gcd_comm]
      have hlt : A % B < B := Nat.mod_lt _ (by omega)
      clear hinv
      repeat' first
        | (refine gw_bool (fun _ => ?_) (fun _ => ?_))
        | (refine condw_bool (fun _ => ?_) (fun _ => ?_))
        | simp [*]
      refine nxt_go (B, A % B) (View.refl _ _) (by simp only; exact hlt) (by simp [*, Keep, St.forget, scr, scrC]) (by simp [*, KeepH, St.forget, scr, scrC]) ?_
      refine ⟨?_, ?_, hz⟩
      · simp [*]
      · simp [*]
def TgcdR : List V → Option V
  | [.int .i64 a, .int .i64 b] => bif decide (0 ≤ a) && (decide (a ≤ 9223372036854775807) && (decide (0 ≤ b) && decide (b ≤ 9223372036854775807))) then some (.int .i64 (Nat.gcd a.toNat b.toNat : Nat)) else none
  | _ => none
theorem gcdR_tab : ∀ vs v, TgcdR vs = some v → PCall Try.prog 28 vs v := by
  intro vs v h; unfold TgcdR at h; split at h
  · simp only [cond_eq_ite, Bool.and_eq_true, decide_eq_true_eq] at h
    split at h
    · rename_i a b hc
      obtain ⟨h1, h2, h3, h4⟩ := hc
      cases h
      obtain ⟨A, rfl⟩ := Int.eq_ofNat_of_zero_le h1
      obtain ⟨B, rfl⟩ := Int.eq_ofNat_of_zero_le h3
      exact gcdR_ok A B (by omega) (by omega)
    · cases h
  · cases h
theorem gcdL_ok (A0 B0 : Nat) (h1 : A0 ≤ 9223372036854775807) (h2 : B0 ≤ 9223372036854775807) : PCall Try.prog 11 [.int .i64 A0, .int .i64 B0] (.int .i64 (Nat.gcd A0 B0 : Nat)) := by
  obtain ⟨g, hg⟩ : ∃ g, Nat.gcd A0 B0 = g := ⟨_, rfl⟩
  rw [hg]
  refine pcall_cx noTab_ok mixed (fun _ => none) Try.func11 rfl Try.ntmps11 Try.results11 (by simp) (by kernel_rfl) ?_
  repeat' first
    | (refine gw_bool (fun _ => ?_) (fun _ => ?_))
    | (refine condw_bool (fun _ => ?_) (fun _ => ?_))
    | simp [*]
  refine lp_go (D := (fun _ => none)) noTab_ok mixed (by kernel_rfl) [] [] (α := Nat × Nat) (fun x e h => e 0 = .int .i64 x.1 ∧ e 1 = .int .i64 x.2 ∧ Hid (Nat.gcd x.1 x.2 = g)) (fun x => x.2) (A0, B0) ?_ ?_
  · exact ⟨rfl, rfl, hg⟩
  · rintro ⟨A, B⟩ e h hk hkh ⟨g6, g7, hinv⟩
    simp [Keep] at hk
    simp [KeepH] at hkh
    simp only at g6 g7 hinv
    by_cases hB : B = 0
    · subst hB
      have : A = g := by have := hinv.out; simpa using this
      subst this
      have f1 : ilt 0 (((0 : Nat)) : Int) = false := by decide
      clear hinv
      repeat' first
        | (refine gw_bool (fun _ => ?_) (fun _ => ?_))
        | (refine condw_bool (fun _ => ?_) (fun _ => ?_))
        | simp [*]
    · have f1 : ilt 0 (B : Int) = true := ilt_t (by omega)
      have f3 : (A : Int).tmod (B : Int) = ((A % B : Nat) : Int) := by rw [Int.tmod_eq_emod_of_nonneg (by omega)]; simp
      have hz : Hid (Nat.gcd B (A % B) = g) := by
        show _ = _
        rw [← hinv.out, Nat.gcd_comm A B, Nat.gcd_rec B A, Nat.gcd_comm]
      have hlt : A % B < B := Nat.mod_lt _ (by omega)
      clear hinv
      repeat' first
        | (refine gw_bool (fun _ => ?_) (fun _ => ?_))
        | (refine condw_bool (fun _ => ?_) (fun _ => ?_))
        | simp [*]
      refine nxt_go (B, A % B) (View.refl _ _) (by simp only; exact hlt) (by simp [*, Keep, St.forget, scr, scrC]) (by simp [*, KeepH, St.forget, scr, scrC]) ?_
      refine ⟨?_, ?_, hz⟩
      · simp [*]
      · simp [*]
theorem gcdL_tab : ∀ vs v, TgcdR vs = some v → PCall Try.prog 11 vs v := by
  intro vs v h; unfold TgcdR at h; split at h
  · simp only [cond_eq_ite, Bool.and_eq_true, decide_eq_true_eq] at h
    split at h
    · rename_i a b hc
      obtain ⟨h1, h2, h3, h4⟩ := hc
      cases h
      obtain ⟨A, rfl⟩ := Int.eq_ofNat_of_zero_le h1
      obtain ⟨B, rfl⟩ := Int.eq_ofNat_of_zero_le h3
      exact gcdL_ok A B (by omega) (by omega)
    · cases h
  · cases h
def Tlow : List V → Option V
  | [.int .i64 n, .int .i64 d] => bif decide (0 < d) && (decide (d ≤ 4611686018427387904) && (decide (0 ≤ n) && decide (n ≤ 4611686018427387904))) then some (vI (low n d)) else none
  | _ => none
theorem low_tab : ∀ vs v, Tlow vs = some v → PCall Try.prog 22 vs v := by
  intro vs v h; unfold Tlow at h; split at h
  · simp only [cond_eq_ite, Bool.and_eq_true, decide_eq_true_eq] at h
    split at h
    · rename_i hc; cases h; exact lowest_ok _ _ hc.1 hc.2.1 hc.2.2.1 hc.2.2.2
    · cases h
  · cases h
def G1 : Tab := add 12 Twithin (add 20 Tvalid (add 23 Tvalid (add 22 Tlow (add 28 TgcdR (add 11 TgcdR (noTab))))))
theorem G1_at (f : FuncId) (vs : List V) : G1.at' f vs = if f = 12 then Twithin vs else if f = 20 then Tvalid vs else if f = 23 then Tvalid vs else if f = 22 then Tlow vs else if f = 28 then TgcdR vs else if f = 11 then TgcdR vs else noTab.at' f vs := rfl
theorem G1_fr (f : FuncId) : G1.fr f = if f = 12 then false else if f = 20 then false else if f = 23 then false else if f = 22 then false else if f = 28 then false else if f = 11 then false else noTab.fr f := rfl
attribute [simp] G1_at G1_fr TgcdR Tlow Tvalid Twithin
theorem G1_ok : TabOK Try.prog G1 := by
  refine add_ok (add_ok (add_ok (add_ok (add_ok (add_ok (noTab_ok) (by kernel_rfl) ?_) (by kernel_rfl) ?_) (by kernel_rfl) ?_) (by kernel_rfl) ?_) (by kernel_rfl) ?_) (by kernel_rfl) ?_
  · exact gcdL_tab
  · exact gcdR_tab
  · exact low_tab
  · exact fine_tab
  · exact valid_tab
  · exact within_tab
theorem lowestR_ok (n d : Int) (hd : 0 < d) (hd2 : d ≤ 4611686018427387904) (hn1 : 0 ≤ n) (hn2 : n ≤ 4611686018427387904) : PCall Try.prog 24 [.int .i64 n, .int .i64 d] (vI (low n d)) := by
  have w1 : IntKind.i64.wrap (-n) = -n := wrap_id (by omega) (by omega)
  have w1' : IntKind.i64.wrap (0 - n) = -n := by rw [Int.zero_sub]; exact w1
  obtain ⟨D, rfl⟩ := Int.eq_ofNat_of_zero_le (show 0 ≤ d by omega)
  obtain ⟨N, hN⟩ : ∃ N, n.natAbs = N := ⟨_, rfl⟩
  have hmax : max n (-n) = (N : Int) := by omega
  obtain ⟨g, hg⟩ : ∃ g, Nat.gcd N D = g := ⟨_, rfl⟩
  have hgI : gcdI n D = (g : Int) := by simp only [gcdI, Int.natAbs_natCast, hN, hg]
  have g0 : ¬ g = 0 := by have : 0 < g := by rw [← hg]; exact Nat.gcd_pos_of_pos_right _ (by omega)
                          omega
  have w2 := tdiv_b (n := n) (g := g) (by omega) (by omega)
  have w3 := tdiv_b (n := (D : Int)) (g := g) (by omega) (by omega)
  have w3' : IntKind.i64.wrap ((D : Int) / (g : Int)) = (D : Int) / (g : Int) := by rw [← Int.tdiv_eq_ediv_of_nonneg (by omega)]; exact w3
  have c1 : (N : Int) ≤ 9223372036854775807 := by omega
  have c2 : (D : Int) ≤ 9223372036854775807 := by omega
  have c3 : N ≤ 9223372036854775807 := by omega
  have c4 : D ≤ 9223372036854775807 := by omega
  clear hn1 hn2
  refine pcall_cx G1_ok mixed (fun _ => none) Try.func24 rfl Try.ntmps24 Try.results24 (by simp) (by kernel_rfl) ?_
  repeat' first
    | (refine gw_bool (fun _ => ?_) (fun _ => ?_))
    | (refine condw_bool (fun _ => ?_) (fun _ => ?_))
    | simp [*, low, vI]
theorem lowR_tab : ∀ vs v, Tlow vs = some v → PCall Try.prog 24 vs v := by
  intro vs v h; unfold Tlow at h; split at h
  · simp only [cond_eq_ite, Bool.and_eq_true, decide_eq_true_eq] at h
    split at h
    · rename_i hc; cases h; exact lowestR_ok _ _ hc.1 hc.2.1 hc.2.2.1 hc.2.2.2
    · cases h
  · cases h
def G2 : Tab := add 24 Tlow (G1)
theorem G2_at (f : FuncId) (vs : List V) : G2.at' f vs = if f = 24 then Tlow vs else G1.at' f vs := rfl
theorem G2_fr (f : FuncId) : G2.fr f = if f = 24 then false else G1.fr f := rfl
attribute [simp] G2_at G2_fr Tlow
theorem G2_ok : TabOK Try.prog G2 := by
  refine add_ok (G1_ok) (by kernel_rfl) ?_
  · exact lowR_tab
end Go.Proofs.Ytacmchjaldljjaa
