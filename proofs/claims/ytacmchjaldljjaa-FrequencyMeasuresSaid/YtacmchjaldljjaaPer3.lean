/-
  Frequency: the frequency, whether it deviates, the sanity check, series within the range.
-/
import Derived.Test.YtacmchjaldljjaaPer2
namespace Go.Proofs.Ytacmchjaldljjaa
open Go.Pv Go.RowKit
set_option linter.unusedSimpArgs false
set_option linter.unusedVariables false
set_option maxRecDepth 100000
set_option maxHeartbeats 4000000

theorem low_pos {n d : Int} (hn : 0 < n) (hd : 0 < d) : 0 < (low n d).1 := by
  obtain ⟨e1, _, _⟩ := low_eq (n := n) hd
  have hg := gcd_pos (n := n) hd
  rcases Int.lt_or_le 0 (low n d).1 with h1 | h1
  · exact h1
  · exfalso
    have := Int.mul_nonpos_of_nonpos_of_nonneg h1 (Int.le_of_lt hg)
    omega
theorem perF_cases (l : List Int) : (okS l = false ∧ perF l = ((0, 0), 1)) ∨ (okS l = true ∧ perF l = ((0, 0), 18)) ∨ (okS l = true ∧ ∃ p q, perF l = ((p, q), 0) ∧ 0 < p ∧ p ≤ 300000000000 ∧ 0 < q ∧ q ≤ 300000000000) := by
  cases hok : okS l
  · exact .inl ⟨rfl, perF_bad hok⟩
  · by_cases h2 : (crs l).length < 2
    · exact .inr (.inl ⟨rfl, perF_few hok h2⟩)
    · obtain ⟨m, hlen⟩ : ∃ m, (crs l).length = m + 1 := ⟨(crs l).length - 1, by omega⟩
      obtain ⟨f, hf, hf'⟩ := at_ex (show 0 < (crs l).length by omega)
      obtain ⟨g, hg, hg'⟩ := at_ex (show m < (crs l).length by omega)
      obtain ⟨b1, b2, b3, b4⟩ := per_b hok (by omega) hlen hf hg
      refine .inr (.inr ⟨rfl, (low (pnum f g) (pden f g ((m + 1 : Nat) : Int))).1, (low (pnum f g) (pden f g ((m + 1 : Nat) : Int))).2, perF_ok hok (by omega) hlen hf hg, low_pos b1 b3, ?_, (low_eq b3).2.2, ?_⟩)
      · have := (low_b (n := pnum f g) b3).1; omega
      · have := (low_b (n := pnum f g) b3).2; omega
def Tper : List V → Option V
  | [.list 1 xs] => (match decL unI xs with
    | some l => bif decide (l.length ≤ 9223372036854775807) then some (vF (perF l)) else none
    | none => none)
  | _ => none
theorem per_tab : ∀ vs v, Tper vs = some v → PCall Try.prog 13 vs v := by
  intro vs v h; unfold Tper at h; split at h
  · split at h
    · rename_i l h1
      rw [decL_inv unI_inv _ _ h1]
      simp only [cond_eq_ite, decide_eq_true_eq] at h
      split at h
      · rename_i hc; cases h; exact period_ok _ hc
      · cases h
    · cases h
  · cases h
theorem perR_tab : ∀ vs v, Tper vs = some v → PCall Try.prog 16 vs v := by
  intro vs v h; unfold Tper at h; split at h
  · split at h
    · rename_i l h1
      rw [decL_inv unI_inv _ _ h1]
      simp only [cond_eq_ite, decide_eq_true_eq] at h
      split at h
      · rename_i hc; cases h; exact periodR_ok _ hc
      · cases h
    · cases h
  · cases h
def G4 : Tab := add 13 Tper (add 16 Tper (G3))
theorem G4_at (f : FuncId) (vs : List V) : G4.at' f vs = if f = 13 then Tper vs else if f = 16 then Tper vs else G3.at' f vs := rfl
theorem G4_fr (f : FuncId) : G4.fr f = if f = 13 then false else if f = 16 then false else G3.fr f := rfl
attribute [simp] G4_at G4_fr Tper
theorem G4_ok : TabOK Try.prog G4 := by
  refine add_ok (add_ok (G3_ok) (by kernel_rfl) ?_) (by kernel_rfl) ?_
  · exact perR_tab
  · exact per_tab
def mhF (r : (Int × Int) × Int) : Int × Int := if r.2 = 0 then ((1200000 * r.1.2 + r.1.1) / (2 * r.1.1), 0) else (0, r.2)
theorem mh_ok (l : List Int) (hl : l.length ≤ maxLen) : PCall Try.prog 14 [.list 1 (l.map il)] (vI (mhF (perF l))) := by
  have hmx : maxLen = 9223372036854775807 := by decide
  rw [hmx] at hl
  have hdec := dec_i l
  rcases perF_cases l with ⟨_, hp⟩ | ⟨_, hp⟩ | ⟨_, p, q, hp, p1, p2, q1, q2⟩
  · rw [hp]
    refine pcall_cx G4_ok mixed (fun _ => none) Try.func14 rfl Try.ntmps14 Try.results14 (by simp) (by kernel_rfl) ?_
    repeat' first
      | (refine gw_bool (fun _ => ?_) (fun _ => ?_))
      | (refine condw_bool (fun _ => ?_) (fun _ => ?_))
      | simp [*, vF, vI, mhF]
  · rw [hp]
    refine pcall_cx G4_ok mixed (fun _ => none) Try.func14 rfl Try.ntmps14 Try.results14 (by simp) (by kernel_rfl) ?_
    repeat' first
      | (refine gw_bool (fun _ => ?_) (fun _ => ?_))
      | (refine condw_bool (fun _ => ?_) (fun _ => ?_))
      | simp [*, vF, vI, mhF]
  · rw [hp]
    obtain ⟨A, hA⟩ : ∃ A, 1200000 * q + p = A := ⟨_, rfl⟩
    obtain ⟨B, hB⟩ : ∃ B : Nat, 2 * p = (B : Int) := Int.eq_ofNat_of_zero_le (by omega)
    have w1 : IntKind.i64.wrap A = A := wrap_id (by omega) (by omega)
    have w2 : IntKind.i64.wrap (B : Int) = B := wrap_id (by omega) (by omega)
    have e1 : A.tdiv (B : Int) = A / (B : Int) := Int.tdiv_eq_ediv_of_nonneg (by omega)
    have w3 : IntKind.i64.wrap (A / (B : Int)) = A / (B : Int) := by rw [← e1]; exact tdiv_b (by omega) (by omega)
    have b0 : ¬ B = 0 := by omega
    clear p1 p2 q1 q2
    refine pcall_cx G4_ok mixed (fun _ => none) Try.func14 rfl Try.ntmps14 Try.results14 (by simp) (by kernel_rfl) ?_
    repeat' first
      | (refine gw_bool (fun _ => ?_) (fun _ => ?_))
      | (refine condw_bool (fun _ => ?_) (fun _ => ?_))
      | simp [*, vF, vI, mhF, wrap_al, wrap_ar]
theorem mhR_ok (l : List Int) (hl : l.length ≤ maxLen) : PCall Try.prog 17 [.list 1 (l.map il)] (vI (mhF (perF l))) := by
  have hmx : maxLen = 9223372036854775807 := by decide
  rw [hmx] at hl
  have hdec := dec_i l
  rcases perF_cases l with ⟨_, hp⟩ | ⟨_, hp⟩ | ⟨_, p, q, hp, p1, p2, q1, q2⟩
  · rw [hp]
    refine pcall_cx G4_ok mixed (fun _ => none) Try.func17 rfl Try.ntmps17 Try.results17 (by simp) (by kernel_rfl) ?_
    repeat' first
      | (refine gw_bool (fun _ => ?_) (fun _ => ?_))
      | (refine condw_bool (fun _ => ?_) (fun _ => ?_))
      | simp [*, vF, vI, mhF]
  · rw [hp]
    refine pcall_cx G4_ok mixed (fun _ => none) Try.func17 rfl Try.ntmps17 Try.results17 (by simp) (by kernel_rfl) ?_
    repeat' first
      | (refine gw_bool (fun _ => ?_) (fun _ => ?_))
      | (refine condw_bool (fun _ => ?_) (fun _ => ?_))
      | simp [*, vF, vI, mhF]
  · rw [hp]
    obtain ⟨A, hA⟩ : ∃ A, 1200000 * q + p = A := ⟨_, rfl⟩
    obtain ⟨B, hB⟩ : ∃ B : Nat, 2 * p = (B : Int) := Int.eq_ofNat_of_zero_le (by omega)
    have w1 : IntKind.i64.wrap A = A := wrap_id (by omega) (by omega)
    have w2 : IntKind.i64.wrap (B : Int) = B := wrap_id (by omega) (by omega)
    have e1 : A.tdiv (B : Int) = A / (B : Int) := Int.tdiv_eq_ediv_of_nonneg (by omega)
    have w3 : IntKind.i64.wrap (A / (B : Int)) = A / (B : Int) := by rw [← e1]; exact tdiv_b (by omega) (by omega)
    have b0 : ¬ B = 0 := by omega
    clear p1 p2 q1 q2
    refine pcall_cx G4_ok mixed (fun _ => none) Try.func17 rfl Try.ntmps17 Try.results17 (by simp) (by kernel_rfl) ?_
    repeat' first
      | (refine gw_bool (fun _ => ?_) (fun _ => ?_))
      | (refine condw_bool (fun _ => ?_) (fun _ => ?_))
      | simp [*, vF, vI, mhF, wrap_al, wrap_ar]
def Tmh : List V → Option V
  | [.list 1 xs] => (match decL unI xs with
    | some l => bif decide (l.length ≤ 9223372036854775807) then some (vI (mhF (perF l))) else none
    | none => none)
  | _ => none
theorem mh_tab : ∀ vs v, Tmh vs = some v → PCall Try.prog 14 vs v := by
  intro vs v h; unfold Tmh at h; split at h
  · split at h
    · rename_i l h1
      rw [decL_inv unI_inv _ _ h1]
      simp only [cond_eq_ite, decide_eq_true_eq] at h
      split at h
      · rename_i hc; cases h; exact mh_ok _ hc
      · cases h
    · cases h
  · cases h
theorem mhR_tab : ∀ vs v, Tmh vs = some v → PCall Try.prog 17 vs v := by
  intro vs v h; unfold Tmh at h; split at h
  · split at h
    · rename_i l h1
      rw [decL_inv unI_inv _ _ h1]
      simp only [cond_eq_ite, decide_eq_true_eq] at h
      split at h
      · rename_i hc; cases h; exact mhR_ok _ hc
      · cases h
    · cases h
  · cases h
/-- Does the period lie within the deviation? -/
def inB (p q dv : Int) : Bool := !ilt (600000 * q) ((50000 - dv) * p) && !ilt ((50000 + dv) * p) (600000 * q)
def wiF (l : List Int) (dv : Int) : Bool × Int := if okS l && (!ilt dv 0 && !ilt 50000 dv) then (if (perF l).2 = 0 then (inB (perF l).1.1 (perF l).1.2 dv, 0) else (false, (perF l).2)) else (false, 1)
def vW (r : Bool × Int) : V := .tup [.bool r.1, .int .i64 r.2]
theorem within_b {p q dv : Int} (p1 : 0 < p) (p2 : p ≤ 300000000000) (q1 : 0 < q) (q2 : q ≤ 300000000000) (d1 : 0 ≤ dv) (d2 : dv ≤ 50000) :
    IntKind.i64.wrap (600000 * q) = 600000 * q ∧ IntKind.i64.wrap ((50000 - dv) * p) = (50000 - dv) * p ∧ IntKind.i64.wrap ((50000 + dv) * p) = (50000 + dv) * p := by
  have m1 := mul_b (x := 50000 - dv) (y := p) (X := 50000) (Y := 300000000000) (by omega) (by omega)
  have m2 := mul_b (x := 50000 + dv) (y := p) (X := 100000) (Y := 300000000000) (by omega) (by omega)
  generalize (50000 - dv) * p = A at *
  generalize (50000 + dv) * p = B at *
  exact ⟨wrap_id (by omega) (by omega), wrap_id (by omega) (by omega), wrap_id (by omega) (by omega)⟩
theorem wi_ok (l : List Int) (dv : Int) (hl : l.length ≤ maxLen) : PCall Try.prog 18 [.list 1 (l.map il), .int .i64 dv] (vW (wiF l dv)) := by
  have hmx : maxLen = 9223372036854775807 := by decide
  rw [hmx] at hl
  have hdec := dec_i l
  cases hok : okS l
  · refine pcall_cx G4_ok mixed (fun _ => none) Try.func18 rfl Try.ntmps18 Try.results18 (by simp) (by kernel_rfl) ?_
    repeat' first
      | (refine gw_bool (fun _ => ?_) (fun _ => ?_))
      | (refine condw_bool (fun _ => ?_) (fun _ => ?_))
      | simp [*, vF, vW, wiF]
  · cases c1 : ilt dv 0
    · cases c2 : ilt 50000 dv
      · rcases perF_cases l with ⟨h, hp⟩ | ⟨_, hp⟩ | ⟨_, p, q, hp, p1, p2, q1, q2⟩
        · rw [hok] at h; cases h
        · refine pcall_cx G4_ok mixed (fun _ => none) Try.func18 rfl Try.ntmps18 Try.results18 (by simp) (by kernel_rfl) ?_
          repeat' first
            | (refine gw_bool (fun _ => ?_) (fun _ => ?_))
            | (refine condw_bool (fun _ => ?_) (fun _ => ?_))
            | simp [*, vF, vW, wiF]
        · obtain ⟨w1, w2, w3⟩ := within_b p1 p2 q1 q2 (ilt_iff'.1 c1) (ilt_iff'.1 c2)
          obtain ⟨A, hA⟩ : ∃ A, 600000 * q = A := ⟨_, rfl⟩
          obtain ⟨B, hB⟩ : ∃ A, (50000 - dv) * p = A := ⟨_, rfl⟩
          obtain ⟨C, hC⟩ : ∃ A, (50000 + dv) * p = A := ⟨_, rfl⟩
          rw [hA] at w1
          rw [hB] at w2
          rw [hC] at w3
          clear p1 p2 q1 q2
          refine pcall_cx G4_ok mixed (fun _ => none) Try.func18 rfl Try.ntmps18 Try.results18 (by simp) (by kernel_rfl) ?_
          repeat' first
            | (refine gw_bool (fun _ => ?_) (fun _ => ?_))
            | (refine condw_bool (fun _ => ?_) (fun _ => ?_))
            | simp [*, vF, vW, wiF, inB, wrap_ml, wrap_mr]
      · refine pcall_cx G4_ok mixed (fun _ => none) Try.func18 rfl Try.ntmps18 Try.results18 (by simp) (by kernel_rfl) ?_
        repeat' first
          | (refine gw_bool (fun _ => ?_) (fun _ => ?_))
          | (refine condw_bool (fun _ => ?_) (fun _ => ?_))
          | simp [*, vF, vW, wiF]
    · refine pcall_cx G4_ok mixed (fun _ => none) Try.func18 rfl Try.ntmps18 Try.results18 (by simp) (by kernel_rfl) ?_
      repeat' first
        | (refine gw_bool (fun _ => ?_) (fun _ => ?_))
        | (refine condw_bool (fun _ => ?_) (fun _ => ?_))
        | simp [*, vF, vW, wiF]
def Twi : List V → Option V
  | [.list 1 xs, .int .i64 dv] => (match decL unI xs with
    | some l => bif decide (l.length ≤ 9223372036854775807) then some (vW (wiF l dv)) else none
    | none => none)
  | _ => none
theorem wi_tab : ∀ vs v, Twi vs = some v → PCall Try.prog 18 vs v := by
  intro vs v h; unfold Twi at h; split at h
  · split at h
    · rename_i l h1
      rw [decL_inv unI_inv _ _ h1]
      simp only [cond_eq_ite, decide_eq_true_eq] at h
      split at h
      · rename_i hc; cases h; exact wi_ok _ _ hc
      · cases h
    · cases h
  · cases h
def G5 : Tab := add 14 Tmh (add 17 Tmh (add 18 Twi (G4)))
theorem G5_at (f : FuncId) (vs : List V) : G5.at' f vs = if f = 14 then Tmh vs else if f = 17 then Tmh vs else if f = 18 then Twi vs else G4.at' f vs := rfl
theorem G5_fr (f : FuncId) : G5.fr f = if f = 14 then false else if f = 17 then false else if f = 18 then false else G4.fr f := rfl
attribute [simp] G5_at G5_fr Tmh Twi
theorem G5_ok : TabOK Try.prog G5 := by
  refine add_ok (add_ok (add_ok (G4_ok) (by kernel_rfl) ?_) (by kernel_rfl) ?_) (by kernel_rfl) ?_
  · exact wi_tab
  · exact mhR_tab
  · exact mh_tab
def knL : List Int := [-1, 1, 1, 1, 1, 1, 1, -1, -1, -1, -1, -1, -1, 1]
theorem known_ok : PCall Try.prog 8 [] (.bool true) := by
  have e0 : mhF (perF knL) = (50000, 0) := by decide +kernel
  have e1 : crV knL = .tup [.list 3 [[.int .i64 0, .int .i64 1, .int .i64 2], [.int .i64 12, .int .i64 1, .int .i64 2]], .int .i64 0] := by
    have h1 : okS knL = true := by decide +kernel
    have h2 : crs knL = [⟨0, 1, 2⟩, ⟨12, 1, 2⟩] := by
      have : (crs knL).map (fun p => (p.k, p.n, p.d)) = [(0, 1, 2), (12, 1, 2)] := by decide +kernel
      obtain ⟨L, hL⟩ : ∃ L, crs knL = L := ⟨_, rfl⟩
      rw [hL] at this ⊢
      match L, this with
      | [⟨a, b, c⟩, ⟨d, e, f⟩], h => simp at h; obtain ⟨⟨rfl, rfl, rfl⟩, rfl, rfl, rfl⟩ := h; rfl
    unfold crV; rw [if_pos h1, h2]; rfl
  unfold knL at e0 e1
  refine pcall_cx G5_ok mixed (fun _ => none) Try.func8 rfl Try.ntmps8 Try.results8 (by simp) (by kernel_rfl) ?_
  repeat' first
    | (refine gw_bool (fun _ => ?_) (fun _ => ?_))
    | (refine condw_bool (fun _ => ?_) (fun _ => ?_))
    | simp [*, decL, unI, vI]
end Go.Proofs.Ytacmchjaldljjaa
