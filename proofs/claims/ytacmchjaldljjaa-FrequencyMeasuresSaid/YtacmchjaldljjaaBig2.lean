/-
  Numbers by their digits: products.
-/
import Derived.Test.YtacmchjaldljjaaBig
namespace Go.Proofs.Ytacmchjaldljjaa
open Go.Pv Go.RowKit
set_option linter.unusedSimpArgs false
set_option linter.unusedVariables false
set_option maxRecDepth 100000
set_option maxHeartbeats 4000000

theorem w32 (x : Int) : IntKind.u32.wrap x = x % 4294967296 := by simp only [IntKind.wrap, IntKind.signed, IntKind.bits]; simp
theorem w32_id {x : Int} (h1 : 0 ≤ x) (h2 : x < 4294967296) : IntKind.u32.wrap x = x := by rw [w32]; omega
theorem w64_id {x : Int} (h1 : 0 ≤ x) (h2 : x < 18446744073709551616) : IntKind.u64.wrap x = x := by simp only [IntKind.wrap, IntKind.signed, IntKind.bits]; simp; omega
theorem fd32 {x : Int} : x.fdiv 4294967296 = x / 4294967296 := Int.fdiv_eq_ediv_of_nonneg _ (by omega)
theorem p32 : (2 : Int) ^ min 32 IntKind.u64.bits = 4294967296 := by decide
def Ttrim : List V → Option V
  | [.list 1 xs] => (match decL unU xs with
    | some a => bif decide (a.length ≤ 1000) then some (.list 1 ((trL a).map ul)) else none
    | none => none)
  | _ => none
theorem trim_tab : ∀ vs v, Ttrim vs = some v → PFresh Try.prog 37 vs v := by
  intro vs v h; unfold Ttrim at h; split at h
  · split at h
    · rename_i a h1
      rw [decL_inv unU_inv _ _ h1]
      simp only [cond_eq_ite, decide_eq_true_eq] at h
      split at h
      · rename_i hc; cases h; exact trim_ok _ hc
      · cases h
    · cases h
  · cases h
def B1 : Tab := addF 37 Ttrim (G6)
theorem B1_at (f : FuncId) (vs : List V) : B1.at' f vs = if f = 37 then Ttrim vs else G6.at' f vs := rfl
theorem B1_fr (f : FuncId) : B1.fr f = if f = 37 then true else G6.fr f := rfl
attribute [simp] B1_at B1_fr Ttrim
theorem B1_ok : TabOK Try.prog B1 := by
  refine addF_ok (G6_ok) (by kernel_rfl) ?_
  · exact trim_tab
def dgN (v : Int) : List Int := if v = 0 then [] else if v < 4294967296 then [v] else [v % 4294967296, v / 4294967296]
theorem trL_one {x : Int} : trL [x] = if x = 0 then [] else [x] := by
  by_cases h : x = 0
  · subst h; rfl
  · rw [if_neg h]; exact trL_keep (a := []) h
theorem trL_two {x y : Int} : trL [x, y] = if y = 0 then trL [x] else [x, y] := by
  by_cases h : y = 0
  · subst h; rw [if_pos rfl]; exact trL_zero (a := [x])
  · rw [if_neg h]; exact trL_keep (a := [x]) h
theorem trL_dg {v : Int} (h1 : 0 ≤ v) : trL [v % 4294967296, v / 4294967296] = dgN v := by
  rw [trL_two, trL_one]; unfold dgN
  by_cases h : v < 4294967296
  · have e1 : v / 4294967296 = 0 := by omega
    have e2 : v % 4294967296 = v := by omega
    rw [e1, e2, if_pos rfl]
    by_cases h0 : v = 0
    · rw [if_pos h0, if_pos h0]
    · rw [if_neg h0, if_neg h0, if_pos h]
  · rw [if_neg (by omega), if_neg (by omega), if_neg h]
theorem trL_id {v : Int} (h1 : 0 ≤ v) : trL (dgN v) = dgN v := by
  unfold dgN
  by_cases h0 : v = 0
  · rw [if_pos h0]; rfl
  · rw [if_neg h0]
    by_cases h : v < 4294967296
    · rw [if_pos h, trL_one, if_neg h0]
    · rw [if_neg h, trL_two, if_neg (by omega)]
theorem dgN_len (v : Int) : (dgN v).length ≤ 2 := by
  unfold dgN; split
  · simp
  · split <;> simp
theorem digits_ok (v : Int) (h1 : 0 ≤ v) (h2 : v < 9223372036854775808) : PCall Try.prog 36 [.int .u64 v] (.list 1 ((dgN v).map ul)) := by
  have hd := trL_dg h1
  have e1 : IntKind.u32.wrap v = v % 4294967296 := w32 v
  have e2 : v.fdiv 4294967296 = v / 4294967296 := fd32
  have e3 : IntKind.u32.wrap (v / 4294967296) = v / 4294967296 := w32_id (by omega) (by omega)
  obtain ⟨L, hL⟩ : ∃ L, v % 4294967296 = L := ⟨_, rfl⟩
  obtain ⟨H, hH⟩ : ∃ H, v / 4294967296 = H := ⟨_, rfl⟩
  rw [hL, hH] at hd
  rw [hL] at e1
  rw [hH] at e2 e3
  clear hL hH
  refine pcall_cx B1_ok mixed (fun _ => none) Try.func36 rfl Try.ntmps36 Try.results36 (by simp) (by kernel_rfl) ?_
  repeat' first
    | (refine gw_bool (fun _ => ?_) (fun _ => ?_))
    | (refine condw_bool (fun _ => ?_) (fun _ => ?_))
    | simp [*, decL, unU, p32]
def Tdig : List V → Option V
  | [.int .u64 v] => bif decide (0 ≤ v) && decide (v < 9223372036854775808) then some (.list 1 ((dgN v).map ul)) else none
  | _ => none
theorem dig_tab : ∀ vs v, Tdig vs = some v → PCall Try.prog 36 vs v := by
  intro vs v h; unfold Tdig at h; split at h
  · simp only [cond_eq_ite, Bool.and_eq_true, decide_eq_true_eq] at h
    split at h
    · rename_i hc; cases h; exact digits_ok _ hc.1 hc.2
    · cases h
  · cases h
theorem made_ok (a : List Int) (h : a.length ≤ 1000) : PCall Try.prog 34 [.bool false, .list 1 (a.map ul)] (.agg [.bool false, .list 1 ((trL a).map ul)]) := by
  have hd := dec_u a
  refine pcall_cx B1_ok mixed (fun _ => none) Try.func34 rfl Try.ntmps34 Try.results34 (by simp) (by kernel_rfl) ?_
  repeat' first
    | (refine gw_bool (fun _ => ?_) (fun _ => ?_))
    | (refine condw_bool (fun _ => ?_) (fun _ => ?_))
    | simp [*]
def Tmade : List V → Option V
  | [.bool false, .list 1 xs] => (match decL unU xs with
    | some a => bif decide (a.length ≤ 1000) then some (.agg [.bool false, .list 1 ((trL a).map ul)]) else none
    | none => none)
  | _ => none
theorem made_tab : ∀ vs v, Tmade vs = some v → PCall Try.prog 34 vs v := by
  intro vs v h; unfold Tmade at h; split at h
  · split at h
    · rename_i a h1
      rw [decL_inv unU_inv _ _ h1]
      simp only [cond_eq_ite, decide_eq_true_eq] at h
      split at h
      · rename_i hc; cases h; exact made_ok _ hc
      · cases h
    · cases h
  · cases h
def B2 : Tab := add 36 Tdig (add 34 Tmade (B1))
theorem B2_at (f : FuncId) (vs : List V) : B2.at' f vs = if f = 36 then Tdig vs else if f = 34 then Tmade vs else B1.at' f vs := rfl
theorem B2_fr (f : FuncId) : B2.fr f = if f = 36 then false else if f = 34 then false else B1.fr f := rfl
attribute [simp] B2_at B2_fr Tdig Tmade
theorem B2_ok : TabOK Try.prog B2 := by
  refine add_ok (add_ok (B1_ok) (by kernel_rfl) ?_) (by kernel_rfl) ?_
  · exact made_tab
  · exact dig_tab
def vN (v : Int) : V := .agg [.bool false, .list 1 ((dgN v).map ul)]
theorem of_ok (v : Int) (h1 : 0 ≤ v) (h2 : v < 9223372036854775808) : PCall Try.prog 30 [.int .i64 v] (vN v) := by
  have e1 : IntKind.u64.wrap v = v := w64_id (by omega) (by omega)
  have f1 : ilt v 0 = false := ilt_f h1
  have hd := dec_u (dgN v)
  have hl : (dgN v).length ≤ 1000 := by have := dgN_len v; omega
  have ht := trL_id h1
  obtain ⟨D, hD⟩ : ∃ D, dgN v = D := ⟨_, rfl⟩
  rw [hD] at hd hl ht
  unfold vN
  rw [hD]
  refine pcall_cx B2_ok mixed (fun _ => none) Try.func30 rfl Try.ntmps30 Try.results30 (by simp) (by kernel_rfl) ?_
  repeat' first
    | (refine gw_bool (fun _ => ?_) (fun _ => ?_))
    | (refine condw_bool (fun _ => ?_) (fun _ => ?_))
    | simp [*]
def Tof : List V → Option V
  | [.int .i64 v] => bif decide (0 ≤ v) && decide (v < 9223372036854775808) then some (vN v) else none
  | _ => none
theorem of_tab : ∀ vs v, Tof vs = some v → PCall Try.prog 30 vs v := by
  intro vs v h; unfold Tof at h; split at h
  · simp only [cond_eq_ite, Bool.and_eq_true, decide_eq_true_eq] at h
    split at h
    · rename_i hc; cases h; exact of_ok _ hc.1 hc.2
    · cases h
  · cases h
theorem dg_cases (v : Int) (h : 0 ≤ v) : (v = 0 ∧ dgN v = []) ∨ (0 < v ∧ v < 4294967296 ∧ dgN v = [v]) ∨ (4294967296 ≤ v ∧ dgN v = [v % 4294967296, v / 4294967296]) := by
  unfold dgN
  by_cases h0 : v = 0
  · exact .inl ⟨h0, if_pos h0⟩
  · rw [if_neg h0]
    by_cases h1 : v < 4294967296
    · exact .inr (.inl ⟨by omega, h1, if_pos h1⟩)
    · exact .inr (.inr ⟨by omega, if_neg h1⟩)
theorem validN_ok (v : Int) (h : 0 ≤ v) : PCall Try.prog 31 [vN v] (.bool true) := by
  unfold vN
  rcases dg_cases v h with ⟨_, hd⟩ | ⟨h1, _, hd⟩ | ⟨h1, hd⟩
  · rw [hd]
    refine pcall_cx B2_ok mixed (fun _ => none) Try.func31 rfl Try.ntmps31 Try.results31 (by simp) (by kernel_rfl) ?_
    repeat' first
      | (refine gw_bool (fun _ => ?_) (fun _ => ?_))
      | (refine condw_bool (fun _ => ?_) (fun _ => ?_))
      | simp [*]
  · rw [hd]
    have f1 : ieq v 0 = false := ieq_f (by omega)
    refine pcall_cx B2_ok mixed (fun _ => none) Try.func31 rfl Try.ntmps31 Try.results31 (by simp) (by kernel_rfl) ?_
    repeat' first
      | (refine gw_bool (fun _ => ?_) (fun _ => ?_))
      | (refine condw_bool (fun _ => ?_) (fun _ => ?_))
      | simp [*, ul]
  · rw [hd]
    have f1 : ieq (v / 4294967296) 0 = false := ieq_f (by omega)
    generalize v / 4294967296 = H at *
    generalize v % 4294967296 = L at *
    refine pcall_cx B2_ok mixed (fun _ => none) Try.func31 rfl Try.ntmps31 Try.results31 (by simp) (by kernel_rfl) ?_
    repeat' first
      | (refine gw_bool (fun _ => ?_) (fun _ => ?_))
      | (refine condw_bool (fun _ => ?_) (fun _ => ?_))
      | simp [*, ul]
theorem resultN_ok (v : Int) (h : 0 ≤ v) : PCall Try.prog 33 [vN v] (.tup [vN v, .int .i64 0]) := by
  unfold vN
  have hl := dgN_len v
  obtain ⟨D, hD⟩ : ∃ D, dgN v = D := ⟨_, rfl⟩
  rw [hD] at hl ⊢
  have f1 : ilt 400 ((D.length : Nat) : Int) = false := ilt_f (by omega)
  refine pcall_cx B2_ok mixed (fun _ => none) Try.func33 rfl Try.ntmps33 Try.results33 (by simp) (by kernel_rfl) ?_
  repeat' first
    | (refine gw_bool (fun _ => ?_) (fun _ => ?_))
    | (refine condw_bool (fun _ => ?_) (fun _ => ?_))
    | simp [*]
theorem times_ok (a b : Int) (ha : 0 ≤ a) (ha2 : a < 4294967296) (hb : 0 < b) (hb2 : b < 9223372036854775808) (hab : a * b < 9223372036854775808) : PCall Try.prog 35 [.list 1 ((dgN a).map ul), .list 1 ((dgN b).map ul)] (.list 1 ((dgN (a * b)).map ul)) := by
  have hab0 : 0 ≤ a * b := Int.mul_nonneg ha (Int.le_of_lt hb)
  rcases dg_cases a ha with ⟨h0, hda⟩ | ⟨h0, _, hda⟩ | ⟨h0, _⟩
  · subst h0
    have hz : dgN (0 * b) = [] := by rw [Int.zero_mul]; rfl
    rw [hda, hz]
    rcases dg_cases b (by omega) with ⟨h1, _⟩ | ⟨h1, h2, hdb⟩ | ⟨h1, hdb⟩
    · omega
    · rw [hdb]
      have hq : trL [0] = [] := rfl
      refine pcall_cx B2_ok mixed (fun _ => none) Try.func35 rfl Try.ntmps35 Try.results35 (by simp) (by kernel_rfl) ?_
      repeat' first
        | (refine gw_bool (fun _ => ?_) (fun _ => ?_))
        | (refine condw_bool (fun _ => ?_) (fun _ => ?_))
        | (refine lp_unroll (D := (fun _ => none)) B2_ok mixed (by kernel_rfl) ?_)
        | simp [*, ul, decL, unU]
    · rw [hdb]
      have hq : trL [0, 0] = [] := rfl
      refine pcall_cx B2_ok mixed (fun _ => none) Try.func35 rfl Try.ntmps35 Try.results35 (by simp) (by kernel_rfl) ?_
      repeat' first
        | (refine gw_bool (fun _ => ?_) (fun _ => ?_))
        | (refine condw_bool (fun _ => ?_) (fun _ => ?_))
        | (refine lp_unroll (D := (fun _ => none)) B2_ok mixed (by kernel_rfl) ?_)
        | simp [*, ul, decL, unU]
  · rw [hda]
    rcases dg_cases b (by omega) with ⟨h1, _⟩ | ⟨h1, h2, hdb⟩ | ⟨h1, hdb⟩
    · omega
    · rw [hdb]
      obtain ⟨T, hT⟩ : ∃ T, a * b = T := ⟨_, rfl⟩
      rw [hT] at hab hab0 ⊢
      have w1 : IntKind.u64.wrap a = a := w64_id (by omega) (by omega)
      have w2 : IntKind.u64.wrap b = b := w64_id (by omega) (by omega)
      have w3 : IntKind.u64.wrap T = T := w64_id (by omega) (by omega)
      have w0 : IntKind.u64.wrap 0 = 0 := by decide
      have e1 : IntKind.u32.wrap T = T % 4294967296 := w32 T
      have e2 : T.fdiv 4294967296 = T / 4294967296 := fd32
      have e3 : IntKind.u32.wrap (T / 4294967296) = T / 4294967296 := w32_id (by omega) (by omega)
      have hd := trL_dg hab0
      obtain ⟨L, hL⟩ : ∃ L, T % 4294967296 = L := ⟨_, rfl⟩
      obtain ⟨H, hH⟩ : ∃ H, T / 4294967296 = H := ⟨_, rfl⟩
      rw [hL, hH] at hd
      rw [hL] at e1
      rw [hH] at e2 e3
      clear hL hH
      refine pcall_cx B2_ok mixed (fun _ => none) Try.func35 rfl Try.ntmps35 Try.results35 (by simp) (by kernel_rfl) ?_
      repeat' first
        | (refine gw_bool (fun _ => ?_) (fun _ => ?_))
        | (refine condw_bool (fun _ => ?_) (fun _ => ?_))
        | (refine lp_unroll (D := (fun _ => none)) B2_ok mixed (by kernel_rfl) ?_)
        | simp [*, ul, decL, unU, p32]
    · rw [hdb]
      obtain ⟨b0, hb0⟩ : ∃ x, b % 4294967296 = x := ⟨_, rfl⟩
      obtain ⟨b1, hb1⟩ : ∃ x, b / 4294967296 = x := ⟨_, rfl⟩
      rw [hb0, hb1]
      have hbb : b = b0 + 4294967296 * b1 := by omega
      obtain ⟨U, hU⟩ : ∃ U, a * b0 = U := ⟨_, rfl⟩
      obtain ⟨Y, hY⟩ : ∃ U, a * b1 = U := ⟨_, rfl⟩
      have hT : a * b = U + 4294967296 * Y := by rw [hbb, ← hU, ← hY]; grind
      have hU0 : 0 ≤ U := by rw [← hU]; exact Int.mul_nonneg ha (by omega)
      have hY0 : 0 ≤ Y := by rw [← hY]; exact Int.mul_nonneg ha (by omega)
      rw [hT] at hab hab0 ⊢
      have hd := trL_dg hab0
      have k1 : (U + 4294967296 * Y) % 4294967296 = U % 4294967296 := by omega
      have k2 : (U + 4294967296 * Y) / 4294967296 = Y + U / 4294967296 := by omega
      rw [k1, k2] at hd
      have w1 : IntKind.u64.wrap a = a := w64_id (by omega) (by omega)
      have w2 : IntKind.u64.wrap b0 = b0 := w64_id (by omega) (by omega)
      have w3 : IntKind.u64.wrap b1 = b1 := w64_id (by omega) (by omega)
      have w4 : IntKind.u64.wrap U = U := w64_id (by omega) (by omega)
      have w5 : IntKind.u64.wrap Y = Y := w64_id (by omega) (by omega)
      have w0 : IntKind.u64.wrap 0 = 0 := by decide
      have e1 : IntKind.u32.wrap U = U % 4294967296 := w32 U
      have e2 : U.fdiv 4294967296 = U / 4294967296 := fd32
      obtain ⟨C, hC⟩ : ∃ C, U / 4294967296 = C := ⟨_, rfl⟩
      obtain ⟨L, hL⟩ : ∃ C, U % 4294967296 = C := ⟨_, rfl⟩
      rw [hC, hL] at hd
      rw [hC] at e2
      rw [hL] at e1
      have w6 : IntKind.u64.wrap (Y + C) = Y + C := w64_id (by omega) (by omega)
      have e3 : IntKind.u32.wrap (Y + C) = Y + C := w32_id (by omega) (by omega)
      have e4 : (Y + C).fdiv 4294967296 = 0 := by rw [fd32]; omega
      have e5 : IntKind.u32.wrap 0 = 0 := by decide
      have hd3 : trL [L, Y + C, 0] = dgN (U + 4294967296 * Y) := by rw [← hd]; exact trL_zero (a := [L, Y + C])
      clear hd hT hbb k1 k2 hC hL hab hab0 hb0 hb1
      refine pcall_cx B2_ok mixed (fun _ => none) Try.func35 rfl Try.ntmps35 Try.results35 (by simp) (by kernel_rfl) ?_
      repeat' first
        | (refine gw_bool (fun _ => ?_) (fun _ => ?_))
        | (refine condw_bool (fun _ => ?_) (fun _ => ?_))
        | (refine lp_unroll (D := (fun _ => none)) B2_ok mixed (by kernel_rfl) ?_)
        | simp [*, ul, decL, unU, p32]
  · omega
end Go.Proofs.Ytacmchjaldljjaa
