/-
  Numbers by their digits: Mul, Compare; the document's Within.
-/
import Derived.Test.YtacmchjaldljjaaBig2
namespace Go.Proofs.Ytacmchjaldljjaa
open Go.Pv Go.RowKit
set_option linter.unusedSimpArgs false
set_option linter.unusedVariables false
set_option maxRecDepth 100000
set_option maxHeartbeats 4000000

def undg : List Int → Option Int
  | [] => some 0
  | [x] => bif decide (0 < x) && decide (x < 4294967296) then some x else none
  | [x, y] => bif decide (0 ≤ x) && (decide (x < 4294967296) && (decide (0 < y) && decide (y < 2147483648))) then some (x + 4294967296 * y) else none
  | _ => none
theorem undg_inv {D : List Int} {v : Int} (h : undg D = some v) : D = dgN v ∧ 0 ≤ v ∧ v < 9223372036854775808 := by
  unfold undg at h
  split at h
  · cases h; exact ⟨rfl, by omega, by omega⟩
  · simp only [cond_eq_ite, Bool.and_eq_true, decide_eq_true_eq] at h
    split at h
    · cases h
      rename_i x hc
      refine ⟨?_, by omega, by omega⟩
      unfold dgN; rw [if_neg (by omega), if_pos hc.2]
    · cases h
  · simp only [cond_eq_ite, Bool.and_eq_true, decide_eq_true_eq] at h
    split at h
    · cases h
      rename_i x y hc
      refine ⟨?_, by omega, by omega⟩
      unfold dgN; rw [if_neg (by omega), if_neg (by omega)]
      congr 1
      · omega
      · congr 1; omega
    · cases h
  · cases h
theorem undg_dg {v : Int} (h1 : 0 ≤ v) (h2 : v < 9223372036854775808) : undg (dgN v) = some v := by
  rcases dg_cases v h1 with ⟨h, hd⟩ | ⟨h, h', hd⟩ | ⟨h, hd⟩
  · rw [hd, h]; rfl
  · rw [hd]; simp [undg, h, h']
  · rw [hd]
    have e1 : 0 ≤ v % 4294967296 := by omega
    have e2 : v % 4294967296 < 4294967296 := by omega
    have e3 : 0 < v / 4294967296 := by omega
    have e4 : v / 4294967296 < 2147483648 := by omega
    simp [undg, e1, e2, e3, e4]
    omega
def unN (v : V) : Option Int := match v with
  | .agg [.bool false, .list 1 xs] => (match decL unU xs with
    | some D => undg D
    | none => none)
  | _ => none
theorem unN_inv {u : V} {v : Int} (h : unN u = some v) : u = vN v ∧ 0 ≤ v ∧ v < 9223372036854775808 := by
  unfold unN at h
  split at h
  · split at h
    · rename_i xs D h1
      obtain ⟨e1, e2⟩ := undg_inv h
      rw [decL_inv unU_inv _ _ h1, e1]; exact ⟨rfl, e2⟩
    · cases h
  · cases h
theorem unN_vN {v : Int} (h1 : 0 ≤ v) (h2 : v < 9223372036854775808) : unN (vN v) = some v := by
  simp only [unN, vN, dec_u, undg_dg h1 h2]
def Tvn : List V → Option V
  | [u] => (match unN u with
    | some _ => some (.bool true)
    | none => none)
  | _ => none
theorem vn_tab : ∀ vs v, Tvn vs = some v → PCall Try.prog 31 vs v := by
  intro vs v h; unfold Tvn at h; split at h
  · split at h
    · rename_i h1
      obtain ⟨rfl, h2, _⟩ := unN_inv h1
      cases h; exact validN_ok _ h2
    · cases h
  · cases h
def Trn : List V → Option V
  | [u] => (match unN u with
    | some v => some (.tup [vN v, .int .i64 0])
    | none => none)
  | _ => none
theorem rn_tab : ∀ vs v, Trn vs = some v → PCall Try.prog 33 vs v := by
  intro vs v h; unfold Trn at h; split at h
  · split at h
    · rename_i h1
      obtain ⟨rfl, h2, _⟩ := unN_inv h1
      cases h; exact resultN_ok _ h2
    · cases h
  · cases h
def Ttimes : List V → Option V
  | [.list 1 xs, .list 1 ys] => (match decL unU xs, decL unU ys with
    | some D, some E => (match undg D, undg E with
      | some a, some b => bif decide (a < 4294967296) && (decide (0 < b) && decide (a * b < 9223372036854775808)) then some (.list 1 ((dgN (a * b)).map ul)) else none
      | _, _ => none)
    | _, _ => none)
  | _ => none
theorem times_tab : ∀ vs v, Ttimes vs = some v → PCall Try.prog 35 vs v := by
  intro vs v h; unfold Ttimes at h; split at h
  · split at h
    · rename_i D E h1 h2
      split at h
      · rename_i a b h3 h4
        obtain ⟨rfl, a1, a2⟩ := undg_inv h3
        obtain ⟨rfl, b1, b2⟩ := undg_inv h4
        rw [decL_inv unU_inv _ _ h1, decL_inv unU_inv _ _ h2]
        simp only [cond_eq_ite, Bool.and_eq_true, decide_eq_true_eq] at h
        split at h
        · rename_i hc; cases h; exact times_ok _ _ a1 hc.1 hc.2.1 b2 hc.2.2
        · cases h
      · cases h
    · cases h
  · cases h
def B3 : Tab := add 30 Tof (add 31 Tvn (add 33 Trn (add 35 Ttimes (B2))))
theorem B3_at (f : FuncId) (vs : List V) : B3.at' f vs = if f = 30 then Tof vs else if f = 31 then Tvn vs else if f = 33 then Trn vs else if f = 35 then Ttimes vs else B2.at' f vs := rfl
theorem B3_fr (f : FuncId) : B3.fr f = if f = 30 then false else if f = 31 then false else if f = 33 then false else if f = 35 then false else B2.fr f := rfl
attribute [simp] B3_at B3_fr Tof Trn Ttimes Tvn
theorem B3_ok : TabOK Try.prog B3 := by
  refine add_ok (add_ok (add_ok (add_ok (B2_ok) (by kernel_rfl) ?_) (by kernel_rfl) ?_) (by kernel_rfl) ?_) (by kernel_rfl) ?_
  · exact times_tab
  · exact rn_tab
  · exact vn_tab
  · exact of_tab
theorem mul_ok (a b : Int) (ha : 0 ≤ a) (ha2 : a < 4294967296) (hb : 0 < b) (hb2 : b < 9223372036854775808) (hab : a * b < 9223372036854775808) : PCall Try.prog 29 [vN a, vN b] (.tup [vN (a * b), .int .i64 0]) := by
  have hab0 : 0 ≤ a * b := Int.mul_nonneg ha (Int.le_of_lt hb)
  have u1 := undg_dg ha (by omega)
  have u2 := undg_dg (Int.le_of_lt hb) hb2
  have u3 := undg_dg hab0 hab
  have d1 := dec_u (dgN a)
  have d2 := dec_u (dgN b)
  have d3 := dec_u (dgN (a * b))
  have t3 := trL_id hab0
  have l3 : (dgN (a * b)).length ≤ 1000 := by have := dgN_len (a * b); omega
  unfold vN
  obtain ⟨T, hT⟩ : ∃ T, a * b = T := ⟨_, rfl⟩
  rw [hT] at hab u3 d3 t3 l3 ⊢
  obtain ⟨DA, hDA⟩ : ∃ T, dgN a = T := ⟨_, rfl⟩
  obtain ⟨DB, hDB⟩ : ∃ T, dgN b = T := ⟨_, rfl⟩
  obtain ⟨DT, hDT⟩ : ∃ T', dgN T = T' := ⟨_, rfl⟩
  rw [hDA] at u1 d1 ⊢
  rw [hDB] at u2 d2 ⊢
  rw [hDT] at u3 d3 t3 l3 ⊢
  clear hab0 ha hDA hDB
  refine pcall_cx B3_ok mixed (fun _ => none) Try.func29 rfl Try.ntmps29 Try.results29 (by simp) (by kernel_rfl) ?_
  repeat' first
    | (refine gw_bool (fun _ => ?_) (fun _ => ?_))
    | (refine condw_bool (fun _ => ?_) (fun _ => ?_))
    | simp [*, unN, vN]
def Tmul : List V → Option V
  | [u, w] => (match unN u, unN w with
    | some a, some b => bif decide (a < 4294967296) && (decide (0 < b) && decide (a * b < 9223372036854775808)) then some (.tup [vN (a * b), .int .i64 0]) else none
    | _, _ => none)
  | _ => none
theorem mul_tab : ∀ vs v, Tmul vs = some v → PCall Try.prog 29 vs v := by
  intro vs v h; unfold Tmul at h; split at h
  · split at h
    · rename_i a b h1 h2
      obtain ⟨rfl, a1, a2⟩ := unN_inv h1
      obtain ⟨rfl, b1, b2⟩ := unN_inv h2
      simp only [cond_eq_ite, Bool.and_eq_true, decide_eq_true_eq] at h
      split at h
      · rename_i hc; cases h; exact mul_ok _ _ a1 hc.1 hc.2.1 b2 hc.2.2
      · cases h
    · cases h
  · cases h
def B4 : Tab := add 29 Tmul (B3)
theorem B4_at (f : FuncId) (vs : List V) : B4.at' f vs = if f = 29 then Tmul vs else B3.at' f vs := rfl
theorem B4_fr (f : FuncId) : B4.fr f = if f = 29 then false else B3.fr f := rfl
attribute [simp] B4_at B4_fr Tmul
theorem B4_ok : TabOK Try.prog B4 := by
  refine add_ok (B3_ok) (by kernel_rfl) ?_
  · exact mul_tab
theorem product_ok (a b : Int) (ha : 0 ≤ a) (ha2 : a < 4294967296) (hb : 0 < b) (hb2 : b < 9223372036854775808) (hab : a * b < 9223372036854775808) : PCall Try.prog 25 [.int .i64 a, .int .i64 b] (vN (a * b)) := by
  have hab0 : 0 ≤ a * b := Int.mul_nonneg ha (Int.le_of_lt hb)
  have u1 := unN_vN ha (by omega)
  have u2 := unN_vN (Int.le_of_lt hb) hb2
  have hb0 : 0 ≤ b := by omega
  have ha3 : a < 9223372036854775808 := by omega
  have e1 : vN a = .agg [.bool false, .list 1 ((dgN a).map ul)] := rfl
  have e2 : vN b = .agg [.bool false, .list 1 ((dgN b).map ul)] := rfl
  have e3 : vN (a * b) = .agg [.bool false, .list 1 ((dgN (a * b)).map ul)] := rfl
  rw [e1] at u1
  rw [e2] at u2
  obtain ⟨DA, hDA⟩ : ∃ T, (dgN a).map ul = T := ⟨_, rfl⟩
  obtain ⟨DB, hDB⟩ : ∃ T, (dgN b).map ul = T := ⟨_, rfl⟩
  obtain ⟨DT, hDT⟩ : ∃ T', (dgN (a * b)).map ul = T' := ⟨_, rfl⟩
  rw [hDA] at u1 e1
  rw [hDB] at u2 e2
  rw [hDT] at e3
  refine pcall_cx B4_ok mixed (fun _ => none) Try.func25 rfl Try.ntmps25 Try.results25 (by simp) (by kernel_rfl) ?_
  repeat' first
    | (refine gw_bool (fun _ => ?_) (fun _ => ?_))
    | (refine condw_bool (fun _ => ?_) (fun _ => ?_))
    | simp [*]
def Tprod : List V → Option V
  | [.int .i64 a, .int .i64 b] => bif decide (0 ≤ a) && (decide (a < 4294967296) && (decide (0 < b) && (decide (b < 9223372036854775808) && decide (a * b < 9223372036854775808)))) then some (vN (a * b)) else none
  | _ => none
theorem prod_tab : ∀ vs v, Tprod vs = some v → PCall Try.prog 25 vs v := by
  intro vs v h; unfold Tprod at h; split at h
  · simp only [cond_eq_ite, Bool.and_eq_true, decide_eq_true_eq] at h
    split at h
    · rename_i hc; cases h; exact product_ok _ _ hc.1 hc.2.1 hc.2.2.1 hc.2.2.2.1 hc.2.2.2.2
    · cases h
  · cases h
end Go.Proofs.Ytacmchjaldljjaa
