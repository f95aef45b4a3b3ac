/-
  Numbers by their digits: Compare; the document's Within; the law Measures.
-/
import Derived.Test.YtacmchjaldljjaaBig3
namespace Go.Proofs.Ytacmchjaldljjaa
open Go.Pv Go.RowKit
set_option linter.unusedSimpArgs false
set_option linter.unusedVariables false
set_option maxRecDepth 100000
set_option maxHeartbeats 4000000

def cmpI (u v : Int) : Int := if u < v then -1 else if v < u then 1 else 0
theorem cmp_lt {u v : Int} (h : u < v) : cmpI u v = -1 := if_pos h
theorem cmp_gt {u v : Int} (h : v < u) : cmpI u v = 1 := by unfold cmpI; rw [if_neg (by omega), if_pos h]
theorem cmp_eq {u v : Int} (h : u = v) : cmpI u v = 0 := by unfold cmpI; rw [if_neg (by omega), if_neg (by omega)]
theorem compare_ok (u v : Int) (h1 : 0 ≤ u) (h2 : 0 ≤ v) : PCall Try.prog 32 [.list 1 ((dgN u).map ul), .list 1 ((dgN v).map ul)] (.int .i64 (cmpI u v)) := by
  rcases dg_cases u h1 with ⟨a1, hu⟩ | ⟨a1, a2, hu⟩ | ⟨a1, hu⟩
  · rcases dg_cases v h2 with ⟨b1, hv⟩ | ⟨b1, b2, hv⟩ | ⟨b1, hv⟩
    · rw [hu, hv, cmp_eq (by omega)]
      refine pcall_cx B4_ok mixed (fun _ => none) Try.func32 rfl Try.ntmps32 Try.results32 (by simp) (by kernel_rfl) ?_
      repeat' first
        | (refine gw_bool (fun _ => ?_) (fun _ => ?_))
        | (refine condw_bool (fun _ => ?_) (fun _ => ?_))
        | (refine lp_unroll (D := (fun _ => none)) B4_ok mixed (by kernel_rfl) ?_)
        | simp [*, ul]
    · rw [hu, hv, cmp_lt (by omega)]
      refine pcall_cx B4_ok mixed (fun _ => none) Try.func32 rfl Try.ntmps32 Try.results32 (by simp) (by kernel_rfl) ?_
      repeat' first
        | (refine gw_bool (fun _ => ?_) (fun _ => ?_))
        | (refine condw_bool (fun _ => ?_) (fun _ => ?_))
        | (refine lp_unroll (D := (fun _ => none)) B4_ok mixed (by kernel_rfl) ?_)
        | simp [*, ul]
    · rw [hu, hv, cmp_lt (by omega)]
      refine pcall_cx B4_ok mixed (fun _ => none) Try.func32 rfl Try.ntmps32 Try.results32 (by simp) (by kernel_rfl) ?_
      repeat' first
        | (refine gw_bool (fun _ => ?_) (fun _ => ?_))
        | (refine condw_bool (fun _ => ?_) (fun _ => ?_))
        | (refine lp_unroll (D := (fun _ => none)) B4_ok mixed (by kernel_rfl) ?_)
        | simp [*, ul]
  · rcases dg_cases v h2 with ⟨b1, hv⟩ | ⟨b1, b2, hv⟩ | ⟨b1, hv⟩
    · rw [hu, hv, cmp_gt (by omega)]
      refine pcall_cx B4_ok mixed (fun _ => none) Try.func32 rfl Try.ntmps32 Try.results32 (by simp) (by kernel_rfl) ?_
      repeat' first
        | (refine gw_bool (fun _ => ?_) (fun _ => ?_))
        | (refine condw_bool (fun _ => ?_) (fun _ => ?_))
        | (refine lp_unroll (D := (fun _ => none)) B4_ok mixed (by kernel_rfl) ?_)
        | simp [*, ul]
    · rw [hu, hv]
      cases c1 : ilt u v
      · cases c2 : ilt v u
        · rw [cmp_eq (by have := ilt_iff'.1 c1; have := ilt_iff'.1 c2; omega)]
          refine pcall_cx B4_ok mixed (fun _ => none) Try.func32 rfl Try.ntmps32 Try.results32 (by simp) (by kernel_rfl) ?_
          repeat' first
            | (refine gw_bool (fun _ => ?_) (fun _ => ?_))
            | (refine condw_bool (fun _ => ?_) (fun _ => ?_))
            | (refine lp_unroll (D := (fun _ => none)) B4_ok mixed (by kernel_rfl) ?_)
            | simp [*, ul]
        · rw [cmp_gt (ilt_iff.1 c2)]
          refine pcall_cx B4_ok mixed (fun _ => none) Try.func32 rfl Try.ntmps32 Try.results32 (by simp) (by kernel_rfl) ?_
          repeat' first
            | (refine gw_bool (fun _ => ?_) (fun _ => ?_))
            | (refine condw_bool (fun _ => ?_) (fun _ => ?_))
            | (refine lp_unroll (D := (fun _ => none)) B4_ok mixed (by kernel_rfl) ?_)
            | simp [*, ul]
      · rw [cmp_lt (ilt_iff.1 c1)]
        refine pcall_cx B4_ok mixed (fun _ => none) Try.func32 rfl Try.ntmps32 Try.results32 (by simp) (by kernel_rfl) ?_
        repeat' first
          | (refine gw_bool (fun _ => ?_) (fun _ => ?_))
          | (refine condw_bool (fun _ => ?_) (fun _ => ?_))
          | (refine lp_unroll (D := (fun _ => none)) B4_ok mixed (by kernel_rfl) ?_)
          | simp [*, ul]
    · rw [hu, hv, cmp_lt (by omega)]
      refine pcall_cx B4_ok mixed (fun _ => none) Try.func32 rfl Try.ntmps32 Try.results32 (by simp) (by kernel_rfl) ?_
      repeat' first
        | (refine gw_bool (fun _ => ?_) (fun _ => ?_))
        | (refine condw_bool (fun _ => ?_) (fun _ => ?_))
        | (refine lp_unroll (D := (fun _ => none)) B4_ok mixed (by kernel_rfl) ?_)
        | simp [*, ul]
  · rcases dg_cases v h2 with ⟨b1, hv⟩ | ⟨b1, b2, hv⟩ | ⟨b1, hv⟩
    · rw [hu, hv, cmp_gt (by omega)]
      refine pcall_cx B4_ok mixed (fun _ => none) Try.func32 rfl Try.ntmps32 Try.results32 (by simp) (by kernel_rfl) ?_
      repeat' first
        | (refine gw_bool (fun _ => ?_) (fun _ => ?_))
        | (refine condw_bool (fun _ => ?_) (fun _ => ?_))
        | (refine lp_unroll (D := (fun _ => none)) B4_ok mixed (by kernel_rfl) ?_)
        | simp [*, ul]
    · rw [hu, hv, cmp_gt (by omega)]
      refine pcall_cx B4_ok mixed (fun _ => none) Try.func32 rfl Try.ntmps32 Try.results32 (by simp) (by kernel_rfl) ?_
      repeat' first
        | (refine gw_bool (fun _ => ?_) (fun _ => ?_))
        | (refine condw_bool (fun _ => ?_) (fun _ => ?_))
        | (refine lp_unroll (D := (fun _ => none)) B4_ok mixed (by kernel_rfl) ?_)
        | simp [*, ul]
    · rw [hu, hv]
      obtain ⟨ul0, e1⟩ : ∃ x, u % 4294967296 = x := ⟨_, rfl⟩
      obtain ⟨uh, e2⟩ : ∃ x, u / 4294967296 = x := ⟨_, rfl⟩
      obtain ⟨vl, e3⟩ : ∃ x, v % 4294967296 = x := ⟨_, rfl⟩
      obtain ⟨vh, e4⟩ : ∃ x, v / 4294967296 = x := ⟨_, rfl⟩
      rw [e1, e2, e3, e4]
      have eu : u = ul0 + 4294967296 * uh := by omega
      have ev : v = vl + 4294967296 * vh := by omega
      have l1 : 0 ≤ ul0 ∧ ul0 < 4294967296 := by omega
      have l2 : 0 ≤ vl ∧ vl < 4294967296 := by omega
      clear e1 e2 e3 e4 hu hv
      cases c1 : ilt uh vh
      · cases c2 : ilt vh uh
        · have k1 := ilt_iff'.1 c1
          have k2 := ilt_iff'.1 c2
          cases c3 : ilt ul0 vl
          · cases c4 : ilt vl ul0
            · have k3 := ilt_iff'.1 c3
              have k4 := ilt_iff'.1 c4
              rw [cmp_eq (by omega)]
              clear k1 k2 k3 k4 eu ev l1 l2 a1 b1 h1 h2
              refine pcall_cx B4_ok mixed (fun _ => none) Try.func32 rfl Try.ntmps32 Try.results32 (by simp) (by kernel_rfl) ?_
              repeat' first
                | (refine gw_bool (fun _ => ?_) (fun _ => ?_))
                | (refine condw_bool (fun _ => ?_) (fun _ => ?_))
                | (refine lp_unroll (D := (fun _ => none)) B4_ok mixed (by kernel_rfl) ?_)
                | simp [*, ul]
            · have k4 := ilt_iff.1 c4
              rw [cmp_gt (by omega)]
              clear k1 k2 k4 eu ev l1 l2 a1 b1 h1 h2
              refine pcall_cx B4_ok mixed (fun _ => none) Try.func32 rfl Try.ntmps32 Try.results32 (by simp) (by kernel_rfl) ?_
              repeat' first
                | (refine gw_bool (fun _ => ?_) (fun _ => ?_))
                | (refine condw_bool (fun _ => ?_) (fun _ => ?_))
                | (refine lp_unroll (D := (fun _ => none)) B4_ok mixed (by kernel_rfl) ?_)
                | simp [*, ul]
          · have k3 := ilt_iff.1 c3
            rw [cmp_lt (by omega)]
            clear k1 k2 k3 eu ev l1 l2 a1 b1 h1 h2
            refine pcall_cx B4_ok mixed (fun _ => none) Try.func32 rfl Try.ntmps32 Try.results32 (by simp) (by kernel_rfl) ?_
            repeat' first
              | (refine gw_bool (fun _ => ?_) (fun _ => ?_))
              | (refine condw_bool (fun _ => ?_) (fun _ => ?_))
              | (refine lp_unroll (D := (fun _ => none)) B4_ok mixed (by kernel_rfl) ?_)
              | simp [*, ul]
        · have k2 := ilt_iff.1 c2
          rw [cmp_gt (by omega)]
          clear k2 eu ev l1 l2 a1 b1 h1 h2
          refine pcall_cx B4_ok mixed (fun _ => none) Try.func32 rfl Try.ntmps32 Try.results32 (by simp) (by kernel_rfl) ?_
          repeat' first
            | (refine gw_bool (fun _ => ?_) (fun _ => ?_))
            | (refine condw_bool (fun _ => ?_) (fun _ => ?_))
            | (refine lp_unroll (D := (fun _ => none)) B4_ok mixed (by kernel_rfl) ?_)
            | simp [*, ul]
      · have k1 := ilt_iff.1 c1
        rw [cmp_lt (by omega)]
        clear k1 eu ev l1 l2 a1 b1 h1 h2
        refine pcall_cx B4_ok mixed (fun _ => none) Try.func32 rfl Try.ntmps32 Try.results32 (by simp) (by kernel_rfl) ?_
        repeat' first
          | (refine gw_bool (fun _ => ?_) (fun _ => ?_))
          | (refine condw_bool (fun _ => ?_) (fun _ => ?_))
          | (refine lp_unroll (D := (fun _ => none)) B4_ok mixed (by kernel_rfl) ?_)
          | simp [*, ul]
def Tcmp : List V → Option V
  | [.list 1 xs, .list 1 ys] => (match decL unU xs, decL unU ys with
    | some D, some E => (match undg D, undg E with
      | some a, some b => some (.int .i64 (cmpI a b))
      | _, _ => none)
    | _, _ => none)
  | _ => none
theorem cmp_tab : ∀ vs v, Tcmp vs = some v → PCall Try.prog 32 vs v := by
  intro vs v h; unfold Tcmp at h; split at h
  · split at h
    · rename_i D E h1 h2
      split at h
      · rename_i a b h3 h4
        obtain ⟨rfl, a1, a2⟩ := undg_inv h3
        obtain ⟨rfl, b1, b2⟩ := undg_inv h4
        rw [decL_inv unU_inv _ _ h1, decL_inv unU_inv _ _ h2]
        cases h; exact compare_ok _ _ a1 b1
      · cases h
    · cases h
  · cases h
def B5 : Tab := add 32 Tcmp (add 25 Tprod (B4))
theorem B5_at (f : FuncId) (vs : List V) : B5.at' f vs = if f = 32 then Tcmp vs else if f = 25 then Tprod vs else B4.at' f vs := rfl
theorem B5_fr (f : FuncId) : B5.fr f = if f = 32 then false else if f = 25 then false else B4.fr f := rfl
attribute [simp] B5_at B5_fr Tcmp Tprod
theorem B5_ok : TabOK Try.prog B5 := by
  refine add_ok (add_ok (B4_ok) (by kernel_rfl) ?_) (by kernel_rfl) ?_
  · exact prod_tab
  · exact cmp_tab
theorem Compare_ok (u v : Int) (h1 : 0 ≤ u) (h2 : u < 9223372036854775808) (h3 : 0 ≤ v) (h4 : v < 9223372036854775808) : PCall Try.prog 26 [vN u, vN v] (.int .i64 (cmpI u v)) := by
  have u1 := undg_dg h1 h2
  have u2 := undg_dg h3 h4
  have d1 := dec_u (dgN u)
  have d2 := dec_u (dgN v)
  unfold vN
  obtain ⟨DA, hDA⟩ : ∃ T, dgN u = T := ⟨_, rfl⟩
  obtain ⟨DB, hDB⟩ : ∃ T, dgN v = T := ⟨_, rfl⟩
  rw [hDA] at u1 d1 ⊢
  rw [hDB] at u2 d2 ⊢
  clear hDA hDB
  refine pcall_cx B5_ok mixed (fun _ => none) Try.func26 rfl Try.ntmps26 Try.results26 (by simp) (by kernel_rfl) ?_
  repeat' first
    | (refine gw_bool (fun _ => ?_) (fun _ => ?_))
    | (refine condw_bool (fun _ => ?_) (fun _ => ?_))
    | simp [*, unN]
def TCmp : List V → Option V
  | [u, w] => (match unN u, unN w with
    | some a, some b => some (.int .i64 (cmpI a b))
    | _, _ => none)
  | _ => none
theorem Cmp_tab : ∀ vs v, TCmp vs = some v → PCall Try.prog 26 vs v := by
  intro vs v h; unfold TCmp at h; split at h
  · split at h
    · rename_i a b h1 h2
      obtain ⟨rfl, a1, a2⟩ := unN_inv h1
      obtain ⟨rfl, b1, b2⟩ := unN_inv h2
      cases h; exact Compare_ok _ _ a1 a2 b1 b2
    · cases h
  · cases h
def B6 : Tab := add 26 TCmp (B5)
theorem B6_at (f : FuncId) (vs : List V) : B6.at' f vs = if f = 26 then TCmp vs else B5.at' f vs := rfl
theorem B6_fr (f : FuncId) : B6.fr f = if f = 26 then false else B5.fr f := rfl
attribute [simp] B6_at B6_fr TCmp
theorem B6_ok : TabOK Try.prog B6 := by
  refine add_ok (B5_ok) (by kernel_rfl) ?_
  · exact Cmp_tab
theorem cmp_ge (u v : Int) : (!ilt (cmpI u v) 0) = !ilt u v := by
  unfold cmpI
  by_cases h : u < v
  · rw [if_pos h]; simp [ilt, h]
  · rw [if_neg h]; split <;> simp [ilt, h]
theorem cmp_le (u v : Int) : (!ilt 0 (cmpI u v)) = !ilt v u := by
  unfold cmpI
  by_cases h : u < v
  · rw [if_pos h]; simp [ilt]; omega
  · rw [if_neg h]; split <;> rename_i h2 <;> simp [ilt, h2]
theorem wiR_ok (l : List Int) (dv : Int) (hl : l.length ≤ maxLen) : PCall Try.prog 19 [.list 1 (l.map il), .int .i64 dv] (vW (wiF l dv)) := by
  have hmx : maxLen = 9223372036854775807 := by decide
  rw [hmx] at hl
  have hdec := dec_i l
  cases hok : okS l
  · refine pcall_cx B6_ok mixed (fun _ => none) Try.func19 rfl Try.ntmps19 Try.results19 (by simp) (by kernel_rfl) ?_
    repeat' first
      | (refine gw_bool (fun _ => ?_) (fun _ => ?_))
      | (refine condw_bool (fun _ => ?_) (fun _ => ?_))
      | simp [*, vF, vW, wiF]
  · cases c1 : ilt dv 0
    · cases c2 : ilt 50000 dv
      · rcases perF_cases l with ⟨h, hp⟩ | ⟨_, hp⟩ | ⟨_, p, q, hp, p1, p2, q1, q2⟩
        · rw [hok] at h; cases h
        · refine pcall_cx B6_ok mixed (fun _ => none) Try.func19 rfl Try.ntmps19 Try.results19 (by simp) (by kernel_rfl) ?_
          repeat' first
            | (refine gw_bool (fun _ => ?_) (fun _ => ?_))
            | (refine condw_bool (fun _ => ?_) (fun _ => ?_))
            | simp [*, vF, vW, wiF]
        · have d1 := ilt_iff'.1 c1
          have d2 := ilt_iff'.1 c2
          have m1 := mul_b (x := 50000 - dv) (y := p) (X := 50000) (Y := 300000000000) (by omega) (by omega)
          have m2 := mul_b (x := 50000 + dv) (y := p) (X := 100000) (Y := 300000000000) (by omega) (by omega)
          have w1 : IntKind.i64.wrap (50000 - dv) = 50000 - dv := wrap_id (by omega) (by omega)
          have w2 : IntKind.i64.wrap (50000 + dv) = 50000 + dv := wrap_id (by omega) (by omega)
          obtain ⟨E, hE⟩ : ∃ E, 50000 - dv = E := ⟨_, rfl⟩
          obtain ⟨F, hF⟩ : ∃ F, 50000 + dv = F := ⟨_, rfl⟩
          have hin : inB p q dv = (!ilt (600000 * q) (E * p) && !ilt (F * p) (600000 * q)) := by unfold inB; rw [hE, hF]
          rw [hE] at m1 w1
          rw [hF] at m2 w2
          have nE : 0 ≤ E * p := Int.mul_nonneg (by omega) (by omega)
          have nF : 0 ≤ F * p := Int.mul_nonneg (by omega) (by omega)
          have x1 : 0 ≤ E := by omega
          have x2 : E < 4294967296 := by omega
          have x3 : 0 ≤ F := by omega
          have x4 : F < 4294967296 := by omega
          have x5 : p < 9223372036854775808 := by omega
          have x6 : q < 9223372036854775808 := by omega
          have x7 : E * p < 9223372036854775808 := by omega
          have x8 : F * p < 9223372036854775808 := by omega
          have x9 : 600000 * q < 9223372036854775808 := by omega
          have g1 := unN_vN (v := 600000 * q) (by omega) x9
          have g2 := unN_vN nE x7
          have g3 := unN_vN nF x8
          have e1 : vN (600000 * q) = .agg [.bool false, .list 1 ((dgN (600000 * q)).map ul)] := rfl
          have e2 : vN (E * p) = .agg [.bool false, .list 1 ((dgN (E * p)).map ul)] := rfl
          have e3 : vN (F * p) = .agg [.bool false, .list 1 ((dgN (F * p)).map ul)] := rfl
          have y1 := cmp_ge (600000 * q) (E * p)
          have y2 := cmp_le (600000 * q) (F * p)
          rw [e1] at g1
          rw [e2] at g2
          rw [e3] at g3
          obtain ⟨DA, hDA⟩ : ∃ T, (dgN (600000 * q)).map ul = T := ⟨_, rfl⟩
          obtain ⟨DB, hDB⟩ : ∃ T, (dgN (E * p)).map ul = T := ⟨_, rfl⟩
          obtain ⟨DT, hDT⟩ : ∃ T', (dgN (F * p)).map ul = T' := ⟨_, rfl⟩
          rw [hDA] at g1 e1
          rw [hDB] at g2 e2
          rw [hDT] at g3 e3
          obtain ⟨c5, hc5⟩ : ∃ c, cmpI (600000 * q) (E * p) = c := ⟨_, rfl⟩
          obtain ⟨c6, hc6⟩ : ∃ c, cmpI (600000 * q) (F * p) = c := ⟨_, rfl⟩
          rw [hc5] at y1
          rw [hc6] at y2
          have hw : wiF l dv = (inB p q dv, 0) := by simp [wiF, hok, c1, c2, hp]
          rw [hw, hin, ← y1, ← y2]
          clear hw hin m1 m2 d1 d2 p2 q2 nE nF hDA hDB hDT y1 y2
          refine pcall_cx B6_ok mixed (fun _ => none) Try.func19 rfl Try.ntmps19 Try.results19 (by simp) (by kernel_rfl) ?_
          repeat' first
            | (refine gw_bool (fun _ => ?_) (fun _ => ?_))
            | (refine condw_bool (fun _ => ?_) (fun _ => ?_))
            | simp [*, vF, vW]
      · refine pcall_cx B6_ok mixed (fun _ => none) Try.func19 rfl Try.ntmps19 Try.results19 (by simp) (by kernel_rfl) ?_
        repeat' first
          | (refine gw_bool (fun _ => ?_) (fun _ => ?_))
          | (refine condw_bool (fun _ => ?_) (fun _ => ?_))
          | simp [*, vF, vW, wiF]
    · refine pcall_cx B6_ok mixed (fun _ => none) Try.func19 rfl Try.ntmps19 Try.results19 (by simp) (by kernel_rfl) ?_
      repeat' first
        | (refine gw_bool (fun _ => ?_) (fun _ => ?_))
        | (refine condw_bool (fun _ => ?_) (fun _ => ?_))
        | simp [*, vF, vW, wiF]
end Go.Proofs.Ytacmchjaldljjaa
