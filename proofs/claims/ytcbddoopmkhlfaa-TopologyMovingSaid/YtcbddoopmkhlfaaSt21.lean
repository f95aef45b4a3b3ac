/-
  The document's diagrams: the whole check.
-/
import Derived.Test.YtcbddoopmkhlfaaSt20
namespace Go.Proofs.Ytcbddoopmkhlfaa
open Go.Pv Go.RowKit
set_option linter.unusedSimpArgs false
set_option linter.unusedVariables false
set_option maxRecDepth 100000
set_option maxHeartbeats 4000000
attribute [-simp] Tclo_at Tgrp_at Tchk Tpchk TcI TcB Tclo Tgrp Tsid Tnod Tlook Tbnd Tidx Tnms Tnmd Tobj Tlks

def okBay (s : Stn) (i : Nat) : Bool := decide (s.bs.length ≤ 100) && (decide (s.ls.length ≤ 100) && (decide (s.ss.length ≤ 100) && (decide (s.qs.length ≤ 100) && (match s.qs[i]? with
  | some b => decide (b.lks.length ≤ 9223372036854775807)
  | none => false))))
def bayE (s : Stn) (i : Nat) : Int := match s.qs[i]? with
  | some b => byE1 s.bs.length s.ls.length s.ss.length (s.qs.take i) b
  | none => 0
def Tbay : List V → Option V
  | [.agg a, .int .i64 i] => (match unStn a with
    | some s => if 0 ≤ i ∧ okBay s i.toNat = true then some (.int .i64 (bayE s i.toNat)) else none
    | none => none)
  | _ => none
theorem Tbay_at {s : Stn} {i : Nat} (h : okBay s i = true) : Tbay [.agg [.str s.nm, .list 1 (s.bs.map s1), .list 5 (s.ls.map Ln.cs), .list 6 (s.ss.map Sr.cs), .list 12 (s.qs.map By.cs)], .int .i64 i] = some (.int .i64 (bayE s i)) := by
  have e1 := unStn_cs s
  unfold Stn.cs at e1
  simp only [Tbay, e1]
  exact if_pos ⟨by omega, h⟩
theorem bay_tab : ∀ vs v, Tbay vs = some v → PCall Try.prog 82 vs v := by
  intro vs v h; unfold Tbay at h; split at h
  · split at h
    · rename_i h1
      split at h
      · rename_i hl; cases h; rw [unStn_inv _ _ h1]
        obtain ⟨p1, p2⟩ := hl
        simp only [okBay, Bool.and_eq_true, decide_eq_true_eq] at p2
        obtain ⟨q1, q2, q3, q4, q5⟩ := p2
        unfold bayE
        split at q5
        · rename_i b hb
          have := rbay_ok _ _ b hb q1 q2 q3 q4 (by simpa using q5)
          rw [Int.toNat_of_nonneg p1] at this
          simpa only [hb] using this
        · cases q5
      · cases h
    · cases h
  · cases h
def E6 : Tab := add 82 Tbay (E5)
theorem E6_at (f : FuncId) (vs : List V) : E6.at' f vs = if f = 82 then Tbay vs else E5.at' f vs := rfl
theorem E6_fr (f : FuncId) : E6.fr f = if f = 82 then false else E5.fr f := rfl
theorem E6_gb (f : FuncId) : E6.gb f = E5.gb f := rfl
theorem E6_gv (f : FuncId) (vs : List V) : E6.gv f vs = E5.gv f vs := rfl
attribute [simp] E6_at E6_fr E6_gb E6_gv Tbay
theorem E6_ok : TabOK Try.prog E6 := by
  refine add_ok (E5_ok) (by kernel_rfl) ?_
  · exact bay_tab
attribute [-simp] Tbay
attribute [simp] Tbay_at
theorem nx_left {a b : Int} (h : a ≠ 0) : nxE a b = a := if_neg h
theorem nx_right {a b : Int} (h : a = 0) : nxE a b = b := if_pos h
theorem lnE_of (ns : List ByteArray) (l : Ln) : lnE ns l = if nmE l.nm (dupF ns l.nm) = 0 then (if (impF l.r1 l.x1 && impF l.r0 l.x0) = true then 0 else 2) else nmE l.nm (dupF ns l.nm) := by
  unfold lnE nmE
  cases nameF l.nm <;> cases dupF ns l.nm <;> simp
theorem srE_of (ns : List ByteArray) (l : Sr) : srE ns l = if nmE l.nm (dupF ns l.nm) = 0 then (if srcF l = true then 0 else 2) else nmE l.nm (dupF ns l.nm) := by
  unfold srE nmE srcF
  cases nameF l.nm <;> cases dupF ns l.nm <;> simp
theorem byE_of (S : BS) (b : By) : byE S b = if nmE b.nm (dupF S.ns b.nm) = 0 then byE1 S.bs.length S.ls.length S.ss.length S.qs b else nmE b.nm (dupF S.ns b.nm) := by
  unfold byE nmE
  cases nameF b.nm <;> cases dupF S.ns b.nm <;> simp
theorem rcheck_ok (s : Stn) (h5 : ∀ b ∈ s.qs, b.lks.length ≤ 9223372036854775807) : PCall Try.prog 44 [.agg s.cs] (.int .i64 (chkF s)) := by
  obtain ⟨nb, hnb⟩ : ∃ n, s.bs.length = n := ⟨_, rfl⟩
  obtain ⟨nl, hnl⟩ : ∃ n, s.ls.length = n := ⟨_, rfl⟩
  obtain ⟨ns, hns⟩ : ∃ n, s.ss.length = n := ⟨_, rfl⟩
  obtain ⟨nq, hnq⟩ : ∃ n, s.qs.length = n := ⟨_, rfl⟩
  cases hn : nameF s.nm
  · have hc : chkF s = 7 := by simp [chkF, hn]
    rw [hc]
    refine pcall_cx E6_ok mixed (fun _ => none) Try.func44 rfl Try.ntmps44 Try.results44 (by simp) (by kernel_rfl) ?_
    repeat' first
      | (with_reducible refine gw_bool (fun _ => ?_) (fun _ => ?_))
      | (with_reducible refine condw_bool (fun _ => ?_) (fun _ => ?_))
      | simp [*, Stn.cs]
  cases c1 : ilt (nb : Int) 1
  case true =>
    have c0 : ieq (nb : Int) 0 = true := ieq_t (by have := ilt_iff.1 c1; omega)
    have hc : chkF s = 3 := by simp only [chkF, cntBad, hn, hnb, hnl, hns, hnq, c0]; simp
    rw [hc]
    refine pcall_cx E6_ok mixed (fun _ => none) Try.func44 rfl Try.ntmps44 Try.results44 (by simp) (by kernel_rfl) ?_
    repeat' first
      | (with_reducible refine gw_bool (fun _ => ?_) (fun _ => ?_))
      | (with_reducible refine condw_bool (fun _ => ?_) (fun _ => ?_))
      | simp [*, Stn.cs]
  cases c2 : ilt 4 (nb : Int)
  case true =>
    have hc : chkF s = 3 := by simp only [chkF, cntBad, hn, hnb, hnl, hns, hnq, c2]; simp
    rw [hc]
    refine pcall_cx E6_ok mixed (fun _ => none) Try.func44 rfl Try.ntmps44 Try.results44 (by simp) (by kernel_rfl) ?_
    repeat' first
      | (with_reducible refine gw_bool (fun _ => ?_) (fun _ => ?_))
      | (with_reducible refine condw_bool (fun _ => ?_) (fun _ => ?_))
      | simp [*, Stn.cs]
  cases c3 : ilt 6 (nl : Int)
  case true =>
    have hc : chkF s = 3 := by simp only [chkF, cntBad, hn, hnb, hnl, hns, hnq, c3]; simp
    rw [hc]
    refine pcall_cx E6_ok mixed (fun _ => none) Try.func44 rfl Try.ntmps44 Try.results44 (by simp) (by kernel_rfl) ?_
    repeat' first
      | (with_reducible refine gw_bool (fun _ => ?_) (fun _ => ?_))
      | (with_reducible refine condw_bool (fun _ => ?_) (fun _ => ?_))
      | simp [*, Stn.cs]
  cases c4 : ilt 4 (ns : Int)
  case true =>
    have hc : chkF s = 3 := by simp only [chkF, cntBad, hn, hnb, hnl, hns, hnq, c4]; simp
    rw [hc]
    refine pcall_cx E6_ok mixed (fun _ => none) Try.func44 rfl Try.ntmps44 Try.results44 (by simp) (by kernel_rfl) ?_
    repeat' first
      | (with_reducible refine gw_bool (fun _ => ?_) (fun _ => ?_))
      | (with_reducible refine condw_bool (fun _ => ?_) (fun _ => ?_))
      | simp [*, Stn.cs]
  cases c5 : ilt 16 (nq : Int)
  case true =>
    have hc : chkF s = 3 := by simp only [chkF, cntBad, hn, hnb, hnl, hns, hnq, c5]; simp
    rw [hc]
    refine pcall_cx E6_ok mixed (fun _ => none) Try.func44 rfl Try.ntmps44 Try.results44 (by simp) (by kernel_rfl) ?_
    repeat' first
      | (with_reducible refine gw_bool (fun _ => ?_) (fun _ => ?_))
      | (with_reducible refine condw_bool (fun _ => ?_) (fun _ => ?_))
      | simp [*, Stn.cs]
  have z1 := ilt_iff'.1 c1
  have z2 := ilt_iff'.1 c2
  have z3 := ilt_iff'.1 c3
  have z4 := ilt_iff'.1 c4
  have z5 := ilt_iff'.1 c5
  have hc : chkF s = erQ s := by
    have c0 : ieq (nb : Int) 0 = false := ieq_f (by omega)
    simp only [chkF, cntBad, hn, hnb, hnl, hns, hnq, c0, c2, c3, c4, c5]; simp
  obtain ⟨R, hR⟩ : ∃ R, erQ s = R := ⟨_, rfl⟩
  rw [hc, hR]
  clear hc
  have R0 : ∀ k, k < nb → firstN (eB s) k = 0 → eB s k ≠ 0 → R = eB s k := fun k hk h0 h1 => by
    have e0 : erB s = eB s k := by unfold erB; rw [hnb]; exact firstN_stop h0 h1 hk
    rw [← hR, erQ, erR, erL, e0, nx_left h1, nx_left h1, nx_left h1]
  have R1 : firstN (eB s) nb = 0 → ∀ k, k < nl → firstN (eL s) k = 0 → eL s k ≠ 0 → R = eL s k := fun hB k hk h0 h1 => by
    have e0 : erL s = eL s k := by unfold erL erB; rw [hnb, hnl, nx_right hB]; exact firstN_stop h0 h1 hk
    rw [← hR, erQ, erR, e0, nx_left h1, nx_left h1]
  have R2 : firstN (eB s) nb = 0 → firstN (eL s) nl = 0 → ∀ k, k < ns → firstN (eR s) k = 0 → eR s k ≠ 0 → R = eR s k := fun hB hL k hk h0 h1 => by
    have e0 : erR s = eR s k := by unfold erR erL erB; rw [hnb, hnl, hns, nx_right hB, nx_right hL]; exact firstN_stop h0 h1 hk
    rw [← hR, erQ, e0, nx_left h1]
  have R3 : firstN (eB s) nb = 0 → firstN (eL s) nl = 0 → firstN (eR s) ns = 0 → ∀ k, k < nq → firstN (eQ s) k = 0 → eQ s k ≠ 0 → R = eQ s k := fun hB hL hS k hk h0 h1 => by
    rw [← hR]; unfold erQ erR erL erB; rw [hnb, hnl, hns, hnq, nx_right hB, nx_right hL, nx_right hS]; exact firstN_stop h0 h1 hk
  have R4 : firstN (eB s) nb = 0 → firstN (eL s) nl = 0 → firstN (eR s) ns = 0 → firstN (eQ s) nq = 0 → (0 : Int) = R := fun hB hL hS hQ => by
    rw [← hR]; unfold erQ erR erL erB; rw [hnb, hnl, hns, hnq, nx_right hB, nx_right hL, nx_right hS, hQ]
  have nOk : ∀ b l g q, b ≤ nb → l ≤ nl → g ≤ ns → q ≤ nq → nmsOk s b l g q = true := fun b l g q h1 h2 h3 h4 => by
    simp only [nmsOk, Bool.and_eq_true, decide_eq_true_eq]; omega
  have nLen : ∀ b l g q, b ≤ nb → l ≤ nl → g ≤ ns → q ≤ nq → (nms s b l g q).length ≤ 1000 := fun b l g q h1 h2 h3 h4 => by
    simp only [nms, List.length_append, List.length_map, List.length_take]; omega
  have bOk : ∀ i, i < nq → okBay s i = true := fun i hi => by
    obtain ⟨b, hb, _⟩ := at_ex (l := s.qs) (i := i) (by omega)
    simp only [okBay, hb, Bool.and_eq_true, decide_eq_true_eq]
    exact ⟨by omega, by omega, by omega, by omega, h5 b (List.mem_of_getElem? hb)⟩
  replace R0 : Hid (∀ k, k < nb → firstN (eB s) k = 0 → eB s k ≠ 0 → R = eB s k) := R0
  replace R1 : Hid (firstN (eB s) nb = 0 → ∀ k, k < nl → firstN (eL s) k = 0 → eL s k ≠ 0 → R = eL s k) := R1
  replace R2 : Hid (firstN (eB s) nb = 0 → firstN (eL s) nl = 0 → ∀ k, k < ns → firstN (eR s) k = 0 → eR s k ≠ 0 → R = eR s k) := R2
  replace R3 : Hid (firstN (eB s) nb = 0 → firstN (eL s) nl = 0 → firstN (eR s) ns = 0 → ∀ k, k < nq → firstN (eQ s) k = 0 → eQ s k ≠ 0 → R = eQ s k) := R3
  replace R4 : Hid (firstN (eB s) nb = 0 → firstN (eL s) nl = 0 → firstN (eR s) ns = 0 → firstN (eQ s) nq = 0 → (0 : Int) = R) := R4
  replace nOk : Hid (∀ b l g q, b ≤ nb → l ≤ nl → g ≤ ns → q ≤ nq → nmsOk s b l g q = true) := nOk
  replace nLen : Hid (∀ b l g q, b ≤ nb → l ≤ nl → g ≤ ns → q ≤ nq → (nms s b l g q).length ≤ 1000) := nLen
  replace bOk : Hid (∀ i, i < nq → okBay s i = true) := bOk
  have yz1 : 1 ≤ nb := by omega
  replace z1 : Hid (1 ≤ nb) := yz1
  clear yz1
  have yz2 : nb ≤ 4 := by omega
  replace z2 : Hid (nb ≤ 4) := yz2
  clear yz2
  have yz3 : nl ≤ 6 := by omega
  replace z3 : Hid (nl ≤ 6) := yz3
  clear yz3
  have yz4 : ns ≤ 4 := by omega
  replace z4 : Hid (ns ≤ 4) := yz4
  clear yz4
  have yz5 : nq ≤ 16 := by omega
  replace z5 : Hid (nq ≤ 16) := yz5
  clear yz5
  clear hR h5
  refine pcall_cx E6_ok mixed (fun _ => none) Try.func44 rfl Try.ntmps44 Try.results44 (by simp) (by kernel_rfl) ?_
  repeat' first
    | (with_reducible refine gw_bool (fun _ => ?_) (fun _ => ?_))
    | (with_reducible refine condw_bool (fun _ => ?_) (fun _ => ?_))
    | simp [*, Stn.cs]
  refine lp_go (D := (fun _ => none)) E6_ok mixed (by kernel_rfl) [1, 3, 4, 5, 6] [1] (α := Nat) (fun i e h => i ≤ nb ∧ e 7 = .int .i64 i ∧ Hid (firstN (eB s) i = 0)) (fun i => nb - i) 0 ?_ ?_
  · exact ⟨by omega, by simp, rfl⟩
  rintro i e h hk hkh ⟨hlei, g7, hinv⟩
  simp [Keep] at hk
  simp [KeepH] at hkh
  by_cases hlt : i < nb
  · have hz2 := z2.out
    have hz3 := z3.out
    have hz4 := z4.out
    have hz5 := z5.out
    obtain ⟨x, hx, hx'⟩ := at_ex (l := s.bs) (i := i) (by omega)
    have f1 : ilt (i : Int) (nb : Int) = true := ilt_t (by omega)
    have w1 : IntKind.i64.wrap ((i : Int) + 1) = ((i + 1 : Nat) : Int) := wrap_succ (by omega)
    have hT := Tnms_at (nOk.out i 0 0 0 (by omega) (by omega) (by omega) (by omega))
    have hL := nLen.out i 0 0 0 (by omega) (by omega) (by omega) (by omega)
    have hNs : nms s i 0 0 0 = (SB s i).ns := by subst hnb hnl hns; simp [nms, SB]
    have her : eB s i = nmE x (dupF (nms s i 0 0 0) x) := by rw [hNs]; simp [eB, hx]
    clear hNs hz2 hz3 hz4 hz5
    have hstp := R0.out  i hlt hinv.out
    have hnx : eB s i = 0 → Hid (firstN (eB s) (i + 1) = 0) := fun h0 => show _ = _ by simp [firstN, hinv.out, h0]
    generalize nms s i 0 0 0 = N at hT hL her
    have hTd := Tnmd_at (s := x) hL
    obtain ⟨em, hem⟩ : ∃ em, nmE x (dupF N x) = em := ⟨_, rfl⟩
    rw [hem] at her hTd
    clear hem hL hinv R0 R1 R2 R3 R4 nOk nLen bOk
    try simp only [show ((0 : Nat) : Int) = 0 from rfl] at hT
    rw [her] at hstp hnx
    cases q0 : ieq em 0
    · have hRc := hstp (ieq_iff'.1 q0)
      clear hstp hnx her
      subst hRc
      repeat' first
        | (with_reducible refine gw_bool (fun _ => ?_) (fun _ => ?_))
        | (with_reducible refine condw_bool (fun _ => ?_) (fun _ => ?_))
        | simp [*, s1]
    · have hq := hnx (ieq_iff.1 q0)
      clear hstp hnx her
      repeat' first
        | (with_reducible refine gw_bool (fun _ => ?_) (fun _ => ?_))
        | (with_reducible refine condw_bool (fun _ => ?_) (fun _ => ?_))
        | simp [*, s1]
      refine nxt_go (i + 1) (View.refl _ _) (by omega) (by simp [*, Keep, St.forget, scr, scrC]) (by simp [*, KeepH, St.forget, scr, scrC]) ?_
      exact ⟨by omega, by simp [*], hq⟩
  have f0 : ilt (i : Int) (nb : Int) = false := ilt_f (by omega)
  have d0 : Hid (firstN (eB s) nb = 0) := by
    have e1 : i = nb := by omega
    rw [← e1]; exact hinv
  clear hinv hlt
  repeat' first
    | (with_reducible refine gw_bool (fun _ => ?_) (fun _ => ?_))
    | (with_reducible refine condw_bool (fun _ => ?_) (fun _ => ?_))
    | simp [*]
  refine lp_go (D := (fun _ => none)) E6_ok mixed (by kernel_rfl) [1, 3, 4, 5, 6] [1] (α := Nat) (fun j e h => j ≤ nl ∧ e 9 = .int .i64 j ∧ Hid (firstN (eL s) j = 0)) (fun j => nl - j) 0 ?_ ?_
  · exact ⟨by omega, by simp, rfl⟩
  have hk0 := hk
  have hkh0 := hkh
  clear hk hkh g7
  rintro j e h hk hkh ⟨hlej, g7, hinv⟩
  simp [Keep, hk0, hkh0] at hk
  simp [KeepH, hk0, hkh0] at hkh
  by_cases hlt : j < nl
  · have hz2 := z2.out
    have hz3 := z3.out
    have hz4 := z4.out
    have hz5 := z5.out
    obtain ⟨x, hx, hx'⟩ := at_ex (l := s.ls) (i := j) (by omega)
    have f1 : ilt (j : Int) (nl : Int) = true := ilt_t (by omega)
    have w1 : IntKind.i64.wrap ((j : Int) + 1) = ((j + 1 : Nat) : Int) := wrap_succ (by omega)
    have hT := Tnms_at (nOk.out nb j 0 0 (by omega) (by omega) (by omega) (by omega))
    have hL := nLen.out nb j 0 0 (by omega) (by omega) (by omega) (by omega)
    have hNs : nms s nb j 0 0 = (SL s j).ns := by subst hnb hnl hns; simp [nms, SL]
    have her : eL s j = lnE (nms s nb j 0 0) x := by rw [hNs]; simp [eL, hx]
    rw [lnE_of] at her
    clear hNs hz2 hz3 hz4 hz5
    have hstp := R1.out d0.out j hlt hinv.out
    have hnx : eL s j = 0 → Hid (firstN (eL s) (j + 1) = 0) := fun h0 => show _ = _ by simp [firstN, hinv.out, h0]
    generalize nms s nb j 0 0 = N at hT hL her
    have hTd := Tnmd_at (s := x.nm) hL
    obtain ⟨em, hem⟩ : ∃ em, nmE x.nm (dupF N x.nm) = em := ⟨_, rfl⟩
    rw [hem] at her hTd
    clear hem hL hinv R0 R1 R2 R3 R4 nOk nLen bOk d0
    try simp only [show ((0 : Nat) : Int) = 0 from rfl] at hT
    cases q0 : ieq em 0
    · rw [if_neg (ieq_iff'.1 q0)] at her
      rw [her] at hstp hnx
      have hRc := hstp (ieq_iff'.1 q0)
      clear hstp hnx her
      subst hRc
      repeat' first
        | (with_reducible refine gw_bool (fun _ => ?_) (fun _ => ?_))
        | (with_reducible refine condw_bool (fun _ => ?_) (fun _ => ?_))
        | simp [*, Ln.cs]
    · rw [if_pos (ieq_iff.1 q0)] at her
      cases p1 : impF x.r1 x.x1 <;> cases p2 : impF x.r0 x.x0
      all_goals rw [p1, p2] at her
      all_goals try simp only [Bool.false_and, Bool.and_false, Bool.and_true, Bool.true_and] at her
      all_goals first
        | (have hq := hnx her
           clear hstp hnx her)
        | (have hRc := hstp (by rw [her]; decide)
           have hRd : R = 2 := hRc.trans her
           clear hstp hnx her hRc
           subst hRd)
      all_goals
        repeat' first
          | (with_reducible refine gw_bool (fun _ => ?_) (fun _ => ?_))
          | (with_reducible refine condw_bool (fun _ => ?_) (fun _ => ?_))
          | simp [*, Ln.cs, unSr]
      all_goals refine nxt_go (j + 1) (View.refl _ _) (by omega) (by simp [*, Keep, St.forget, scr, scrC]) (by simp [*, KeepH, St.forget, scr, scrC]) ?_
      all_goals exact ⟨by omega, by simp [*], hq⟩
  have f1 : ilt (j : Int) (nl : Int) = false := ilt_f (by omega)
  have d1 : Hid (firstN (eL s) nl = 0) := by
    have e1 : j = nl := by omega
    rw [← e1]; exact hinv
  clear hinv hlt
  repeat' first
    | (with_reducible refine gw_bool (fun _ => ?_) (fun _ => ?_))
    | (with_reducible refine condw_bool (fun _ => ?_) (fun _ => ?_))
    | simp [*]
  refine lp_go (D := (fun _ => none)) E6_ok mixed (by kernel_rfl) [1, 3, 4, 5, 6] [1] (α := Nat) (fun k e h => k ≤ ns ∧ e 11 = .int .i64 k ∧ Hid (firstN (eR s) k = 0)) (fun k => ns - k) 0 ?_ ?_
  · exact ⟨by omega, by simp, rfl⟩
  have hk0 := hk
  have hkh0 := hkh
  clear hk hkh g7
  rintro k e h hk hkh ⟨hlek, g7, hinv⟩
  simp [Keep, hk0, hkh0] at hk
  simp [KeepH, hk0, hkh0] at hkh
  by_cases hlt : k < ns
  · have hz2 := z2.out
    have hz3 := z3.out
    have hz4 := z4.out
    have hz5 := z5.out
    obtain ⟨x, hx, hx'⟩ := at_ex (l := s.ss) (i := k) (by omega)
    have f1 : ilt (k : Int) (ns : Int) = true := ilt_t (by omega)
    have w1 : IntKind.i64.wrap ((k : Int) + 1) = ((k + 1 : Nat) : Int) := wrap_succ (by omega)
    have hT := Tnms_at (nOk.out nb nl k 0 (by omega) (by omega) (by omega) (by omega))
    have hL := nLen.out nb nl k 0 (by omega) (by omega) (by omega) (by omega)
    have hNs : nms s nb nl k 0 = (SR s k).ns := by subst hnb hnl hns; simp [nms, SR]
    have her : eR s k = srE (nms s nb nl k 0) x := by rw [hNs]; simp [eR, hx]
    rw [srE_of] at her
    clear hNs hz2 hz3 hz4 hz5
    have hstp := R2.out d0.out d1.out k hlt hinv.out
    have hnx : eR s k = 0 → Hid (firstN (eR s) (k + 1) = 0) := fun h0 => show _ = _ by simp [firstN, hinv.out, h0]
    generalize nms s nb nl k 0 = N at hT hL her
    have hTd := Tnmd_at (s := x.nm) hL
    obtain ⟨em, hem⟩ : ∃ em, nmE x.nm (dupF N x.nm) = em := ⟨_, rfl⟩
    rw [hem] at her hTd
    clear hem hL hinv R0 R1 R2 R3 R4 nOk nLen bOk d0 d1
    try simp only [show ((0 : Nat) : Int) = 0 from rfl] at hT
    cases q0 : ieq em 0
    · rw [if_neg (ieq_iff'.1 q0)] at her
      rw [her] at hstp hnx
      have hRc := hstp (ieq_iff'.1 q0)
      clear hstp hnx her
      subst hRc
      repeat' first
        | (with_reducible refine gw_bool (fun _ => ?_) (fun _ => ?_))
        | (with_reducible refine condw_bool (fun _ => ?_) (fun _ => ?_))
        | simp [*, Sr.cs]
    · rw [if_pos (ieq_iff.1 q0)] at her
      cases p1 : srcF x
      all_goals rw [p1] at her
      all_goals try simp only [Bool.false_and, Bool.and_false, Bool.and_true, Bool.true_and] at her
      all_goals first
        | (have hq := hnx her
           clear hstp hnx her)
        | (have hRc := hstp (by rw [her]; decide)
           have hRd : R = 2 := hRc.trans her
           clear hstp hnx her hRc
           subst hRd)
      all_goals
        repeat' first
          | (with_reducible refine gw_bool (fun _ => ?_) (fun _ => ?_))
          | (with_reducible refine condw_bool (fun _ => ?_) (fun _ => ?_))
          | simp [*, Sr.cs, unSr]
      all_goals refine nxt_go (k + 1) (View.refl _ _) (by omega) (by simp [*, Keep, St.forget, scr, scrC]) (by simp [*, KeepH, St.forget, scr, scrC]) ?_
      all_goals exact ⟨by omega, by simp [*], hq⟩
  have f2 : ilt (k : Int) (ns : Int) = false := ilt_f (by omega)
  have d2 : Hid (firstN (eR s) ns = 0) := by
    have e1 : k = ns := by omega
    rw [← e1]; exact hinv
  clear hinv hlt
  repeat' first
    | (with_reducible refine gw_bool (fun _ => ?_) (fun _ => ?_))
    | (with_reducible refine condw_bool (fun _ => ?_) (fun _ => ?_))
    | simp [*]
  refine lp_go (D := (fun _ => none)) E6_ok mixed (by kernel_rfl) [1, 3, 4, 5, 6] [1] (α := Nat) (fun m e h => m ≤ nq ∧ e 13 = .int .i64 m ∧ Hid (firstN (eQ s) m = 0)) (fun m => nq - m) 0 ?_ ?_
  · exact ⟨by omega, by simp, rfl⟩
  have hk0 := hk
  have hkh0 := hkh
  clear hk hkh g7
  rintro m e h hk hkh ⟨hlem, g7, hinv⟩
  simp [Keep, hk0, hkh0] at hk
  simp [KeepH, hk0, hkh0] at hkh
  by_cases hlt : m < nq
  · have hz2 := z2.out
    have hz3 := z3.out
    have hz4 := z4.out
    have hz5 := z5.out
    obtain ⟨x, hx, hx'⟩ := at_ex (l := s.qs) (i := m) (by omega)
    have f1 : ilt (m : Int) (nq : Int) = true := ilt_t (by omega)
    have w1 : IntKind.i64.wrap ((m : Int) + 1) = ((m + 1 : Nat) : Int) := wrap_succ (by omega)
    have hT := Tnms_at (nOk.out nb nl ns m (by omega) (by omega) (by omega) (by omega))
    have hL := nLen.out nb nl ns m (by omega) (by omega) (by omega) (by omega)
    have hNs : nms s nb nl ns m = (SQ s m).ns := by subst hnb hnl hns; simp [nms, SQ]
    have her : eQ s m = byE (SQ s m) x := by simp [eQ, hx]
    rw [byE_of, ← hNs] at her
    have hbe : byE1 (SQ s m).bs.length (SQ s m).ls.length (SQ s m).ss.length (SQ s m).qs x = bayE s m := by simp [SQ, bayE, hx]
    rw [hbe] at her
    have hTb := Tbay_at (bOk.out m hlt)
    clear hbe
    obtain ⟨eb, heb⟩ : ∃ eb, bayE s m = eb := ⟨_, rfl⟩
    rw [heb] at her hTb
    clear heb
    clear hNs hz2 hz3 hz4 hz5
    have hstp := R3.out d0.out d1.out d2.out m hlt hinv.out
    have hnx : eQ s m = 0 → Hid (firstN (eQ s) (m + 1) = 0) := fun h0 => show _ = _ by simp [firstN, hinv.out, h0]
    generalize nms s nb nl ns m = N at hT hL her
    have hTd := Tnmd_at (s := x.nm) hL
    obtain ⟨em, hem⟩ : ∃ em, nmE x.nm (dupF N x.nm) = em := ⟨_, rfl⟩
    rw [hem] at her hTd
    clear hem hL hinv R0 R1 R2 R3 R4 nOk nLen bOk d0 d1 d2
    try simp only [show ((0 : Nat) : Int) = 0 from rfl] at hT
    cases q0 : ieq em 0
    · rw [if_neg (ieq_iff'.1 q0)] at her
      rw [her] at hstp hnx
      have hRc := hstp (ieq_iff'.1 q0)
      clear hstp hnx her
      subst hRc
      repeat' first
        | (with_reducible refine gw_bool (fun _ => ?_) (fun _ => ?_))
        | (with_reducible refine condw_bool (fun _ => ?_) (fun _ => ?_))
        | simp [*, By.cs]
    · rw [if_pos (ieq_iff.1 q0)] at her
      rw [her] at hstp hnx
      cases p1 : ieq eb 0
      · have hRc := hstp (ieq_iff'.1 p1)
        clear hstp hnx her
        subst hRc
        repeat' first
          | (with_reducible refine gw_bool (fun _ => ?_) (fun _ => ?_))
          | (with_reducible refine condw_bool (fun _ => ?_) (fun _ => ?_))
          | simp [*, By.cs]
      · have hq := hnx (ieq_iff.1 p1)
        clear hstp hnx her
        repeat' first
          | (with_reducible refine gw_bool (fun _ => ?_) (fun _ => ?_))
          | (with_reducible refine condw_bool (fun _ => ?_) (fun _ => ?_))
          | simp [*, By.cs]
        refine nxt_go (m + 1) (View.refl _ _) (by omega) (by simp [*, Keep, St.forget, scr, scrC]) (by simp [*, KeepH, St.forget, scr, scrC]) ?_
        exact ⟨by omega, by simp [*], hq⟩
  have f3 : ilt (m : Int) (nq : Int) = false := ilt_f (by omega)
  have d3 : Hid (firstN (eQ s) nq = 0) := by
    have e1 : m = nq := by omega
    rw [← e1]; exact hinv
  clear hinv hlt
  have hRc := R4.out d0.out d1.out d2.out d3.out
  clear R0 R1 R2 R3 R4 d0 d1 d2 d3
  subst hRc
  repeat' first
    | (with_reducible refine gw_bool (fun _ => ?_) (fun _ => ?_))
    | (with_reducible refine condw_bool (fun _ => ?_) (fun _ => ?_))
    | simp [*]
end Go.Proofs.Ytcbddoopmkhlfaa
