/-
  The laws' guard; the law of moving links.
-/
import Derived.Test.YtcbddoopmkhlfaaSt39
namespace Go.Proofs.Ytcbddoopmkhlfaa
open Go.Pv Go.RowKit
set_option linter.unusedSimpArgs false
set_option linter.unusedVariables false
set_option maxRecDepth 100000
set_option maxHeartbeats 4000000
attribute [-simp] Tclo_at Tgrp_at Tchk Tpchk TcI TcB Tclo Tgrp Tsid Tnod Tlook Tbnd TsidA Tre Tidx Tnms Tnmd Tobj Tlks Tbay Trck Trpc Tres TSd TBd Tnm Tlv Tfd

theorem okL_res0 {k x : Int} (h : okL k x = true) : okL k (resF 0 x) = true := by
  unfold resF
  split
  · rename_i h2
    have h2' : x = 2 := ieq_iff.1 h2
    subst h2'
    unfold okL at *
    cases h3 : ieq k 3
    · simp [ieq]
    · rw [h3] at h; simp [ieq] at h
  · exact h
theorem okP_resB {s : Stn} {p : Pos} (h : okP s p = true) (c : Bool) : okP s (resP p c) = true := by
  obtain ⟨h1, h2⟩ := okP_iff h
  have hP := pfine_of h2
  have hP' : PFine s (resP p c) := by
    refine ⟨hP.nc, by simp [resP, hP.nk], fun i b l hb hl => ?_⟩
    simp only [resP, List.getElem?_map] at hl
    obtain ⟨l0, hl0, rfl⟩ := Option.map_eq_some_iff.1 hl
    obtain ⟨h3, h4⟩ := hP.row i b l0 hb hl0
    refine ⟨by simpa using h3, fun x hx => ?_⟩
    obtain ⟨y, hy, rfl⟩ := List.mem_map.1 hx
    cases c
    · exact okL_res0 (h4 y hy)
    · exact okL_res (h4 y hy)
  simp [okP, h1, posE_of hP']
theorem res_small {s : Stn} {p : Pos} (h : okP s p = true) : p.cl.length ≤ 1000 ∧ p.lk.length ≤ 1000 ∧ ∀ l ∈ p.lk, l.length ≤ 1000 := by
  obtain ⟨h1, h2⟩ := okP_iff h
  have hF := fine_of h1
  have hP := pfine_of h2
  have hq := hF.nq
  refine ⟨by have := hP.nc; omega, by have := hP.nk; omega, fun l hl => ?_⟩
  obtain ⟨i, hi, rfl⟩ := List.mem_iff_getElem.1 hl
  have hk := hP.nk
  obtain ⟨b, hb, _⟩ := at_ex (l := s.qs) (i := i) (by omega)
  have := (hP.row i b _ hb (List.getElem?_eq_getElem hi)).1
  have := (hF.lk b (List.mem_of_getElem? hb)).2.2.2
  omega
def Tkn : List V → Option V
  | [] => some (.bool true)
  | _ => none
theorem kn_tab : ∀ vs v, Tkn vs = some v → PCall Try.prog 20 vs v := by
  intro vs v h; unfold Tkn at h; split at h
  · cases h; exact known_ok
  · cases h
def Tlg : List V → Option V
  | [.agg a] => (unStn a).map fun s => .bool (largeF s)
  | _ => none
theorem Tlg_at (s : Stn) : Tlg [.agg [.str s.nm, .list 1 (s.bs.map s1), .list 5 (s.ls.map Ln.cs), .list 6 (s.ss.map Sr.cs), .list 12 (s.qs.map By.cs)]] = some (.bool (largeF s)) := by
  have e1 := unStn_cs s
  unfold Stn.cs at e1
  simp [Tlg, e1]
theorem lg_tab : ∀ vs v, Tlg vs = some v → PCall Try.prog 48 vs v := by
  intro vs v h; unfold Tlg at h; split at h
  · simp only [Option.map_eq_some_iff] at h
    obtain ⟨s, hs, rfl⟩ := h
    rw [unStn_inv _ _ hs]; exact large_ok _
  · cases h
def Tgps : List V → Option V
  | [.agg a, .agg b] => (match unStn a, unPos b with
    | some s, some p => if okP s p = true then some (.list 1 ((grp s p).map i1)) else none
    | _, _ => none)
  | _ => none
theorem Tgps_at {s : Stn} {p : Pos} (h : okP s p = true) : Tgps [.agg [.str s.nm, .list 1 (s.bs.map s1), .list 5 (s.ls.map Ln.cs), .list 6 (s.ss.map Sr.cs), .list 12 (s.qs.map By.cs)], .agg [.list 1 (p.cl.map b1), .list 1 (p.lk.map r1)]] = some (.list 1 ((grp s p).map i1)) := by
  have e1 := unStn_cs s
  have e2 := unPos_cs p
  unfold Stn.cs at e1
  unfold Pos.cs at e2
  simp [Tgps, e1, e2, h]
theorem gps_tab : ∀ vs v, Tgps vs = some v → PCall Try.prog 33 vs v := by
  intro vs v h; unfold Tgps at h; split at h
  · split at h
    · rename_i h1 h2
      split at h
      · rename_i hl; cases h; rw [unStn_inv _ _ h1, unPos_inv _ _ h2]; exact Groups_ok hl
      · cases h
    · cases h
  · cases h
def G3 : Tab := add 20 Tkn (add 48 Tlg (add 33 Tgps (add 34 Tres (add 44 Trck (add 45 Trpc (G2))))))
theorem G3_at (f : FuncId) (vs : List V) : G3.at' f vs = if f = 20 then Tkn vs else if f = 48 then Tlg vs else if f = 33 then Tgps vs else if f = 34 then Tres vs else if f = 44 then Trck vs else if f = 45 then Trpc vs else G2.at' f vs := rfl
theorem G3_fr (f : FuncId) : G3.fr f = if f = 20 then false else if f = 48 then false else if f = 33 then false else if f = 34 then false else if f = 44 then false else if f = 45 then false else G2.fr f := rfl
theorem G3_gb (f : FuncId) : G3.gb f = G2.gb f := rfl
theorem G3_gv (f : FuncId) (vs : List V) : G3.gv f vs = G2.gv f vs := rfl
attribute [simp] G3_at G3_fr G3_gb G3_gv Tgps Tkn Tlg Trck Tres Trpc
theorem G3_ok : TabOK Try.prog G3 := by
  refine add_ok (add_ok (add_ok (add_ok (add_ok (add_ok (G2_ok) (by kernel_rfl) ?_) (by kernel_rfl) ?_) (by kernel_rfl) ?_) (by kernel_rfl) ?_) (by kernel_rfl) ?_) (by kernel_rfl) ?_
  · exact rpc_tab
  · exact rck_tab
  · exact res_tab
  · exact gps_tab
  · exact lg_tab
  · exact kn_tab
attribute [-simp] Tlg Tgps Tres Trck Trpc
attribute [simp] Tlg_at Tgps_at
def fineF (s : Stn) (p : Pos) : Bool := !largeF s && okP s p
theorem Fine_ok {s : Stn} {p : Pos} (h1 : lkB s = true) (h2 : lenB s p = true) : PCall Try.prog 21 [.agg s.cs, .agg p.cs] (.bool (fineF s p)) := by
  cases e0 : largeF s
  case true =>
    have hk : fineF s p = false := by simp [fineF, e0]
    refine pcall_cx G3_ok mixed (fun _ => none) Try.func21 rfl Try.ntmps21 Try.results21 (by simp) (by kernel_rfl) ?_
    repeat' first
      | (with_reducible refine gw_bool (fun _ => ?_) (fun _ => ?_))
      | (with_reducible refine condw_bool (fun _ => ?_) (fun _ => ?_))
      | simp [*, Stn.cs, Pos.cs]
  cases e1 : ieq (chkF s) 0
  · have hk : fineF s p = false := by have := ieq_iff'.1 e1; simp [fineF, okP, this]
    refine pcall_cx G3_ok mixed (fun _ => none) Try.func21 rfl Try.ntmps21 Try.results21 (by simp) (by kernel_rfl) ?_
    repeat' first
      | (with_reducible refine gw_bool (fun _ => ?_) (fun _ => ?_))
      | (with_reducible refine condw_bool (fun _ => ?_) (fun _ => ?_))
      | simp [*, Stn.cs, Pos.cs]
  cases e2 : ieq (posE s p) 0
  · have hk : fineF s p = false := by have := ieq_iff'.1 e2; simp [fineF, okP, this]
    refine pcall_cx G3_ok mixed (fun _ => none) Try.func21 rfl Try.ntmps21 Try.results21 (by simp) (by kernel_rfl) ?_
    repeat' first
      | (with_reducible refine gw_bool (fun _ => ?_) (fun _ => ?_))
      | (with_reducible refine condw_bool (fun _ => ?_) (fun _ => ?_))
      | simp [*, Stn.cs, Pos.cs]
  have hk : fineF s p = true := by simp [fineF, e0, okP, ieq_iff.1 e1, ieq_iff.1 e2]
  refine pcall_cx G3_ok mixed (fun _ => none) Try.func21 rfl Try.ntmps21 Try.results21 (by simp) (by kernel_rfl) ?_
  repeat' first
    | (with_reducible refine gw_bool (fun _ => ?_) (fun _ => ?_))
    | (with_reducible refine condw_bool (fun _ => ?_) (fun _ => ?_))
    | simp [*, Stn.cs, Pos.cs]
def Tfn : List V → Option V
  | [.agg a, .agg b] => (match unStn a, unPos b with
    | some s, some p => if lkB s = true ∧ lenB s p = true then some (.bool (fineF s p)) else none
    | _, _ => none)
  | _ => none
theorem Tfn_at {s : Stn} {p : Pos} (h1 : lkB s = true) (h2 : lenB s p = true) : Tfn [.agg [.str s.nm, .list 1 (s.bs.map s1), .list 5 (s.ls.map Ln.cs), .list 6 (s.ss.map Sr.cs), .list 12 (s.qs.map By.cs)], .agg [.list 1 (p.cl.map b1), .list 1 (p.lk.map r1)]] = some (.bool (fineF s p)) := by
  have e1 := unStn_cs s
  have e2 := unPos_cs p
  unfold Stn.cs at e1
  unfold Pos.cs at e2
  simp [Tfn, e1, e2, h1, h2]
theorem fn_tab : ∀ vs v, Tfn vs = some v → PCall Try.prog 21 vs v := by
  intro vs v h; unfold Tfn at h; split at h
  · split at h
    · rename_i h1 h2
      split at h
      · rename_i hl; cases h; rw [unStn_inv _ _ h1, unPos_inv _ _ h2]; exact Fine_ok hl.1 hl.2
      · cases h
    · cases h
  · cases h
def G4 : Tab := add 21 Tfn (G3)
theorem G4_at (f : FuncId) (vs : List V) : G4.at' f vs = if f = 21 then Tfn vs else G3.at' f vs := rfl
theorem G4_fr (f : FuncId) : G4.fr f = if f = 21 then false else G3.fr f := rfl
theorem G4_gb (f : FuncId) : G4.gb f = G3.gb f := rfl
theorem G4_gv (f : FuncId) (vs : List V) : G4.gv f vs = G3.gv f vs := rfl
attribute [simp] G4_at G4_fr G4_gb G4_gv Tfn
theorem G4_ok : TabOK Try.prog G4 := by
  refine add_ok (G3_ok) (by kernel_rfl) ?_
  · exact fn_tab
attribute [-simp] Tfn
attribute [simp] Tfn_at
theorem moving_ok {s : Stn} {p : Pos} (h1 : lkB s = true) (h2 : lenB s p = true) : PCall Try.prog 10 [.agg s.cs, .agg p.cs] (.bool true) := by
  have hTf := Tfn_at h1 h2
  cases hf : fineF s p
  · rw [hf] at hTf
    clear h1 h2
    refine pcall_cx G4_ok mixed (fun _ => none) Try.func10 rfl Try.ntmps10 Try.results10 (by simp) (by kernel_rfl) ?_
    repeat' first
      | (with_reducible refine gw_bool (fun _ => ?_) (fun _ => ?_))
      | (with_reducible refine condw_bool (fun _ => ?_) (fun _ => ?_))
      | simp [*, Stn.cs, Pos.cs]
  rw [hf] at hTf
  have hok : okP s p = true := by simp only [fineF, Bool.and_eq_true] at hf; exact hf.2
  have hF := fine_of (okP_iff hok).1
  have hP := pfine_of (okP_iff hok).2
  have hat : ∀ i, i < s.bs.length → _ := fun i hi => moving_at hF hP.nk hi
  have hT0 := Tres_at (c := false) (res_small hok)
  have hT1 := Tres_at (c := true) (res_small hok)
  have hg0 := Tgps_at (okP_resB hok false)
  have hg1 := Tgps_at (okP_resB hok true)
  have hA : (grp s (resP p false)).length = s.bs.length := by rw [grp, grpN_len]
  have hB : (grp s (resP p true)).length = s.bs.length := by rw [grp, grpN_len]
  have hnb := hF.nb
  generalize resP p false = P0 at hT0 hg0 hA hat
  generalize resP p true = P1 at hT1 hg1 hB hat
  generalize grp s P0 = A at hg0 hA hat
  generalize grp s P1 = B at hg1 hB hat
  simp only [Pos.cs] at hT0 hT1
  obtain ⟨n, hn⟩ : ∃ n, s.bs.length = n := ⟨_, rfl⟩
  rw [hn] at hA hB hnb hat
  replace hat : Hid (∀ i, i < n → ∃ u v : Nat, u ≤ i ∧ v ≤ u ∧ A[i]? = some (u : Int) ∧ A[u]? = some (u : Int) ∧ B[i]? = some (v : Int) ∧ B[u]? = some (v : Int) ∧ B[v]? = some (v : Int)) := hat
  clear h1 h2 hf hok hF hP
  refine pcall_cx G4_ok mixed (fun _ => none) Try.func10 rfl Try.ntmps10 Try.results10 (by simp) (by kernel_rfl) ?_
  repeat' first
    | (with_reducible refine gw_bool (fun _ => ?_) (fun _ => ?_))
    | (with_reducible refine condw_bool (fun _ => ?_) (fun _ => ?_))
    | simp [*, Stn.cs, Pos.cs]
  refine lp_go (D := (fun _ => none)) G4_ok mixed (by kernel_rfl) [5, 6] [2, 3] (α := Nat) (fun i e h => i ≤ n ∧ e 7 = .int .i64 i) (fun i => n - i) 0 ?_ ?_
  · exact ⟨by omega, by simp⟩
  rintro i e h hk hkh ⟨hi, g7⟩
  simp [Keep] at hk
  simp [KeepH] at hkh
  clear hT0 hT1 hg0 hg1 hTf
  by_cases hlt : i < n
  · obtain ⟨u, v, hui, hvu, a1, a2, b1, b2, b3⟩ := hat.out i hlt
    clear hat
    have f1 : ilt (i : Int) (n : Int) = true := ilt_t (by omega)
    have w1 : IntKind.i64.wrap ((i : Int) + 1) = ((i + 1 : Nat) : Int) := wrap_succ (by omega)
    have f2 : ilt (u : Int) 0 = false := ilt_f (by omega)
    have f3 : ilt (i : Int) (u : Int) = false := ilt_f (by omega)
    have f4 : ilt (v : Int) 0 = false := ilt_f (by omega)
    have f5 : ilt (u : Int) (v : Int) = false := ilt_f (by omega)
    have q1 : ieq (v : Int) (v : Int) = true := ieq_t rfl
    have q2 : ieq (u : Int) (u : Int) = true := ieq_t rfl
    obtain ⟨la1, ga1⟩ := get_of a1
    obtain ⟨la2, ga2⟩ := get_of a2
    obtain ⟨lb1, gb1⟩ := get_of b1
    obtain ⟨lb2, gb2⟩ := get_of b2
    obtain ⟨lb3, gb3⟩ := get_of b3
    repeat' first
      | (with_reducible refine gw_bool (fun _ => ?_) (fun _ => ?_))
      | (with_reducible refine condw_bool (fun _ => ?_) (fun _ => ?_))
      | simp [*, i1]
    refine nxt_go (i + 1) (View.refl _ _) (by omega) (by simp [*, Keep, St.forget, scr, scrC]) (by simp [*, KeepH, St.forget, scr, scrC]) ?_
    exact ⟨by omega, by simp [*]⟩
  · have f1 : ilt (i : Int) (n : Int) = false := ilt_f (by omega)
    clear hat
    repeat' first
      | (with_reducible refine gw_bool (fun _ => ?_) (fun _ => ?_))
      | (with_reducible refine condw_bool (fun _ => ?_) (fun _ => ?_))
      | simp [*]
end Go.Proofs.Ytcbddoopmkhlfaa
