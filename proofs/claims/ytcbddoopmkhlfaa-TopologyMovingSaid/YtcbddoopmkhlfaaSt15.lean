/-
  Targets of breaker failure protection.
-/
import Derived.Test.YtcbddoopmkhlfaaSt14
namespace Go.Proofs.Ytcbddoopmkhlfaa
open Go.Pv Go.RowKit
set_option linter.unusedSimpArgs false
set_option linter.unusedVariables false
set_option maxRecDepth 100000
set_option maxHeartbeats 2000000
attribute [-simp] Tclo_at Tgrp_at Tchk Tpchk TcI TcB Tclo Tgrp Tsid Tnod Tlook Tbnd

def Tres : List V → Option V
  | [.agg b, .bool c] => (match unPos b with
    | some p => if p.cl.length ≤ 1000 ∧ p.lk.length ≤ 1000 ∧ ∀ l ∈ p.lk, l.length ≤ 1000 then some (.agg (resP p c).cs) else none
    | none => none)
  | _ => none
theorem Tres_at {p : Pos} {c : Bool} (h : p.cl.length ≤ 1000 ∧ p.lk.length ≤ 1000 ∧ ∀ l ∈ p.lk, l.length ≤ 1000) : Tres [.agg [.list 1 (p.cl.map b1), .list 1 (p.lk.map r1)], .bool c] = some (.agg (resP p c).cs) := by
  have e2 := unPos_cs p
  unfold Pos.cs at e2
  simp only [Tres, e2]
  exact if_pos h
theorem res_tab : ∀ vs v, Tres vs = some v → PCall Try.prog 34 vs v := by
  intro vs v h; unfold Tres at h; split at h
  · split at h
    · rename_i h1
      split at h
      · rename_i hl; cases h; rw [unPos_inv _ _ h1]; exact resolve_ok _ _ hl.1 hl.2.1 hl.2.2
      · cases h
    · cases h
  · cases h
def TSd : List V → Option V
  | [.agg a, .agg b, .int .i64 i] => (match unStn a, unPos b with
    | some s, some p => if okP s p = true then (match sidF s p (grp s p) i with
      | some S => some (.agg (S.map (V.int .i64)))
      | none => none) else none
    | _, _ => none)
  | _ => none
theorem TSd_at {s : Stn} {p : Pos} {i : Int} {S : List Int} (h : okP s p = true) (hS : sidF s p (grp s p) i = some S) : TSd [.agg [.str s.nm, .list 1 (s.bs.map s1), .list 5 (s.ls.map Ln.cs), .list 6 (s.ss.map Sr.cs), .list 12 (s.qs.map By.cs)], .agg [.list 1 (p.cl.map b1), .list 1 (p.lk.map r1)], .int .i64 i] = some (.agg (S.map (V.int .i64))) := by
  have e1 := unStn_cs s
  have e2 := unPos_cs p
  unfold Stn.cs at e1
  unfold Pos.cs at e2
  simp [TSd, e1, e2, h, hS]
theorem Sd_tab : ∀ vs v, TSd vs = some v → PCall Try.prog 35 vs v := by
  intro vs v h; unfold TSd at h; split at h
  · split at h
    · rename_i h1 h2
      split at h
      · rename_i hl
        split at h
        · rename_i hS; cases h; rw [unStn_inv _ _ h1, unPos_inv _ _ h2]; exact Sides_ok hl _ _ hS
        · cases h
      · cases h
    · cases h
  · cases h
def TBd : List V → Option V
  | [.agg a, .agg b, .agg [.int .i64 k, .int .i64 o]] => (match unStn a, unPos b with
    | some s, some p => if okP s p = true then some (.list 1 ((bndF s p (grp s p) (nodF s (grp s p) k o)).map i1)) else none
    | _, _ => none)
  | _ => none
theorem TBd_at {s : Stn} {p : Pos} {k o : Int} (h : okP s p = true) : TBd [.agg [.str s.nm, .list 1 (s.bs.map s1), .list 5 (s.ls.map Ln.cs), .list 6 (s.ss.map Sr.cs), .list 12 (s.qs.map By.cs)], .agg [.list 1 (p.cl.map b1), .list 1 (p.lk.map r1)], .agg [.int .i64 k, .int .i64 o]] = some (.list 1 ((bndF s p (grp s p) (nodF s (grp s p) k o)).map i1)) := by
  have e1 := unStn_cs s
  have e2 := unPos_cs p
  unfold Stn.cs at e1
  unfold Pos.cs at e2
  simp [TBd, e1, e2, h]
theorem Bd_tab : ∀ vs v, TBd vs = some v → PCall Try.prog 25 vs v := by
  intro vs v h; unfold TBd at h; split at h
  · split at h
    · rename_i h1 h2
      split at h
      · rename_i hl
        cases h; rw [unStn_inv _ _ h1, unPos_inv _ _ h2]; exact Boundary_ok hl _ _
      · cases h
    · cases h
  · cases h
def D6 : Tab := add 34 Tres (add 35 TSd (add 25 TBd (D5)))
theorem D6_at (f : FuncId) (vs : List V) : D6.at' f vs = if f = 34 then Tres vs else if f = 35 then TSd vs else if f = 25 then TBd vs else D5.at' f vs := rfl
theorem D6_fr (f : FuncId) : D6.fr f = if f = 34 then false else if f = 35 then false else if f = 25 then false else D5.fr f := rfl
theorem D6_gb (f : FuncId) : D6.gb f = D5.gb f := rfl
theorem D6_gv (f : FuncId) (vs : List V) : D6.gv f vs = D5.gv f vs := rfl
attribute [simp] D6_at D6_fr D6_gb D6_gv TBd TSd Tres
theorem D6_ok : TabOK Try.prog D6 := by
  refine add_ok (add_ok (add_ok (D5_ok) (by kernel_rfl) ?_) (by kernel_rfl) ?_) (by kernel_rfl) ?_
  · exact Bd_tab
  · exact Sd_tab
  · exact res_tab
attribute [-simp] Tres TSd TBd
attribute [simp] Tres_at TSd_at TBd_at
/-! ### a position that is resolved is valid -/
theorem posE_of {s : Stn} {p : Pos} (h : PFine s p) : posE s p = 0 := by
  have e1 : ieq (p.cl.length : Int) (s.qs.length : Int) = true := ieq_t (by rw [h.nc])
  have e2 : ieq (p.lk.length : Int) (s.qs.length : Int) = true := ieq_t (by rw [h.nk])
  have e3 : (List.range s.qs.length).all (lenOk s p) = true := List.all_eq_true.2 fun i hi => by
    have hi : i < s.qs.length := by simpa using hi
    have hk := h.nk
    obtain ⟨b, hb, _⟩ := at_ex (l := s.qs) (i := i) hi
    obtain ⟨l, hl, _⟩ := at_ex (l := p.lk) (i := i) (by omega)
    simp only [lenOk, hb, hl]
    exact ieq_t (by rw [(h.row i b l hb hl).1])
  have e4 : (List.range s.qs.length).all (rowOk s p) = true := List.all_eq_true.2 fun i hi => by
    have hi : i < s.qs.length := by simpa using hi
    have hk := h.nk
    obtain ⟨b, hb, _⟩ := at_ex (l := s.qs) (i := i) hi
    obtain ⟨l, hl, _⟩ := at_ex (l := p.lk) (i := i) (by omega)
    simp only [rowOk, hb, hl]
    exact List.all_eq_true.2 (h.row i b l hb hl).2
  simp only [posE, e1, e2, e3, e4]
  simp
theorem okL_res {k x : Int} (h : okL k x = true) : okL k (resF 1 x) = true := by
  unfold resF
  split
  · simp [okL, ieq]
  · exact h
theorem pfine_res {s : Stn} {p : Pos} (h : PFine s p) : PFine s (resP p true) := by
  refine ⟨h.nc, by simp [resP, h.nk], fun i b l hb hl => ?_⟩
  simp only [resP, List.getElem?_map] at hl
  obtain ⟨l0, hl0, rfl⟩ := Option.map_eq_some_iff.1 hl
  obtain ⟨h1, h2⟩ := h.row i b l0 hb hl0
  refine ⟨by simpa using h1, fun x hx => ?_⟩
  obtain ⟨y, hy, rfl⟩ := List.mem_map.1 hx
  exact okL_res (h2 y hy)
theorem okP_res {s : Stn} {p : Pos} (h1 : chkF s = 0) (h2 : posE s p = 0) : okP s (resP p true) = true := by simp [okP, h1, posE_of (pfine_res (pfine_of h2))]
/-! ### what Targets answers -/
def markL (t : List Bool) (ks : List Int) : List Bool := ks.foldl (fun t k => t.set k.toNat true) t
theorem markL_len (ks : List Int) : ∀ t : List Bool, (markL t ks).length = t.length := by
  induction ks with
  | nil => intro t; rfl
  | cons k ks ih => intro t; show (markL (t.set k.toNat true) ks).length = _; rw [ih]; simp
theorem markL_app (t : List Bool) (a b : List Int) : markL t (a ++ b) = markL (markL t a) b := by simp [markL]
theorem markL_step {t : List Bool} {ks : List Int} {j u : Nat} (h : ks[j]? = some (u : Int)) : markL t (ks.take (j + 1)) = (markL t (ks.take j)).set u true := by
  rw [take_snoc h, markL_app]; simp [markL]
def ifK (a : Int) (ks : List Int) : List Int := if ieq a 1 = true then ks else []
def bK (s : Stn) (q : Pos) (o : Int) : List Int := bndF s q (grp s q) (nodF s (grp s q) 1 o)
def rowK (s : Stn) (q : Pos) (i : Nat) : List Int := match sidF s q (grp s q) i with
  | some [a0, a1, c0, c1] => ifK a0 (bK s q a1) ++ ifK c0 (bK s q c1)
  | _ => []
def fl (f : List Bool) (i : Nat) : Bool := (f[i]?).getD false
def tgN (s : Stn) (q : Pos) (f : List Bool) : Nat → List Bool
  | 0 => List.replicate s.qs.length false
  | i + 1 => if fl f i = true then markL (tgN s q f i) (rowK s q i) else tgN s q f i
theorem tgN_len (s : Stn) (q : Pos) (f : List Bool) : ∀ i, (tgN s q f i).length = s.qs.length
  | 0 => by simp [tgN]
  | i + 1 => by
    unfold tgN
    split
    · rw [markL_len, tgN_len]
    · exact tgN_len s q f i
def tgtF (s : Stn) (p : Pos) (f : List Bool) : List Bool := if okP s p = true ∧ f.length = s.qs.length then tgN s (resP p true) f s.qs.length else []
theorem bK_in {s : Stn} {q : Pos} {o : Int} {j : Nat} {x : Int} (h : (bK s q o)[j]? = some x) : ∃ u : Nat, x = u ∧ u < s.qs.length := by
  have hm := List.mem_of_getElem? h
  unfold bK at hm
  cases hn : nodF s (grp s q) 1 o with
  | none => rw [hn] at hm; simp [bndF] at hm
  | some nd =>
    rw [hn] at hm
    simp only [bndF, bndN] at hm
    obtain ⟨u, hu, rfl⟩ := List.mem_map.1 hm
    exact ⟨u, rfl, by simpa using (List.mem_filter.1 hu).1⟩
theorem repl_b (n : Nat) : (List.replicate n [V.bool false]).flatten = (List.replicate n false).map V.bool := by
  induction n with
  | zero => rfl
  | succ n ih => rw [List.replicate_succ, List.flatten_cons, ih]; simp [List.replicate_succ]
theorem pfresh_nil {P : Program} {f : FuncId} {vs : List V} {sz : Nat} (h : PFresh P f vs .nils) : PFresh P f vs (.list sz []) := by
  intro w ro args hro hsz hr
  refine (h w ro args hro hsz hr).mono ?_
  rintro e w' ⟨rv, rfl, h1, h5⟩
  cases h5
  exact ⟨_, rfl, h1, .list0 _ _ _⟩
theorem rows_flat (l : List Bool) : rowFlat (.list 1 (l.map b1)) = true := by simp [rowFlat, b1]
theorem targets_ok (s : Stn) (p : Pos) (f : List Bool) (hl : lenB s p = true) (hf : f.length ≤ 9223372036854775807) : PFresh Try.prog 17 [.agg s.cs, .agg p.cs, .list 1 (f.map b1)] (.list 1 ((tgtF s p f).map b1)) := by
  obtain ⟨nf, hnf⟩ : ∃ n, f.length = n := ⟨_, rfl⟩
  obtain ⟨n, hn⟩ : ∃ n, s.qs.length = n := ⟨_, rfl⟩
  cases e1 : ieq (chkF s) 0
  · have ht : tgtF s p f = [] := by have := ieq_iff'.1 e1; simp [tgtF, okP, this]
    rw [ht]
    refine pfresh_nil ?_
    refine pfresh_cx D6_ok mixed (fun _ => none) Try.func17 rfl Try.ntmps17 Try.results17 (by simp) (by kernel_rfl) ?_
    repeat' first
      | (with_reducible refine gw_bool (fun _ => ?_) (fun _ => ?_))
      | (with_reducible refine condw_bool (fun _ => ?_) (fun _ => ?_))
      | simp [*, Stn.cs, Pos.cs]
  cases e2 : ieq (posE s p) 0
  · have ht : tgtF s p f = [] := by have := ieq_iff'.1 e2; simp [tgtF, okP, this]
    rw [ht]
    refine pfresh_nil ?_
    refine pfresh_cx D6_ok mixed (fun _ => none) Try.func17 rfl Try.ntmps17 Try.results17 (by simp) (by kernel_rfl) ?_
    repeat' first
      | (with_reducible refine gw_bool (fun _ => ?_) (fun _ => ?_))
      | (with_reducible refine condw_bool (fun _ => ?_) (fun _ => ?_))
      | simp [*, Stn.cs, Pos.cs]
  cases e3 : ieq (nf : Int) (n : Int)
  · have ht : tgtF s p f = [] := by
      have h3 := ieq_iff'.1 e3
      have : ¬ (f.length = s.qs.length) := by rw [hnf, hn]; omega
      simp [tgtF, this]
    rw [ht]
    refine pfresh_nil ?_
    refine pfresh_cx D6_ok mixed (fun _ => none) Try.func17 rfl Try.ntmps17 Try.results17 (by simp) (by kernel_rfl) ?_
    repeat' first
      | (with_reducible refine gw_bool (fun _ => ?_) (fun _ => ?_))
      | (with_reducible refine condw_bool (fun _ => ?_) (fun _ => ?_))
      | simp [*, Stn.cs, Pos.cs]
  have h1 := ieq_iff.1 e1
  have h2 := ieq_iff.1 e2
  have hF := fine_of h1
  have hP := pfine_of h2
  have hq := okP_res h1 h2
  have hn16 : n ≤ 16 := by have := hF.nq; omega
  have hfn : nf = n := by have := ieq_iff.1 e3; omega
  subst hfn
  have ht : tgtF s p f = tgN s (resP p true) f nf := by simp [tgtF, okP, h1, h2, hnf, hn]
  have hrs : p.cl.length ≤ 1000 ∧ p.lk.length ≤ 1000 ∧ ∀ l ∈ p.lk, l.length ≤ 1000 := by
    refine ⟨by have := hP.nc; omega, by have := hP.nk; omega, fun l hl => ?_⟩
    obtain ⟨i, hi, rfl⟩ := List.mem_iff_getElem.1 hl
    have hk := hP.nk
    obtain ⟨b, hb, _⟩ := at_ex (l := s.qs) (i := i) (by omega)
    have := (hP.row i b _ hb (List.getElem?_eq_getElem hi)).1
    have := (hF.lk b (List.mem_of_getElem? hb)).2.2.2
    omega
  rw [ht]
  clear ht
  have hwq := wfg_of hq
  have hTr := Tres_at (c := true) hrs
  clear hrs hP
  obtain ⟨q, hqq⟩ : ∃ q, resP p true = q := ⟨_, rfl⟩
  rw [hqq] at hq hwq hTr ⊢
  have hch := chunks_b1 (tgN s q f nf)
  have hpu := pure_b1 (tgN s q f nf)
  have hgl : (tgN s q f nf).length = nf := by rw [tgN_len]; exact hn
  rw [hgl] at hch
  obtain ⟨R, hR⟩ : ∃ R, tgN s q f nf = R := ⟨_, rfl⟩
  rw [hR] at hch hpu hgl
  rw [hR]
  replace hR : Hid (tgN s q f nf = R) := hR
  have hmk := repl_b nf
  have f5 : (nf : Int) ≤ 281474976710656 := by omega
  have f6 : (nf : Int) ≤ 9223372036854775807 := by omega
  refine pfresh_cx D6_ok mixed (fun _ => none) Try.func17 rfl Try.ntmps17 Try.results17 (by simp) (by kernel_rfl) ?_
  repeat' first
    | (with_reducible refine gw_bool (fun _ => ?_) (fun _ => ?_))
    | (with_reducible refine condw_bool (fun _ => ?_) (fun _ => ?_))
    | simp [*, Stn.cs, Pos.cs, makeV]
  refine lp_go (D := (fun _ => none)) D6_ok mixed (by kernel_rfl) [2, 3, 7, 8, 39] [3, 4, 7, 11, 12] (α := Nat) (fun i e h => i ≤ nf ∧ e 40 = .int .i64 i ∧ h 37 = some ⟨4, (tgN s q f i).map V.bool⟩) (fun i => nf - i) 0 ?_ ?_
  · refine ⟨by omega, by simp, by simp [tgN, hn, hmk]⟩
  · rintro i e h hk hkh ⟨hi, g7, g37⟩
    simp [Keep] at hk
    simp [KeepH] at hkh
    by_cases hlt : i < nf
    · have hif : i < f.length := hnf ▸ hlt
      obtain ⟨fb, hfb, hfb'⟩ := at_ex hif
      have f1 : ilt (i : Int) (nf : Int) = true := ilt_t (by omega)
      have w1 : IntKind.i64.wrap ((i : Int) + 1) = ((i + 1 : Nat) : Int) := wrap_succ (by omega)
      have hst : tgN s q f (i + 1) = if fb = true then markL (tgN s q f i) (rowK s q i) else tgN s q f i := by
        have : fl f i = fb := by simp [fl, hfb]
        rw [← this]; rfl
      have hTl : (tgN s q f i).length = nf := by rw [tgN_len]; exact hn
      cases fb with
      | false =>
        rw [if_neg (by simp)] at hst
        replace hst : Hid (tgN s q f (i + 1) = tgN s q f i) := hst
        generalize tgN s q f i = T at g37 hst hTl
        clear hR hch hpu hgl hmk hwq hTr
        repeat' first
          | (with_reducible refine gw_bool (fun _ => ?_) (fun _ => ?_))
          | (with_reducible refine condw_bool (fun _ => ?_) (fun _ => ?_))
          | simp [*, b1]
        refine nxt_go (i + 1) (View.refl _ _) (by omega) (by simp [*, Keep, St.forget, scr, scrC]) (by simp [*, KeepH, St.forget, scr, scrC]) ?_
        refine ⟨by omega, by simp [*], ?_⟩
        rw [hst.out]; simp [*]
      | true =>
        rw [if_pos rfl] at hst
        obtain ⟨b, hb, -⟩ := at_ex (l := s.qs) (i := i) (by omega)
        obtain ⟨l, hlq, -⟩ := wf_at hwq hb
        obtain ⟨a0, a1, c0, c1, hsd⟩ := sid4 (grp s q) b l
        have hS : sidF s q (grp s q) i = some [a0, a1, c0, c1] := by
          rw [← hsd]
          have : (i : Int) < s.qs.length := by omega
          simp [sidF, hwq, hb, hlq, this]
        have hrow : rowK s q i = ifK a0 (bK s q a1) ++ ifK c0 (bK s q c1) := by simp [rowK, hS]
        rw [hrow, markL_app] at hst
        replace hst : Hid (tgN s q f (i + 1) = markL (markL (tgN s q f i) (ifK a0 (bK s q a1))) (ifK c0 (bK s q c1))) := hst
        generalize tgN s q f i = T at g37 hst hTl
        clear hR hch hpu hgl hmk hwq hTr hb hlq hsd hrow
        repeat' first
          | (with_reducible refine gw_bool (fun _ => ?_) (fun _ => ?_))
          | (with_reducible refine condw_bool (fun _ => ?_) (fun _ => ?_))
          | simp [*, b1]
        refine lp_go (D := (fun _ => none)) D6_ok mixed (by kernel_rfl) [2, 3, 7, 8, 9, 39, 40, 41, 42, 43, 44, 45, 46, 47, 48, 49, 50, 51] [3, 4, 7, 11, 12] (α := Nat) (fun c e h => c ≤ 2 ∧ e 52 = .int .i64 c ∧ h 37 = some ⟨4, (if c = 0 then T else if c = 1 then markL T (ifK a0 (bK s q a1)) else markL (markL T (ifK a0 (bK s q a1))) (ifK c0 (bK s q c1))).map V.bool⟩) (fun c => 2 - c) 0 ?_ ?_
        · refine ⟨by omega, by simp, by simp [*]⟩
        · have hk0 := hk
          have hkh0 := hkh
          have g70 := g7
          clear hk hkh g7 g37
          rintro c e h hk hkh ⟨hc, g7, g37⟩
          simp [Keep, hk0, hkh0, g70] at hk
          simp [KeepH, hk0, hkh0] at hkh
          rcases (show c = 0 ∨ c = 1 ∨ c = 2 by omega) with rfl | rfl | rfl
          · rw [if_pos rfl] at g37
            have hTl2 : (T).length = nf := by simp [markL_len, hTl]
            obtain ⟨U, hU⟩ : ∃ U, T = U := ⟨_, rfl⟩
            rw [hU] at g37 hTl2
            cases hz : ieq a0 1
            · have hnx0 : markL T (ifK a0 (bK s q a1)) = U := by rw [← hU]; simp [ifK, hz, markL]
              have hnx : Hid (markL T (ifK a0 (bK s q a1)) = U) := hnx0
              clear hnx0
              clear hst hU
              repeat' first
                | (with_reducible refine gw_bool (fun _ => ?_) (fun _ => ?_))
                | (with_reducible refine condw_bool (fun _ => ?_) (fun _ => ?_))
                | simp [*]
              refine nxt_go (0 + 1) (View.forget _ _ 11) (by omega) (by simp [*, Keep, St.forget, scr, scrC, usesC, usesA]) (by simp [*, KeepH, St.forget, scr, scrC]) ?_
              refine ⟨by omega, by simp [*, St.forget, scr, scrC], ?_⟩
              rw [if_neg (by decide), if_pos rfl]
              rw [hnx.out]; simp [*, St.forget, scr, scrC, scrB_comp]
            · have hnx0 : markL T (ifK a0 (bK s q a1)) = markL U (bK s q a1) := by rw [← hU]; simp [ifK, hz]
              have hnx : Hid (markL T (ifK a0 (bK s q a1)) = markL U (bK s q a1)) := hnx0
              clear hnx0
              have hin : ∀ (j : Nat) (x : Int), (bK s q a1)[j]? = some x → ∃ u : Nat, x = u ∧ u < nf := fun j x hx => by have := bK_in hx; rw [hn] at this; exact this
              have hfold : bndF s q (grp s q) (nodF s (grp s q) 1 a1) = bK s q a1 := rfl
              obtain ⟨K, hK⟩ : ∃ K, bK s q a1 = K := ⟨_, rfl⟩
              have hnx0 : markL T (ifK a0 (bK s q a1)) = markL U K := by rw [show markL U K = markL U (bK s q a1) by rw [hK]]; exact hnx.out
              rw [hK] at hin hfold
              clear hst hU hK hnx
              have hnx : Hid (markL T (ifK a0 (bK s q a1)) = markL U K) := hnx0
              clear hnx0
              have hKl : K.length ≤ 1000 ∨ 1000 < K.length := by omega
              obtain ⟨m, hm⟩ : ∃ m, K.length = m := ⟨_, rfl⟩
              have hml : m ≤ 9223372036854775806 := by
                rw [← hm, ← hfold]
                cases nodF s (grp s q) 1 a1 with
                | none => simp [bndF]
                | some nd => simp only [bndF]; have := bndN_len s q (grp s q) nd s.qs.length; omega
              repeat' first
                | (with_reducible refine gw_bool (fun _ => ?_) (fun _ => ?_))
                | (with_reducible refine condw_bool (fun _ => ?_) (fun _ => ?_))
                | simp [*]
              refine lp_go (D := (fun _ => none)) D6_ok mixed (by kernel_rfl) [2, 3, 7, 8, 9, 11, 12, 39, 40, 41, 42, 43, 44, 45, 46, 47, 48, 49, 50, 51, 52, 53, 54, 55, 56, 57, 58, 59, 60, 61, 62, 63, 64, 65] [3, 4, 7, 11, 12] (α := Nat) (fun j e h => j ≤ m ∧ e 66 = .int .i64 j ∧ h 37 = some ⟨4, (markL U (K.take j)).map V.bool⟩) (fun j => m - j) 0 ?_ ?_
              · exact ⟨by omega, by simp, by simp [*, markL]⟩
              · have hk1 := hk
                have hkh1 := hkh
                have g71 := g7
                clear hk hkh g7 g37
                rintro j e h hk hkh ⟨hj, g7, g37⟩
                simp [Keep, hk1, hkh1, g71, hfold, hm] at hk
                simp [KeepH, hk1, hkh1] at hkh
                have hCl : (markL U (K.take j)).length = nf := by rw [markL_len]; exact hTl2
                by_cases hjlt : j < m
                · obtain ⟨x, hx, hx'⟩ := at_ex (l := K) (i := j) (by omega)
                  obtain ⟨u, hxu, hul⟩ := hin j x hx
                  subst hxu
                  have hnj : Hid (markL U (K.take (j + 1)) = (markL U (K.take j)).set u true) := markL_step hx
                  have f2 : ilt (j : Int) (m : Int) = true := ilt_t (by omega)
                  have w2 : IntKind.i64.wrap ((j : Int) + 1) = ((j + 1 : Nat) : Int) := wrap_succ (by omega)
                  generalize markL U (K.take j) = C at g37 hCl hnj
                  have hu1 : u + 1 ≤ nf := by omega
                  clear hnx hin hfold hTl2
                  repeat' first
                    | (with_reducible refine gw_bool (fun _ => ?_) (fun _ => ?_))
                    | (with_reducible refine condw_bool (fun _ => ?_) (fun _ => ?_))
                    | simp [*, i1, setsV]
                  refine nxt_go (j + 1) (View.refl _ _) (by omega) (by simp [*, Keep, St.forget, scr, scrC]) (by simp [*, KeepH, St.forget, scr, scrC]) ?_
                  refine ⟨by omega, by simp [*], ?_⟩
                  rw [hnj.out]; simp [*, setsV, List.map_set]
                · have f2 : ilt (j : Int) (m : Int) = false := ilt_f (by omega)
                  have e2 : j = K.length := by omega
                  rw [e2, List.take_length] at g37
                  have hnx' := hnx.out
                  clear e2 hCl hnx hin hfold
                  generalize markL U K = C at g37 hnx'
                  replace hnx' : Hid (markL T (ifK a0 (bK s q a1)) = C) := hnx'
                  repeat' first
                    | (with_reducible refine gw_bool (fun _ => ?_) (fun _ => ?_))
                    | (with_reducible refine condw_bool (fun _ => ?_) (fun _ => ?_))
                    | simp [*]
                  refine nxt_go (0 + 1) ((View.forget _ _ 11).trans (View.forget _ _ 12)) (by omega) (by simp [*, Keep, St.forget, scr, scrC, usesC, usesA]) (by simp [*, KeepH, St.forget, scr, scrC]) ?_
                  refine ⟨by omega, by simp [*, St.forget, scr, scrC], ?_⟩
                  rw [if_neg (by decide), if_pos rfl]
                  rw [hnx'.out]; simp [*, St.forget, scr, scrC, scrB_comp]
          · rw [if_neg (by decide), if_pos rfl] at g37
            have hTl2 : (markL T (ifK a0 (bK s q a1))).length = nf := by simp [markL_len, hTl]
            obtain ⟨U, hU⟩ : ∃ U, markL T (ifK a0 (bK s q a1)) = U := ⟨_, rfl⟩
            rw [hU] at g37 hTl2
            cases hz : ieq c0 1
            · have hnx0 : markL (markL T (ifK a0 (bK s q a1))) (ifK c0 (bK s q c1)) = U := by rw [← hU]; simp [ifK, hz, markL]
              have hnx : Hid (markL (markL T (ifK a0 (bK s q a1))) (ifK c0 (bK s q c1)) = U) := hnx0
              clear hnx0
              clear hst hU
              repeat' first
                | (with_reducible refine gw_bool (fun _ => ?_) (fun _ => ?_))
                | (with_reducible refine condw_bool (fun _ => ?_) (fun _ => ?_))
                | simp [*]
              refine nxt_go (1 + 1) (View.forget _ _ 11) (by omega) (by simp [*, Keep, St.forget, scr, scrC, usesC, usesA]) (by simp [*, KeepH, St.forget, scr, scrC]) ?_
              refine ⟨by omega, by simp [*, St.forget, scr, scrC], ?_⟩
              rw [if_neg (by decide), if_neg (by decide)]
              rw [hnx.out]; simp [*, St.forget, scr, scrC, scrB_comp]
            · have hnx0 : markL (markL T (ifK a0 (bK s q a1))) (ifK c0 (bK s q c1)) = markL U (bK s q c1) := by rw [← hU]; simp [ifK, hz]
              have hnx : Hid (markL (markL T (ifK a0 (bK s q a1))) (ifK c0 (bK s q c1)) = markL U (bK s q c1)) := hnx0
              clear hnx0
              have hin : ∀ (j : Nat) (x : Int), (bK s q c1)[j]? = some x → ∃ u : Nat, x = u ∧ u < nf := fun j x hx => by have := bK_in hx; rw [hn] at this; exact this
              have hfold : bndF s q (grp s q) (nodF s (grp s q) 1 c1) = bK s q c1 := rfl
              obtain ⟨K, hK⟩ : ∃ K, bK s q c1 = K := ⟨_, rfl⟩
              have hnx0 : markL (markL T (ifK a0 (bK s q a1))) (ifK c0 (bK s q c1)) = markL U K := by rw [show markL U K = markL U (bK s q c1) by rw [hK]]; exact hnx.out
              rw [hK] at hin hfold
              clear hst hU hK hnx
              have hnx : Hid (markL (markL T (ifK a0 (bK s q a1))) (ifK c0 (bK s q c1)) = markL U K) := hnx0
              clear hnx0
              have hKl : K.length ≤ 1000 ∨ 1000 < K.length := by omega
              obtain ⟨m, hm⟩ : ∃ m, K.length = m := ⟨_, rfl⟩
              have hml : m ≤ 9223372036854775806 := by
                rw [← hm, ← hfold]
                cases nodF s (grp s q) 1 c1 with
                | none => simp [bndF]
                | some nd => simp only [bndF]; have := bndN_len s q (grp s q) nd s.qs.length; omega
              repeat' first
                | (with_reducible refine gw_bool (fun _ => ?_) (fun _ => ?_))
                | (with_reducible refine condw_bool (fun _ => ?_) (fun _ => ?_))
                | simp [*]
              refine lp_go (D := (fun _ => none)) D6_ok mixed (by kernel_rfl) [2, 3, 7, 8, 9, 11, 12, 39, 40, 41, 42, 43, 44, 45, 46, 47, 48, 49, 50, 51, 52, 53, 54, 55, 56, 57, 58, 59, 60, 61, 62, 63, 64, 65] [3, 4, 7, 11, 12] (α := Nat) (fun j e h => j ≤ m ∧ e 66 = .int .i64 j ∧ h 37 = some ⟨4, (markL U (K.take j)).map V.bool⟩) (fun j => m - j) 0 ?_ ?_
              · exact ⟨by omega, by simp, by simp [*, markL]⟩
              · have hk1 := hk
                have hkh1 := hkh
                have g71 := g7
                clear hk hkh g7 g37
                rintro j e h hk hkh ⟨hj, g7, g37⟩
                simp [Keep, hk1, hkh1, g71, hfold, hm] at hk
                simp [KeepH, hk1, hkh1] at hkh
                have hCl : (markL U (K.take j)).length = nf := by rw [markL_len]; exact hTl2
                by_cases hjlt : j < m
                · obtain ⟨x, hx, hx'⟩ := at_ex (l := K) (i := j) (by omega)
                  obtain ⟨u, hxu, hul⟩ := hin j x hx
                  subst hxu
                  have hnj : Hid (markL U (K.take (j + 1)) = (markL U (K.take j)).set u true) := markL_step hx
                  have f2 : ilt (j : Int) (m : Int) = true := ilt_t (by omega)
                  have w2 : IntKind.i64.wrap ((j : Int) + 1) = ((j + 1 : Nat) : Int) := wrap_succ (by omega)
                  generalize markL U (K.take j) = C at g37 hCl hnj
                  have hu1 : u + 1 ≤ nf := by omega
                  clear hnx hin hfold hTl2
                  repeat' first
                    | (with_reducible refine gw_bool (fun _ => ?_) (fun _ => ?_))
                    | (with_reducible refine condw_bool (fun _ => ?_) (fun _ => ?_))
                    | simp [*, i1, setsV]
                  refine nxt_go (j + 1) (View.refl _ _) (by omega) (by simp [*, Keep, St.forget, scr, scrC]) (by simp [*, KeepH, St.forget, scr, scrC]) ?_
                  refine ⟨by omega, by simp [*], ?_⟩
                  rw [hnj.out]; simp [*, setsV, List.map_set]
                · have f2 : ilt (j : Int) (m : Int) = false := ilt_f (by omega)
                  have e2 : j = K.length := by omega
                  rw [e2, List.take_length] at g37
                  have hnx' := hnx.out
                  clear e2 hCl hnx hin hfold
                  generalize markL U K = C at g37 hnx'
                  replace hnx' : Hid (markL (markL T (ifK a0 (bK s q a1))) (ifK c0 (bK s q c1)) = C) := hnx'
                  repeat' first
                    | (with_reducible refine gw_bool (fun _ => ?_) (fun _ => ?_))
                    | (with_reducible refine condw_bool (fun _ => ?_) (fun _ => ?_))
                    | simp [*]
                  refine nxt_go (1 + 1) ((View.forget _ _ 11).trans (View.forget _ _ 12)) (by omega) (by simp [*, Keep, St.forget, scr, scrC, usesC, usesA]) (by simp [*, KeepH, St.forget, scr, scrC]) ?_
                  refine ⟨by omega, by simp [*, St.forget, scr, scrC], ?_⟩
                  rw [if_neg (by decide), if_neg (by decide)]
                  rw [hnx'.out]; simp [*, St.forget, scr, scrC, scrB_comp]
          · rw [if_neg (by decide), if_neg (by decide)] at g37
            have hst' := hst.out
            generalize markL (markL T (ifK a0 (bK s q a1))) (ifK c0 (bK s q c1)) = C at g37 hst'
            replace hst' : Hid (tgN s q f (i + 1) = C) := hst'
            clear hst
            repeat' first
              | (with_reducible refine gw_bool (fun _ => ?_) (fun _ => ?_))
              | (with_reducible refine condw_bool (fun _ => ?_) (fun _ => ?_))
              | simp [*]
            refine nxt_go (i + 1) (View.refl _ _) (by omega) (by simp [*, Keep, St.forget, scr, scrC]) (by simp [*, KeepH, St.forget, scr, scrC]) ?_
            refine ⟨by omega, by simp [*], ?_⟩
            rw [hst'.out]; simp [*]
    · have f1 : ilt (i : Int) (nf : Int) = false := ilt_f (by omega)
      have e1 : i = nf := by omega
      rw [e1, hR.out] at g37
      clear hR hmk
      repeat' first
        | (with_reducible refine gw_bool (fun _ => ?_) (fun _ => ?_))
        | (with_reducible refine condw_bool (fun _ => ?_) (fun _ => ?_))
        | simp [*, b1]
end Go.Proofs.Ytcbddoopmkhlfaa
