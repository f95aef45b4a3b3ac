/-
  Targets of breaker failure protection.
  The normal position; large diagrams; the law's guards.
  The law's sanity check and guard.
  Groups of buses: what they are like, and how closing what moves merges them.
  The laws' guard; the law of moving links.
-/
import Derived.Test.YtcbddoopmkhlfaaJ5
import Derived.Test.YtcbddoopmkhlfaaJ6
section
namespace Go.Proofs.Ytcbddoopmkhlfaa
open Go.Pv Go.RowKit
set_option linter.unusedSimpArgs false
set_option linter.unusedVariables false
set_option maxRecDepth 100000
set_option maxHeartbeats 2000000
attribute [-simp] Tclo_at Tgrp_at Tchk Tpchk TcI TcB Tclo Tgrp Tsid Tnod Tlook Tbnd

def Tres : List V → Option V
  | [.agg b, .bool c] => (match unPos b with
    | some p => if p.cl.length ≤ 1000 ∧ p.lk.length ≤ 1000 ∧ ∀ l ∈ p.lk, l.length ≤ 1000 then some (.agg (resP p c).cs) else none
    | none => none)
  | _ => none
theorem Tres_at {p : Pos} {c : Bool} (h : p.cl.length ≤ 1000 ∧ p.lk.length ≤ 1000 ∧ ∀ l ∈ p.lk, l.length ≤ 1000) : Tres [.agg [.list 1 (p.cl.map b1), .list 1 (p.lk.map r1)], .bool c] = some (.agg (resP p c).cs) := by
  have e2 := unPos_cs p
  unfold Pos.cs at e2
  simp only [Tres, e2]
  exact if_pos h
theorem res_tab : ∀ vs v, Tres vs = some v → PCall Try.prog 34 vs v := by
  intro vs v h; unfold Tres at h; split at h
  · split at h
    · rename_i h1
      split at h
      · rename_i hl; cases h; rw [unPos_inv _ _ h1]; exact resolve_ok _ _ hl.1 hl.2.1 hl.2.2
      · cases h
    · cases h
  · cases h
def TSd : List V → Option V
  | [.agg a, .agg b, .int .i64 i] => (match unStn a, unPos b with
    | some s, some p => if okP s p = true then (match sidF s p (grp s p) i with
      | some S => some (.agg (S.map (V.int .i64)))
      | none => none) else none
    | _, _ => none)
  | _ => none
theorem TSd_at {s : Stn} {p : Pos} {i : Int} {S : List Int} (h : okP s p = true) (hS : sidF s p (grp s p) i = some S) : TSd [.agg [.str s.nm, .list 1 (s.bs.map s1), .list 5 (s.ls.map Ln.cs), .list 6 (s.ss.map Sr.cs), .list 12 (s.qs.map By.cs)], .agg [.list 1 (p.cl.map b1), .list 1 (p.lk.map r1)], .int .i64 i] = some (.agg (S.map (V.int .i64))) := by
  have e1 := unStn_cs s
  have e2 := unPos_cs p
  unfold Stn.cs at e1
  unfold Pos.cs at e2
  simp [TSd, e1, e2, h, hS]
theorem Sd_tab : ∀ vs v, TSd vs = some v → PCall Try.prog 35 vs v := by
  intro vs v h; unfold TSd at h; split at h
  · split at h
    · rename_i h1 h2
      split at h
      · rename_i hl
        split at h
        · rename_i hS; cases h; rw [unStn_inv _ _ h1, unPos_inv _ _ h2]; exact Sides_ok hl _ _ hS
        · cases h
      · cases h
    · cases h
  · cases h
def TBd : List V → Option V
  | [.agg a, .agg b, .agg [.int .i64 k, .int .i64 o]] => (match unStn a, unPos b with
    | some s, some p => if okP s p = true then some (.list 1 ((bndF s p (grp s p) (nodF s (grp s p) k o)).map i1)) else none
    | _, _ => none)
  | _ => none
theorem TBd_at {s : Stn} {p : Pos} {k o : Int} (h : okP s p = true) : TBd [.agg [.str s.nm, .list 1 (s.bs.map s1), .list 5 (s.ls.map Ln.cs), .list 6 (s.ss.map Sr.cs), .list 12 (s.qs.map By.cs)], .agg [.list 1 (p.cl.map b1), .list 1 (p.lk.map r1)], .agg [.int .i64 k, .int .i64 o]] = some (.list 1 ((bndF s p (grp s p) (nodF s (grp s p) k o)).map i1)) := by
  have e1 := unStn_cs s
  have e2 := unPos_cs p
  unfold Stn.cs at e1
  unfold Pos.cs at e2
  simp [TBd, e1, e2, h]
theorem Bd_tab : ∀ vs v, TBd vs = some v → PCall Try.prog 25 vs v := by
  intro vs v h; unfold TBd at h; split at h
  · split at h
    · rename_i h1 h2
      split at h
      · rename_i hl
        cases h; rw [unStn_inv _ _ h1, unPos_inv _ _ h2]; exact Boundary_ok hl _ _
      · cases h
    · cases h
  · cases h
def D6 : Tab := add 34 Tres (add 35 TSd (add 25 TBd (D5)))
theorem D6_at (f : FuncId) (vs : List V) : D6.at' f vs = if f = 34 then Tres vs else if f = 35 then TSd vs else if f = 25 then TBd vs else D5.at' f vs := rfl
theorem D6_fr (f : FuncId) : D6.fr f = if f = 34 then false else if f = 35 then false else if f = 25 then false else D5.fr f := rfl
theorem D6_gb (f : FuncId) : D6.gb f = D5.gb f := rfl
theorem D6_gv (f : FuncId) (vs : List V) : D6.gv f vs = D5.gv f vs := rfl
attribute [simp] D6_at D6_fr D6_gb D6_gv TBd TSd Tres
theorem D6_ok : TabOK Try.prog D6 := by
  refine add_ok (add_ok (add_ok (D5_ok) (by kernel_rfl) ?_) (by kernel_rfl) ?_) (by kernel_rfl) ?_
  · exact Bd_tab
  · exact Sd_tab
  · exact res_tab
attribute [-simp] Tres TSd TBd
attribute [simp] Tres_at TSd_at TBd_at
/-! ### a position that is resolved is valid -/
theorem posE_of {s : Stn} {p : Pos} (h : PFine s p) : posE s p = 0 := by
  have e1 : ieq (p.cl.length : Int) (s.qs.length : Int) = true := ieq_t (by rw [h.nc])
  have e2 : ieq (p.lk.length : Int) (s.qs.length : Int) = true := ieq_t (by rw [h.nk])
  have e3 : (List.range s.qs.length).all (lenOk s p) = true := List.all_eq_true.2 fun i hi => by
    have hi : i < s.qs.length := by simpa using hi
    have hk := h.nk
    obtain ⟨b, hb, _⟩ := at_ex (l := s.qs) (i := i) hi
    obtain ⟨l, hl, _⟩ := at_ex (l := p.lk) (i := i) (by omega)
    simp only [lenOk, hb, hl]
    exact ieq_t (by rw [(h.row i b l hb hl).1])
  have e4 : (List.range s.qs.length).all (rowOk s p) = true := List.all_eq_true.2 fun i hi => by
    have hi : i < s.qs.length := by simpa using hi
    have hk := h.nk
    obtain ⟨b, hb, _⟩ := at_ex (l := s.qs) (i := i) hi
    obtain ⟨l, hl, _⟩ := at_ex (l := p.lk) (i := i) (by omega)
    simp only [rowOk, hb, hl]
    exact List.all_eq_true.2 (h.row i b l hb hl).2
  simp only [posE, e1, e2, e3, e4]
  simp
theorem okL_res {k x : Int} (h : okL k x = true) : okL k (resF 1 x) = true := by
  unfold resF
  split
  · simp [okL, ieq]
  · exact h
theorem pfine_res {s : Stn} {p : Pos} (h : PFine s p) : PFine s (resP p true) := by
  refine ⟨h.nc, by simp [resP, h.nk], fun i b l hb hl => ?_⟩
  simp only [resP, List.getElem?_map] at hl
  obtain ⟨l0, hl0, rfl⟩ := Option.map_eq_some_iff.1 hl
  obtain ⟨h1, h2⟩ := h.row i b l0 hb hl0
  refine ⟨by simpa using h1, fun x hx => ?_⟩
  obtain ⟨y, hy, rfl⟩ := List.mem_map.1 hx
  exact okL_res (h2 y hy)
theorem okP_res {s : Stn} {p : Pos} (h1 : chkF s = 0) (h2 : posE s p = 0) : okP s (resP p true) = true := by simp [okP, h1, posE_of (pfine_res (pfine_of h2))]
/-! ### what Targets answers -/
def markL (t : List Bool) (ks : List Int) : List Bool := ks.foldl (fun t k => t.set k.toNat true) t
theorem markL_len (ks : List Int) : ∀ t : List Bool, (markL t ks).length = t.length := by
  induction ks with
  | nil => intro t; rfl
  | cons k ks ih => intro t; show (markL (t.set k.toNat true) ks).length = _; rw [ih]; simp
theorem markL_app (t : List Bool) (a b : List Int) : markL t (a ++ b) = markL (markL t a) b := by simp [markL]
theorem markL_step {t : List Bool} {ks : List Int} {j u : Nat} (h : ks[j]? = some (u : Int)) : markL t (ks.take (j + 1)) = (markL t (ks.take j)).set u true := by
  rw [take_snoc h, markL_app]; simp [markL]
def ifK (a : Int) (ks : List Int) : List Int := if ieq a 1 = true then ks else []
def bK (s : Stn) (q : Pos) (o : Int) : List Int := bndF s q (grp s q) (nodF s (grp s q) 1 o)
def rowK (s : Stn) (q : Pos) (i : Nat) : List Int := match sidF s q (grp s q) i with
  | some [a0, a1, c0, c1] => ifK a0 (bK s q a1) ++ ifK c0 (bK s q c1)
  | _ => []
def fl (f : List Bool) (i : Nat) : Bool := (f[i]?).getD false
def tgN (s : Stn) (q : Pos) (f : List Bool) : Nat → List Bool
  | 0 => List.replicate s.qs.length false
  | i + 1 => if fl f i = true then markL (tgN s q f i) (rowK s q i) else tgN s q f i
theorem tgN_len (s : Stn) (q : Pos) (f : List Bool) : ∀ i, (tgN s q f i).length = s.qs.length
  | 0 => by simp [tgN]
  | i + 1 => by
    unfold tgN
    split
    · rw [markL_len, tgN_len]
    · exact tgN_len s q f i
def tgtF (s : Stn) (p : Pos) (f : List Bool) : List Bool := if okP s p = true ∧ f.length = s.qs.length then tgN s (resP p true) f s.qs.length else []
theorem bK_in {s : Stn} {q : Pos} {o : Int} {j : Nat} {x : Int} (h : (bK s q o)[j]? = some x) : ∃ u : Nat, x = u ∧ u < s.qs.length := by
  have hm := List.mem_of_getElem? h
  unfold bK at hm
  cases hn : nodF s (grp s q) 1 o with
  | none => rw [hn] at hm; simp [bndF] at hm
  | some nd =>
    rw [hn] at hm
    simp only [bndF, bndN] at hm
    obtain ⟨u, hu, rfl⟩ := List.mem_map.1 hm
    exact ⟨u, rfl, by simpa using (List.mem_filter.1 hu).1⟩
theorem repl_b (n : Nat) : (List.replicate n [V.bool false]).flatten = (List.replicate n false).map V.bool := by
  induction n with
  | zero => rfl
  | succ n ih => rw [List.replicate_succ, List.flatten_cons, ih]; simp [List.replicate_succ]
theorem pfresh_nil {P : Program} {f : FuncId} {vs : List V} {sz : Nat} (h : PFresh P f vs .nils) : PFresh P f vs (.list sz []) := by
  intro w ro args hro hsz hr
  refine (h w ro args hro hsz hr).mono ?_
  rintro e w' ⟨rv, rfl, h1, h5⟩
  cases h5
  exact ⟨_, rfl, h1, .list0 _ _ _⟩
theorem rows_flat (l : List Bool) : rowFlat (.list 1 (l.map b1)) = true := by simp [rowFlat, b1]
theorem targets_ok (s : Stn) (p : Pos) (f : List Bool) (hl : lenB s p = true) (hf : f.length ≤ 9223372036854775807) : PFresh Try.prog 17 [.agg s.cs, .agg p.cs, .list 1 (f.map b1)] (.list 1 ((tgtF s p f).map b1)) := by
  obtain ⟨nf, hnf⟩ : ∃ n, f.length = n := ⟨_, rfl⟩
  obtain ⟨n, hn⟩ : ∃ n, s.qs.length = n := ⟨_, rfl⟩
  cases e1 : ieq (chkF s) 0
  · have ht : tgtF s p f = [] := by have := ieq_iff'.1 e1; simp [tgtF, okP, this]
    rw [ht]
    refine pfresh_nil ?_
    refine pfresh_cx D6_ok mixed (fun _ => none) Try.func17 rfl Try.ntmps17 Try.results17 (by simp) (by kernel_rfl) ?_
    repeat' first
      | (with_reducible refine gw_bool (fun _ => ?_) (fun _ => ?_))
      | (with_reducible refine condw_bool (fun _ => ?_) (fun _ => ?_))
      | simp [*, Stn.cs, Pos.cs]
  cases e2 : ieq (posE s p) 0
  · have ht : tgtF s p f = [] := by have := ieq_iff'.1 e2; simp [tgtF, okP, this]
    rw [ht]
    refine pfresh_nil ?_
    refine pfresh_cx D6_ok mixed (fun _ => none) Try.func17 rfl Try.ntmps17 Try.results17 (by simp) (by kernel_rfl) ?_
    repeat' first
      | (with_reducible refine gw_bool (fun _ => ?_) (fun _ => ?_))
      | (with_reducible refine condw_bool (fun _ => ?_) (fun _ => ?_))
      | simp [*, Stn.cs, Pos.cs]
  cases e3 : ieq (nf : Int) (n : Int)
  · have ht : tgtF s p f = [] := by
      have h3 := ieq_iff'.1 e3
      have : ¬ (f.length = s.qs.length) := by rw [hnf, hn]; omega
      simp [tgtF, this]
    rw [ht]
    refine pfresh_nil ?_
    refine pfresh_cx D6_ok mixed (fun _ => none) Try.func17 rfl Try.ntmps17 Try.results17 (by simp) (by kernel_rfl) ?_
    repeat' first
      | (with_reducible refine gw_bool (fun _ => ?_) (fun _ => ?_))
      | (with_reducible refine condw_bool (fun _ => ?_) (fun _ => ?_))
      | simp [*, Stn.cs, Pos.cs]
  have h1 := ieq_iff.1 e1
  have h2 := ieq_iff.1 e2
  have hF := fine_of h1
  have hP := pfine_of h2
  have hq := okP_res h1 h2
  have hn16 : n ≤ 16 := by have := hF.nq; omega
  have hfn : nf = n := by have := ieq_iff.1 e3; omega
  subst hfn
  have ht : tgtF s p f = tgN s (resP p true) f nf := by simp [tgtF, okP, h1, h2, hnf, hn]
  have hrs : p.cl.length ≤ 1000 ∧ p.lk.length ≤ 1000 ∧ ∀ l ∈ p.lk, l.length ≤ 1000 := by
    refine ⟨by have := hP.nc; omega, by have := hP.nk; omega, fun l hl => ?_⟩
    obtain ⟨i, hi, rfl⟩ := List.mem_iff_getElem.1 hl
    have hk := hP.nk
    obtain ⟨b, hb, _⟩ := at_ex (l := s.qs) (i := i) (by omega)
    have := (hP.row i b _ hb (List.getElem?_eq_getElem hi)).1
    have := (hF.lk b (List.mem_of_getElem? hb)).2.2.2
    omega
  rw [ht]
  clear ht
  have hwq := wfg_of hq
  have hTr := Tres_at (c := true) hrs
  clear hrs hP
  obtain ⟨q, hqq⟩ : ∃ q, resP p true = q := ⟨_, rfl⟩
  rw [hqq] at hq hwq hTr ⊢
  have hch := chunks_b1 (tgN s q f nf)
  have hpu := pure_b1 (tgN s q f nf)
  have hgl : (tgN s q f nf).length = nf := by rw [tgN_len]; exact hn
  rw [hgl] at hch
  obtain ⟨R, hR⟩ : ∃ R, tgN s q f nf = R := ⟨_, rfl⟩
  rw [hR] at hch hpu hgl
  rw [hR]
  replace hR : Hid (tgN s q f nf = R) := hR
  have hmk := repl_b nf
  have f5 : (nf : Int) ≤ 281474976710656 := by omega
  have f6 : (nf : Int) ≤ 9223372036854775807 := by omega
  refine pfresh_cx D6_ok mixed (fun _ => none) Try.func17 rfl Try.ntmps17 Try.results17 (by simp) (by kernel_rfl) ?_
  repeat' first
    | (with_reducible refine gw_bool (fun _ => ?_) (fun _ => ?_))
    | (with_reducible refine condw_bool (fun _ => ?_) (fun _ => ?_))
    | simp [*, Stn.cs, Pos.cs, makeV]
  refine lp_go (D := (fun _ => none)) D6_ok mixed (by kernel_rfl) [2, 3, 7, 8, 39] [3, 4, 7, 11, 12] (α := Nat) (fun i e h => i ≤ nf ∧ e 40 = .int .i64 i ∧ h 37 = some ⟨4, (tgN s q f i).map V.bool⟩) (fun i => nf - i) 0 ?_ ?_
  · refine ⟨by omega, by simp, by simp [tgN, hn, hmk]⟩
  · rintro i e h hk hkh ⟨hi, g7, g37⟩
    simp [Keep] at hk
    simp [KeepH] at hkh
    by_cases hlt : i < nf
    · have hif : i < f.length := hnf ▸ hlt
      obtain ⟨fb, hfb, hfb'⟩ := at_ex hif
      have f1 : ilt (i : Int) (nf : Int) = true := ilt_t (by omega)
      have w1 : IntKind.i64.wrap ((i : Int) + 1) = ((i + 1 : Nat) : Int) := wrap_succ (by omega)
      have hst : tgN s q f (i + 1) = if fb = true then markL (tgN s q f i) (rowK s q i) else tgN s q f i := by
        have : fl f i = fb := by simp [fl, hfb]
        rw [← this]; rfl
      have hTl : (tgN s q f i).length = nf := by rw [tgN_len]; exact hn
      cases fb with
      | false =>
        rw [if_neg (by simp)] at hst
        replace hst : Hid (tgN s q f (i + 1) = tgN s q f i) := hst
        generalize tgN s q f i = T at g37 hst hTl
        clear hR hch hpu hgl hmk hwq hTr
        repeat' first
          | (with_reducible refine gw_bool (fun _ => ?_) (fun _ => ?_))
          | (with_reducible refine condw_bool (fun _ => ?_) (fun _ => ?_))
          | simp [*, b1]
        refine nxt_go (i + 1) (View.refl _ _) (by omega) (by simp [*, Keep, St.forget, scr, scrC]) (by simp [*, KeepH, St.forget, scr, scrC]) ?_
        refine ⟨by omega, by simp [*], ?_⟩
        rw [hst.out]; simp [*]
      | true =>
        rw [if_pos rfl] at hst
        obtain ⟨b, hb, -⟩ := at_ex (l := s.qs) (i := i) (by omega)
        obtain ⟨l, hlq, -⟩ := wf_at hwq hb
        obtain ⟨a0, a1, c0, c1, hsd⟩ := sid4 (grp s q) b l
        have hS : sidF s q (grp s q) i = some [a0, a1, c0, c1] := by
          rw [← hsd]
          have : (i : Int) < s.qs.length := by omega
          simp [sidF, hwq, hb, hlq, this]
        have hrow : rowK s q i = ifK a0 (bK s q a1) ++ ifK c0 (bK s q c1) := by simp [rowK, hS]
        rw [hrow, markL_app] at hst
        replace hst : Hid (tgN s q f (i + 1) = markL (markL (tgN s q f i) (ifK a0 (bK s q a1))) (ifK c0 (bK s q c1))) := hst
        generalize tgN s q f i = T at g37 hst hTl
        clear hR hch hpu hgl hmk hwq hTr hb hlq hsd hrow
        repeat' first
          | (with_reducible refine gw_bool (fun _ => ?_) (fun _ => ?_))
          | (with_reducible refine condw_bool (fun _ => ?_) (fun _ => ?_))
          | simp [*, b1]
        refine lp_go (D := (fun _ => none)) D6_ok mixed (by kernel_rfl) [2, 3, 7, 8, 9, 39, 40, 41, 42, 43, 44, 45, 46, 47, 48, 49, 50, 51] [3, 4, 7, 11, 12] (α := Nat) (fun c e h => c ≤ 2 ∧ e 52 = .int .i64 c ∧ h 37 = some ⟨4, (if c = 0 then T else if c = 1 then markL T (ifK a0 (bK s q a1)) else markL (markL T (ifK a0 (bK s q a1))) (ifK c0 (bK s q c1))).map V.bool⟩) (fun c => 2 - c) 0 ?_ ?_
        · refine ⟨by omega, by simp, by simp [*]⟩
        · have hk0 := hk
          have hkh0 := hkh
          have g70 := g7
          clear hk hkh g7 g37
          rintro c e h hk hkh ⟨hc, g7, g37⟩
          simp [Keep, hk0, hkh0, g70] at hk
          simp [KeepH, hk0, hkh0] at hkh
          rcases (show c = 0 ∨ c = 1 ∨ c = 2 by omega) with rfl | rfl | rfl
          · rw [if_pos rfl] at g37
            have hTl2 : (T).length = nf := by simp [markL_len, hTl]
            obtain ⟨U, hU⟩ : ∃ U, T = U := ⟨_, rfl⟩
            rw [hU] at g37 hTl2
            cases hz : ieq a0 1
            · have hnx0 : markL T (ifK a0 (bK s q a1)) = U := by rw [← hU]; simp [ifK, hz, markL]
              have hnx : Hid (markL T (ifK a0 (bK s q a1)) = U) := hnx0
              clear hnx0
              clear hst hU
              repeat' first
                | (with_reducible refine gw_bool (fun _ => ?_) (fun _ => ?_))
                | (with_reducible refine condw_bool (fun _ => ?_) (fun _ => ?_))
                | simp [*]
              refine nxt_go (0 + 1) (View.forget _ _ 11) (by omega) (by simp [*, Keep, St.forget, scr, scrC, usesC, usesA]) (by simp [*, KeepH, St.forget, scr, scrC]) ?_
              refine ⟨by omega, by simp [*, St.forget, scr, scrC], ?_⟩
              rw [if_neg (by decide), if_pos rfl]
              rw [hnx.out]; simp [*, St.forget, scr, scrC, scrB_comp]
            · have hnx0 : markL T (ifK a0 (bK s q a1)) = markL U (bK s q a1) := by rw [← hU]; simp [ifK, hz]
              have hnx : Hid (markL T (ifK a0 (bK s q a1)) = markL U (bK s q a1)) := hnx0
              clear hnx0
              have hin : ∀ (j : Nat) (x : Int), (bK s q a1)[j]? = some x → ∃ u : Nat, x = u ∧ u < nf := fun j x hx => by have := bK_in hx; rw [hn] at this; exact this
              have hfold : bndF s q (grp s q) (nodF s (grp s q) 1 a1) = bK s q a1 := rfl
              obtain ⟨K, hK⟩ : ∃ K, bK s q a1 = K := ⟨_, rfl⟩
              have hnx0 : markL T (ifK a0 (bK s q a1)) = markL U K := by rw [show markL U K = markL U (bK s q a1) by rw [hK]]; exact hnx.out
              rw [hK] at hin hfold
              clear hst hU hK hnx
              have hnx : Hid (markL T (ifK a0 (bK s q a1)) = markL U K) := hnx0
              clear hnx0
              have hKl : K.length ≤ 1000 ∨ 1000 < K.length := by omega
              obtain ⟨m, hm⟩ : ∃ m, K.length = m := ⟨_, rfl⟩
              have hml : m ≤ 9223372036854775806 := by
                rw [← hm, ← hfold]
                cases nodF s (grp s q) 1 a1 with
                | none => simp [bndF]
                | some nd => simp only [bndF]; have := bndN_len s q (grp s q) nd s.qs.length; omega
              repeat' first
                | (with_reducible refine gw_bool (fun _ => ?_) (fun _ => ?_))
                | (with_reducible refine condw_bool (fun _ => ?_) (fun _ => ?_))
                | simp [*]
              refine lp_go (D := (fun _ => none)) D6_ok mixed (by kernel_rfl) [2, 3, 7, 8, 9, 11, 12, 39, 40, 41, 42, 43, 44, 45, 46, 47, 48, 49, 50, 51, 52, 53, 54, 55, 56, 57, 58, 59, 60, 61, 62, 63, 64, 65] [3, 4, 7, 11, 12] (α := Nat) (fun j e h => j ≤ m ∧ e 66 = .int .i64 j ∧ h 37 = some ⟨4, (markL U (K.take j)).map V.bool⟩) (fun j => m - j) 0 ?_ ?_
              · exact ⟨by omega, by simp, by simp [*, markL]⟩
              · have hk1 := hk
                have hkh1 := hkh
                have g71 := g7
                clear hk hkh g7 g37
                rintro j e h hk hkh ⟨hj, g7, g37⟩
                simp [Keep, hk1, hkh1, g71, hfold, hm] at hk
                simp [KeepH, hk1, hkh1] at hkh
                have hCl : (markL U (K.take j)).length = nf := by rw [markL_len]; exact hTl2
                by_cases hjlt : j < m
                · obtain ⟨x, hx, hx'⟩ := at_ex (l := K) (i := j) (by omega)
                  obtain ⟨u, hxu, hul⟩ := hin j x hx
                  subst hxu
                  have hnj : Hid (markL U (K.take (j + 1)) = (markL U (K.take j)).set u true) := markL_step hx
                  have f2 : ilt (j : Int) (m : Int) = true := ilt_t (by omega)
                  have w2 : IntKind.i64.wrap ((j : Int) + 1) = ((j + 1 : Nat) : Int) := wrap_succ (by omega)
                  generalize markL U (K.take j) = C at g37 hCl hnj
                  have hu1 : u + 1 ≤ nf := by omega
                  clear hnx hin hfold hTl2
                  repeat' first
                    | (with_reducible refine gw_bool (fun _ => ?_) (fun _ => ?_))
                    | (with_reducible refine condw_bool (fun _ => ?_) (fun _ => ?_))
                    | simp [*, i1, setsV]
                  refine nxt_go (j + 1) (View.refl _ _) (by omega) (by simp [*, Keep, St.forget, scr, scrC]) (by simp [*, KeepH, St.forget, scr, scrC]) ?_
                  refine ⟨by omega, by simp [*], ?_⟩
                  rw [hnj.out]; simp [*, setsV, List.map_set]
                · have f2 : ilt (j : Int) (m : Int) = false := ilt_f (by omega)
                  have e2 : j = K.length := by omega
                  rw [e2, List.take_length] at g37
                  have hnx' := hnx.out
                  clear e2 hCl hnx hin hfold
                  generalize markL U K = C at g37 hnx'
                  replace hnx' : Hid (markL T (ifK a0 (bK s q a1)) = C) := hnx'
                  repeat' first
                    | (with_reducible refine gw_bool (fun _ => ?_) (fun _ => ?_))
                    | (with_reducible refine condw_bool (fun _ => ?_) (fun _ => ?_))
                    | simp [*]
                  refine nxt_go (0 + 1) ((View.forget _ _ 11).trans (View.forget _ _ 12)) (by omega) (by simp [*, Keep, St.forget, scr, scrC, usesC, usesA]) (by simp [*, KeepH, St.forget, scr, scrC]) ?_
                  refine ⟨by omega, by simp [*, St.forget, scr, scrC], ?_⟩
                  rw [if_neg (by decide), if_pos rfl]
                  rw [hnx'.out]; simp [*, St.forget, scr, scrC, scrB_comp]
          · rw [if_neg (by decide), if_pos rfl] at g37
            have hTl2 : (markL T (ifK a0 (bK s q a1))).length = nf := by simp [markL_len, hTl]
            obtain ⟨U, hU⟩ : ∃ U, markL T (ifK a0 (bK s q a1)) = U := ⟨_, rfl⟩
            rw [hU] at g37 hTl2
            cases hz : ieq c0 1
            · have hnx0 : markL (markL T (ifK a0 (bK s q a1))) (ifK c0 (bK s q c1)) = U := by rw [← hU]; simp [ifK, hz, markL]
              have hnx : Hid (markL (markL T (ifK a0 (bK s q a1))) (ifK c0 (bK s q c1)) = U) := hnx0
              clear hnx0
              clear hst hU
              repeat' first
                | (with_reducible refine gw_bool (fun _ => ?_) (fun _ => ?_))
                | (with_reducible refine condw_bool (fun _ => ?_) (fun _ => ?_))
                | simp [*]
              refine nxt_go (1 + 1) (View.forget _ _ 11) (by omega) (by simp [*, Keep, St.forget, scr, scrC, usesC, usesA]) (by simp [*, KeepH, St.forget, scr, scrC]) ?_
              refine ⟨by omega, by simp [*, St.forget, scr, scrC], ?_⟩
              rw [if_neg (by decide), if_neg (by decide)]
              rw [hnx.out]; simp [*, St.forget, scr, scrC, scrB_comp]
            · have hnx0 : markL (markL T (ifK a0 (bK s q a1))) (ifK c0 (bK s q c1)) = markL U (bK s q c1) := by rw [← hU]; simp [ifK, hz]
              have hnx : Hid (markL (markL T (ifK a0 (bK s q a1))) (ifK c0 (bK s q c1)) = markL U (bK s q c1)) := hnx0
              clear hnx0
              have hin : ∀ (j : Nat) (x : Int), (bK s q c1)[j]? = some x → ∃ u : Nat, x = u ∧ u < nf := fun j x hx => by have := bK_in hx; rw [hn] at this; exact this
              have hfold : bndF s q (grp s q) (nodF s (grp s q) 1 c1) = bK s q c1 := rfl
              obtain ⟨K, hK⟩ : ∃ K, bK s q c1 = K := ⟨_, rfl⟩
              have hnx0 : markL (markL T (ifK a0 (bK s q a1))) (ifK c0 (bK s q c1)) = markL U K := by rw [show markL U K = markL U (bK s q c1) by rw [hK]]; exact hnx.out
              rw [hK] at hin hfold
              clear hst hU hK hnx
              have hnx : Hid (markL (markL T (ifK a0 (bK s q a1))) (ifK c0 (bK s q c1)) = markL U K) := hnx0
              clear hnx0
              have hKl : K.length ≤ 1000 ∨ 1000 < K.length := by omega
              obtain ⟨m, hm⟩ : ∃ m, K.length = m := ⟨_, rfl⟩
              have hml : m ≤ 9223372036854775806 := by
                rw [← hm, ← hfold]
                cases nodF s (grp s q) 1 c1 with
                | none => simp [bndF]
                | some nd => simp only [bndF]; have := bndN_len s q (grp s q) nd s.qs.length; omega
              repeat' first
                | (with_reducible refine gw_bool (fun _ => ?_) (fun _ => ?_))
                | (with_reducible refine condw_bool (fun _ => ?_) (fun _ => ?_))
                | simp [*]
              refine lp_go (D := (fun _ => none)) D6_ok mixed (by kernel_rfl) [2, 3, 7, 8, 9, 11, 12, 39, 40, 41, 42, 43, 44, 45, 46, 47, 48, 49, 50, 51, 52, 53, 54, 55, 56, 57, 58, 59, 60, 61, 62, 63, 64, 65] [3, 4, 7, 11, 12] (α := Nat) (fun j e h => j ≤ m ∧ e 66 = .int .i64 j ∧ h 37 = some ⟨4, (markL U (K.take j)).map V.bool⟩) (fun j => m - j) 0 ?_ ?_
              · exact ⟨by omega, by simp, by simp [*, markL]⟩
              · have hk1 := hk
                have hkh1 := hkh
                have g71 := g7
                clear hk hkh g7 g37
                rintro j e h hk hkh ⟨hj, g7, g37⟩
                simp [Keep, hk1, hkh1, g71, hfold, hm] at hk
                simp [KeepH, hk1, hkh1] at hkh
                have hCl : (markL U (K.take j)).length = nf := by rw [markL_len]; exact hTl2
                by_cases hjlt : j < m
                · obtain ⟨x, hx, hx'⟩ := at_ex (l := K) (i := j) (by omega)
                  obtain ⟨u, hxu, hul⟩ := hin j x hx
                  subst hxu
                  have hnj : Hid (markL U (K.take (j + 1)) = (markL U (K.take j)).set u true) := markL_step hx
                  have f2 : ilt (j : Int) (m : Int) = true := ilt_t (by omega)
                  have w2 : IntKind.i64.wrap ((j : Int) + 1) = ((j + 1 : Nat) : Int) := wrap_succ (by omega)
                  generalize markL U (K.take j) = C at g37 hCl hnj
                  have hu1 : u + 1 ≤ nf := by omega
                  clear hnx hin hfold hTl2
                  repeat' first
                    | (with_reducible refine gw_bool (fun _ => ?_) (fun _ => ?_))
                    | (with_reducible refine condw_bool (fun _ => ?_) (fun _ => ?_))
                    | simp [*, i1, setsV]
                  refine nxt_go (j + 1) (View.refl _ _) (by omega) (by simp [*, Keep, St.forget, scr, scrC]) (by simp [*, KeepH, St.forget, scr, scrC]) ?_
                  refine ⟨by omega, by simp [*], ?_⟩
                  rw [hnj.out]; simp [*, setsV, List.map_set]
                · have f2 : ilt (j : Int) (m : Int) = false := ilt_f (by omega)
                  have e2 : j = K.length := by omega
                  rw [e2, List.take_length] at g37
                  have hnx' := hnx.out
                  clear e2 hCl hnx hin hfold
                  generalize markL U K = C at g37 hnx'
                  replace hnx' : Hid (markL (markL T (ifK a0 (bK s q a1))) (ifK c0 (bK s q c1)) = C) := hnx'
                  repeat' first
                    | (with_reducible refine gw_bool (fun _ => ?_) (fun _ => ?_))
                    | (with_reducible refine condw_bool (fun _ => ?_) (fun _ => ?_))
                    | simp [*]
                  refine nxt_go (1 + 1) ((View.forget _ _ 11).trans (View.forget _ _ 12)) (by omega) (by simp [*, Keep, St.forget, scr, scrC, usesC, usesA]) (by simp [*, KeepH, St.forget, scr, scrC]) ?_
                  refine ⟨by omega, by simp [*, St.forget, scr, scrC], ?_⟩
                  rw [if_neg (by decide), if_neg (by decide)]
                  rw [hnx'.out]; simp [*, St.forget, scr, scrC, scrB_comp]
          · rw [if_neg (by decide), if_neg (by decide)] at g37
            have hst' := hst.out
            generalize markL (markL T (ifK a0 (bK s q a1))) (ifK c0 (bK s q c1)) = C at g37 hst'
            replace hst' : Hid (tgN s q f (i + 1) = C) := hst'
            clear hst
            repeat' first
              | (with_reducible refine gw_bool (fun _ => ?_) (fun _ => ?_))
              | (with_reducible refine condw_bool (fun _ => ?_) (fun _ => ?_))
              | simp [*]
            refine nxt_go (i + 1) (View.refl _ _) (by omega) (by simp [*, Keep, St.forget, scr, scrC]) (by simp [*, KeepH, St.forget, scr, scrC]) ?_
            refine ⟨by omega, by simp [*], ?_⟩
            rw [hst'.out]; simp [*]
    · have f1 : ilt (i : Int) (nf : Int) = false := ilt_f (by omega)
      have e1 : i = nf := by omega
      rw [e1, hR.out] at g37
      clear hR hmk
      repeat' first
        | (with_reducible refine gw_bool (fun _ => ?_) (fun _ => ?_))
        | (with_reducible refine condw_bool (fun _ => ?_) (fun _ => ?_))
        | simp [*, b1]
end Go.Proofs.Ytcbddoopmkhlfaa
end
section
namespace Go.Proofs.Ytcbddoopmkhlfaa
open Go.Pv Go.RowKit
set_option linter.unusedSimpArgs false
set_option linter.unusedVariables false
set_option maxRecDepth 100000
set_option maxHeartbeats 4000000
attribute [-simp] Tclo_at Tgrp_at Tchk Tpchk TcI TcB Tclo Tgrp Tsid Tnod Tlook Tbnd TsidA Tre Tidx Tnms Tnmd Tobj Tlks Tbay Trck Trpc

def psL (b : By) : List Int := b.lks.map Lk.pos
def normP (s : Stn) : Pos := ⟨s.qs.map By.cl, s.qs.map psL⟩
theorem normal_ok {s : Stn} (h1 : chkF s = 0) : PCall Try.prog 47 [.agg s.cs] (.agg (normP s).cs) := by
  have hF := fine_of h1
  obtain ⟨n, hn⟩ : ∃ n, s.qs.length = n := ⟨_, rfl⟩
  have hn16 : n ≤ 16 := by have := hF.nq; omega
  have hc1 := chunks_b1 (s.qs.map By.cl)
  have hp1 := pure_b1 (s.qs.map By.cl)
  have hc2 := chunks_r0 (s.qs.map psL)
  have hp2 := pure_r0 (s.qs.map psL)
  rw [List.length_map, hn] at hc1 hc2
  have hres : (normP s).cs = [.list 1 ((s.qs.map By.cl).map b1), .list 1 ((s.qs.map psL).map r1)] := rfl
  rw [hres]
  clear hres
  obtain ⟨A, hA⟩ : ∃ A, (s.qs.map By.cl).map V.bool = A := ⟨_, rfl⟩
  obtain ⟨B, hB⟩ : ∃ B, (s.qs.map psL).map r0 = B := ⟨_, rfl⟩
  obtain ⟨A', hA'⟩ : ∃ A', (s.qs.map By.cl).map b1 = A' := ⟨_, rfl⟩
  obtain ⟨B', hB'⟩ : ∃ B', (s.qs.map psL).map r1 = B' := ⟨_, rfl⟩
  rw [hA] at hc1 hp1
  rw [hB] at hc2 hp2
  rw [hA'] at hc1 ⊢
  rw [hB'] at hc2 ⊢
  have hAl : A.length = n := by rw [← hA]; simp [hn]
  have hBl : B.length = n := by rw [← hB]; simp [hn]
  replace hA : Hid (((s.qs.take n).map By.cl).map V.bool = A) := by rw [← hn, List.take_length]; exact hA
  replace hB : Hid (((s.qs.take n).map psL).map r0 = B) := by rw [← hn, List.take_length]; exact hB
  clear hA' hB'
  refine pcall_cx D5_ok mixed (fun _ => none) Try.func47 rfl Try.ntmps47 Try.results47 (by simp) (by kernel_rfl) ?_
  repeat' first
    | (with_reducible refine gw_bool (fun _ => ?_) (fun _ => ?_))
    | (with_reducible refine condw_bool (fun _ => ?_) (fun _ => ?_))
    | simp [*, Stn.cs]
  refine lp_view (View.nilAt _ (t := 3) (o := 0) (key := 3) (key' := 38) (i := 0) (blk := ⟨38, [.nils, .nils]⟩) 1 4 (by simp) (by simp) (by simp) (by simp)) ?_
  refine lp_view (View.nilAt _ (t := 3) (o := 0) (key := 3) (key' := 44) (i := 1) (blk := ⟨38, [.sl 38 0 0 1, .nils]⟩) 1 47 (by simp) (by simp) (by simp) (by simp)) ?_
  refine lp_go (D := (fun _ => none)) D5_ok mixed (by kernel_rfl) [2, 3, 14, 15] [1, 2, 5, 8, 30, 31, 37, 43] (α := Nat) (fun i e h => i ≤ n ∧ e 16 = .int .i64 i ∧ h 3 = some ⟨38, [.sl 38 0 i 1, .sl 44 0 i 1]⟩ ∧ h 38 = some ⟨4, ((s.qs.take i).map By.cl).map V.bool⟩ ∧ h 44 = some ⟨47, ((s.qs.take i).map psL).map r0⟩) (fun i => n - i) 0 ?_ ?_
  · exact ⟨by omega, by simp, by simp, by simp, by simp⟩
  rintro i e h hk hkh ⟨hi, g7, g3, g38, g44⟩
  simp [Keep] at hk
  simp [KeepH] at hkh
  by_cases hlt : i < n
  · obtain ⟨b, hb, hb'⟩ := at_ex (l := s.qs) (i := i) (by omega)
    obtain ⟨-, -, hl1, hl2⟩ := hF.lk b (List.mem_of_getElem? hb)
    have f1 : ilt (i : Int) (n : Int) = true := ilt_t (by omega)
    have w1 : IntKind.i64.wrap ((i : Int) + 1) = ((i + 1 : Nat) : Int) := wrap_succ (by omega)
    have hx1 : Hid (((s.qs.take (i + 1)).map By.cl).map V.bool = ((s.qs.take i).map By.cl).map V.bool ++ [V.bool b.cl]) := show _ = _ by rw [take_snoc hb]; simp
    have hx2 : Hid (((s.qs.take (i + 1)).map psL).map r0 = ((s.qs.take i).map psL).map r0 ++ [r0 (psL b)]) := show _ = _ by rw [take_snoc hb]; simp
    have hCl : (((s.qs.take i).map By.cl).map V.bool).length = i := by simp; omega
    have hDl : (((s.qs.take i).map psL).map r0).length = i := by simp; omega
    have hCp := pure_b1 ((s.qs.take i).map By.cl)
    have hDp := pure_r0 ((s.qs.take i).map psL)
    generalize ((s.qs.take i).map By.cl).map V.bool = C at g38 hx1 hCl hCp
    generalize ((s.qs.take i).map psL).map r0 = D at g44 hx2 hDl hDp
    have hCs : ∀ k, C.map (scrC k) = C := fun k => scrC_cells hCp
    have hDs : ∀ k, D.map (scrC k) = D := fun k => scrC_cells hDp
    have hCb : ∀ k b, C.map (pubC k b) = C := fun k b => pub_cells hCp
    have hDb : ∀ k b, D.map (pubC k b) = D := fun k b => pub_cells hDp
    have f5 : (i + 1) * 24 ≤ 140737488355328 := by omega
    have f6 : i + 1 ≤ 9223372036854775807 := by omega
    have f7 : i + 1 ≤ 140737488355328 := by omega
    obtain ⟨m, hm⟩ : ∃ m, b.lks.length = m := ⟨_, rfl⟩
    rw [hm] at hl1 hl2
    clear hA hB hc1 hc2 hp1 hp2
    repeat' first
      | (with_reducible refine gw_bool (fun _ => ?_) (fun _ => ?_))
      | (with_reducible refine condw_bool (fun _ => ?_) (fun _ => ?_))
      | simp [*, By.cs]
    refine lp_view (View.nilOwn _ (t := 6) (key := 31) 1 3 (by simp) (by simp [*])) ?_
    refine lp_go (D := (fun _ => none)) D5_ok mixed (by kernel_rfl) [2, 3, 5, 14, 15, 16, 17, 18, 19, 20, 21, 22] [1, 2, 3, 5, 8, 30, 37, 38, 43, 44] (α := Nat) (fun j e h => j ≤ m ∧ e 23 = .int .i64 j ∧ e 6 = .sl 31 0 j 1 ∧ h 31 = some ⟨3, ((b.lks.take j).map Lk.pos).map (V.int .i64)⟩) (fun j => m - j) 0 ?_ ?_
    · exact ⟨by omega, by simp, by simp, by simp⟩
    have hk0 := hk
    have hkh0 := hkh
    have g70 := g7
    clear hk hkh g7
    rintro j e h hk hkh ⟨hj, g7, g6, g31⟩
    simp [Keep, hk0, hkh0, g70] at hk
    simp [KeepH, hk0, hkh0, g3, g38, g44] at hkh
    by_cases hjlt : j < m
    · obtain ⟨x, hx, hx'⟩ := at_ex (l := b.lks) (i := j) (by omega)
      have f2 : ilt (j : Int) (m : Int) = true := ilt_t (by omega)
      have w2 : IntKind.i64.wrap ((j : Int) + 1) = ((j + 1 : Nat) : Int) := wrap_succ (by omega)
      have hy : Hid (((b.lks.take (j + 1)).map Lk.pos).map (V.int .i64) = ((b.lks.take j).map Lk.pos).map (V.int .i64) ++ [V.int .i64 x.pos]) := show _ = _ by rw [take_snoc hx]; simp
      have hEl : (((b.lks.take j).map Lk.pos).map (V.int .i64)).length = j := by simp; omega
      have hEp := pure_i1 ((b.lks.take j).map Lk.pos)
      generalize ((b.lks.take j).map Lk.pos).map (V.int .i64) = E at g31 hy hEl hEp
      have hEs : ∀ k, E.map (scrC k) = E := fun k => scrC_cells hEp
      have q5 : (j + 1) * 8 ≤ 140737488355328 := by omega
      have q6 : j + 1 ≤ 9223372036854775807 := by omega
      clear hx1 hx2 hb hb'
      repeat' first
        | (with_reducible refine gw_bool (fun _ => ?_) (fun _ => ?_))
        | (with_reducible refine condw_bool (fun _ => ?_) (fun _ => ?_))
        | simp [*, Lk.cs, appendV, srcCells, St.forget, scr, scrC]
      refine nxt_go (j + 1) ((View.forget _ _ 30).trans (View.forget _ _ 8)) (by omega) (by simp [*, Keep, St.forget, scr, scrC, usesC, usesA]) (by simp [*, KeepH, St.forget, scr, scrC]) ?_
      refine ⟨by omega, by simp [*, St.forget, scr, scrC], by simp [*, St.forget, scr, scrC], ?_⟩
      rw [hy.out]; simp [*, St.forget, scr, scrC]
    · have f2 : ilt (j : Int) (m : Int) = false := ilt_f (by omega)
      have e2 : j = b.lks.length := by omega
      have hch := chunks_i1 (psL b)
      have hcp := pure_i1 (psL b)
      have hpl : (psL b).length = m := by simp [psL, hm]
      rw [hpl] at hch
      rw [e2, List.take_length] at g31
      rw [e2, hm] at g6
      have g31' : h 31 = some ⟨3, (psL b).map (V.int .i64)⟩ := g31
      have hx2' := hx2.out
      clear g31 e2 hx2
      generalize psL b = E at g31' hch hcp hpl hx2'
      replace hx2' : Hid (((s.qs.take (i + 1)).map psL).map r0 = D ++ [r0 E]) := hx2'
      replace hch : Hid (chunks 1 m (E.map (V.int .i64)) = E.map i1) := hch
      have hcs : ∀ k, (E.map (V.int .i64)).map (scrC k) = E.map (V.int .i64) := fun k => scrC_cells hcp
      have hmm : m ≤ E.length := by omega
      clear hb hb'
      repeat' first
        | (with_reducible refine gw_bool (fun _ => ?_) (fun _ => ?_))
        | (with_reducible refine condw_bool (fun _ => ?_) (fun _ => ?_))
        | simp [*, appendV, srcCells, St.forget, scr, scrC]
      refine nxt_go (i + 1) ((View.forget _ _ 37).trans ((View.forget _ _ 43).trans ((View.forget _ _ 5).trans (View.pub _ (key := 31) (blk := ⟨3, E.map (V.int .i64)⟩) ?_ hcp)))) (by omega) ?_ ?_ ?_
      · simp [*, St.forget, scrC, scrI_comp]
      · simp [*, Keep, St.forget, scr, scrC, St.pub, pubT, pubA, pubC]
      · simp [*, KeepH, St.forget, scr, scrC, St.pub, pubC]
      · refine ⟨by omega, ?_, ?_, ?_, ?_⟩
        · simp [*, St.forget, scr, scrC, St.pub, pubT, pubA, pubC]
        · simp [*, St.forget, scr, scrC, St.pub, pubC]
        · rw [hx1.out]; simp [*, St.forget, scr, scrC, St.pub, pubC]
        · rw [hx2'.out]; simp [*, St.forget, scr, scrC, St.pub, pubC, r0, hch.out]
  · have f1 : ilt (i : Int) (n : Int) = false := ilt_f (by omega)
    have e1 : i = n := by omega
    rw [e1, hA.out] at g38
    rw [e1, hB.out] at g44
    rw [e1] at g3
    clear hA hB
    repeat' first
      | (with_reducible refine gw_bool (fun _ => ?_) (fun _ => ?_))
      | (with_reducible refine condw_bool (fun _ => ?_) (fun _ => ?_))
      | simp [*, setsV]
def largeF (s : Stn) : Bool := ilt 8 (s.bs.length : Int) || (ilt 10 (s.ls.length : Int) || (ilt 8 (s.ss.length : Int) || (ilt 20 (s.qs.length : Int) || s.qs.any (fun b => ilt 6 (b.lks.length : Int)))))
theorem large_ok (s : Stn) : PCall Try.prog 48 [.agg s.cs] (.bool (largeF s)) := by
  obtain ⟨nb, hnb⟩ : ∃ n, s.bs.length = n := ⟨_, rfl⟩
  obtain ⟨nl, hnl⟩ : ∃ n, s.ls.length = n := ⟨_, rfl⟩
  obtain ⟨ns, hns⟩ : ∃ n, s.ss.length = n := ⟨_, rfl⟩
  obtain ⟨n, hn⟩ : ∃ n, s.qs.length = n := ⟨_, rfl⟩
  cases c1 : ilt 8 (nb : Int)
  case true =>
    have hv : largeF s = true := by simp only [largeF, hnb, c1]; simp
    refine pcall_cx noTab_ok mixed (fun _ => none) Try.func48 rfl Try.ntmps48 Try.results48 (by simp) (by kernel_rfl) ?_
    repeat' first
      | (with_reducible refine gw_bool (fun _ => ?_) (fun _ => ?_))
      | (with_reducible refine condw_bool (fun _ => ?_) (fun _ => ?_))
      | simp [*, Stn.cs]
  cases c2 : ilt 10 (nl : Int)
  case true =>
    have hv : largeF s = true := by simp only [largeF, hnl, c2]; simp
    refine pcall_cx noTab_ok mixed (fun _ => none) Try.func48 rfl Try.ntmps48 Try.results48 (by simp) (by kernel_rfl) ?_
    repeat' first
      | (with_reducible refine gw_bool (fun _ => ?_) (fun _ => ?_))
      | (with_reducible refine condw_bool (fun _ => ?_) (fun _ => ?_))
      | simp [*, Stn.cs]
  cases c3 : ilt 8 (ns : Int)
  case true =>
    have hv : largeF s = true := by simp only [largeF, hns, c3]; simp
    refine pcall_cx noTab_ok mixed (fun _ => none) Try.func48 rfl Try.ntmps48 Try.results48 (by simp) (by kernel_rfl) ?_
    repeat' first
      | (with_reducible refine gw_bool (fun _ => ?_) (fun _ => ?_))
      | (with_reducible refine condw_bool (fun _ => ?_) (fun _ => ?_))
      | simp [*, Stn.cs]
  cases c4 : ilt 20 (n : Int)
  case true =>
    have hv : largeF s = true := by simp only [largeF, hn, c4]; simp
    refine pcall_cx noTab_ok mixed (fun _ => none) Try.func48 rfl Try.ntmps48 Try.results48 (by simp) (by kernel_rfl) ?_
    repeat' first
      | (with_reducible refine gw_bool (fun _ => ?_) (fun _ => ?_))
      | (with_reducible refine condw_bool (fun _ => ?_) (fun _ => ?_))
      | simp [*, Stn.cs]
  have hn20 : n ≤ 20 := by have := ilt_iff'.1 c4; omega
  have hv : largeF s = s.qs.any (fun b => ilt 6 (b.lks.length : Int)) := by simp only [largeF, hnb, hnl, hns, hn, c1, c2, c3, c4]; simp
  rw [hv]
  clear hv
  obtain ⟨R, hR⟩ : ∃ R, s.qs.any (fun b => ilt 6 (b.lks.length : Int)) = R := ⟨_, rfl⟩
  rw [hR]
  replace hR : Hid (s.qs.any (fun b => ilt 6 (b.lks.length : Int)) = R) := hR
  refine pcall_cx noTab_ok mixed (fun _ => none) Try.func48 rfl Try.ntmps48 Try.results48 (by simp) (by kernel_rfl) ?_
  repeat' first
    | (with_reducible refine gw_bool (fun _ => ?_) (fun _ => ?_))
    | (with_reducible refine condw_bool (fun _ => ?_) (fun _ => ?_))
    | simp [*, Stn.cs]
  refine lp_go (D := (fun _ => none)) noTab_ok mixed (by kernel_rfl) [1] [1] (α := Nat) (fun i e h => i ≤ n ∧ e 3 = .int .i64 i ∧ Hid ((s.qs.take i).any (fun b => ilt 6 (b.lks.length : Int)) = false)) (fun i => n - i) 0 ?_ ?_
  · exact ⟨by omega, by simp, show _ = _ by simp⟩
  rintro i e h hk hkh ⟨hi, g7, hinv⟩
  simp [Keep] at hk
  simp [KeepH] at hkh
  by_cases hlt : i < n
  · obtain ⟨b, hb, hb'⟩ := at_ex (l := s.qs) (i := i) (by omega)
    have f1 : ilt (i : Int) (n : Int) = true := ilt_t (by omega)
    have w1 : IntKind.i64.wrap ((i : Int) + 1) = ((i + 1 : Nat) : Int) := wrap_succ (by omega)
    obtain ⟨m, hm⟩ : ∃ m, b.lks.length = m := ⟨_, rfl⟩
    have hnx : (s.qs.take (i + 1)).any (fun b => ilt 6 (b.lks.length : Int)) = ilt 6 (m : Int) := by rw [take_snoc hb, List.any_append, hinv.out]; simp [hm]
    cases hq : ilt 6 (m : Int)
    · rw [hq] at hnx
      replace hnx : Hid ((s.qs.take (i + 1)).any (fun b => ilt 6 (b.lks.length : Int)) = false) := hnx
      clear hinv hR
      repeat' first
        | (with_reducible refine gw_bool (fun _ => ?_) (fun _ => ?_))
        | (with_reducible refine condw_bool (fun _ => ?_) (fun _ => ?_))
        | simp [*, By.cs]
      refine nxt_go (i + 1) (View.refl _ _) (by omega) (by simp [*, Keep, St.forget, scr, scrC]) (by simp [*, KeepH, St.forget, scr, scrC]) ?_
      exact ⟨by omega, by simp [*], hnx⟩
    · have hRt : true = R := by rw [← hR.out]; symm; exact List.any_eq_true.2 ⟨b, List.mem_of_getElem? hb, by rw [hm]; exact hq⟩
      clear hinv hR hnx
      subst hRt
      repeat' first
        | (with_reducible refine gw_bool (fun _ => ?_) (fun _ => ?_))
        | (with_reducible refine condw_bool (fun _ => ?_) (fun _ => ?_))
        | simp [*, By.cs]
  · have f1 : ilt (i : Int) (n : Int) = false := ilt_f (by omega)
    have hRf : false = R := by
      have := hinv.out
      rw [List.take_of_length_le (by omega)] at this
      rw [← hR.out]; exact this.symm
    clear hinv hR
    subst hRf
    repeat' first
      | (with_reducible refine gw_bool (fun _ => ?_) (fun _ => ?_))
      | (with_reducible refine condw_bool (fun _ => ?_) (fun _ => ?_))
      | simp [*]
end Go.Proofs.Ytcbddoopmkhlfaa
end
section
namespace Go.Proofs.Ytcbddoopmkhlfaa
open Go.Pv Go.RowKit
set_option linter.unusedSimpArgs false
set_option linter.unusedVariables false
set_option maxRecDepth 100000
set_option maxHeartbeats 4000000
attribute [-simp] Tclo_at Tgrp_at Tchk Tpchk TcI TcB Tclo Tgrp Tsid Tnod Tlook Tbnd TsidA Tre Tidx Tnms Tnmd Tobj Tlks Tbay Trck Trpc Tres TSd TBd

def Tnm : List V → Option V
  | [.agg a] => (match unStn a with
    | some s => if chkF s = 0 then some (.agg (normP s).cs) else none
    | none => none)
  | _ => none
theorem Tnm_at {s : Stn} (h : chkF s = 0) : Tnm [.agg [.str s.nm, .list 1 (s.bs.map s1), .list 5 (s.ls.map Ln.cs), .list 6 (s.ss.map Sr.cs), .list 12 (s.qs.map By.cs)]] = some (.agg (normP s).cs) := by
  have e1 := unStn_cs s
  unfold Stn.cs at e1
  simp [Tnm, e1, h]
theorem nm_tab : ∀ vs v, Tnm vs = some v → PCall Try.prog 47 vs v := by
  intro vs v h; unfold Tnm at h; split at h
  · split at h
    · rename_i h1
      split at h
      · rename_i hl; cases h; rw [unStn_inv _ _ h1]; exact normal_ok hl
      · cases h
    · cases h
  · cases h
def Tlv : List V → Option V
  | [.agg a, .agg b, .agg [.int .i64 k, .int .i64 o]] => (match unStn a, unPos b with
    | some s, some p => if okP s p = true then some (.bool (liveF s p k o)) else none
    | _, _ => none)
  | _ => none
theorem Tlv_at {s : Stn} {p : Pos} {k o : Int} (h : okP s p = true) : Tlv [.agg [.str s.nm, .list 1 (s.bs.map s1), .list 5 (s.ls.map Ln.cs), .list 6 (s.ss.map Sr.cs), .list 12 (s.qs.map By.cs)], .agg [.list 1 (p.cl.map b1), .list 1 (p.lk.map r1)], .agg [.int .i64 k, .int .i64 o]] = some (.bool (liveF s p k o)) := by
  have e1 := unStn_cs s
  have e2 := unPos_cs p
  unfold Stn.cs at e1
  unfold Pos.cs at e2
  simp [Tlv, e1, e2, h]
theorem lv_tab : ∀ vs v, Tlv vs = some v → PCall Try.prog 26 vs v := by
  intro vs v h; unfold Tlv at h; split at h
  · split at h
    · rename_i h1 h2
      split at h
      · rename_i hl
        cases h; rw [unStn_inv _ _ h1, unPos_inv _ _ h2]; exact Live_ok hl _ _
      · cases h
    · cases h
  · cases h
def unN2 : List V → Option Nd
  | [.int .i64 a, .int .i64 b] => some (a, b)
  | _ => none
theorem unN2_cs (c : Nd) : unN2 (nd2 c) = some c := rfl
theorem unN2_inv : ∀ c a, unN2 c = some a → c = nd2 a := by
  intro c a h; unfold unN2 at h; split at h
  · cases h; rfl
  · cases h
def Tfd : List V → Option V
  | [.agg a, .agg b, .list 2 z, .int .i64 i] => (match unStn a, unPos b, decL unN2 z with
    | some s, some p, some zs => if okP s p = true ∧ zs.length ≤ 9223372036854775806 then some (.bool (fedF s p zs i)) else none
    | _, _, _ => none)
  | _ => none
theorem Tfd_at {s : Stn} {p : Pos} {zs : List Nd} {i : Int} (h : okP s p = true) (hz : zs.length ≤ 9223372036854775806) : Tfd [.agg [.str s.nm, .list 1 (s.bs.map s1), .list 5 (s.ls.map Ln.cs), .list 6 (s.ss.map Sr.cs), .list 12 (s.qs.map By.cs)], .agg [.list 1 (p.cl.map b1), .list 1 (p.lk.map r1)], .list 2 (zs.map nd2), .int .i64 i] = some (.bool (fedF s p zs i)) := by
  have e1 := unStn_cs s
  have e2 := unPos_cs p
  unfold Stn.cs at e1
  unfold Pos.cs at e2
  simp [Tfd, e1, e2, decL_map unN2_cs, h, hz]
theorem fd_tab : ∀ vs v, Tfd vs = some v → PCall Try.prog 22 vs v := by
  intro vs v h; unfold Tfd at h; split at h
  · split at h
    · rename_i h1 h2 h3
      split at h
      · rename_i hl
        cases h; rw [unStn_inv _ _ h1, unPos_inv _ _ h2, decL_inv unN2_inv _ _ h3]; exact Fed_ok hl.1 _ hl.2 _
      · cases h
    · cases h
  · cases h
def G2 : Tab := add 47 Tnm (add 26 Tlv (add 22 Tfd (add 25 TBd (G1))))
theorem G2_at (f : FuncId) (vs : List V) : G2.at' f vs = if f = 47 then Tnm vs else if f = 26 then Tlv vs else if f = 22 then Tfd vs else if f = 25 then TBd vs else G1.at' f vs := rfl
theorem G2_fr (f : FuncId) : G2.fr f = if f = 47 then false else if f = 26 then false else if f = 22 then false else if f = 25 then false else G1.fr f := rfl
theorem G2_gb (f : FuncId) : G2.gb f = G1.gb f := rfl
theorem G2_gv (f : FuncId) (vs : List V) : G2.gv f vs = G1.gv f vs := rfl
attribute [simp] G2_at G2_fr G2_gb G2_gv TBd Tfd Tlv Tnm
theorem G2_ok : TabOK Try.prog G2 := by
  refine add_ok (add_ok (add_ok (add_ok (G1_ok) (by kernel_rfl) ?_) (by kernel_rfl) ?_) (by kernel_rfl) ?_) (by kernel_rfl) ?_
  · exact Bd_tab
  · exact fd_tab
  · exact lv_tab
  · exact nm_tab
attribute [-simp] Tnm Tlv Tfd TBd
attribute [simp] Tnm_at Tlv_at Tfd_at
def bA (n : UInt8) : ByteArray := ⟨#[n]⟩
def s0 : Stn := ⟨bA 83, [bA 65], [], [⟨bA 71, 1, 0, 1, 0, 1⟩], [⟨bA 81, 2, 0, 0, 0, 0, [⟨0, 1⟩], true, 1, 1, 0, 1⟩]⟩
theorem s0_chk : chkF s0 = 0 := by kernel_rfl
theorem s0_ok : okP s0 (normP s0) = true := by kernel_rfl
theorem s0_live : liveF s0 (normP s0) 1 0 = true := by kernel_rfl
theorem s0_fed : fedF s0 (normP s0) [(1, 0)] 0 = true := by kernel_rfl
theorem s0_bnd : bndF s0 (normP s0) (grp s0 (normP s0)) (nodF s0 (grp s0 (normP s0)) 1 0) = [0] := by kernel_rfl
theorem s0_cl : (normP s0).cl = [true] := by kernel_rfl
theorem wkBlk {n : Nat} {w0 : Base} {ro : Nat → Prop} {lam : Lam} {st : St} {a : Act} {w : World} (hs : Sim w0 n ro lam st a w) {key b m : Nat} {blk : Blk} {cs' : List V} (hk : st.heap key = some blk) (hlm : lam key = some (some b, m)) (hl : cs'.length = blk.cells.length) (hw : ∀ (j : Nat) (c c' : V) (x : Value), blk.cells[j]? = some c → cs'[j]? = some c' → R w ro lam c x → R w ro lam c' x) :
    Sim w0 n ro lam ⟨st.env, upd st.heap key (some ⟨blk.ty, cs'⟩)⟩ a w := by
  refine ⟨hs.below, hs.dfr, hs.size, hs.rolt, hs.env, fun k blk' hkk => ?_, fun k hkk => ?_, hs.own, hs.inj, hs.maps⟩
  · by_cases e : k = key
    · subst e
      simp only [upd_same, Option.some.injEq] at hkk
      subst hkk
      rcases hs.heap k blk hk with ⟨hv, _⟩ | ⟨b', o, hv, _⟩ | ⟨b', m', arr, hl', hw', hsz, hle, hr⟩
      · rw [hlm] at hv; cases hv
      · rw [hlm] at hv; cases hv
      · refine .inr (.inr ⟨b', m', arr, hl', hw', hsz, by rw [hl]; exact hle, fun j c x hc hx => ?_⟩)
        have hc' : cs'[j]? = some c := hc
        have hj : j < blk.cells.length := by have := (List.getElem?_eq_some_iff.1 hc').1; omega
        exact hw j _ c x (List.getElem?_eq_getElem hj) hc' (hr j _ x (List.getElem?_eq_getElem hj) hx)
    · simp only [upd_ne _ _ e] at hkk; exact hs.heap k blk' hkk
  · by_cases e : k = key
    · subst e; simp only [upd_same] at hkk; cases hkk
    · simp only [upd_ne _ _ e] at hkk; exact hs.dead k hkk
theorem known_ok : PCall Try.prog 20 [] (.bool true) := by
  intro W0 ro0 args hro hsz hr
  have hs0 := sim_ini (n := 43) hro hsz (by simp) hr
  refine callsIn_wide.1 (callsIn_of_wp_marks (n := 0) Try.func20 rfl trivial ?_ rfl)
  rw [Try.ntmps20]
  have hm0 : MK W0 ro0 [] ro0 (fun _ => none) { tmps := args ++ Array.replicate (43 - args.size) Go.undef, defers := [] } W0 :=
    ⟨rfl, List.nodup_nil, fun D hD => (by simp at hD), Below.refl _ _, fun b ⟨k, hk⟩ => (by rcases hk with ⟨_, hk⟩ | hk <;> cases hk), fun _ h => h, fun _ h => .inl h⟩
  have hs0' := hs0.rebase
  clear hs0
  obtain ⟨A0, hA0⟩ : ∃ A0 : Act, { tmps := args ++ Array.replicate (43 - args.size) Go.undef, defers := [] } = A0 := ⟨_, rfl⟩
  rw [hA0] at hm0 hs0' ⊢
  clear hA0 hr
  refine wpIn_seq (wpIn_mono (cw_inE (CW.of_cx (D := fun _ => none) G2_ok mixed _ (fun e t => e = .normal ∧ HeapIs t.heap []) _ (by kernel_rfl) ?_) hs0' hm0) ?_)
  · clear hs0' hm0
    repeat' first
      | (with_reducible refine gw_bool (fun _ => ?_) (fun _ => ?_))
      | (with_reducible refine condw_bool (fun _ => ?_) (fun _ => ?_))
      | simp [*]
    exact ⟨trivial, fun k hk => rfl⟩
  rintro e a1 w1 ⟨s1', ro1, lam1, ⟨rfl, hH1⟩, hs1, hm1⟩
  replace hs1 := toL hs1 (L := []) trivial hH1
  clear hs0' hm0 hH1
  refine wpIn_seq (wpIn_mono (cw_inE (CW.of_cx (D := fun _ => none) G2_ok mixed _ (fun e t => e = .normal ∧ HasE t.env [(1, .ptr 1 0)] ∧ HeapIs t.heap [(4, ⟨9, [.str (bA 65)]⟩), (8, ⟨75, [.str (bA 71), .int .i64 1, .int .i64 0, .int .i64 1, .int .i64 0, .int .i64 1]⟩), (1, ⟨35, [.str (bA 83), .sl 4 0 1 1, .nils, .sl 8 0 1 6, .nils]⟩)]) _ (by kernel_rfl) ?_) hs1 hm1) ?_)
  · clear hs1 hm1
    repeat' first
      | (with_reducible refine gw_bool (fun _ => ?_) (fun _ => ?_))
      | (with_reducible refine condw_bool (fun _ => ?_) (fun _ => ?_))
      | simp [*, HasE, envL, blkOf, bA]
    refine ⟨by simp [KeepBl, blkOf], fun k hk => ?_⟩
    have k4 : k ≠ 4 := blk_ne hk rfl
    have k8 : k ≠ 8 := blk_ne hk rfl
    have k1 : k ≠ 1 := blk_ne hk rfl
    simp [k4, k8, k1, blkOf]
  rintro e a2 w2 ⟨s2, ro2, lam2, ⟨rfl, hE2, hH2⟩, hs2, hm2⟩
  replace hs2 := toL hs2 hE2 hH2
  clear hs1 hm1 hE2 hH2
  refine wpIn_seq (wpIn_mono (cw_inE (CW.of_cx (D := fun _ => none) G2_ok mixed _ (fun e t => e = .normal ∧ HasE t.env [(1, .ptr 1 0)] ∧ HeapIs t.heap [(11, ⟨77, [.int .i64 0, .int .i64 1]⟩), (13, ⟨73, [.str (bA 81), .int .i64 2, .int .i64 0, .int .i64 0, .int .i64 0, .int .i64 0, .sl 11 0 1 2, .bool true, .int .i64 1, .int .i64 1, .int .i64 0, .int .i64 1]⟩), (4, ⟨9, [.str (bA 65)]⟩), (8, ⟨75, [.str (bA 71), .int .i64 1, .int .i64 0, .int .i64 1, .int .i64 0, .int .i64 1]⟩), (1, ⟨35, [.str (bA 83), .sl 4 0 1 1, .nils, .sl 8 0 1 6, .sl 13 0 1 12]⟩)]) _ (by kernel_rfl) ?_) hs2 hm2) ?_)
  · clear hs2 hm2
    repeat' first
      | (with_reducible refine gw_bool (fun _ => ?_) (fun _ => ?_))
      | (with_reducible refine condw_bool (fun _ => ?_) (fun _ => ?_))
      | simp [*, HasE, envL, blkOf, bA, setsV]
    refine ⟨by simp [KeepBl, blkOf, setsV], fun k hk => ?_⟩
    have k11 : k ≠ 11 := blk_ne hk rfl
    have k13 : k ≠ 13 := blk_ne hk rfl
    have k4 : k ≠ 4 := blk_ne hk rfl
    have k8 : k ≠ 8 := blk_ne hk rfl
    have k1 : k ≠ 1 := blk_ne hk rfl
    simp [k11, k13, k4, k8, k1, blkOf]
  rintro e a3 w3 ⟨s3, ro3, lam3, ⟨rfl, hE3, hH3⟩, hs3, hm3⟩
  replace hs3 := toL hs3 hE3 hH3
  clear hs2 hm2 hE3 hH3
  obtain ⟨ro4, lam4, hs4, hm4⟩ := view_inE (View.pub 43 (key := 11) (blk := ⟨77, [.int .i64 0, .int .i64 1]⟩) rfl rfl) hs3 hm3
  replace hs4 := toL hs4 (L := [(1, .ptr 1 0)]) (bl := [(13, ⟨73, [.str (bA 81), .int .i64 2, .int .i64 0, .int .i64 0, .int .i64 0, .int .i64 0, .list 2 [[.int .i64 0, .int .i64 1]], .bool true, .int .i64 1, .int .i64 1, .int .i64 0, .int .i64 1]⟩), (4, ⟨9, [.str (bA 65)]⟩), (8, ⟨75, [.str (bA 71), .int .i64 1, .int .i64 0, .int .i64 1, .int .i64 0, .int .i64 1]⟩), (1, ⟨35, [.str (bA 83), .sl 4 0 1 1, .nils, .sl 8 0 1 6, .sl 13 0 1 12]⟩)]) (by simp [HasE, St.pub, envL, upd, pubT, pubA, pubC]) (by
    refine ⟨⟨rfl, rfl, rfl, rfl, trivial⟩, fun k hk => ?_⟩
    have k13 : k ≠ 13 := blk_ne hk rfl
    have k4 : k ≠ 4 := blk_ne hk rfl
    have k8 : k ≠ 8 := blk_ne hk rfl
    have k1 : k ≠ 1 := blk_ne hk rfl
    by_cases k11 : k = 11
    · simp [St.pub, k11]
    · simp [St.pub, blkOf, k11, k13, k4, k8, k1])
  clear hs3 hm3
  obtain ⟨ro5, lam5, hs5, hm5⟩ := view_inE (View.pub 43 (key := 13) (blk := ⟨73, [.str (bA 81), .int .i64 2, .int .i64 0, .int .i64 0, .int .i64 0, .int .i64 0, .list 2 [[.int .i64 0, .int .i64 1]], .bool true, .int .i64 1, .int .i64 1, .int .i64 0, .int .i64 1]⟩) rfl rfl) hs4 hm4
  replace hs5 := toL hs5 (L := [(1, .ptr 1 0)]) (bl := [(4, ⟨9, [.str (bA 65)]⟩), (8, ⟨75, [.str (bA 71), .int .i64 1, .int .i64 0, .int .i64 1, .int .i64 0, .int .i64 1]⟩), (1, ⟨35, [.str (bA 83), .sl 4 0 1 1, .nils, .sl 8 0 1 6, .list 12 [[.str (bA 81), .int .i64 2, .int .i64 0, .int .i64 0, .int .i64 0, .int .i64 0, .list 2 [[.int .i64 0, .int .i64 1]], .bool true, .int .i64 1, .int .i64 1, .int .i64 0, .int .i64 1]]]⟩)]) (by simp [HasE, St.pub, envL, upd, pubT, pubA, pubC]) (by
    refine ⟨⟨rfl, rfl, rfl, trivial⟩, fun k hk => ?_⟩
    have k4 : k ≠ 4 := blk_ne hk rfl
    have k8 : k ≠ 8 := blk_ne hk rfl
    have k1 : k ≠ 1 := blk_ne hk rfl
    by_cases k13 : k = 13
    · simp [St.pub, k13]
    · simp [St.pub, blkOf, k13, k4, k8, k1])
  clear hs4 hm4
  obtain ⟨ro6, lam6, hs6, hm6⟩ := view_inE (View.pub 43 (key := 4) (blk := ⟨9, [.str (bA 65)]⟩) rfl rfl) hs5 hm5
  replace hs6 := toL hs6 (L := [(1, .ptr 1 0)]) (bl := [(8, ⟨75, [.str (bA 71), .int .i64 1, .int .i64 0, .int .i64 1, .int .i64 0, .int .i64 1]⟩), (1, ⟨35, [.str (bA 83), .list 1 [[.str (bA 65)]], .nils, .sl 8 0 1 6, .list 12 [[.str (bA 81), .int .i64 2, .int .i64 0, .int .i64 0, .int .i64 0, .int .i64 0, .list 2 [[.int .i64 0, .int .i64 1]], .bool true, .int .i64 1, .int .i64 1, .int .i64 0, .int .i64 1]]]⟩)]) (by simp [HasE, St.pub, envL, upd, pubT, pubA, pubC]) (by
    refine ⟨⟨rfl, rfl, trivial⟩, fun k hk => ?_⟩
    have k8 : k ≠ 8 := blk_ne hk rfl
    have k1 : k ≠ 1 := blk_ne hk rfl
    by_cases k4 : k = 4
    · simp [St.pub, k4]
    · simp [St.pub, blkOf, k4, k8, k1])
  clear hs5 hm5
  obtain ⟨ro7, lam7, hs7, hm7⟩ := view_inE (View.pub 43 (key := 8) (blk := ⟨75, [.str (bA 71), .int .i64 1, .int .i64 0, .int .i64 1, .int .i64 0, .int .i64 1]⟩) rfl rfl) hs6 hm6
  replace hs7 := toL hs7 (L := [(1, .ptr 1 0)]) (bl := [(1, ⟨35, [.str (bA 83), .list 1 [[.str (bA 65)]], .nils, .list 6 [[.str (bA 71), .int .i64 1, .int .i64 0, .int .i64 1, .int .i64 0, .int .i64 1]], .list 12 [[.str (bA 81), .int .i64 2, .int .i64 0, .int .i64 0, .int .i64 0, .int .i64 0, .list 2 [[.int .i64 0, .int .i64 1]], .bool true, .int .i64 1, .int .i64 1, .int .i64 0, .int .i64 1]]]⟩)]) (by simp [HasE, St.pub, envL, upd, pubT, pubA, pubC]) (by
    refine ⟨⟨rfl, trivial⟩, fun k hk => ?_⟩
    have k1 : k ≠ 1 := blk_ne hk rfl
    by_cases k8 : k = 8
    · simp [St.pub, k8]
    · simp [St.pub, blkOf, k8, k1])
  clear hs6 hm6
  have p1 : R w3 ro7 lam7 (.ptr 1 0) (a3.tmps.getD 1 Go.undef) := hs7.env 1
  obtain ⟨b1', m1, l1, x1⟩ := p1.ptr_inv
  have hs8 := wkBlk hs7 (key := 1) (cs' := s0.cs) rfl l1 rfl (fun j c c' x hc hc' hx => by
    match j with
    | 0 => cases hc; cases hc'; exact hx
    | 1 => cases hc; cases hc'; exact hx
    | 2 =>
      cases hc; cases hc'
      have := hx.nils_inv
      subst this
      exact .pure _ _ (.list0 _ _ _)
    | 3 => cases hc; cases hc'; exact hx
    | 4 => cases hc; cases hc'; exact hx
    | j + 5 => simp [Stn.cs] at hc')
  have hX1 := s0_chk
  have hX2 := s0_ok
  have hX3 := s0_live
  have hX4 := s0_fed
  have hX5 := s0_bnd
  have hX6 := s0_cl
  generalize s0 = X at hs8 hX1 hX2 hX3 hX4 hX5 hX6
  replace hs8 := toL hs8 (L := [(1, .ptr 1 0)]) (bl := [(1, ⟨35, X.cs⟩)]) (by simp [HasE, envL, upd]) ⟨⟨rfl, trivial⟩, fun k hk => by
    have k1 : k ≠ 1 := blk_ne hk rfl
    simp [upd, blkOf, k1]⟩
  clear hs7 p1
  have hTn := Tnm_at hX1
  generalize normP X = P at hX2 hX3 hX4 hX5 hX6 hTn
  have hTl := Tlv_at (k := 1) (o := 0) hX2
  have hTf := Tfd_at (zs := [(1, 0)]) (i := 0) hX2 (by simp)
  have hTb := TBd_at (k := 1) (o := 0) hX2
  rw [hX3] at hTl
  rw [hX4] at hTf
  rw [hX5] at hTb
  have hcl : P.cl.length = 1 := by rw [hX6]; rfl
  clear hX1 hX2 hX3 hX4 hX5 hX6
  refine wpIn_mono (cw_inE (CW.of_cx (D := fun _ => none) G2_ok mixed _ (fun e t => e = .ret ∧ t.env 0 = .bool true) _ (by kernel_rfl) ?_) hs8 hm7) ?_
  · clear hs8 hm7
    simp only [List.map_cons, List.map_nil, nd2] at hTf
    simp only [List.map_cons, List.map_nil, i1] at hTb
    repeat' first
      | (with_reducible refine gw_bool (fun _ => ?_) (fun _ => ?_))
      | (with_reducible refine condw_bool (fun _ => ?_) (fun _ => ?_))
      | simp [*, envL, blkOf, Stn.cs, Pos.cs]
  rintro e a9 w9 ⟨s9, ro9, lam9, ⟨rfl, h9⟩, hs9, hm9⟩
  have h9' : a9.tmps.getD 0 Go.undef = .bool true := by
    have := hs9.env 0
    rw [h9] at this
    exact this.bool_inv
  exact MK.leave hm9 hro rfl h9' (fun _ _ => .bool _)
end Go.Proofs.Ytcbddoopmkhlfaa
end
section
namespace Go.Proofs.Ytcbddoopmkhlfaa
open Go.Pv Go.RowKit
set_option linter.unusedSimpArgs false
set_option linter.unusedVariables false
set_option maxRecDepth 100000

theorem mgHit {x y z : Int} (h : (ieq z x || ieq z y) = true) : mgF (min x y) (max x y) z = min x y := by
  simp only [Bool.or_eq_true, ieq_iff] at h
  unfold mgF
  split
  · rfl
  · rename_i hh
    have : ¬ (z = max x y) := fun e => hh (ieq_t e)
    omega
theorem mgMiss {x y z : Int} (h : (ieq z x || ieq z y) = false) : mgF (min x y) (max x y) z = z := by
  simp only [Bool.or_eq_false_iff] at h
  have h1 := ieq_iff'.1 h.1
  have h2 := ieq_iff'.1 h.2
  unfold mgF
  rw [if_neg]
  intro hh
  have := ieq_iff.1 hh
  omega
/-- Each bus names the lowest bus of its group. -/
def Can (G : List Int) : Prop := ∀ (i : Nat) (x : Int), G[i]? = some x → ∃ u : Nat, x = u ∧ u ≤ i ∧ G[u]? = some x
/-- Each group of the first lies in one group of the second. -/
def Fin2 (A B : List Int) : Prop := ∀ (i : Nat) (x : Int), A[i]? = some x → ∃ u : Nat, x = u ∧ B[u]? = B[i]?
theorem can_ini (n : Nat) : Can (ini0 n) := by
  intro i x h
  have hi : i < n := by have := (List.getElem?_eq_some_iff.1 h).1; simpa [ini0] using this
  have hx : x = (i : Int) := by
    have : (ini0 n)[i]? = some (i : Int) := by simp [ini0, hi]
    rw [this] at h; exact (Option.some.inj h).symm
  exact ⟨i, hx, Nat.le_refl _, h⟩
theorem can_map {G : List Int} (h : Can G) {p q : Nat} {x y : Int} (hp : G[p]? = some x) (hq : G[q]? = some y) : Can (G.map (mgF (min x y) (max x y))) := by
  obtain ⟨u, hu, hup, hGu⟩ := h p x hp
  obtain ⟨v, hv, hvq, hGv⟩ := h q y hq
  intro i z hz
  simp only [List.getElem?_map, Option.map_eq_some_iff] at hz
  obtain ⟨z0, hz0, rfl⟩ := hz
  obtain ⟨t, ht, hti, hGt⟩ := h i z0 hz0
  cases hh : (ieq z0 x || ieq z0 y)
  · have hm := mgMiss hh
    rw [hm]
    exact ⟨t, ht, hti, by simp [hGt, hm]⟩
  · have hm := mgHit hh
    rw [hm]
    simp only [Bool.or_eq_true, ieq_iff] at hh
    rcases Int.le_total x y with hxy | hxy
    · refine ⟨u, by omega, by omega, ?_⟩
      have : mgF (min x y) (max x y) x = min x y := mgHit (by simp [ieq])
      simp only [List.getElem?_map, hGu, Option.map_some, this]
    · refine ⟨v, by omega, by omega, ?_⟩
      have : mgF (min x y) (max x y) y = min x y := mgHit (by simp [ieq])
      simp only [List.getElem?_map, hGv, Option.map_some, this]
theorem fin_right {A B : List Int} (h : Fin2 A B) (f : Int → Int) : Fin2 A (B.map f) := by
  intro i x hx
  obtain ⟨u, hu, hB⟩ := h i x hx
  exact ⟨u, hu, by simp [hB]⟩
theorem fin_both {A B : List Int} (h : Fin2 A B) {p q : Nat} {x y x' y' : Int} (hp : A[p]? = some x) (hq : A[q]? = some y) (hp' : B[p]? = some x') (hq' : B[q]? = some y') : Fin2 (A.map (mgF (min x y) (max x y))) (B.map (mgF (min x' y') (max x' y'))) := by
  obtain ⟨u, hu, hBu⟩ := h p x hp
  obtain ⟨v, hv, hBv⟩ := h q y hq
  rw [hp'] at hBu
  rw [hq'] at hBv
  have m1 : mgF (min x' y') (max x' y') x' = min x' y' := mgHit (by simp [ieq])
  have m2 : mgF (min x' y') (max x' y') y' = min x' y' := mgHit (by simp [ieq])
  intro i z hz
  simp only [List.getElem?_map, Option.map_eq_some_iff] at hz
  obtain ⟨z0, hz0, rfl⟩ := hz
  obtain ⟨t, ht, hBt⟩ := h i z0 hz0
  cases hh : (ieq z0 x || ieq z0 y)
  · rw [mgMiss hh]
    exact ⟨t, ht, by simp [hBt]⟩
  · rw [mgHit hh]
    simp only [Bool.or_eq_true, ieq_iff] at hh
    have hBi : (B.map (mgF (min x' y') (max x' y')))[i]? = some (min x' y') := by
      rcases hh with hh | hh
      · have : t = u := by omega
        rw [List.getElem?_map, ← hBt, this, hBu]; simp [m1]
      · have : t = v := by omega
        rw [List.getElem?_map, ← hBt, this, hBv]; simp [m2]
    rcases Int.le_total x y with hxy | hxy
    · refine ⟨u, by omega, ?_⟩
      rw [hBi, List.getElem?_map, hBu]; simp [m1]
    · refine ⟨v, by omega, ?_⟩
      rw [hBi, List.getElem?_map, hBv]; simp [m2]
/-- A bay's step. -/
theorem stG_cases (G : List Int) (b : By) (l : List Int) : (stG G b l = G ∧ ¬ (ieq b.kind 3 = false ∧ ∃ a c x y, b.lks = [a, c] ∧ l = [x, y] ∧ ieq x 1 = true ∧ ieq y 1 = true)) ∨ (ieq b.kind 3 = false ∧ ∃ a c x y, b.lks = [a, c] ∧ l = [x, y] ∧ ieq x 1 = true ∧ ieq y 1 = true ∧ stG G b l = merge G (g0 G a.bus) (g0 G c.bus)) := by
  cases h3 : ieq b.kind 3
  · obtain ⟨lks, hlk⟩ : ∃ lks, b.lks = lks := ⟨_, rfl⟩
    match lks, l with
    | [a, c], [x, y] =>
      cases hx : ieq x 1
      · left; refine ⟨by simp [stG, h3, hlk, hx], ?_⟩
        rintro ⟨_, a', c', x', y', h1, h2, h4, h5⟩
        simp at h2; rw [h2.1] at hx; rw [hx] at h4; cases h4
      · cases hy : ieq y 1
        · left; refine ⟨by simp [stG, h3, hlk, hx, hy], ?_⟩
          rintro ⟨_, a', c', x', y', h1, h2, h4, h5⟩
          simp at h2; rw [h2.2] at hy; rw [hy] at h5; cases h5
        · right; exact ⟨rfl, a, c, x, y, hlk, rfl, hx, hy, by simp [stG, h3, hlk, hx, hy]⟩
    | [], _ => left; refine ⟨by simp [stG, h3, hlk], ?_⟩; rintro ⟨_, a', c', x', y', h1, _⟩; rw [hlk] at h1; cases h1
    | [_], _ => left; refine ⟨by simp [stG, h3, hlk], ?_⟩; rintro ⟨_, a', c', x', y', h1, _⟩; rw [hlk] at h1; cases h1
    | _ :: _ :: _ :: _, _ => left; refine ⟨by simp [stG, h3, hlk], ?_⟩; rintro ⟨_, a', c', x', y', h1, _⟩; rw [hlk] at h1; cases h1
    | [a, c], [] => left; refine ⟨by simp [stG, h3, hlk], ?_⟩; rintro ⟨_, a', c', x', y', _, h2, _⟩; cases h2
    | [a, c], [_] => left; refine ⟨by simp [stG, h3, hlk], ?_⟩; rintro ⟨_, a', c', x', y', _, h2, _⟩; cases h2
    | [a, c], _ :: _ :: _ :: _ => left; refine ⟨by simp [stG, h3, hlk], ?_⟩; rintro ⟨_, a', c', x', y', _, h2, _⟩; cases h2
  · left; refine ⟨by simp [stG, h3], ?_⟩
    rintro ⟨h, _⟩; cases h
theorem g0_at {G : List Int} {b : Int} (h : 0 ≤ b ∧ b < G.length) : ∃ u : Nat, b = u ∧ u < G.length ∧ G[u]? = some (g0 G b) := by
  obtain ⟨u, rfl⟩ := Int.eq_ofNat_of_zero_le h.1
  have hu : u < G.length := by omega
  exact ⟨u, rfl, hu, by simp [g0, gAt, hu]⟩
theorem grpN_can {s : Stn} {p : Pos} (hF : Fine s) (hk : p.lk.length = s.qs.length) : ∀ k, k ≤ s.qs.length → Can (grpN s p k)
  | 0, _ => by simpa [grpN] using can_ini s.bs.length
  | k + 1, hle => by
    obtain ⟨b, hb, _⟩ := at_ex (l := s.qs) (i := k) (by omega)
    obtain ⟨l, hl, _⟩ := at_ex (l := p.lk) (i := k) (by omega)
    have ih := grpN_can hF hk k (by omega)
    rw [grpN_step hb hl]
    have hlen : (grpN s p k).length = s.bs.length := grpN_len s p k
    rcases stG_cases (grpN s p k) b l with ⟨h, _⟩ | ⟨_, a, c, x, y, hlk, _, _, _, h⟩
    · rw [h]; exact ih
    · rw [h]
      have hbus := (hF.lk b (List.mem_of_getElem? hb)).1
      obtain ⟨u, _, _, hu⟩ := g0_at (G := grpN s p k) (b := a.bus) (by rw [hlen]; exact hbus a (by simp [hlk]))
      obtain ⟨v, _, _, hv⟩ := g0_at (G := grpN s p k) (b := c.bus) (by rw [hlen]; exact hbus c (by simp [hlk]))
      exact can_map ih hu hv
theorem res01 {x : Int} (h : ieq (resF 0 x) 1 = true) : ieq (resF 1 x) 1 = true := by
  unfold resF at *
  split at h
  · cases h
  · rename_i hh; rw [if_neg hh]; exact h
theorem grpN_fin {s : Stn} {p : Pos} (hF : Fine s) (hk : p.lk.length = s.qs.length) : ∀ k, k ≤ s.qs.length → Fin2 (grpN s (resP p false) k) (grpN s (resP p true) k)
  | 0, _ => by
    intro i x hx
    obtain ⟨u, hu, hui, hGu⟩ := can_ini s.bs.length i x (by simpa [grpN] using hx)
    have hx' : (ini0 s.bs.length)[i]? = some x := by simpa [grpN] using hx
    exact ⟨u, hu, by simp only [grpN, List.take_zero, List.foldl_nil]; rw [hGu, hx']⟩
  | k + 1, hle => by
    obtain ⟨b, hb, _⟩ := at_ex (l := s.qs) (i := k) (by omega)
    obtain ⟨l, hl, _⟩ := at_ex (l := p.lk) (i := k) (by omega)
    have ih := grpN_fin hF hk k (by omega)
    have hl0 : (resP p false).lk[k]? = some (l.map (resF 0)) := by simp [resP, hl, resZ]
    have hl1 : (resP p true).lk[k]? = some (l.map (resF 1)) := by simp [resP, hl, resZ]
    rw [grpN_step hb hl0, grpN_step hb hl1]
    have hA : (grpN s (resP p false) k).length = s.bs.length := grpN_len _ _ _
    have hB : (grpN s (resP p true) k).length = s.bs.length := grpN_len _ _ _
    have hbus := (hF.lk b (List.mem_of_getElem? hb)).1
    rcases stG_cases (grpN s (resP p true) k) b (l.map (resF 1)) with ⟨h1, hno⟩ | ⟨h3, a, c, x, y, hlk, hll, hx, hy, h1⟩
    · rw [h1]
      rcases stG_cases (grpN s (resP p false) k) b (l.map (resF 0)) with ⟨h0, _⟩ | ⟨h3, a, c, x, y, hlk, hll, hx, hy, h0⟩
      · rw [h0]; exact ih
      · exfalso
        apply hno
        match l, hll with
        | [x', y'], hll =>
          simp at hll
          exact ⟨h3, a, c, _, _, hlk, rfl, res01 (by rw [hll.1]; exact hx), res01 (by rw [hll.2]; exact hy)⟩
    · rw [h1]
      obtain ⟨u, hu0, _, hu⟩ := g0_at (G := grpN s (resP p true) k) (b := a.bus) (by rw [hB]; exact hbus a (by simp [hlk]))
      obtain ⟨v, hv0, _, hv⟩ := g0_at (G := grpN s (resP p true) k) (b := c.bus) (by rw [hB]; exact hbus c (by simp [hlk]))
      rcases stG_cases (grpN s (resP p false) k) b (l.map (resF 0)) with ⟨h0, _⟩ | ⟨_, a', c', x', y', hlk', hll', hx', hy', h0⟩
      · rw [h0]; exact fin_right ih _
      · rw [h0]
        rw [hlk] at hlk'
        simp at hlk'
        obtain ⟨rfl, rfl⟩ := hlk'
        obtain ⟨u', hu0', _, hu'⟩ := g0_at (G := grpN s (resP p false) k) (b := a.bus) (by rw [hA]; exact hbus a (by simp [hlk]))
        obtain ⟨v', hv0', _, hv'⟩ := g0_at (G := grpN s (resP p false) k) (b := c.bus) (by rw [hA]; exact hbus c (by simp [hlk]))
        have eu : u' = u := by omega
        have ev : v' = v := by omega
        subst eu; subst ev
        exact fin_both ih hu' hv' hu hv
/-- What the law of moving links asks of a bus. -/
theorem moving_at {s : Stn} {p : Pos} (hF : Fine s) (hk : p.lk.length = s.qs.length) {i : Nat} (hi : i < s.bs.length) : ∃ u v : Nat, u ≤ i ∧ v ≤ u ∧ (grp s (resP p false))[i]? = some (u : Int) ∧ (grp s (resP p false))[u]? = some (u : Int) ∧ (grp s (resP p true))[i]? = some (v : Int) ∧ (grp s (resP p true))[u]? = some (v : Int) ∧ (grp s (resP p true))[v]? = some (v : Int) := by
  have hk0 : (resP p false).lk.length = s.qs.length := by simp [resP, hk]
  have hk1 : (resP p true).lk.length = s.qs.length := by simp [resP, hk]
  have cA : Can (grp s (resP p false)) := grpN_can hF hk0 _ (Nat.le_refl _)
  have cB : Can (grp s (resP p true)) := grpN_can hF hk1 _ (Nat.le_refl _)
  have fAB : Fin2 (grp s (resP p false)) (grp s (resP p true)) := grpN_fin hF hk _ (Nat.le_refl _)
  obtain ⟨x, hx, _⟩ := at_ex (l := grp s (resP p false)) (i := i) (by rw [grp, grpN_len]; exact hi)
  obtain ⟨y, hy, _⟩ := at_ex (l := grp s (resP p true)) (i := i) (by rw [grp, grpN_len]; exact hi)
  obtain ⟨u, hu, hui, hAu⟩ := cA i x hx
  obtain ⟨v, hv, hvi, hBv⟩ := cB i y hy
  obtain ⟨u', hu', hB⟩ := fAB i x hx
  have : u' = u := by omega
  subst this
  have hBu : (grp s (resP p true))[u']? = some y := by rw [hB]; exact hy
  obtain ⟨t, ht, htu, _⟩ := cB u' y hBu
  subst hu; subst hv
  exact ⟨u', v, hui, by omega, hx, hAu, hy, hBu, hBv⟩
end Go.Proofs.Ytcbddoopmkhlfaa
end
section
namespace Go.Proofs.Ytcbddoopmkhlfaa
open Go.Pv Go.RowKit
set_option linter.unusedSimpArgs false
set_option linter.unusedVariables false
set_option maxRecDepth 100000
set_option maxHeartbeats 4000000
attribute [-simp] Tclo_at Tgrp_at Tchk Tpchk TcI TcB Tclo Tgrp Tsid Tnod Tlook Tbnd TsidA Tre Tidx Tnms Tnmd Tobj Tlks Tbay Trck Trpc Tres TSd TBd Tnm Tlv Tfd

theorem okL_res0 {k x : Int} (h : okL k x = true) : okL k (resF 0 x) = true := by
  unfold resF
  split
  · rename_i h2
    have h2' : x = 2 := ieq_iff.1 h2
    subst h2'
    unfold okL at *
    cases h3 : ieq k 3
    · simp [ieq]
    · rw [h3] at h; simp [ieq] at h
  · exact h
theorem okP_resB {s : Stn} {p : Pos} (h : okP s p = true) (c : Bool) : okP s (resP p c) = true := by
  obtain ⟨h1, h2⟩ := okP_iff h
  have hP := pfine_of h2
  have hP' : PFine s (resP p c) := by
    refine ⟨hP.nc, by simp [resP, hP.nk], fun i b l hb hl => ?_⟩
    simp only [resP, List.getElem?_map] at hl
    obtain ⟨l0, hl0, rfl⟩ := Option.map_eq_some_iff.1 hl
    obtain ⟨h3, h4⟩ := hP.row i b l0 hb hl0
    refine ⟨by simpa using h3, fun x hx => ?_⟩
    obtain ⟨y, hy, rfl⟩ := List.mem_map.1 hx
    cases c
    · exact okL_res0 (h4 y hy)
    · exact okL_res (h4 y hy)
  simp [okP, h1, posE_of hP']
theorem res_small {s : Stn} {p : Pos} (h : okP s p = true) : p.cl.length ≤ 1000 ∧ p.lk.length ≤ 1000 ∧ ∀ l ∈ p.lk, l.length ≤ 1000 := by
  obtain ⟨h1, h2⟩ := okP_iff h
  have hF := fine_of h1
  have hP := pfine_of h2
  have hq := hF.nq
  refine ⟨by have := hP.nc; omega, by have := hP.nk; omega, fun l hl => ?_⟩
  obtain ⟨i, hi, rfl⟩ := List.mem_iff_getElem.1 hl
  have hk := hP.nk
  obtain ⟨b, hb, _⟩ := at_ex (l := s.qs) (i := i) (by omega)
  have := (hP.row i b _ hb (List.getElem?_eq_getElem hi)).1
  have := (hF.lk b (List.mem_of_getElem? hb)).2.2.2
  omega
def Tkn : List V → Option V
  | [] => some (.bool true)
  | _ => none
theorem kn_tab : ∀ vs v, Tkn vs = some v → PCall Try.prog 20 vs v := by
  intro vs v h; unfold Tkn at h; split at h
  · cases h; exact known_ok
  · cases h
def Tlg : List V → Option V
  | [.agg a] => (unStn a).map fun s => .bool (largeF s)
  | _ => none
theorem Tlg_at (s : Stn) : Tlg [.agg [.str s.nm, .list 1 (s.bs.map s1), .list 5 (s.ls.map Ln.cs), .list 6 (s.ss.map Sr.cs), .list 12 (s.qs.map By.cs)]] = some (.bool (largeF s)) := by
  have e1 := unStn_cs s
  unfold Stn.cs at e1
  simp [Tlg, e1]
theorem lg_tab : ∀ vs v, Tlg vs = some v → PCall Try.prog 48 vs v := by
  intro vs v h; unfold Tlg at h; split at h
  · simp only [Option.map_eq_some_iff] at h
    obtain ⟨s, hs, rfl⟩ := h
    rw [unStn_inv _ _ hs]; exact large_ok _
  · cases h
def Tgps : List V → Option V
  | [.agg a, .agg b] => (match unStn a, unPos b with
    | some s, some p => if okP s p = true then some (.list 1 ((grp s p).map i1)) else none
    | _, _ => none)
  | _ => none
theorem Tgps_at {s : Stn} {p : Pos} (h : okP s p = true) : Tgps [.agg [.str s.nm, .list 1 (s.bs.map s1), .list 5 (s.ls.map Ln.cs), .list 6 (s.ss.map Sr.cs), .list 12 (s.qs.map By.cs)], .agg [.list 1 (p.cl.map b1), .list 1 (p.lk.map r1)]] = some (.list 1 ((grp s p).map i1)) := by
  have e1 := unStn_cs s
  have e2 := unPos_cs p
  unfold Stn.cs at e1
  unfold Pos.cs at e2
  simp [Tgps, e1, e2, h]
theorem gps_tab : ∀ vs v, Tgps vs = some v → PCall Try.prog 33 vs v := by
  intro vs v h; unfold Tgps at h; split at h
  · split at h
    · rename_i h1 h2
      split at h
      · rename_i hl; cases h; rw [unStn_inv _ _ h1, unPos_inv _ _ h2]; exact Groups_ok hl
      · cases h
    · cases h
  · cases h
def G3 : Tab := add 20 Tkn (add 48 Tlg (add 33 Tgps (add 34 Tres (add 44 Trck (add 45 Trpc (G2))))))
theorem G3_at (f : FuncId) (vs : List V) : G3.at' f vs = if f = 20 then Tkn vs else if f = 48 then Tlg vs else if f = 33 then Tgps vs else if f = 34 then Tres vs else if f = 44 then Trck vs else if f = 45 then Trpc vs else G2.at' f vs := rfl
theorem G3_fr (f : FuncId) : G3.fr f = if f = 20 then false else if f = 48 then false else if f = 33 then false else if f = 34 then false else if f = 44 then false else if f = 45 then false else G2.fr f := rfl
theorem G3_gb (f : FuncId) : G3.gb f = G2.gb f := rfl
theorem G3_gv (f : FuncId) (vs : List V) : G3.gv f vs = G2.gv f vs := rfl
attribute [simp] G3_at G3_fr G3_gb G3_gv Tgps Tkn Tlg Trck Tres Trpc
theorem G3_ok : TabOK Try.prog G3 := by
  refine add_ok (add_ok (add_ok (add_ok (add_ok (add_ok (G2_ok) (by kernel_rfl) ?_) (by kernel_rfl) ?_) (by kernel_rfl) ?_) (by kernel_rfl) ?_) (by kernel_rfl) ?_) (by kernel_rfl) ?_
  · exact rpc_tab
  · exact rck_tab
  · exact res_tab
  · exact gps_tab
  · exact lg_tab
  · exact kn_tab
attribute [-simp] Tlg Tgps Tres Trck Trpc
attribute [simp] Tlg_at Tgps_at
def fineF (s : Stn) (p : Pos) : Bool := !largeF s && okP s p
theorem Fine_ok {s : Stn} {p : Pos} (h1 : lkB s = true) (h2 : lenB s p = true) : PCall Try.prog 21 [.agg s.cs, .agg p.cs] (.bool (fineF s p)) := by
  cases e0 : largeF s
  case true =>
    have hk : fineF s p = false := by simp [fineF, e0]
    refine pcall_cx G3_ok mixed (fun _ => none) Try.func21 rfl Try.ntmps21 Try.results21 (by simp) (by kernel_rfl) ?_
    repeat' first
      | (with_reducible refine gw_bool (fun _ => ?_) (fun _ => ?_))
      | (with_reducible refine condw_bool (fun _ => ?_) (fun _ => ?_))
      | simp [*, Stn.cs, Pos.cs]
  cases e1 : ieq (chkF s) 0
  · have hk : fineF s p = false := by have := ieq_iff'.1 e1; simp [fineF, okP, this]
    refine pcall_cx G3_ok mixed (fun _ => none) Try.func21 rfl Try.ntmps21 Try.results21 (by simp) (by kernel_rfl) ?_
    repeat' first
      | (with_reducible refine gw_bool (fun _ => ?_) (fun _ => ?_))
      | (with_reducible refine condw_bool (fun _ => ?_) (fun _ => ?_))
      | simp [*, Stn.cs, Pos.cs]
  cases e2 : ieq (posE s p) 0
  · have hk : fineF s p = false := by have := ieq_iff'.1 e2; simp [fineF, okP, this]
    refine pcall_cx G3_ok mixed (fun _ => none) Try.func21 rfl Try.ntmps21 Try.results21 (by simp) (by kernel_rfl) ?_
    repeat' first
      | (with_reducible refine gw_bool (fun _ => ?_) (fun _ => ?_))
      | (with_reducible refine condw_bool (fun _ => ?_) (fun _ => ?_))
      | simp [*, Stn.cs, Pos.cs]
  have hk : fineF s p = true := by simp [fineF, e0, okP, ieq_iff.1 e1, ieq_iff.1 e2]
  refine pcall_cx G3_ok mixed (fun _ => none) Try.func21 rfl Try.ntmps21 Try.results21 (by simp) (by kernel_rfl) ?_
  repeat' first
    | (with_reducible refine gw_bool (fun _ => ?_) (fun _ => ?_))
    | (with_reducible refine condw_bool (fun _ => ?_) (fun _ => ?_))
    | simp [*, Stn.cs, Pos.cs]
def Tfn : List V → Option V
  | [.agg a, .agg b] => (match unStn a, unPos b with
    | some s, some p => if lkB s = true ∧ lenB s p = true then some (.bool (fineF s p)) else none
    | _, _ => none)
  | _ => none
theorem Tfn_at {s : Stn} {p : Pos} (h1 : lkB s = true) (h2 : lenB s p = true) : Tfn [.agg [.str s.nm, .list 1 (s.bs.map s1), .list 5 (s.ls.map Ln.cs), .list 6 (s.ss.map Sr.cs), .list 12 (s.qs.map By.cs)], .agg [.list 1 (p.cl.map b1), .list 1 (p.lk.map r1)]] = some (.bool (fineF s p)) := by
  have e1 := unStn_cs s
  have e2 := unPos_cs p
  unfold Stn.cs at e1
  unfold Pos.cs at e2
  simp [Tfn, e1, e2, h1, h2]
theorem fn_tab : ∀ vs v, Tfn vs = some v → PCall Try.prog 21 vs v := by
  intro vs v h; unfold Tfn at h; split at h
  · split at h
    · rename_i h1 h2
      split at h
      · rename_i hl; cases h; rw [unStn_inv _ _ h1, unPos_inv _ _ h2]; exact Fine_ok hl.1 hl.2
      · cases h
    · cases h
  · cases h
def G4 : Tab := add 21 Tfn (G3)
theorem G4_at (f : FuncId) (vs : List V) : G4.at' f vs = if f = 21 then Tfn vs else G3.at' f vs := rfl
theorem G4_fr (f : FuncId) : G4.fr f = if f = 21 then false else G3.fr f := rfl
theorem G4_gb (f : FuncId) : G4.gb f = G3.gb f := rfl
theorem G4_gv (f : FuncId) (vs : List V) : G4.gv f vs = G3.gv f vs := rfl
attribute [simp] G4_at G4_fr G4_gb G4_gv Tfn
theorem G4_ok : TabOK Try.prog G4 := by
  refine add_ok (G3_ok) (by kernel_rfl) ?_
  · exact fn_tab
attribute [-simp] Tfn
attribute [simp] Tfn_at
theorem moving_ok {s : Stn} {p : Pos} (h1 : lkB s = true) (h2 : lenB s p = true) : PCall Try.prog 10 [.agg s.cs, .agg p.cs] (.bool true) := by
  have hTf := Tfn_at h1 h2
  cases hf : fineF s p
  · rw [hf] at hTf
    clear h1 h2
    refine pcall_cx G4_ok mixed (fun _ => none) Try.func10 rfl Try.ntmps10 Try.results10 (by simp) (by kernel_rfl) ?_
    repeat' first
      | (with_reducible refine gw_bool (fun _ => ?_) (fun _ => ?_))
      | (with_reducible refine condw_bool (fun _ => ?_) (fun _ => ?_))
      | simp [*, Stn.cs, Pos.cs]
  rw [hf] at hTf
  have hok : okP s p = true := by simp only [fineF, Bool.and_eq_true] at hf; exact hf.2
  have hF := fine_of (okP_iff hok).1
  have hP := pfine_of (okP_iff hok).2
  have hat : ∀ i, i < s.bs.length → _ := fun i hi => moving_at hF hP.nk hi
  have hT0 := Tres_at (c := false) (res_small hok)
  have hT1 := Tres_at (c := true) (res_small hok)
  have hg0 := Tgps_at (okP_resB hok false)
  have hg1 := Tgps_at (okP_resB hok true)
  have hA : (grp s (resP p false)).length = s.bs.length := by rw [grp, grpN_len]
  have hB : (grp s (resP p true)).length = s.bs.length := by rw [grp, grpN_len]
  have hnb := hF.nb
  generalize resP p false = P0 at hT0 hg0 hA hat
  generalize resP p true = P1 at hT1 hg1 hB hat
  generalize grp s P0 = A at hg0 hA hat
  generalize grp s P1 = B at hg1 hB hat
  simp only [Pos.cs] at hT0 hT1
  obtain ⟨n, hn⟩ : ∃ n, s.bs.length = n := ⟨_, rfl⟩
  rw [hn] at hA hB hnb hat
  replace hat : Hid (∀ i, i < n → ∃ u v : Nat, u ≤ i ∧ v ≤ u ∧ A[i]? = some (u : Int) ∧ A[u]? = some (u : Int) ∧ B[i]? = some (v : Int) ∧ B[u]? = some (v : Int) ∧ B[v]? = some (v : Int)) := hat
  clear h1 h2 hf hok hF hP
  refine pcall_cx G4_ok mixed (fun _ => none) Try.func10 rfl Try.ntmps10 Try.results10 (by simp) (by kernel_rfl) ?_
  repeat' first
    | (with_reducible refine gw_bool (fun _ => ?_) (fun _ => ?_))
    | (with_reducible refine condw_bool (fun _ => ?_) (fun _ => ?_))
    | simp [*, Stn.cs, Pos.cs]
  refine lp_go (D := (fun _ => none)) G4_ok mixed (by kernel_rfl) [5, 6] [2, 3] (α := Nat) (fun i e h => i ≤ n ∧ e 7 = .int .i64 i) (fun i => n - i) 0 ?_ ?_
  · exact ⟨by omega, by simp⟩
  rintro i e h hk hkh ⟨hi, g7⟩
  simp [Keep] at hk
  simp [KeepH] at hkh
  clear hT0 hT1 hg0 hg1 hTf
  by_cases hlt : i < n
  · obtain ⟨u, v, hui, hvu, a1, a2, b1, b2, b3⟩ := hat.out i hlt
    clear hat
    have f1 : ilt (i : Int) (n : Int) = true := ilt_t (by omega)
    have w1 : IntKind.i64.wrap ((i : Int) + 1) = ((i + 1 : Nat) : Int) := wrap_succ (by omega)
    have f2 : ilt (u : Int) 0 = false := ilt_f (by omega)
    have f3 : ilt (i : Int) (u : Int) = false := ilt_f (by omega)
    have f4 : ilt (v : Int) 0 = false := ilt_f (by omega)
    have f5 : ilt (u : Int) (v : Int) = false := ilt_f (by omega)
    have q1 : ieq (v : Int) (v : Int) = true := ieq_t rfl
    have q2 : ieq (u : Int) (u : Int) = true := ieq_t rfl
    obtain ⟨la1, ga1⟩ := get_of a1
    obtain ⟨la2, ga2⟩ := get_of a2
    obtain ⟨lb1, gb1⟩ := get_of b1
    obtain ⟨lb2, gb2⟩ := get_of b2
    obtain ⟨lb3, gb3⟩ := get_of b3
    repeat' first
      | (with_reducible refine gw_bool (fun _ => ?_) (fun _ => ?_))
      | (with_reducible refine condw_bool (fun _ => ?_) (fun _ => ?_))
      | simp [*, i1]
    refine nxt_go (i + 1) (View.refl _ _) (by omega) (by simp [*, Keep, St.forget, scr, scrC]) (by simp [*, KeepH, St.forget, scr, scrC]) ?_
    exact ⟨by omega, by simp [*]⟩
  · have f1 : ilt (i : Int) (n : Int) = false := ilt_f (by omega)
    clear hat
    repeat' first
      | (with_reducible refine gw_bool (fun _ => ?_) (fun _ => ?_))
      | (with_reducible refine condw_bool (fun _ => ?_) (fun _ => ?_))
      | simp [*]
end Go.Proofs.Ytcbddoopmkhlfaa
end
