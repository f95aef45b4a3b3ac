/-
  The document's targets of breaker failure protection.
-/
import Derived.Test.YtcbddoopmkhlfaaSt26
namespace Go.Proofs.Ytcbddoopmkhlfaa
open Go.Pv Go.RowKit
set_option linter.unusedSimpArgs false
set_option linter.unusedVariables false
set_option maxRecDepth 100000
set_option maxHeartbeats 4000000
attribute [-simp] Tclo_at Tgrp_at Tchk Tpchk TcI TcB Tclo Tgrp Tsid Tnod Tlook Tbnd Tidx Tnms Tnmd Tobj Tlks Tbay Trck Trpc Tres TSd TBd Trg Trf Trsd Trnd Tar

theorem rres_tab : ∀ vs v, Tres vs = some v → PCall Try.prog 46 vs v := by
  intro vs v h; unfold Tres at h; split at h
  · split at h
    · rename_i h1
      split at h
      · rename_i hl; cases h; rw [unPos_inv _ _ h1]; exact rresolve_ok _ _ hl.1 hl.2.1 hl.2.2
      · cases h
    · cases h
  · cases h
theorem rSd_tab : ∀ vs v, TSd vs = some v → PCall Try.prog 36 vs v := by
  intro vs v h; unfold TSd at h; split at h
  · split at h
    · rename_i h1 h2
      split at h
      · rename_i hl
        split at h
        · rename_i hS; cases h; rw [unStn_inv _ _ h1, unPos_inv _ _ h2]; exact rSides_ok hl _ _ hS
        · cases h
      · cases h
    · cases h
  · cases h
theorem rBd_tab : ∀ vs v, TBd vs = some v → PCall Try.prog 29 vs v := by
  intro vs v h; unfold TBd at h; split at h
  · split at h
    · rename_i h1 h2
      split at h
      · rename_i hl
        cases h; rw [unStn_inv _ _ h1, unPos_inv _ _ h2]; exact rBoundary_ok hl _ _
      · cases h
    · cases h
  · cases h
def E12 : Tab := add 46 Tres (add 36 TSd (add 29 TBd (E11)))
theorem E12_at (f : FuncId) (vs : List V) : E12.at' f vs = if f = 46 then Tres vs else if f = 36 then TSd vs else if f = 29 then TBd vs else E11.at' f vs := rfl
theorem E12_fr (f : FuncId) : E12.fr f = if f = 46 then false else if f = 36 then false else if f = 29 then false else E11.fr f := rfl
theorem E12_gb (f : FuncId) : E12.gb f = E11.gb f := rfl
theorem E12_gv (f : FuncId) (vs : List V) : E12.gv f vs = E11.gv f vs := rfl
attribute [simp] E12_at E12_fr E12_gb E12_gv TBd TSd Tres
theorem E12_ok : TabOK Try.prog E12 := by
  refine add_ok (add_ok (add_ok (E11_ok) (by kernel_rfl) ?_) (by kernel_rfl) ?_) (by kernel_rfl) ?_
  · exact rBd_tab
  · exact rSd_tab
  · exact rres_tab
attribute [-simp] Tres TSd TBd
theorem rtargets_ok (s : Stn) (p : Pos) (f : List Bool) (hlk : lkB s = true) (hl : lenB s p = true) (hf : f.length ≤ 9223372036854775807) : PFresh Try.prog 18 [.agg s.cs, .agg p.cs, .list 1 (f.map b1)] (.list 1 ((tgtF s p f).map b1)) := by
  obtain ⟨nf, hnf⟩ : ∃ n, f.length = n := ⟨_, rfl⟩
  obtain ⟨n, hn⟩ : ∃ n, s.qs.length = n := ⟨_, rfl⟩
  cases e1 : ieq (chkF s) 0
  · have ht : tgtF s p f = [] := by have := ieq_iff'.1 e1; simp [tgtF, okP, this]
    rw [ht]
    refine pfresh_nil ?_
    refine pfresh_cx E12_ok mixed (fun _ => none) Try.func18 rfl Try.ntmps18 Try.results18 (by simp) (by kernel_rfl) ?_
    repeat' first
      | (with_reducible refine gw_bool (fun _ => ?_) (fun _ => ?_))
      | (with_reducible refine condw_bool (fun _ => ?_) (fun _ => ?_))
      | simp [*, Stn.cs, Pos.cs]
  cases e2 : ieq (posE s p) 0
  · have ht : tgtF s p f = [] := by have := ieq_iff'.1 e2; simp [tgtF, okP, this]
    rw [ht]
    refine pfresh_nil ?_
    refine pfresh_cx E12_ok mixed (fun _ => none) Try.func18 rfl Try.ntmps18 Try.results18 (by simp) (by kernel_rfl) ?_
    repeat' first
      | (with_reducible refine gw_bool (fun _ => ?_) (fun _ => ?_))
      | (with_reducible refine condw_bool (fun _ => ?_) (fun _ => ?_))
      | simp [*, Stn.cs, Pos.cs]
  cases e3 : ieq (nf : Int) (n : Int)
  · have ht : tgtF s p f = [] := by
      have h3 := ieq_iff'.1 e3
      have : ¬ (f.length = s.qs.length) := by rw [hnf, hn]; omega
      simp [tgtF, this]
    rw [ht]
    refine pfresh_nil ?_
    refine pfresh_cx E12_ok mixed (fun _ => none) Try.func18 rfl Try.ntmps18 Try.results18 (by simp) (by kernel_rfl) ?_
    repeat' first
      | (with_reducible refine gw_bool (fun _ => ?_) (fun _ => ?_))
      | (with_reducible refine condw_bool (fun _ => ?_) (fun _ => ?_))
      | simp [*, Stn.cs, Pos.cs]
  have h1 := ieq_iff.1 e1
  have h2 := ieq_iff.1 e2
  have hF := fine_of h1
  have hP := pfine_of h2
  have hq := okP_res h1 h2
  have hn16 : n ≤ 16 := by have := hF.nq; omega
  have hfn : nf = n := by have := ieq_iff.1 e3; omega
  subst hfn
  have ht : tgtF s p f = tgN s (resP p true) f nf := by simp [tgtF, okP, h1, h2, hnf, hn]
  have hrs : p.cl.length ≤ 1000 ∧ p.lk.length ≤ 1000 ∧ ∀ l ∈ p.lk, l.length ≤ 1000 := by
    refine ⟨by have := hP.nc; omega, by have := hP.nk; omega, fun l hl => ?_⟩
    obtain ⟨i, hi, rfl⟩ := List.mem_iff_getElem.1 hl
    have hk := hP.nk
    obtain ⟨b, hb, _⟩ := at_ex (l := s.qs) (i := i) (by omega)
    have := (hP.row i b _ hb (List.getElem?_eq_getElem hi)).1
    have := (hF.lk b (List.mem_of_getElem? hb)).2.2.2
    omega
  rw [ht]
  clear ht
  have hwq := wfg_of hq
  have hTr := Tres_at (c := true) hrs
  clear hrs hP
  obtain ⟨q, hqq⟩ : ∃ q, resP p true = q := ⟨_, rfl⟩
  rw [hqq] at hq hwq hTr ⊢
  have hch := chunks_b1 (tgN s q f nf)
  have hpu := pure_b1 (tgN s q f nf)
  have hgl : (tgN s q f nf).length = nf := by rw [tgN_len]; exact hn
  rw [hgl] at hch
  obtain ⟨R, hR⟩ : ∃ R, tgN s q f nf = R := ⟨_, rfl⟩
  rw [hR] at hch hpu hgl
  rw [hR]
  replace hR : Hid (tgN s q f nf = R) := hR
  have hmk := repl_b nf
  have f5 : (nf : Int) ≤ 281474976710656 := by omega
  have f6 : (nf : Int) ≤ 9223372036854775807 := by omega
  refine pfresh_cx E12_ok mixed (fun _ => none) Try.func18 rfl Try.ntmps18 Try.results18 (by simp) (by kernel_rfl) ?_
  repeat' first
    | (with_reducible refine gw_bool (fun _ => ?_) (fun _ => ?_))
    | (with_reducible refine condw_bool (fun _ => ?_) (fun _ => ?_))
    | simp [*, Stn.cs, Pos.cs, makeV]
  refine lp_go (D := (fun _ => none)) E12_ok mixed (by kernel_rfl) [2, 3, 4, 7, 38] [3, 4, 10] (α := Nat) (fun i e h => i ≤ nf ∧ e 39 = .int .i64 i ∧ h 35 = some ⟨4, (tgN s q f i).map V.bool⟩) (fun i => nf - i) 0 ?_ ?_
  · refine ⟨by omega, by simp, by simp [tgN, hn, hmk]⟩
  · rintro i e h hk hkh ⟨hi, g7, g37⟩
    simp [Keep] at hk
    simp [KeepH] at hkh
    by_cases hlt : i < nf
    · have hif : i < f.length := hnf ▸ hlt
      obtain ⟨fb, hfb, hfb'⟩ := at_ex hif
      have f1 : ilt (i : Int) (nf : Int) = true := ilt_t (by omega)
      have w1 : IntKind.i64.wrap ((i : Int) + 1) = ((i + 1 : Nat) : Int) := wrap_succ (by omega)
      have hst : tgN s q f (i + 1) = if fb = true then markL (tgN s q f i) (rowK s q i) else tgN s q f i := by
        have : fl f i = fb := by simp [fl, hfb]
        rw [← this]; rfl
      have hTl : (tgN s q f i).length = nf := by rw [tgN_len]; exact hn
      cases fb with
      | false =>
        rw [if_neg (by simp)] at hst
        replace hst : Hid (tgN s q f (i + 1) = tgN s q f i) := hst
        generalize tgN s q f i = T at g37 hst hTl
        clear hR hch hpu hgl hmk hwq hTr
        repeat' first
          | (with_reducible refine gw_bool (fun _ => ?_) (fun _ => ?_))
          | (with_reducible refine condw_bool (fun _ => ?_) (fun _ => ?_))
          | simp [*, b1]
        refine nxt_go (i + 1) (View.refl _ _) (by omega) (by simp [*, Keep, St.forget, scr, scrC]) (by simp [*, KeepH, St.forget, scr, scrC]) ?_
        refine ⟨by omega, by simp [*], ?_⟩
        rw [hst.out]; simp [*]
      | true =>
        rw [if_pos rfl] at hst
        obtain ⟨b, hb, -⟩ := at_ex (l := s.qs) (i := i) (by omega)
        obtain ⟨l, hlq, -⟩ := wf_at hwq hb
        obtain ⟨a0, a1, c0, c1, hsd⟩ := sid4 (grp s q) b l
        have hS : sidF s q (grp s q) i = some [a0, a1, c0, c1] := by
          rw [← hsd]
          have : (i : Int) < s.qs.length := by omega
          simp [sidF, hwq, hb, hlq, this]
        have hrow : rowK s q i = ifK a0 (bK s q a1) ++ ifK c0 (bK s q c1) := by simp [rowK, hS]
        rw [hrow, markL_app] at hst
        replace hst : Hid (tgN s q f (i + 1) = markL (markL (tgN s q f i) (ifK a0 (bK s q a1))) (ifK c0 (bK s q c1))) := hst
        generalize tgN s q f i = T at g37 hst hTl
        clear hR hch hpu hgl hmk hwq hTr hb hlq hsd hrow
        repeat' first
          | (with_reducible refine gw_bool (fun _ => ?_) (fun _ => ?_))
          | (with_reducible refine condw_bool (fun _ => ?_) (fun _ => ?_))
          | simp [*, b1]
        refine lp_go (D := (fun _ => none)) E12_ok mixed (by kernel_rfl) [2, 3, 4, 7, 8, 38, 39, 40, 41, 42, 43, 44, 45, 46, 47, 48, 49, 50] [3, 4, 10] (α := Nat) (fun c e h => c ≤ 2 ∧ e 51 = .int .i64 c ∧ h 35 = some ⟨4, (if c = 0 then T else if c = 1 then markL T (ifK a0 (bK s q a1)) else markL (markL T (ifK a0 (bK s q a1))) (ifK c0 (bK s q c1))).map V.bool⟩) (fun c => 2 - c) 0 ?_ ?_
        · refine ⟨by omega, by simp, by simp [*]⟩
        · have hk0 := hk
          have hkh0 := hkh
          have g70 := g7
          clear hk hkh g7 g37
          rintro c e h hk hkh ⟨hc, g7, g37⟩
          simp [Keep, hk0, hkh0, g70] at hk
          simp [KeepH, hk0, hkh0] at hkh
          rcases (show c = 0 ∨ c = 1 ∨ c = 2 by omega) with rfl | rfl | rfl
          · rw [if_pos rfl] at g37
            have hTl2 : (T).length = nf := by simp [markL_len, hTl]
            obtain ⟨U, hU⟩ : ∃ U, T = U := ⟨_, rfl⟩
            rw [hU] at g37 hTl2
            cases hz : ieq a0 1
            · have hnx0 : markL T (ifK a0 (bK s q a1)) = U := by rw [← hU]; simp [ifK, hz, markL]
              have hnx : Hid (markL T (ifK a0 (bK s q a1)) = U) := hnx0
              clear hnx0
              clear hst hU
              repeat' first
                | (with_reducible refine gw_bool (fun _ => ?_) (fun _ => ?_))
                | (with_reducible refine condw_bool (fun _ => ?_) (fun _ => ?_))
                | simp [*]
              refine nxt_go (0 + 1) (View.forget _ _ 10) (by omega) (by simp [*, Keep, St.forget, scr, scrC, usesC, usesA]) (by simp [*, KeepH, St.forget, scr, scrC]) ?_
              refine ⟨by omega, by simp [*, St.forget, scr, scrC], ?_⟩
              rw [if_neg (by decide), if_pos rfl]
              rw [hnx.out]; simp [*, St.forget, scr, scrC, scrB_comp]
            · have hnx0 : markL T (ifK a0 (bK s q a1)) = markL U (bK s q a1) := by rw [← hU]; simp [ifK, hz]
              have hnx : Hid (markL T (ifK a0 (bK s q a1)) = markL U (bK s q a1)) := hnx0
              clear hnx0
              have hin : ∀ (j : Nat) (x : Int), (bK s q a1)[j]? = some x → ∃ u : Nat, x = u ∧ u < nf := fun j x hx => by have := bK_in hx; rw [hn] at this; exact this
              have hfold : bndF s q (grp s q) (nodF s (grp s q) 1 a1) = bK s q a1 := rfl
              obtain ⟨K, hK⟩ : ∃ K, bK s q a1 = K := ⟨_, rfl⟩
              have hnx0 : markL T (ifK a0 (bK s q a1)) = markL U K := by rw [show markL U K = markL U (bK s q a1) by rw [hK]]; exact hnx.out
              rw [hK] at hin hfold
              clear hst hU hK hnx
              have hnx : Hid (markL T (ifK a0 (bK s q a1)) = markL U K) := hnx0
              clear hnx0
              have hKl : K.length ≤ 1000 ∨ 1000 < K.length := by omega
              obtain ⟨m, hm⟩ : ∃ m, K.length = m := ⟨_, rfl⟩
              have hml : m ≤ 9223372036854775806 := by
                rw [← hm, ← hfold]
                cases nodF s (grp s q) 1 a1 with
                | none => simp [bndF]
                | some nd => simp only [bndF]; have := bndN_len s q (grp s q) nd s.qs.length; omega
              repeat' first
                | (with_reducible refine gw_bool (fun _ => ?_) (fun _ => ?_))
                | (with_reducible refine condw_bool (fun _ => ?_) (fun _ => ?_))
                | simp [*]
              refine lp_go (D := (fun _ => none)) E12_ok mixed (by kernel_rfl) [2, 3, 4, 7, 8, 10, 38, 39, 40, 41, 42, 43, 44, 45, 46, 47, 48, 49, 50, 51, 52, 53, 54, 55, 56, 57, 58, 59, 60, 61, 62, 63] [3, 4, 10] (α := Nat) (fun j e h => j ≤ m ∧ e 64 = .int .i64 j ∧ h 35 = some ⟨4, (markL U (K.take j)).map V.bool⟩) (fun j => m - j) 0 ?_ ?_
              · exact ⟨by omega, by simp, by simp [*, markL]⟩
              · have hk1 := hk
                have hkh1 := hkh
                have g71 := g7
                clear hk hkh g7 g37
                rintro j e h hk hkh ⟨hj, g7, g37⟩
                simp [Keep, hk1, hkh1, g71, hfold, hm] at hk
                simp [KeepH, hk1, hkh1] at hkh
                have hCl : (markL U (K.take j)).length = nf := by rw [markL_len]; exact hTl2
                by_cases hjlt : j < m
                · obtain ⟨x, hx, hx'⟩ := at_ex (l := K) (i := j) (by omega)
                  obtain ⟨u, hxu, hul⟩ := hin j x hx
                  subst hxu
                  have hnj : Hid (markL U (K.take (j + 1)) = (markL U (K.take j)).set u true) := markL_step hx
                  have f2 : ilt (j : Int) (m : Int) = true := ilt_t (by omega)
                  have w2 : IntKind.i64.wrap ((j : Int) + 1) = ((j + 1 : Nat) : Int) := wrap_succ (by omega)
                  generalize markL U (K.take j) = C at g37 hCl hnj
                  have hu1 : u + 1 ≤ nf := by omega
                  clear hnx hin hfold hTl2
                  repeat' first
                    | (with_reducible refine gw_bool (fun _ => ?_) (fun _ => ?_))
                    | (with_reducible refine condw_bool (fun _ => ?_) (fun _ => ?_))
                    | simp [*, i1, setsV]
                  refine nxt_go (j + 1) (View.refl _ _) (by omega) (by simp [*, Keep, St.forget, scr, scrC]) (by simp [*, KeepH, St.forget, scr, scrC]) ?_
                  refine ⟨by omega, by simp [*], ?_⟩
                  rw [hnj.out]; simp [*, setsV, List.map_set]
                · have f2 : ilt (j : Int) (m : Int) = false := ilt_f (by omega)
                  have e2 : j = K.length := by omega
                  rw [e2, List.take_length] at g37
                  have hnx' := hnx.out
                  clear e2 hCl hnx hin hfold
                  generalize markL U K = C at g37 hnx'
                  replace hnx' : Hid (markL T (ifK a0 (bK s q a1)) = C) := hnx'
                  repeat' first
                    | (with_reducible refine gw_bool (fun _ => ?_) (fun _ => ?_))
                    | (with_reducible refine condw_bool (fun _ => ?_) (fun _ => ?_))
                    | simp [*]
                  refine nxt_go (0 + 1) (View.forget _ _ 10) (by omega) (by simp [*, Keep, St.forget, scr, scrC, usesC, usesA]) (by simp [*, KeepH, St.forget, scr, scrC]) ?_
                  refine ⟨by omega, by simp [*, St.forget, scr, scrC], ?_⟩
                  rw [if_neg (by decide), if_pos rfl]
                  rw [hnx'.out]; simp [*, St.forget, scr, scrC, scrB_comp]
          · rw [if_neg (by decide), if_pos rfl] at g37
            have hTl2 : (markL T (ifK a0 (bK s q a1))).length = nf := by simp [markL_len, hTl]
            obtain ⟨U, hU⟩ : ∃ U, markL T (ifK a0 (bK s q a1)) = U := ⟨_, rfl⟩
            rw [hU] at g37 hTl2
            cases hz : ieq c0 1
            · have hnx0 : markL (markL T (ifK a0 (bK s q a1))) (ifK c0 (bK s q c1)) = U := by rw [← hU]; simp [ifK, hz, markL]
              have hnx : Hid (markL (markL T (ifK a0 (bK s q a1))) (ifK c0 (bK s q c1)) = U) := hnx0
              clear hnx0
              clear hst hU
              repeat' first
                | (with_reducible refine gw_bool (fun _ => ?_) (fun _ => ?_))
                | (with_reducible refine condw_bool (fun _ => ?_) (fun _ => ?_))
                | simp [*]
              refine nxt_go (1 + 1) (View.forget _ _ 10) (by omega) (by simp [*, Keep, St.forget, scr, scrC, usesC, usesA]) (by simp [*, KeepH, St.forget, scr, scrC]) ?_
              refine ⟨by omega, by simp [*, St.forget, scr, scrC], ?_⟩
              rw [if_neg (by decide), if_neg (by decide)]
              rw [hnx.out]; simp [*, St.forget, scr, scrC, scrB_comp]
            · have hnx0 : markL (markL T (ifK a0 (bK s q a1))) (ifK c0 (bK s q c1)) = markL U (bK s q c1) := by rw [← hU]; simp [ifK, hz]
              have hnx : Hid (markL (markL T (ifK a0 (bK s q a1))) (ifK c0 (bK s q c1)) = markL U (bK s q c1)) := hnx0
              clear hnx0
              have hin : ∀ (j : Nat) (x : Int), (bK s q c1)[j]? = some x → ∃ u : Nat, x = u ∧ u < nf := fun j x hx => by have := bK_in hx; rw [hn] at this; exact this
              have hfold : bndF s q (grp s q) (nodF s (grp s q) 1 c1) = bK s q c1 := rfl
              obtain ⟨K, hK⟩ : ∃ K, bK s q c1 = K := ⟨_, rfl⟩
              have hnx0 : markL (markL T (ifK a0 (bK s q a1))) (ifK c0 (bK s q c1)) = markL U K := by rw [show markL U K = markL U (bK s q c1) by rw [hK]]; exact hnx.out
              rw [hK] at hin hfold
              clear hst hU hK hnx
              have hnx : Hid (markL (markL T (ifK a0 (bK s q a1))) (ifK c0 (bK s q c1)) = markL U K) := hnx0
              clear hnx0
              have hKl : K.length ≤ 1000 ∨ 1000 < K.length := by omega
              obtain ⟨m, hm⟩ : ∃ m, K.length = m := ⟨_, rfl⟩
              have hml : m ≤ 9223372036854775806 := by
                rw [← hm, ← hfold]
                cases nodF s (grp s q) 1 c1 with
                | none => simp [bndF]
                | some nd => simp only [bndF]; have := bndN_len s q (grp s q) nd s.qs.length; omega
              repeat' first
                | (with_reducible refine gw_bool (fun _ => ?_) (fun _ => ?_))
                | (with_reducible refine condw_bool (fun _ => ?_) (fun _ => ?_))
                | simp [*]
              refine lp_go (D := (fun _ => none)) E12_ok mixed (by kernel_rfl) [2, 3, 4, 7, 8, 10, 38, 39, 40, 41, 42, 43, 44, 45, 46, 47, 48, 49, 50, 51, 52, 53, 54, 55, 56, 57, 58, 59, 60, 61, 62, 63] [3, 4, 10] (α := Nat) (fun j e h => j ≤ m ∧ e 64 = .int .i64 j ∧ h 35 = some ⟨4, (markL U (K.take j)).map V.bool⟩) (fun j => m - j) 0 ?_ ?_
              · exact ⟨by omega, by simp, by simp [*, markL]⟩
              · have hk1 := hk
                have hkh1 := hkh
                have g71 := g7
                clear hk hkh g7 g37
                rintro j e h hk hkh ⟨hj, g7, g37⟩
                simp [Keep, hk1, hkh1, g71, hfold, hm] at hk
                simp [KeepH, hk1, hkh1] at hkh
                have hCl : (markL U (K.take j)).length = nf := by rw [markL_len]; exact hTl2
                by_cases hjlt : j < m
                · obtain ⟨x, hx, hx'⟩ := at_ex (l := K) (i := j) (by omega)
                  obtain ⟨u, hxu, hul⟩ := hin j x hx
                  subst hxu
                  have hnj : Hid (markL U (K.take (j + 1)) = (markL U (K.take j)).set u true) := markL_step hx
                  have f2 : ilt (j : Int) (m : Int) = true := ilt_t (by omega)
                  have w2 : IntKind.i64.wrap ((j : Int) + 1) = ((j + 1 : Nat) : Int) := wrap_succ (by omega)
                  generalize markL U (K.take j) = C at g37 hCl hnj
                  have hu1 : u + 1 ≤ nf := by omega
                  clear hnx hin hfold hTl2
                  repeat' first
                    | (with_reducible refine gw_bool (fun _ => ?_) (fun _ => ?_))
                    | (with_reducible refine condw_bool (fun _ => ?_) (fun _ => ?_))
                    | simp [*, i1, setsV]
                  refine nxt_go (j + 1) (View.refl _ _) (by omega) (by simp [*, Keep, St.forget, scr, scrC]) (by simp [*, KeepH, St.forget, scr, scrC]) ?_
                  refine ⟨by omega, by simp [*], ?_⟩
                  rw [hnj.out]; simp [*, setsV, List.map_set]
                · have f2 : ilt (j : Int) (m : Int) = false := ilt_f (by omega)
                  have e2 : j = K.length := by omega
                  rw [e2, List.take_length] at g37
                  have hnx' := hnx.out
                  clear e2 hCl hnx hin hfold
                  generalize markL U K = C at g37 hnx'
                  replace hnx' : Hid (markL (markL T (ifK a0 (bK s q a1))) (ifK c0 (bK s q c1)) = C) := hnx'
                  repeat' first
                    | (with_reducible refine gw_bool (fun _ => ?_) (fun _ => ?_))
                    | (with_reducible refine condw_bool (fun _ => ?_) (fun _ => ?_))
                    | simp [*]
                  refine nxt_go (1 + 1) (View.forget _ _ 10) (by omega) (by simp [*, Keep, St.forget, scr, scrC, usesC, usesA]) (by simp [*, KeepH, St.forget, scr, scrC]) ?_
                  refine ⟨by omega, by simp [*, St.forget, scr, scrC], ?_⟩
                  rw [if_neg (by decide), if_neg (by decide)]
                  rw [hnx'.out]; simp [*, St.forget, scr, scrC, scrB_comp]
          · rw [if_neg (by decide), if_neg (by decide)] at g37
            have hst' := hst.out
            generalize markL (markL T (ifK a0 (bK s q a1))) (ifK c0 (bK s q c1)) = C at g37 hst'
            replace hst' : Hid (tgN s q f (i + 1) = C) := hst'
            clear hst
            repeat' first
              | (with_reducible refine gw_bool (fun _ => ?_) (fun _ => ?_))
              | (with_reducible refine condw_bool (fun _ => ?_) (fun _ => ?_))
              | simp [*]
            refine nxt_go (i + 1) (View.refl _ _) (by omega) (by simp [*, Keep, St.forget, scr, scrC]) (by simp [*, KeepH, St.forget, scr, scrC]) ?_
            refine ⟨by omega, by simp [*], ?_⟩
            rw [hst'.out]; simp [*]
    · have f1 : ilt (i : Int) (nf : Int) = false := ilt_f (by omega)
      have e1 : i = nf := by omega
      rw [e1, hR.out] at g37
      clear hR hmk
      repeat' first
        | (with_reducible refine gw_bool (fun _ => ?_) (fun _ => ?_))
        | (with_reducible refine condw_bool (fun _ => ?_) (fun _ => ?_))
        | simp [*, b1]
end Go.Proofs.Ytcbddoopmkhlfaa
