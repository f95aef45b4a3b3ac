/-
  The document's bus groups.
-/
import Derived.Test.YtcbddoopmkhlfaaSt23
namespace Go.Proofs.Ytcbddoopmkhlfaa
open Go.Pv Go.RowKit
set_option linter.unusedSimpArgs false
set_option linter.unusedVariables false
set_option maxRecDepth 100000
set_option maxHeartbeats 4000000
attribute [-simp] Tclo_at Tgrp_at Tchk Tpchk TcI TcB Tclo Tgrp Tsid Tnod Tlook Tbnd Tidx Tnms Tnmd Tobj Tlks Tbay Trck Trpc Tres TSd TBd

theorem mg_hit {x y z : Int} (h : (ieq z x || ieq z y) = true) : mgF (min x y) (max x y) z = min x y := by
  simp only [Bool.or_eq_true, ieq_iff] at h
  unfold mgF
  split
  · rfl
  · rename_i hh
    have : ¬ (z = max x y) := fun e => hh (ieq_t e)
    omega
theorem mg_miss {x y z : Int} (h : (ieq z x || ieq z y) = false) : mgF (min x y) (max x y) z = z := by
  simp only [Bool.or_eq_false_iff] at h
  have h1 := ieq_iff'.1 h.1
  have h2 := ieq_iff'.1 h.2
  unfold mgF
  rw [if_neg]
  intro hh
  have := ieq_iff.1 hh
  omega
theorem rgroups_ok {s : Stn} {p : Pos} (h1 : chkF s = 0) (h2 : posE s p = 0) : PCall Try.prog 61 [.agg s.cs, .agg p.cs] (.list 1 ((grp s p).map i1)) := by
  have hF := fine_of h1
  have hP := pfine_of h2
  clear h1 h2
  obtain ⟨nb, hnb⟩ : ∃ n, s.bs.length = n := ⟨_, rfl⟩
  obtain ⟨n, hn⟩ : ∃ n, s.qs.length = n := ⟨_, rfl⟩
  have hn16 : n ≤ 16 := by have := hF.nq; omega
  have hnb4 : nb ≤ 4 := by have := hF.nb; omega
  have hkn : p.lk.length = n := by have := hP.nk; omega
  have hch := chunks_i1 (grp s p)
  have hpu := pure_i1 (grp s p)
  have hgl : (grp s p).length = nb := by rw [grp, grpN_len]; exact hnb
  obtain ⟨R, hR⟩ : ∃ R, grp s p = R := ⟨_, rfl⟩
  rw [hR] at hch hpu hgl
  rw [hR]
  rw [hgl] at hch
  replace hR : Hid (grpN s p n = R) := by rw [grp, hn] at hR; exact hR
  refine pcall_cx E8_ok mixed (fun _ => none) Try.func61 rfl Try.ntmps61 Try.results61 (by simp) (by kernel_rfl) ?_
  repeat' first
    | (with_reducible refine gw_bool (fun _ => ?_) (fun _ => ?_))
    | (with_reducible refine condw_bool (fun _ => ?_) (fun _ => ?_))
    | simp [*, Stn.cs, Pos.cs]
  refine lp_view (View.nilOwn _ (t := 5) (key := 22) 1 3 (by simp) (by simp)) ?_
  refine lp_go (D := (fun _ => none)) E8_ok mixed (by kernel_rfl) [2, 3] [2, 3, 8, 21] (α := Nat) (fun i e h => i ≤ nb ∧ e 6 = .int .i64 i ∧ e 5 = .sl 22 0 i 1 ∧ h 22 = some ⟨3, (ini0 i).map (V.int .i64)⟩) (fun i => nb - i) 0 ?_ ?_
  · refine ⟨by omega, by simp, by simp, by simp [ini0]⟩
  rintro i e h hk hkh ⟨hi, g7, g5, g22⟩
  simp [Keep] at hk
  simp [KeepH] at hkh
  by_cases hlt : i < nb
  · have f1 : ilt (i : Int) (nb : Int) = true := ilt_t (by omega)
    have w1 : IntKind.i64.wrap ((i : Int) + 1) = ((i + 1 : Nat) : Int) := wrap_succ (by omega)
    have f5 : (i + 1) * 8 ≤ 140737488355328 := by omega
    have f6 : i + 1 ≤ 9223372036854775807 := by omega
    have hst : Hid (ini0 (i + 1) = ini0 i ++ [(i : Int)]) := ini0_step i
    have hl0 := ini0_len i
    generalize ini0 i = C at g22 hst hl0
    clear hR hch hpu hgl
    repeat' first
      | (with_reducible refine gw_bool (fun _ => ?_) (fun _ => ?_))
      | (with_reducible refine condw_bool (fun _ => ?_) (fun _ => ?_))
      | simp [*, appendV, srcCells, St.forget, scr, scrC, scrI_comp]
    refine nxt_go (i + 1) ((View.forget _ _ 21)) (by omega) (by simp [*, Keep, St.forget, scr, scrC]) (by simp [*, KeepH, St.forget, scr, scrC]) ?_
    refine ⟨by omega, by simp [*, St.forget, scr, scrC], by simp [*, St.forget, scr, scrC], ?_⟩
    rw [hst.out]; simp [*, St.forget, scr, scrC, scrI_comp]
  have f1 : ilt (i : Int) (nb : Int) = false := ilt_f (by omega)
  have e1 : i = nb := by omega
  subst e1
  have hin : grpN s p 0 = ini0 i := by simp [grpN, hnb]
  rw [← hin] at g22
  clear hin hlt hi
  repeat' first
    | (with_reducible refine gw_bool (fun _ => ?_) (fun _ => ?_))
    | (with_reducible refine condw_bool (fun _ => ?_) (fun _ => ?_))
    | simp [*]
  refine lp_go (D := (fun _ => none)) E8_ok mixed (by kernel_rfl) [2, 3, 5, 5] [2, 3, 8, 21] (α := Nat) (fun k e h => k ≤ n ∧ e 7 = .int .i64 k ∧ h 22 = some ⟨3, (grpN s p k).map (V.int .i64)⟩) (fun k => n - k) 0 ?_ ?_
  · exact ⟨by omega, by simp, by simp [*]⟩
  have hk0 := hk
  have hkh0 := hkh
  have g50 := g5
  clear hk hkh g7 g5 g22
  rintro k e h hk hkh ⟨hki, g7, g39⟩
  simp [Keep, hk0, hkh0, g50] at hk
  simp [KeepH, hk0, hkh0] at hkh
  by_cases hlt : k < n
  · obtain ⟨b, hb, hb'⟩ := at_ex (l := s.qs) (i := k) (by omega)
    obtain ⟨l, hl, hl'⟩ := at_ex (l := p.lk) (i := k) (by omega)
    obtain ⟨hll, -⟩ := hP.row k b l hb hl
    obtain ⟨hbus, -, hb1, hb2⟩ := hF.lk b (List.mem_of_getElem? hb)
    have f1 : ilt (k : Int) (n : Int) = true := ilt_t (by omega)
    have w1 : IntKind.i64.wrap ((k : Int) + 1) = ((k + 1 : Nat) : Int) := wrap_succ (by omega)
    have hst : Hid (grpN s p (k + 1) = stG (grpN s p k) b l) := grpN_step hb hl
    have hGl : (grpN s p k).length = i := by rw [grpN_len]; exact hnb
    have hGp := pure_i1 (grpN s p k)
    generalize grpN s p k = G at g39 hst hGl hGp
    clear hR hch hpu hgl
    have hGs := scr_i1 G
    have hkn2 : k < p.lk.length := by omega
    cases hk3 : ieq b.kind 3
    · obtain ⟨lks, hlk⟩ : ∃ lks, b.lks = lks := ⟨_, rfl⟩
      rw [hlk] at hll hbus hb1 hb2
      match lks, hb1, hb2 with
      | [a], _, _ =>
        have hnx : stG G b l = G := by simp [stG, hk3, hlk]
        rw [hnx] at hst
        clear hnx hbus
        repeat' first
          | (with_reducible refine gw_bool (fun _ => ?_) (fun _ => ?_))
          | (with_reducible refine condw_bool (fun _ => ?_) (fun _ => ?_))
          | simp [*, By.cs]
        refine nxt_go (k + 1) ((View.forget _ _ 8)) (by omega) (by simp [*, Keep, St.forget, scr, scrC]) (by simp [*, KeepH, St.forget, scr, scrC]) ?_
        refine ⟨by omega, by simp [*, St.forget, scr, scrC], ?_⟩
        rw [hst.out]; simp [*, St.forget, scr, scrC, scrI_comp]
      | [a, c], _, _ =>
        match l, hll with
        | [x, y], _ =>
          cases hx : ieq x 1
          · have hnx : stG G b [x, y] = G := by simp [stG, hk3, hlk, hx]
            rw [hnx] at hst
            clear hnx hbus
            repeat' first
              | (with_reducible refine gw_bool (fun _ => ?_) (fun _ => ?_))
              | (with_reducible refine condw_bool (fun _ => ?_) (fun _ => ?_))
              | simp [*, By.cs, r1, i1]
            refine nxt_go (k + 1) ((View.forget _ _ 8)) (by omega) (by simp [*, Keep, St.forget, scr, scrC]) (by simp [*, KeepH, St.forget, scr, scrC]) ?_
            refine ⟨by omega, by simp [*, St.forget, scr, scrC], ?_⟩
            rw [hst.out]; simp [*, St.forget, scr, scrC, scrI_comp]
          cases hy : ieq y 1
          · have hnx : stG G b [x, y] = G := by simp [stG, hk3, hlk, hx, hy]
            rw [hnx] at hst
            clear hnx hbus
            repeat' first
              | (with_reducible refine gw_bool (fun _ => ?_) (fun _ => ?_))
              | (with_reducible refine condw_bool (fun _ => ?_) (fun _ => ?_))
              | simp [*, By.cs, r1, i1]
            refine nxt_go (k + 1) ((View.forget _ _ 8)) (by omega) (by simp [*, Keep, St.forget, scr, scrC]) (by simp [*, KeepH, St.forget, scr, scrC]) ?_
            refine ⟨by omega, by simp [*, St.forget, scr, scrC], ?_⟩
            rw [hst.out]; simp [*, St.forget, scr, scrC, scrI_comp]
          obtain ⟨u, hu⟩ := Int.eq_ofNat_of_zero_le (hbus a (by simp)).1
          obtain ⟨w, hwc⟩ := Int.eq_ofNat_of_zero_le (hbus c (by simp)).1
          have hub : u < i := by have := (hbus a (by simp)).2; omega
          have hwb : w < i := by have := (hbus c (by simp)).2; omega
          obtain ⟨ga, hga, -⟩ := at_ex (l := G) (i := u) (by omega)
          obtain ⟨gc, hgc, -⟩ := at_ex (l := G) (i := w) (by omega)
          have hga2 : ∀ h : u < G.length, G[u] = ga := fun h => by rw [List.getElem?_eq_getElem h] at hga; exact Option.some.inj hga
          have hgc2 : ∀ h : w < G.length, G[w] = gc := fun h => by rw [List.getElem?_eq_getElem h] at hgc; exact Option.some.inj hgc
          have hnx : stG G b [x, y] = G.map (mgF (min ga gc) (max ga gc)) := by simp [stG, hk3, hlk, hx, hy, merge, g0, gAt, hu, hwc, hga, hgc]
          rw [hnx] at hst
          clear hnx hbus
          have hcu : (u : Int) < (i : Int) := by omega
          have hcw : (w : Int) < (i : Int) := by omega
          have hmh : ∀ z, (ieq z ga || ieq z gc) = true → mgF (min ga gc) (max ga gc) z = min ga gc := fun z h => mg_hit h
          have hmm : ∀ z, (ieq z ga || ieq z gc) = false → mgF (min ga gc) (max ga gc) z = z := fun z h => mg_miss h
          obtain ⟨lo, hlo⟩ : ∃ lo, min ga gc = lo := ⟨_, rfl⟩
          obtain ⟨top, hto⟩ : ∃ top, max ga gc = top := ⟨_, rfl⟩
          rw [hlo, hto] at hst hmh hmm
          replace hmh : Hid (∀ z, (ieq z ga || ieq z gc) = true → mgF lo top z = lo) := hmh
          replace hmm : Hid (∀ z, (ieq z ga || ieq z gc) = false → mgF lo top z = z) := hmm
          repeat' first
            | (with_reducible refine gw_bool (fun _ => ?_) (fun _ => ?_))
            | (with_reducible refine condw_bool (fun _ => ?_) (fun _ => ?_))
            | simp [*, By.cs, Lk.cs, r1, i1]
          refine lp_go (D := (fun _ => none)) E8_ok mixed (by kernel_rfl) [2, 3, 5, 7, 8, 9, 10, 23, 24, 25, 26, 27, 30, 31, 32, 33, 34, 35, 36, 37, 38, 39, 40, 41, 42, 43, 44, 45, 46, 47, 48, 49, 50, 51, 52, 53, 54, 55, 56, 57, 58, 59, 60, 61, 62, 63, 64, 65, 66, 67, 68, 69, 70, 71, 72, 73, 74, 75, 76, 77, 78, 79] [2, 3, 8, 21] (α := Nat) (fun j e h => j ≤ i ∧ e 11 = .int .i64 j ∧ h 22 = some ⟨3, (hG (mgF lo top) G j).map (V.int .i64)⟩) (fun j => i - j) 0 ?_ ?_
          · exact ⟨by omega, by simp, by simp [*, hG]⟩
          have hk1 := hk
          have hkh1 := hkh
          have g71 := g7
          clear hk hkh g7 g39
          rintro j e h hk hkh ⟨hji, g7, g39⟩
          simp [Keep, hk1, hkh1, g71, hga, hgc, hga2, hgc2] at hk
          simp [KeepH, hk1, hkh1] at hkh
          have hCl : (hG (mgF lo top) G j).length = i := by rw [hG_len _ _ _ (by omega)]; exact hGl
          clear hGs
          by_cases hjlt : j < i
          · obtain ⟨z, hz, -⟩ := at_ex (l := G) (i := j) (by omega)
            have f2 : ilt (j : Int) (i : Int) = true := ilt_t (by omega)
            have w2 : IntKind.i64.wrap ((j : Int) + 1) = ((j + 1 : Nat) : Int) := wrap_succ (by omega)
            have hC1 := hG_at (f := mgF lo top) hz
            have hj1 : j + 1 ≤ i := by omega
            cases q1 : ieq z ga
            · cases q2 : ieq z gc
              · have hnj : Hid (hG (mgF lo top) G (j + 1) = hG (mgF lo top) G j) := hG_same hz (hmm.out z (by rw [q1, q2]; rfl))
                generalize hG (mgF lo top) G j = C at g39 hCl hC1 hnj
                have hC2 : ∀ h : j < C.length, C[j] = z := fun h => by rw [List.getElem?_eq_getElem h] at hC1; exact Option.some.inj hC1
                clear hz hst hGl hGp hmh hmm hga hgc hga2 hgc2
                repeat' first
                  | (with_reducible refine gw_bool (fun _ => ?_) (fun _ => ?_))
                  | (with_reducible refine condw_bool (fun _ => ?_) (fun _ => ?_))
                  | simp [*, St.forget, scr, scrC]
                refine nxt_go (j + 1) (View.refl _ _) (by omega) (by simp [*, Keep, St.forget, scr, scrC]) (by simp [*, KeepH, St.forget, scr, scrC]) ?_
                refine ⟨by omega, by simp [*], ?_⟩
                rw [hnj.out]; simp [*]
              · have hnj : hG (mgF lo top) G (j + 1) = (hG (mgF lo top) G j).set j lo := by rw [hG_step hz, hmh.out z (by rw [q1, q2]; rfl)]
                replace hnj : Hid (hG (mgF lo top) G (j + 1) = (hG (mgF lo top) G j).set j lo) := hnj
                generalize hG (mgF lo top) G j = C at g39 hCl hC1 hnj
                have hC2 : ∀ h : j < C.length, C[j] = z := fun h => by rw [List.getElem?_eq_getElem h] at hC1; exact Option.some.inj hC1
                clear hz hst hGl hGp hmh hmm hga hgc hga2 hgc2
                repeat' first
                  | (with_reducible refine gw_bool (fun _ => ?_) (fun _ => ?_))
                  | (with_reducible refine condw_bool (fun _ => ?_) (fun _ => ?_))
                  | simp [*, St.forget, scr, scrC, setsV]
                refine nxt_go (j + 1) (View.refl _ _) (by omega) (by simp [*, Keep, St.forget, scr, scrC]) (by simp [*, KeepH, St.forget, scr, scrC]) ?_
                refine ⟨by omega, by simp [*], ?_⟩
                rw [hnj.out]; simp [*, setsV, List.map_set]
            · have hnj : hG (mgF lo top) G (j + 1) = (hG (mgF lo top) G j).set j lo := by rw [hG_step hz, hmh.out z (by rw [q1]; rfl)]
              replace hnj : Hid (hG (mgF lo top) G (j + 1) = (hG (mgF lo top) G j).set j lo) := hnj
              generalize hG (mgF lo top) G j = C at g39 hCl hC1 hnj
              have hC2 : ∀ h : j < C.length, C[j] = z := fun h => by rw [List.getElem?_eq_getElem h] at hC1; exact Option.some.inj hC1
              clear hz hst hGl hGp hmh hmm hga hgc hga2 hgc2
              repeat' first
                | (with_reducible refine gw_bool (fun _ => ?_) (fun _ => ?_))
                | (with_reducible refine condw_bool (fun _ => ?_) (fun _ => ?_))
                | simp [*, St.forget, scr, scrC, setsV]
              refine nxt_go (j + 1) (View.refl _ _) (by omega) (by simp [*, Keep, St.forget, scr, scrC]) (by simp [*, KeepH, St.forget, scr, scrC]) ?_
              refine ⟨by omega, by simp [*], ?_⟩
              rw [hnj.out]; simp [*, setsV, List.map_set]
          · have f2 : ilt (j : Int) (i : Int) = false := ilt_f (by omega)
            have e2 : j = G.length := by omega
            rw [e2, hG_end] at g39
            clear e2 hCl
            have hst' := hst.out
            have hCp := pure_i1 (G.map (mgF lo top))
            generalize G.map (mgF lo top) = C at g39 hst' hCp
            replace hst' : Hid (grpN s p (k + 1) = C) := hst'
            clear hst hGl hGp hmh hmm hga hgc hga2 hgc2
            repeat' first
              | (with_reducible refine gw_bool (fun _ => ?_) (fun _ => ?_))
              | (with_reducible refine condw_bool (fun _ => ?_) (fun _ => ?_))
              | simp [*, St.forget, scr, scrC]
            refine nxt_go (k + 1) ((View.forget _ _ 8)) (by omega) (by simp [*, Keep, St.forget, scr, scrC]) (by simp [*, KeepH, St.forget, scr, scrC]) ?_
            refine ⟨by omega, by simp [*, St.forget, scr, scrC], ?_⟩
            rw [hst'.out]; simp [*, St.forget, scr, scrC, scrI_comp]
    · have hnx : stG G b l = G := by simp [stG, hk3]
      rw [hnx] at hst
      clear hnx hbus
      repeat' first
        | (with_reducible refine gw_bool (fun _ => ?_) (fun _ => ?_))
        | (with_reducible refine condw_bool (fun _ => ?_) (fun _ => ?_))
        | simp [*, By.cs]
      refine nxt_go (k + 1) ((View.forget _ _ 8)) (by omega) (by simp [*, Keep, St.forget, scr, scrC]) (by simp [*, KeepH, St.forget, scr, scrC]) ?_
      refine ⟨by omega, by simp [*, St.forget, scr, scrC], ?_⟩
      rw [hst.out]; simp [*, St.forget, scr, scrC, scrI_comp]
  · have f1 : ilt (k : Int) (n : Int) = false := ilt_f (by omega)
    have e1 : k = n := by omega
    rw [e1, hR.out] at g39
    clear hR
    repeat' first
      | (with_reducible refine gw_bool (fun _ => ?_) (fun _ => ?_))
      | (with_reducible refine condw_bool (fun _ => ?_) (fun _ => ?_))
      | simp [*]
end Go.Proofs.Ytcbddoopmkhlfaa
