/-
  The document's positions: Resolve.
  The document's bus groups.
  The document's sides, nodes and boundaries.
  The document's boundaries.
  Zones, their boundaries and what feeds them: the plain laws.
  Opening breakers; the zone on the other side: the plain laws.
  All zones.
  Lists: equal, a number in a list; the bay at the far end; the zone on the other side.
-/
import Derived.Test.YtcbddoopmkhlfaaJ5
import Derived.Test.YtcbddoopmkhlfaaJ7
import Derived.Test.YtcbddoopmkhlfaaJ6
section
namespace Go.Proofs.Ytcbddoopmkhlfaa
open Go.Pv Go.RowKit
set_option linter.unusedSimpArgs false
set_option linter.unusedVariables false
set_option maxRecDepth 100000
set_option maxHeartbeats 4000000
attribute [-simp] Tclo_at Tgrp_at Tchk Tpchk TcI TcB Tclo Tgrp Tsid Tnod Tlook Tbnd Tidx Tnms Tnmd Tobj Tlks Tbay Trck Trpc Tres TSd TBd

theorem rresolve_ok (p : Pos) (c : Bool) (h1 : p.cl.length ≤ 1000) (h2 : p.lk.length ≤ 1000) (h3 : ∀ l ∈ p.lk, l.length ≤ 1000) : PCall Try.prog 46 [.agg p.cs, .bool c] (.agg (resP p c).cs) := by
  obtain ⟨n, hn⟩ : ∃ n, p.lk.length = n := ⟨_, rfl⟩
  rw [hn] at h2
  have hfl := flat_b1 p.cl
  have hon : (p.cl.map V.bool).all oneV = true := by simp [oneV]
  have hbc := chunks_b1 p.cl
  have hbp := pure_b1 p.cl
  obtain ⟨n1, hn1⟩ : ∃ n, p.cl.length = n := ⟨_, rfl⟩
  rw [hn1] at h1 hbc
  have q5 : n1 ≤ 140737488355328 := by omega
  have q6 : n1 ≤ 9223372036854775807 := by omega
  cases c
  · have hres : resP p false = ⟨p.cl, p.lk.map (fun l => l.map (resF 0))⟩ := rfl
    rw [hres]
    clear hres
    have hend := chunks_r0 (p.lk.map (fun l => l.map (resF 0)))
    rw [List.length_map, hn] at hend
    replace hend : Hid (chunks 1 n ((p.lk.map (fun l => l.map (resF 0))).map r0) = (p.lk.map (fun l => l.map (resF 0))).map r1) := hend
    refine pcall_cx E8_ok mixed (fun _ => none) Try.func46 rfl Try.ntmps46 Try.results46 (by simp) (by kernel_rfl) ?_
    repeat' first
      | (with_reducible refine gw_bool (fun _ => ?_) (fun _ => ?_))
      | (with_reducible refine condw_bool (fun _ => ?_) (fun _ => ?_))
      | simp [*, Pos.cs, appendV, srcCells, St.forget, scr, scrC, scrB_comp]
    refine lp_view (View.nilAt _ (t := 5) (o := 0) (key := 5) (key' := 57) (i := 1) (blk := ⟨38, [.sl 9 0 n1 1, .nils]⟩) 1 47 (by simp) (by simp) (by simp) (by simp)) ?_
    refine lp_go (D := (fun _ => none)) E8_ok mixed (by kernel_rfl) [1, 2, 4, 5] [2, 4, 9, 12, 21, 27, 56] (α := Nat) (fun i e h => i ≤ n ∧ e 6 = .int .i64 i ∧ h 5 = some ⟨38, [.sl 9 0 n1 1, .sl 57 0 i 1]⟩ ∧ h 57 = some ⟨47, ((p.lk.take i).map (fun l => l.map (resF 0))).map r0⟩) (fun i => n - i) 0 ?_ ?_
    · refine ⟨by omega, by simp, by simp, by simp⟩
    · rintro i e h hk hkh ⟨hi, g7, g6, g43⟩
      simp [Keep] at hk
      simp [KeepH, scrC] at hkh
      by_cases hlt : i < n
      · obtain ⟨l, hl, hl'⟩ := at_ex (l := p.lk) (i := i) (by omega)
        have f1 : ilt (i : Int) (n : Int) = true := ilt_t (by omega)
        have w1 : IntKind.i64.wrap ((i : Int) + 1) = ((i + 1 : Nat) : Int) := wrap_succ (by omega)
        have hlm : l.length ≤ 1000 := h3 l (List.mem_of_getElem? hl)
        have f5 : (i + 1) * 24 ≤ 140737488355328 := by omega
        have f6 : i + 1 ≤ 9223372036854775807 := by omega
        have hnx : ((p.lk.take (i + 1)).map (fun l => l.map (resF 0))).map r0 = ((p.lk.take i).map (fun l => l.map (resF 0))).map r0 ++ [r0 (l.map (resF 0))] := by rw [take_snoc hl]; simp
        have hln : (((p.lk.take i).map (fun l => l.map (resF 0))).map r0).length = i := by simp; omega
        generalize hCC : ((p.lk.take i).map (fun l => l.map (resF 0))).map r0 = CC at g43 hnx hln
        have hpC : CC.any ownC = false := by rw [← hCC]; exact pure_r0 _
        have hsC : ∀ k, CC.map (scrC k) = CC := fun k => scrC_cells hpC
        have hbC : ∀ k b, CC.map (pubC k b) = CC := fun k b => pub_cells hpC
        replace hnx : Hid (((p.lk.take (i + 1)).map (fun l => l.map (resF 0))).map r0 = CC ++ [r0 (l.map (resF 0))]) := hnx
        clear hCC
        have hlt2 : i < p.lk.length := by omega
        have hfi := flat_i1 l
        have hoi : (l.map (V.int .i64)).all oneV = true := by simp [oneV]
        obtain ⟨m, hm⟩ : ∃ m, l.length = m := ⟨_, rfl⟩
        rw [hm] at hlm
        have p5 : m * 8 ≤ 140737488355328 := by omega
        have p6 : m ≤ 9223372036854775807 := by omega
        repeat' first
          | (with_reducible refine gw_bool (fun _ => ?_) (fun _ => ?_))
          | (with_reducible refine condw_bool (fun _ => ?_) (fun _ => ?_))
          | simp [*, r1, appendV, srcCells, St.forget, scr, scrC, scrI_comp, scrB_comp]
        refine lp_go (D := (fun _ => none)) E8_ok mixed (by kernel_rfl) [1, 2, 4, 5, 6, 7, 14, 15, 16, 17, 18, 21, 22, 23, 24, 25, 26, 27] [2, 4, 5, 9, 12, 27, 56, 57] (α := Nat) (fun j e h => j ≤ m ∧ e 8 = .int .i64 j ∧ h 21 = some ⟨3, (half 0 l j).map (V.int .i64)⟩) (fun j => m - j) 0 ?_ ?_
        · refine ⟨by omega, by simp, by simp [half]⟩
        · have hk0 := hk
          have hkh0 := hkh
          have g0 := g7
          clear hk hkh g7
          rintro j e h hk hkh ⟨hj, g7, gK⟩
          simp [Keep, hk0, hkh0, g0, hm] at hk
          simp [KeepH, hk0, hkh0, g6, g43] at hkh
          have hCl : (half 0 l j).length = m := by rw [half_len _ _ _ (by omega)]; exact hm
          by_cases hjlt : j < m
          · obtain ⟨y, hy, -⟩ := at_ex (l := l) (i := j) (by omega)
            have f2 : ilt (j : Int) (m : Int) = true := ilt_t (by omega)
            have w2 : IntKind.i64.wrap ((j : Int) + 1) = ((j + 1 : Nat) : Int) := wrap_succ (by omega)
            have hC1 := half_at (z := 0) hy
            cases hq : ieq y 2
            · have hnj : Hid (half 0 l (j + 1) = half 0 l j) := half_same hy hq
              generalize half 0 l j = C at gK hCl hC1 hnj
              have hC2 : ∀ h : j < C.length, C[j] = y := fun h => by rw [List.getElem?_eq_getElem h] at hC1; exact Option.some.inj hC1
              clear hy hl hl' hnx
              repeat' first
                | (with_reducible refine gw_bool (fun _ => ?_) (fun _ => ?_))
                | (with_reducible refine condw_bool (fun _ => ?_) (fun _ => ?_))
                | simp [*, St.forget, scr, scrC]
              refine nxt_go (j + 1) (View.refl _ _) (by omega) (by simp [*, Keep, St.forget, scr, scrC]) (by simp [*, KeepH, St.forget, scr, scrC]) ?_
              refine ⟨by omega, by simp [*], ?_⟩
              rw [hnj.out]; simp [*]
            · have hnj : half 0 l (j + 1) = (half 0 l j).set j 0 := by rw [half_step hy]; simp [resF, hq]
              replace hnj : Hid (half 0 l (j + 1) = (half 0 l j).set j 0) := hnj
              generalize half 0 l j = C at gK hCl hC1 hnj
              have hC2 : ∀ h : j < C.length, C[j] = y := fun h => by rw [List.getElem?_eq_getElem h] at hC1; exact Option.some.inj hC1
              clear hy hl hl' hnx
              have hj1 : j + 1 ≤ m := by omega
              repeat' first
                | (with_reducible refine gw_bool (fun _ => ?_) (fun _ => ?_))
                | (with_reducible refine condw_bool (fun _ => ?_) (fun _ => ?_))
                | simp [*, St.forget, scr, scrC, setsV]
              refine nxt_go (j + 1) (View.refl _ _) (by omega) (by simp [*, Keep, St.forget, scr, scrC]) (by simp [*, KeepH, St.forget, scr, scrC]) ?_
              refine ⟨by omega, by simp [*], ?_⟩
              rw [hnj.out]; simp [*, setsV, List.map_set]
          · have f2 : ilt (j : Int) (m : Int) = false := ilt_f (by omega)
            have e2 : j = l.length := by omega
            rw [e2, half_end] at gK
            rw [e2, half_end] at hCl
            have hch := chunks_i1 (l.map (resF 0))
            have hcp := pure_i1 (l.map (resF 0))
            rw [hCl] at hch
            have hnx' := hnx.out
            generalize l.map (resF 0) = C at gK hCl hch hnx' hcp
            replace hnx' : Hid (List.map r0 (List.map (fun l => List.map (resF 0) l) (List.take (i + 1) p.lk)) = CC ++ [r0 C]) := hnx'
            replace hch : Hid (chunks 1 m (C.map (V.int .i64)) = C.map i1) := hch
            have hcs : ∀ k, (C.map (V.int .i64)).map (scrC k) = C.map (V.int .i64) := fun k => scrC_cells hcp
            have hmm : m ≤ C.length := by omega
            clear hnx hl hl' e2
            repeat' first
              | (with_reducible refine gw_bool (fun _ => ?_) (fun _ => ?_))
              | (with_reducible refine condw_bool (fun _ => ?_) (fun _ => ?_))
              | simp [*, appendV, srcCells, St.forget, scr, scrC, scrB_comp]
            refine nxt_go (i + 1) ((View.forget _ _ 56).trans (View.pub _ (key := 21) (blk := ⟨3, C.map (V.int .i64)⟩) ?_ hcp)) (by omega) ?_ ?_ ?_
            · simp [*, St.forget, scrC, scrI_comp]
            · simp [*, Keep, St.forget, scr, scrC, St.pub, pubT, pubA, pubC]
            · simp [*, KeepH, St.forget, scr, scrC, St.pub, pubC, scrB_comp]
            · refine ⟨by omega, ?_, ?_, ?_⟩
              · simp [*, St.forget, scr, scrC, St.pub, pubT, pubA, pubC]
              · simp [*, St.forget, scr, scrC, St.pub, pubC]
              · rw [hnx'.out]; simp [*, St.forget, scr, scrC, St.pub, pubC, r0, hch.out]
      · have f1 : ilt (i : Int) (n : Int) = false := ilt_f (by omega)
        have e1 : i = n := by omega
        subst e1
        have ht : p.lk.take i = p.lk := by rw [← hn]; exact List.take_length
        rw [ht] at g43
        have hpu := pure_r0 (p.lk.map (fun l => l.map (resF 0)))
        have hed := hend.out
        have hln : ((p.lk.map (fun l => l.map (resF 0))).map r0).length = i := by simp; omega
        generalize hCC : (p.lk.map (fun l => l.map (resF 0))).map r0 = CC at g43 hpu hed hln
        clear hend hCC ht
        repeat' first
          | (with_reducible refine gw_bool (fun _ => ?_) (fun _ => ?_))
          | (with_reducible refine condw_bool (fun _ => ?_) (fun _ => ?_))
          | simp [*, Pos.cs]
  · have hres : resP p true = ⟨p.cl, p.lk.map (fun l => l.map (resF 1))⟩ := rfl
    rw [hres]
    clear hres
    have hend := chunks_r0 (p.lk.map (fun l => l.map (resF 1)))
    rw [List.length_map, hn] at hend
    replace hend : Hid (chunks 1 n ((p.lk.map (fun l => l.map (resF 1))).map r0) = (p.lk.map (fun l => l.map (resF 1))).map r1) := hend
    refine pcall_cx E8_ok mixed (fun _ => none) Try.func46 rfl Try.ntmps46 Try.results46 (by simp) (by kernel_rfl) ?_
    repeat' first
      | (with_reducible refine gw_bool (fun _ => ?_) (fun _ => ?_))
      | (with_reducible refine condw_bool (fun _ => ?_) (fun _ => ?_))
      | simp [*, Pos.cs, appendV, srcCells, St.forget, scr, scrC, scrB_comp]
    refine lp_view (View.nilAt _ (t := 5) (o := 0) (key := 5) (key' := 57) (i := 1) (blk := ⟨38, [.sl 9 0 n1 1, .nils]⟩) 1 47 (by simp) (by simp) (by simp) (by simp)) ?_
    refine lp_go (D := (fun _ => none)) E8_ok mixed (by kernel_rfl) [1, 2, 4, 5] [2, 4, 9, 12, 21, 27, 56] (α := Nat) (fun i e h => i ≤ n ∧ e 6 = .int .i64 i ∧ h 5 = some ⟨38, [.sl 9 0 n1 1, .sl 57 0 i 1]⟩ ∧ h 57 = some ⟨47, ((p.lk.take i).map (fun l => l.map (resF 1))).map r0⟩) (fun i => n - i) 0 ?_ ?_
    · refine ⟨by omega, by simp, by simp, by simp⟩
    · rintro i e h hk hkh ⟨hi, g7, g6, g43⟩
      simp [Keep] at hk
      simp [KeepH, scrC] at hkh
      by_cases hlt : i < n
      · obtain ⟨l, hl, hl'⟩ := at_ex (l := p.lk) (i := i) (by omega)
        have f1 : ilt (i : Int) (n : Int) = true := ilt_t (by omega)
        have w1 : IntKind.i64.wrap ((i : Int) + 1) = ((i + 1 : Nat) : Int) := wrap_succ (by omega)
        have hlm : l.length ≤ 1000 := h3 l (List.mem_of_getElem? hl)
        have f5 : (i + 1) * 24 ≤ 140737488355328 := by omega
        have f6 : i + 1 ≤ 9223372036854775807 := by omega
        have hnx : ((p.lk.take (i + 1)).map (fun l => l.map (resF 1))).map r0 = ((p.lk.take i).map (fun l => l.map (resF 1))).map r0 ++ [r0 (l.map (resF 1))] := by rw [take_snoc hl]; simp
        have hln : (((p.lk.take i).map (fun l => l.map (resF 1))).map r0).length = i := by simp; omega
        generalize hCC : ((p.lk.take i).map (fun l => l.map (resF 1))).map r0 = CC at g43 hnx hln
        have hpC : CC.any ownC = false := by rw [← hCC]; exact pure_r0 _
        have hsC : ∀ k, CC.map (scrC k) = CC := fun k => scrC_cells hpC
        have hbC : ∀ k b, CC.map (pubC k b) = CC := fun k b => pub_cells hpC
        replace hnx : Hid (((p.lk.take (i + 1)).map (fun l => l.map (resF 1))).map r0 = CC ++ [r0 (l.map (resF 1))]) := hnx
        clear hCC
        have hlt2 : i < p.lk.length := by omega
        have hfi := flat_i1 l
        have hoi : (l.map (V.int .i64)).all oneV = true := by simp [oneV]
        obtain ⟨m, hm⟩ : ∃ m, l.length = m := ⟨_, rfl⟩
        rw [hm] at hlm
        have p5 : m * 8 ≤ 140737488355328 := by omega
        have p6 : m ≤ 9223372036854775807 := by omega
        repeat' first
          | (with_reducible refine gw_bool (fun _ => ?_) (fun _ => ?_))
          | (with_reducible refine condw_bool (fun _ => ?_) (fun _ => ?_))
          | simp [*, r1, appendV, srcCells, St.forget, scr, scrC, scrI_comp, scrB_comp]
        refine lp_go (D := (fun _ => none)) E8_ok mixed (by kernel_rfl) [1, 2, 4, 5, 6, 7, 14, 15, 16, 17, 18, 21, 22, 23, 24, 25, 26, 27] [2, 4, 5, 9, 12, 27, 56, 57] (α := Nat) (fun j e h => j ≤ m ∧ e 8 = .int .i64 j ∧ h 21 = some ⟨3, (half 1 l j).map (V.int .i64)⟩) (fun j => m - j) 0 ?_ ?_
        · refine ⟨by omega, by simp, by simp [half]⟩
        · have hk0 := hk
          have hkh0 := hkh
          have g0 := g7
          clear hk hkh g7
          rintro j e h hk hkh ⟨hj, g7, gK⟩
          simp [Keep, hk0, hkh0, g0, hm] at hk
          simp [KeepH, hk0, hkh0, g6, g43] at hkh
          have hCl : (half 1 l j).length = m := by rw [half_len _ _ _ (by omega)]; exact hm
          by_cases hjlt : j < m
          · obtain ⟨y, hy, -⟩ := at_ex (l := l) (i := j) (by omega)
            have f2 : ilt (j : Int) (m : Int) = true := ilt_t (by omega)
            have w2 : IntKind.i64.wrap ((j : Int) + 1) = ((j + 1 : Nat) : Int) := wrap_succ (by omega)
            have hC1 := half_at (z := 1) hy
            cases hq : ieq y 2
            · have hnj : Hid (half 1 l (j + 1) = half 1 l j) := half_same hy hq
              generalize half 1 l j = C at gK hCl hC1 hnj
              have hC2 : ∀ h : j < C.length, C[j] = y := fun h => by rw [List.getElem?_eq_getElem h] at hC1; exact Option.some.inj hC1
              clear hy hl hl' hnx
              repeat' first
                | (with_reducible refine gw_bool (fun _ => ?_) (fun _ => ?_))
                | (with_reducible refine condw_bool (fun _ => ?_) (fun _ => ?_))
                | simp [*, St.forget, scr, scrC]
              refine nxt_go (j + 1) (View.refl _ _) (by omega) (by simp [*, Keep, St.forget, scr, scrC]) (by simp [*, KeepH, St.forget, scr, scrC]) ?_
              refine ⟨by omega, by simp [*], ?_⟩
              rw [hnj.out]; simp [*]
            · have hnj : half 1 l (j + 1) = (half 1 l j).set j 1 := by rw [half_step hy]; simp [resF, hq]
              replace hnj : Hid (half 1 l (j + 1) = (half 1 l j).set j 1) := hnj
              generalize half 1 l j = C at gK hCl hC1 hnj
              have hC2 : ∀ h : j < C.length, C[j] = y := fun h => by rw [List.getElem?_eq_getElem h] at hC1; exact Option.some.inj hC1
              clear hy hl hl' hnx
              have hj1 : j + 1 ≤ m := by omega
              repeat' first
                | (with_reducible refine gw_bool (fun _ => ?_) (fun _ => ?_))
                | (with_reducible refine condw_bool (fun _ => ?_) (fun _ => ?_))
                | simp [*, St.forget, scr, scrC, setsV]
              refine nxt_go (j + 1) (View.refl _ _) (by omega) (by simp [*, Keep, St.forget, scr, scrC]) (by simp [*, KeepH, St.forget, scr, scrC]) ?_
              refine ⟨by omega, by simp [*], ?_⟩
              rw [hnj.out]; simp [*, setsV, List.map_set]
          · have f2 : ilt (j : Int) (m : Int) = false := ilt_f (by omega)
            have e2 : j = l.length := by omega
            rw [e2, half_end] at gK
            rw [e2, half_end] at hCl
            have hch := chunks_i1 (l.map (resF 1))
            have hcp := pure_i1 (l.map (resF 1))
            rw [hCl] at hch
            have hnx' := hnx.out
            generalize l.map (resF 1) = C at gK hCl hch hnx' hcp
            replace hnx' : Hid (List.map r0 (List.map (fun l => List.map (resF 1) l) (List.take (i + 1) p.lk)) = CC ++ [r0 C]) := hnx'
            replace hch : Hid (chunks 1 m (C.map (V.int .i64)) = C.map i1) := hch
            have hcs : ∀ k, (C.map (V.int .i64)).map (scrC k) = C.map (V.int .i64) := fun k => scrC_cells hcp
            have hmm : m ≤ C.length := by omega
            clear hnx hl hl' e2
            repeat' first
              | (with_reducible refine gw_bool (fun _ => ?_) (fun _ => ?_))
              | (with_reducible refine condw_bool (fun _ => ?_) (fun _ => ?_))
              | simp [*, appendV, srcCells, St.forget, scr, scrC, scrB_comp]
            refine nxt_go (i + 1) ((View.forget _ _ 56).trans (View.pub _ (key := 21) (blk := ⟨3, C.map (V.int .i64)⟩) ?_ hcp)) (by omega) ?_ ?_ ?_
            · simp [*, St.forget, scrC, scrI_comp]
            · simp [*, Keep, St.forget, scr, scrC, St.pub, pubT, pubA, pubC]
            · simp [*, KeepH, St.forget, scr, scrC, St.pub, pubC, scrB_comp]
            · refine ⟨by omega, ?_, ?_, ?_⟩
              · simp [*, St.forget, scr, scrC, St.pub, pubT, pubA, pubC]
              · simp [*, St.forget, scr, scrC, St.pub, pubC]
              · rw [hnx'.out]; simp [*, St.forget, scr, scrC, St.pub, pubC, r0, hch.out]
      · have f1 : ilt (i : Int) (n : Int) = false := ilt_f (by omega)
        have e1 : i = n := by omega
        subst e1
        have ht : p.lk.take i = p.lk := by rw [← hn]; exact List.take_length
        rw [ht] at g43
        have hpu := pure_r0 (p.lk.map (fun l => l.map (resF 1)))
        have hed := hend.out
        have hln : ((p.lk.map (fun l => l.map (resF 1))).map r0).length = i := by simp; omega
        generalize hCC : (p.lk.map (fun l => l.map (resF 1))).map r0 = CC at g43 hpu hed hln
        clear hend hCC ht
        repeat' first
          | (with_reducible refine gw_bool (fun _ => ?_) (fun _ => ?_))
          | (with_reducible refine condw_bool (fun _ => ?_) (fun _ => ?_))
          | simp [*, Pos.cs]
end Go.Proofs.Ytcbddoopmkhlfaa
end
section
namespace Go.Proofs.Ytcbddoopmkhlfaa
open Go.Pv Go.RowKit
set_option linter.unusedSimpArgs false
set_option linter.unusedVariables false
set_option maxRecDepth 100000
set_option maxHeartbeats 4000000
attribute [-simp] Tclo_at Tgrp_at Tchk Tpchk TcI TcB Tclo Tgrp Tsid Tnod Tlook Tbnd Tidx Tnms Tnmd Tobj Tlks Tbay Trck Trpc Tres TSd TBd

theorem mg_hit {x y z : Int} (h : (ieq z x || ieq z y) = true) : mgF (min x y) (max x y) z = min x y := by
  simp only [Bool.or_eq_true, ieq_iff] at h
  unfold mgF
  split
  · rfl
  · rename_i hh
    have : ¬ (z = max x y) := fun e => hh (ieq_t e)
    omega
theorem mg_miss {x y z : Int} (h : (ieq z x || ieq z y) = false) : mgF (min x y) (max x y) z = z := by
  simp only [Bool.or_eq_false_iff] at h
  have h1 := ieq_iff'.1 h.1
  have h2 := ieq_iff'.1 h.2
  unfold mgF
  rw [if_neg]
  intro hh
  have := ieq_iff.1 hh
  omega
theorem rgroups_ok {s : Stn} {p : Pos} (h1 : chkF s = 0) (h2 : posE s p = 0) : PCall Try.prog 61 [.agg s.cs, .agg p.cs] (.list 1 ((grp s p).map i1)) := by
  have hF := fine_of h1
  have hP := pfine_of h2
  clear h1 h2
  obtain ⟨nb, hnb⟩ : ∃ n, s.bs.length = n := ⟨_, rfl⟩
  obtain ⟨n, hn⟩ : ∃ n, s.qs.length = n := ⟨_, rfl⟩
  have hn16 : n ≤ 16 := by have := hF.nq; omega
  have hnb4 : nb ≤ 4 := by have := hF.nb; omega
  have hkn : p.lk.length = n := by have := hP.nk; omega
  have hch := chunks_i1 (grp s p)
  have hpu := pure_i1 (grp s p)
  have hgl : (grp s p).length = nb := by rw [grp, grpN_len]; exact hnb
  obtain ⟨R, hR⟩ : ∃ R, grp s p = R := ⟨_, rfl⟩
  rw [hR] at hch hpu hgl
  rw [hR]
  rw [hgl] at hch
  replace hR : Hid (grpN s p n = R) := by rw [grp, hn] at hR; exact hR
  refine pcall_cx E8_ok mixed (fun _ => none) Try.func61 rfl Try.ntmps61 Try.results61 (by simp) (by kernel_rfl) ?_
  repeat' first
    | (with_reducible refine gw_bool (fun _ => ?_) (fun _ => ?_))
    | (with_reducible refine condw_bool (fun _ => ?_) (fun _ => ?_))
    | simp [*, Stn.cs, Pos.cs]
  refine lp_view (View.nilOwn _ (t := 5) (key := 22) 1 3 (by simp) (by simp)) ?_
  refine lp_go (D := (fun _ => none)) E8_ok mixed (by kernel_rfl) [2, 3] [2, 3, 8, 21] (α := Nat) (fun i e h => i ≤ nb ∧ e 6 = .int .i64 i ∧ e 5 = .sl 22 0 i 1 ∧ h 22 = some ⟨3, (ini0 i).map (V.int .i64)⟩) (fun i => nb - i) 0 ?_ ?_
  · refine ⟨by omega, by simp, by simp, by simp [ini0]⟩
  rintro i e h hk hkh ⟨hi, g7, g5, g22⟩
  simp [Keep] at hk
  simp [KeepH] at hkh
  by_cases hlt : i < nb
  · have f1 : ilt (i : Int) (nb : Int) = true := ilt_t (by omega)
    have w1 : IntKind.i64.wrap ((i : Int) + 1) = ((i + 1 : Nat) : Int) := wrap_succ (by omega)
    have f5 : (i + 1) * 8 ≤ 140737488355328 := by omega
    have f6 : i + 1 ≤ 9223372036854775807 := by omega
    have hst : Hid (ini0 (i + 1) = ini0 i ++ [(i : Int)]) := ini0_step i
    have hl0 := ini0_len i
    generalize ini0 i = C at g22 hst hl0
    clear hR hch hpu hgl
    repeat' first
      | (with_reducible refine gw_bool (fun _ => ?_) (fun _ => ?_))
      | (with_reducible refine condw_bool (fun _ => ?_) (fun _ => ?_))
      | simp [*, appendV, srcCells, St.forget, scr, scrC, scrI_comp]
    refine nxt_go (i + 1) ((View.forget _ _ 21)) (by omega) (by simp [*, Keep, St.forget, scr, scrC]) (by simp [*, KeepH, St.forget, scr, scrC]) ?_
    refine ⟨by omega, by simp [*, St.forget, scr, scrC], by simp [*, St.forget, scr, scrC], ?_⟩
    rw [hst.out]; simp [*, St.forget, scr, scrC, scrI_comp]
  have f1 : ilt (i : Int) (nb : Int) = false := ilt_f (by omega)
  have e1 : i = nb := by omega
  subst e1
  have hin : grpN s p 0 = ini0 i := by simp [grpN, hnb]
  rw [← hin] at g22
  clear hin hlt hi
  repeat' first
    | (with_reducible refine gw_bool (fun _ => ?_) (fun _ => ?_))
    | (with_reducible refine condw_bool (fun _ => ?_) (fun _ => ?_))
    | simp [*]
  refine lp_go (D := (fun _ => none)) E8_ok mixed (by kernel_rfl) [2, 3, 5, 5] [2, 3, 8, 21] (α := Nat) (fun k e h => k ≤ n ∧ e 7 = .int .i64 k ∧ h 22 = some ⟨3, (grpN s p k).map (V.int .i64)⟩) (fun k => n - k) 0 ?_ ?_
  · exact ⟨by omega, by simp, by simp [*]⟩
  have hk0 := hk
  have hkh0 := hkh
  have g50 := g5
  clear hk hkh g7 g5 g22
  rintro k e h hk hkh ⟨hki, g7, g39⟩
  simp [Keep, hk0, hkh0, g50] at hk
  simp [KeepH, hk0, hkh0] at hkh
  by_cases hlt : k < n
  · obtain ⟨b, hb, hb'⟩ := at_ex (l := s.qs) (i := k) (by omega)
    obtain ⟨l, hl, hl'⟩ := at_ex (l := p.lk) (i := k) (by omega)
    obtain ⟨hll, -⟩ := hP.row k b l hb hl
    obtain ⟨hbus, -, hb1, hb2⟩ := hF.lk b (List.mem_of_getElem? hb)
    have f1 : ilt (k : Int) (n : Int) = true := ilt_t (by omega)
    have w1 : IntKind.i64.wrap ((k : Int) + 1) = ((k + 1 : Nat) : Int) := wrap_succ (by omega)
    have hst : Hid (grpN s p (k + 1) = stG (grpN s p k) b l) := grpN_step hb hl
    have hGl : (grpN s p k).length = i := by rw [grpN_len]; exact hnb
    have hGp := pure_i1 (grpN s p k)
    generalize grpN s p k = G at g39 hst hGl hGp
    clear hR hch hpu hgl
    have hGs := scr_i1 G
    have hkn2 : k < p.lk.length := by omega
    cases hk3 : ieq b.kind 3
    · obtain ⟨lks, hlk⟩ : ∃ lks, b.lks = lks := ⟨_, rfl⟩
      rw [hlk] at hll hbus hb1 hb2
      match lks, hb1, hb2 with
      | [a], _, _ =>
        have hnx : stG G b l = G := by simp [stG, hk3, hlk]
        rw [hnx] at hst
        clear hnx hbus
        repeat' first
          | (with_reducible refine gw_bool (fun _ => ?_) (fun _ => ?_))
          | (with_reducible refine condw_bool (fun _ => ?_) (fun _ => ?_))
          | simp [*, By.cs]
        refine nxt_go (k + 1) ((View.forget _ _ 8)) (by omega) (by simp [*, Keep, St.forget, scr, scrC]) (by simp [*, KeepH, St.forget, scr, scrC]) ?_
        refine ⟨by omega, by simp [*, St.forget, scr, scrC], ?_⟩
        rw [hst.out]; simp [*, St.forget, scr, scrC, scrI_comp]
      | [a, c], _, _ =>
        match l, hll with
        | [x, y], _ =>
          cases hx : ieq x 1
          · have hnx : stG G b [x, y] = G := by simp [stG, hk3, hlk, hx]
            rw [hnx] at hst
            clear hnx hbus
            repeat' first
              | (with_reducible refine gw_bool (fun _ => ?_) (fun _ => ?_))
              | (with_reducible refine condw_bool (fun _ => ?_) (fun _ => ?_))
              | simp [*, By.cs, r1, i1]
            refine nxt_go (k + 1) ((View.forget _ _ 8)) (by omega) (by simp [*, Keep, St.forget, scr, scrC]) (by simp [*, KeepH, St.forget, scr, scrC]) ?_
            refine ⟨by omega, by simp [*, St.forget, scr, scrC], ?_⟩
            rw [hst.out]; simp [*, St.forget, scr, scrC, scrI_comp]
          cases hy : ieq y 1
          · have hnx : stG G b [x, y] = G := by simp [stG, hk3, hlk, hx, hy]
            rw [hnx] at hst
            clear hnx hbus
            repeat' first
              | (with_reducible refine gw_bool (fun _ => ?_) (fun _ => ?_))
              | (with_reducible refine condw_bool (fun _ => ?_) (fun _ => ?_))
              | simp [*, By.cs, r1, i1]
            refine nxt_go (k + 1) ((View.forget _ _ 8)) (by omega) (by simp [*, Keep, St.forget, scr, scrC]) (by simp [*, KeepH, St.forget, scr, scrC]) ?_
            refine ⟨by omega, by simp [*, St.forget, scr, scrC], ?_⟩
            rw [hst.out]; simp [*, St.forget, scr, scrC, scrI_comp]
          obtain ⟨u, hu⟩ := Int.eq_ofNat_of_zero_le (hbus a (by simp)).1
          obtain ⟨w, hwc⟩ := Int.eq_ofNat_of_zero_le (hbus c (by simp)).1
          have hub : u < i := by have := (hbus a (by simp)).2; omega
          have hwb : w < i := by have := (hbus c (by simp)).2; omega
          obtain ⟨ga, hga, -⟩ := at_ex (l := G) (i := u) (by omega)
          obtain ⟨gc, hgc, -⟩ := at_ex (l := G) (i := w) (by omega)
          have hga2 : ∀ h : u < G.length, G[u] = ga := fun h => by rw [List.getElem?_eq_getElem h] at hga; exact Option.some.inj hga
          have hgc2 : ∀ h : w < G.length, G[w] = gc := fun h => by rw [List.getElem?_eq_getElem h] at hgc; exact Option.some.inj hgc
          have hnx : stG G b [x, y] = G.map (mgF (min ga gc) (max ga gc)) := by simp [stG, hk3, hlk, hx, hy, merge, g0, gAt, hu, hwc, hga, hgc]
          rw [hnx] at hst
          clear hnx hbus
          have hcu : (u : Int) < (i : Int) := by omega
          have hcw : (w : Int) < (i : Int) := by omega
          have hmh : ∀ z, (ieq z ga || ieq z gc) = true → mgF (min ga gc) (max ga gc) z = min ga gc := fun z h => mg_hit h
          have hmm : ∀ z, (ieq z ga || ieq z gc) = false → mgF (min ga gc) (max ga gc) z = z := fun z h => mg_miss h
          obtain ⟨lo, hlo⟩ : ∃ lo, min ga gc = lo := ⟨_, rfl⟩
          obtain ⟨top, hto⟩ : ∃ top, max ga gc = top := ⟨_, rfl⟩
          rw [hlo, hto] at hst hmh hmm
          replace hmh : Hid (∀ z, (ieq z ga || ieq z gc) = true → mgF lo top z = lo) := hmh
          replace hmm : Hid (∀ z, (ieq z ga || ieq z gc) = false → mgF lo top z = z) := hmm
          repeat' first
            | (with_reducible refine gw_bool (fun _ => ?_) (fun _ => ?_))
            | (with_reducible refine condw_bool (fun _ => ?_) (fun _ => ?_))
            | simp [*, By.cs, Lk.cs, r1, i1]
          refine lp_go (D := (fun _ => none)) E8_ok mixed (by kernel_rfl) [2, 3, 5, 7, 8, 9, 10, 23, 24, 25, 26, 27, 30, 31, 32, 33, 34, 35, 36, 37, 38, 39, 40, 41, 42, 43, 44, 45, 46, 47, 48, 49, 50, 51, 52, 53, 54, 55, 56, 57, 58, 59, 60, 61, 62, 63, 64, 65, 66, 67, 68, 69, 70, 71, 72, 73, 74, 75, 76, 77, 78, 79] [2, 3, 8, 21] (α := Nat) (fun j e h => j ≤ i ∧ e 11 = .int .i64 j ∧ h 22 = some ⟨3, (hG (mgF lo top) G j).map (V.int .i64)⟩) (fun j => i - j) 0 ?_ ?_
          · exact ⟨by omega, by simp, by simp [*, hG]⟩
          have hk1 := hk
          have hkh1 := hkh
          have g71 := g7
          clear hk hkh g7 g39
          rintro j e h hk hkh ⟨hji, g7, g39⟩
          simp [Keep, hk1, hkh1, g71, hga, hgc, hga2, hgc2] at hk
          simp [KeepH, hk1, hkh1] at hkh
          have hCl : (hG (mgF lo top) G j).length = i := by rw [hG_len _ _ _ (by omega)]; exact hGl
          clear hGs
          by_cases hjlt : j < i
          · obtain ⟨z, hz, -⟩ := at_ex (l := G) (i := j) (by omega)
            have f2 : ilt (j : Int) (i : Int) = true := ilt_t (by omega)
            have w2 : IntKind.i64.wrap ((j : Int) + 1) = ((j + 1 : Nat) : Int) := wrap_succ (by omega)
            have hC1 := hG_at (f := mgF lo top) hz
            have hj1 : j + 1 ≤ i := by omega
            cases q1 : ieq z ga
            · cases q2 : ieq z gc
              · have hnj : Hid (hG (mgF lo top) G (j + 1) = hG (mgF lo top) G j) := hG_same hz (hmm.out z (by rw [q1, q2]; rfl))
                generalize hG (mgF lo top) G j = C at g39 hCl hC1 hnj
                have hC2 : ∀ h : j < C.length, C[j] = z := fun h => by rw [List.getElem?_eq_getElem h] at hC1; exact Option.some.inj hC1
                clear hz hst hGl hGp hmh hmm hga hgc hga2 hgc2
                repeat' first
                  | (with_reducible refine gw_bool (fun _ => ?_) (fun _ => ?_))
                  | (with_reducible refine condw_bool (fun _ => ?_) (fun _ => ?_))
                  | simp [*, St.forget, scr, scrC]
                refine nxt_go (j + 1) (View.refl _ _) (by omega) (by simp [*, Keep, St.forget, scr, scrC]) (by simp [*, KeepH, St.forget, scr, scrC]) ?_
                refine ⟨by omega, by simp [*], ?_⟩
                rw [hnj.out]; simp [*]
              · have hnj : hG (mgF lo top) G (j + 1) = (hG (mgF lo top) G j).set j lo := by rw [hG_step hz, hmh.out z (by rw [q1, q2]; rfl)]
                replace hnj : Hid (hG (mgF lo top) G (j + 1) = (hG (mgF lo top) G j).set j lo) := hnj
                generalize hG (mgF lo top) G j = C at g39 hCl hC1 hnj
                have hC2 : ∀ h : j < C.length, C[j] = z := fun h => by rw [List.getElem?_eq_getElem h] at hC1; exact Option.some.inj hC1
                clear hz hst hGl hGp hmh hmm hga hgc hga2 hgc2
                repeat' first
                  | (with_reducible refine gw_bool (fun _ => ?_) (fun _ => ?_))
                  | (with_reducible refine condw_bool (fun _ => ?_) (fun _ => ?_))
                  | simp [*, St.forget, scr, scrC, setsV]
                refine nxt_go (j + 1) (View.refl _ _) (by omega) (by simp [*, Keep, St.forget, scr, scrC]) (by simp [*, KeepH, St.forget, scr, scrC]) ?_
                refine ⟨by omega, by simp [*], ?_⟩
                rw [hnj.out]; simp [*, setsV, List.map_set]
            · have hnj : hG (mgF lo top) G (j + 1) = (hG (mgF lo top) G j).set j lo := by rw [hG_step hz, hmh.out z (by rw [q1]; rfl)]
              replace hnj : Hid (hG (mgF lo top) G (j + 1) = (hG (mgF lo top) G j).set j lo) := hnj
              generalize hG (mgF lo top) G j = C at g39 hCl hC1 hnj
              have hC2 : ∀ h : j < C.length, C[j] = z := fun h => by rw [List.getElem?_eq_getElem h] at hC1; exact Option.some.inj hC1
              clear hz hst hGl hGp hmh hmm hga hgc hga2 hgc2
              repeat' first
                | (with_reducible refine gw_bool (fun _ => ?_) (fun _ => ?_))
                | (with_reducible refine condw_bool (fun _ => ?_) (fun _ => ?_))
                | simp [*, St.forget, scr, scrC, setsV]
              refine nxt_go (j + 1) (View.refl _ _) (by omega) (by simp [*, Keep, St.forget, scr, scrC]) (by simp [*, KeepH, St.forget, scr, scrC]) ?_
              refine ⟨by omega, by simp [*], ?_⟩
              rw [hnj.out]; simp [*, setsV, List.map_set]
          · have f2 : ilt (j : Int) (i : Int) = false := ilt_f (by omega)
            have e2 : j = G.length := by omega
            rw [e2, hG_end] at g39
            clear e2 hCl
            have hst' := hst.out
            have hCp := pure_i1 (G.map (mgF lo top))
            generalize G.map (mgF lo top) = C at g39 hst' hCp
            replace hst' : Hid (grpN s p (k + 1) = C) := hst'
            clear hst hGl hGp hmh hmm hga hgc hga2 hgc2
            repeat' first
              | (with_reducible refine gw_bool (fun _ => ?_) (fun _ => ?_))
              | (with_reducible refine condw_bool (fun _ => ?_) (fun _ => ?_))
              | simp [*, St.forget, scr, scrC]
            refine nxt_go (k + 1) ((View.forget _ _ 8)) (by omega) (by simp [*, Keep, St.forget, scr, scrC]) (by simp [*, KeepH, St.forget, scr, scrC]) ?_
            refine ⟨by omega, by simp [*, St.forget, scr, scrC], ?_⟩
            rw [hst'.out]; simp [*, St.forget, scr, scrC, scrI_comp]
    · have hnx : stG G b l = G := by simp [stG, hk3]
      rw [hnx] at hst
      clear hnx hbus
      repeat' first
        | (with_reducible refine gw_bool (fun _ => ?_) (fun _ => ?_))
        | (with_reducible refine condw_bool (fun _ => ?_) (fun _ => ?_))
        | simp [*, By.cs]
      refine nxt_go (k + 1) ((View.forget _ _ 8)) (by omega) (by simp [*, Keep, St.forget, scr, scrC]) (by simp [*, KeepH, St.forget, scr, scrC]) ?_
      refine ⟨by omega, by simp [*, St.forget, scr, scrC], ?_⟩
      rw [hst.out]; simp [*, St.forget, scr, scrC, scrI_comp]
  · have f1 : ilt (k : Int) (n : Int) = false := ilt_f (by omega)
    have e1 : k = n := by omega
    rw [e1, hR.out] at g39
    clear hR
    repeat' first
      | (with_reducible refine gw_bool (fun _ => ?_) (fun _ => ?_))
      | (with_reducible refine condw_bool (fun _ => ?_) (fun _ => ?_))
      | simp [*]
end Go.Proofs.Ytcbddoopmkhlfaa
end
section
namespace Go.Proofs.Ytcbddoopmkhlfaa
open Go.Pv Go.RowKit
set_option linter.unusedSimpArgs false
set_option linter.unusedVariables false
set_option maxRecDepth 100000
set_option maxHeartbeats 4000000
attribute [-simp] Tclo_at Tgrp_at Tchk Tpchk TcI TcB Tclo Tgrp Tsid Tnod Tlook Tbnd Tidx Tnms Tnmd Tobj Tlks Tbay Trck Trpc Tres TSd TBd

/-! ### what a valid diagram's bays are -/
theorem erQ_of {s : Stn} (h : chkF s = 0) : erQ s = 0 := by
  unfold chkF at h
  split at h
  · split at h
    · cases h
    · exact h
  · cases h
theorem bay_zero {s : Stn} (h : chkF s = 0) {i : Nat} {b : By} (hb : s.qs[i]? = some b) : byE (SQ s i) b = 0 := by
  have h1 := (nx_zero (erQ_of h)).2
  have := firstN_zero h1 i (List.getElem?_eq_some_iff.1 hb).1
  simpa [eQ, hb] using this
theorem obj_zero {s : Stn} (h : chkF s = 0) {i : Nat} {b : By} (hb : s.qs[i]? = some b) : objE s.ls.length s.ss.length b = 0 := by
  have h0 := bay_zero h hb
  rw [byE_of] at h0
  split at h0
  · rw [byE1_of] at h0
    split at h0
    · rename_i h1; exact h1
    · rename_i h1; exact (h1 h0).elim
  · rename_i h1; exact (h1 h0).elim
theorem kind_of {s : Stn} (h : chkF s = 0) {i : Nat} {b : By} (hb : s.qs[i]? = some b) : ieq b.kind 1 = true ∨ (ieq b.kind 1 = false ∧ ieq b.kind 2 = true) ∨ (ieq b.kind 1 = false ∧ ieq b.kind 2 = false ∧ ieq b.kind 3 = true) := by
  have h0 := obj_zero h hb
  unfold objE cntF at h0
  cases h1 : ieq b.kind 1
  · cases h2 : ieq b.kind 2
    · cases h3 : ieq b.kind 3
      · simp [h1, h2, h3] at h0
      · exact .inr (.inr ⟨rfl, rfl, rfl⟩)
    · exact .inr (.inl ⟨rfl, rfl⟩)
  · exact .inl rfl
/-! ### sides -/
def Trg : List V → Option V
  | [.agg a, .agg b] => (match unStn a, unPos b with
    | some s, some p => if okP s p = true then some (.list 1 ((grp s p).map i1)) else none
    | _, _ => none)
  | _ => none
theorem Trg_at {s : Stn} {p : Pos} (h : okP s p = true) : Trg [.agg [.str s.nm, .list 1 (s.bs.map s1), .list 5 (s.ls.map Ln.cs), .list 6 (s.ss.map Sr.cs), .list 12 (s.qs.map By.cs)], .agg [.list 1 (p.cl.map b1), .list 1 (p.lk.map r1)]] = some (.list 1 ((grp s p).map i1)) := by
  have e1 := unStn_cs s
  have e2 := unPos_cs p
  unfold Stn.cs at e1
  unfold Pos.cs at e2
  simp [Trg, e1, e2, h]
theorem rg_tab : ∀ vs v, Trg vs = some v → PCall Try.prog 61 vs v := by
  intro vs v h; unfold Trg at h; split at h
  · split at h
    · rename_i h1 h2
      split at h
      · rename_i hl
        cases h
        rw [unStn_inv _ _ h1, unPos_inv _ _ h2]
        obtain ⟨a, b⟩ := okP_iff hl
        exact rgroups_ok a b
      · cases h
    · cases h
  · cases h
def Trf : List V → Option V
  | [.agg a, .agg b] => (match unStn a, unPos b with
    | some s, some p => if lkB s = true ∧ lenB s p = true then some (.bool (okP s p)) else none
    | _, _ => none)
  | _ => none
theorem Trf_at {s : Stn} {p : Pos} (h1 : lkB s = true) (h2 : lenB s p = true) : Trf [.agg [.str s.nm, .list 1 (s.bs.map s1), .list 5 (s.ls.map Ln.cs), .list 6 (s.ss.map Sr.cs), .list 12 (s.qs.map By.cs)], .agg [.list 1 (p.cl.map b1), .list 1 (p.lk.map r1)]] = some (.bool (okP s p)) := by
  have e1 := unStn_cs s
  have e2 := unPos_cs p
  unfold Stn.cs at e1
  unfold Pos.cs at e2
  simp [Trf, e1, e2, h1, h2]
theorem rf_tab : ∀ vs v, Trf vs = some v → PCall Try.prog 53 vs v := by
  intro vs v h; unfold Trf at h; split at h
  · split at h
    · rename_i h1 h2
      split at h
      · rename_i hl
        cases h
        rw [unStn_inv _ _ h1, unPos_inv _ _ h2]
        exact rfine_ok hl.1 hl.2
      · cases h
    · cases h
  · cases h
def E9 : Tab := add 61 Trg (add 53 Trf (E8))
theorem E9_at (f : FuncId) (vs : List V) : E9.at' f vs = if f = 61 then Trg vs else if f = 53 then Trf vs else E8.at' f vs := rfl
theorem E9_fr (f : FuncId) : E9.fr f = if f = 61 then false else if f = 53 then false else E8.fr f := rfl
theorem E9_gb (f : FuncId) : E9.gb f = E8.gb f := rfl
theorem E9_gv (f : FuncId) (vs : List V) : E9.gv f vs = E8.gv f vs := rfl
attribute [simp] E9_at E9_fr E9_gb E9_gv Trf Trg
theorem E9_ok : TabOK Try.prog E9 := by
  refine add_ok (add_ok (E8_ok) (by kernel_rfl) ?_) (by kernel_rfl) ?_
  · exact rf_tab
  · exact rg_tab
attribute [-simp] Trg Trf
attribute [simp] Trg_at Trf_at
theorem lkB_of {s : Stn} (h : chkF s = 0) : lkB s = true := by
  have hF := fine_of h
  exact List.all_eq_true.2 fun b hb => by
    have := (hF.lk b hb).2.2.2
    simp; omega
theorem lenB_ok {s : Stn} {p : Pos} (h : okP s p = true) : lenB s p = true := by
  obtain ⟨a, b⟩ := okP_iff h
  exact lenB_of (fine_of a) (pfine_of b)
theorem rsides_in {s : Stn} {p : Pos} (h : okP s p = true) (i : Nat) (b : By) (l : List Int) (hb : s.qs[i]? = some b) (hl : p.lk[i]? = some l) : PCall Try.prog 56 [.agg s.cs, .agg p.cs, .int .i64 i] (.agg ((sid (grp s p) b l).map (V.int .i64))) := by
  obtain ⟨c1, c2⟩ := okP_iff h
  have hF := fine_of c1
  have hP := pfine_of c2
  obtain ⟨hi, hb'⟩ := get_of hb
  obtain ⟨hi2, hl'⟩ := get_of hl
  obtain ⟨hll, -⟩ := hP.row i b l hb hl
  obtain ⟨hbus, hk2, hb1, hb2⟩ := hF.lk b (List.mem_of_getElem? hb)
  have hgl : (grp s p).length = s.bs.length := by rw [grp, grpN_len]
  rw [← hgl] at hbus
  have hkd := kind_of c1 hb
  clear c1 c2 hF hP
  obtain ⟨n, hn⟩ : ∃ n, s.qs.length = n := ⟨_, rfl⟩
  obtain ⟨n2, hn2⟩ : ∃ n, p.lk.length = n := ⟨_, rfl⟩
  rw [hn] at hi
  rw [hn2] at hi2
  have hTg := Trg_at h
  generalize hG : grp s p = G at hbus hTg hgl
  clear hgl hG h
  obtain ⟨ng, hng⟩ : ∃ n, G.length = n := ⟨_, rfl⟩
  rw [hng] at hbus
  have hGi : ∀ x : Int, 0 ≤ x ∧ x < ng → ∃ (u : Nat) (g : Int), x = u ∧ u < ng ∧ (∀ h : u < G.length, G[u] = g) ∧ g0 G (u : Int) = g := fun x hx => by
    obtain ⟨u, rfl⟩ := Int.eq_ofNat_of_zero_le hx.1
    have hu : u < G.length := by omega
    refine ⟨u, G[u], rfl, by omega, fun _ => rfl, ?_⟩
    simp [g0, gAt, hu]
  cases h3 : ieq b.kind 3
  · have hs : sid G b l = [(fstN G ((b.lks.zip l).find? hit)).1, (fstN G ((b.lks.zip l).find? hit)).2, if ieq b.kind 1 = true then 2 else 3, b.ob] := by simp [sid, h3]
    rw [hs]
    clear hs
    have hk12 : ieq b.kind 2 = !ieq b.kind 1 := by
      rcases hkd with h1 | ⟨h1, h2⟩ | ⟨_, _, h4⟩
      · rw [h1]; have := ieq_iff.1 h1; rw [this]; rfl
      · rw [h1, h2]; rfl
      · rw [h3] at h4; cases h4
    clear hkd hk2
    obtain ⟨lks, hlk⟩ : ∃ lks, b.lks = lks := ⟨_, rfl⟩
    rw [hlk] at hll hbus hb1 hb2 ⊢
    match lks, hb1, hb2 with
    | [a], _, _ =>
      match l, hll with
      | [x], _ =>
        obtain ⟨u, gu, ha, hu, hGu, hg0⟩ := hGi _ (hbus a (by simp))
        clear hGi hbus
        have hcu : (u : Int) < (ng : Int) := by omega
        cases k1 : ieq b.kind 1 <;> cases hx : ieq x 1
        all_goals rw [k1] at hk12
        all_goals simp only [Bool.not_false, Bool.not_true] at hk12
        all_goals
          refine pcall_cx E9_ok mixed (fun _ => none) Try.func56 rfl Try.ntmps56 Try.results56 (by simp) (by kernel_rfl) ?_
        all_goals
          repeat' first
            | (with_reducible refine gw_bool (fun _ => ?_) (fun _ => ?_))
            | (with_reducible refine condw_bool (fun _ => ?_) (fun _ => ?_))
            | (refine lp_unroll (D := (fun _ => none)) E9_ok mixed (by kernel_rfl) ?_)
            | simp [*, Stn.cs, Pos.cs, By.cs, Lk.cs, r1, i1, hit, fstN, setsV]
    | [a, c], _, _ =>
      match l, hll with
      | [x, y], _ =>
        obtain ⟨u, gu, ha, hu, hGu, hg0⟩ := hGi _ (hbus a (by simp))
        obtain ⟨v, gv, hc, hv, hGv, hg1⟩ := hGi _ (hbus c (by simp))
        clear hGi hbus
        have hcu : (u : Int) < (ng : Int) := by omega
        have hcv : (v : Int) < (ng : Int) := by omega
        cases k1 : ieq b.kind 1 <;> cases hx : ieq x 1 <;> cases hy : ieq y 1
        all_goals rw [k1] at hk12
        all_goals simp only [Bool.not_false, Bool.not_true] at hk12
        all_goals
          refine pcall_cx E9_ok mixed (fun _ => none) Try.func56 rfl Try.ntmps56 Try.results56 (by simp) (by kernel_rfl) ?_
        all_goals
          repeat' first
            | (with_reducible refine gw_bool (fun _ => ?_) (fun _ => ?_))
            | (with_reducible refine condw_bool (fun _ => ?_) (fun _ => ?_))
            | (refine lp_unroll (D := (fun _ => none)) E9_ok mixed (by kernel_rfl) ?_)
            | simp [*, Stn.cs, Pos.cs, By.cs, Lk.cs, r1, i1, hit, fstN, setsV]
  · have hk2' := hk2 h3
    clear hkd hk2
    obtain ⟨lks, hlk⟩ : ∃ lks, b.lks = lks := ⟨_, rfl⟩
    rw [hlk] at hk2' hbus
    match lks, hk2' with
    | [a, c], _ =>
      obtain ⟨u, gu, ha, hu, hGu, hg0⟩ := hGi _ (hbus a (by simp))
      obtain ⟨v, gv, hc, hv, hGv, hg1⟩ := hGi _ (hbus c (by simp))
      clear hGi hbus
      have hcu : (u : Int) < (ng : Int) := by omega
      have hcv : (v : Int) < (ng : Int) := by omega
      have hs : sid G b l = [1, gu, 1, gv] := by simp [sid, h3, hlk, ha, hc, hg0, hg1]
      rw [hs]
      clear hs
      refine pcall_cx E9_ok mixed (fun _ => none) Try.func56 rfl Try.ntmps56 Try.results56 (by simp) (by kernel_rfl) ?_
      repeat' first
        | (with_reducible refine gw_bool (fun _ => ?_) (fun _ => ?_))
        | (with_reducible refine condw_bool (fun _ => ?_) (fun _ => ?_))
        | simp [*, Stn.cs, Pos.cs, By.cs, Lk.cs, i1]
/-! ### nodes -/
def nodA : Option (Int × Int) → V
  | some x => .agg [.int .i64 x.1, .int .i64 x.2]
  | none => .agg [.int .i64 0, .int .i64 0]
theorem rnode_ok {s : Stn} {p : Pos} (h : okP s p = true) (k o : Int) : PCall Try.prog 55 [.agg s.cs, .agg p.cs, .agg [.int .i64 k, .int .i64 o]] (nodA (nodF s (grp s p) k o)) := by
  obtain ⟨nb, hnb⟩ : ∃ n, s.bs.length = n := ⟨_, rfl⟩
  obtain ⟨nl, hnl⟩ : ∃ n, s.ls.length = n := ⟨_, rfl⟩
  have hgl : (grp s p).length = nb := by rw [grp, grpN_len]; exact hnb
  have hTg := Trg_at h
  generalize hG : grp s p = G at hTg hgl ⊢
  clear hG h
  obtain ⟨N, hN⟩ : ∃ N, nodF s G k o = N := ⟨_, rfl⟩
  rw [hN]
  unfold nodF at hN
  rw [hnb, hnl] at hN
  cases k1 : ieq k 1
  · rw [k1] at hN
    cases k2 : ieq k 2
    · have hN' : N = none := by rw [← hN]; simp [k2]
      clear hN
      refine pcall_cx E9_ok mixed (fun _ => none) Try.func55 rfl Try.ntmps55 Try.results55 (by simp) (by kernel_rfl) ?_
      repeat' first
        | (with_reducible refine gw_bool (fun _ => ?_) (fun _ => ?_))
        | (with_reducible refine condw_bool (fun _ => ?_) (fun _ => ?_))
        | simp [*, Stn.cs, Pos.cs, nodA]
    · cases o0 : ilt o 0
      · cases o1 : ilt o nl
        · have hN' : N = none := by rw [← hN]; simp [k2, o0, o1]
          clear hN
          refine pcall_cx E9_ok mixed (fun _ => none) Try.func55 rfl Try.ntmps55 Try.results55 (by simp) (by kernel_rfl) ?_
          repeat' first
            | (with_reducible refine gw_bool (fun _ => ?_) (fun _ => ?_))
            | (with_reducible refine condw_bool (fun _ => ?_) (fun _ => ?_))
            | simp [*, Stn.cs, Pos.cs, nodA]
        · have hN' : N = some (2, o) := by rw [← hN]; simp [k2, o0, o1]
          clear hN
          refine pcall_cx E9_ok mixed (fun _ => none) Try.func55 rfl Try.ntmps55 Try.results55 (by simp) (by kernel_rfl) ?_
          repeat' first
            | (with_reducible refine gw_bool (fun _ => ?_) (fun _ => ?_))
            | (with_reducible refine condw_bool (fun _ => ?_) (fun _ => ?_))
            | simp [*, Stn.cs, Pos.cs, nodA]
      · have hN' : N = none := by rw [← hN]; simp [k2, o0]
        clear hN
        refine pcall_cx E9_ok mixed (fun _ => none) Try.func55 rfl Try.ntmps55 Try.results55 (by simp) (by kernel_rfl) ?_
        repeat' first
          | (with_reducible refine gw_bool (fun _ => ?_) (fun _ => ?_))
          | (with_reducible refine condw_bool (fun _ => ?_) (fun _ => ?_))
          | simp [*, Stn.cs, Pos.cs, nodA]
  · have k2 : ieq k 2 = false := by
      have : k = 1 := by simpa [ieq] using k1
      subst this; decide
    cases o0 : ilt o 0
    · cases o1 : ilt o nb
      · have hN' : N = none := by rw [← hN]; simp [k1, k2, o0, o1]
        clear hN
        refine pcall_cx E9_ok mixed (fun _ => none) Try.func55 rfl Try.ntmps55 Try.results55 (by simp) (by kernel_rfl) ?_
        repeat' first
          | (with_reducible refine gw_bool (fun _ => ?_) (fun _ => ?_))
          | (with_reducible refine condw_bool (fun _ => ?_) (fun _ => ?_))
          | simp [*, Stn.cs, Pos.cs, nodA]
      · have a0 := ilt_iff'.1 o0
        have a1 := ilt_iff.1 o1
        obtain ⟨u, rfl⟩ := Int.eq_ofNat_of_zero_le (show 0 ≤ o by omega)
        have hu : u < G.length := by omega
        obtain ⟨gx, hgx⟩ : ∃ gx, G[u] = gx := ⟨_, rfl⟩
        have hN' : N = some (1, gx) := by
          rw [← hN]; simp only [o0, o1, k1]; simp [g0, gAt, hu, hgx]
        clear hN
        have hcu : (u : Int) < (nb : Int) := by omega
        have hub : u < nb := by omega
        refine pcall_cx E9_ok mixed (fun _ => none) Try.func55 rfl Try.ntmps55 Try.results55 (by simp) (by kernel_rfl) ?_
        repeat' first
          | (with_reducible refine gw_bool (fun _ => ?_) (fun _ => ?_))
          | (with_reducible refine condw_bool (fun _ => ?_) (fun _ => ?_))
          | simp [*, Stn.cs, Pos.cs, nodA, i1]
    · have hN' : N = none := by rw [← hN]; simp [k1, k2, o0]
      clear hN
      refine pcall_cx E9_ok mixed (fun _ => none) Try.func55 rfl Try.ntmps55 Try.results55 (by simp) (by kernel_rfl) ?_
      repeat' first
        | (with_reducible refine gw_bool (fun _ => ?_) (fun _ => ?_))
        | (with_reducible refine condw_bool (fun _ => ?_) (fun _ => ?_))
        | simp [*, Stn.cs, Pos.cs, nodA]
end Go.Proofs.Ytcbddoopmkhlfaa
end
section
namespace Go.Proofs.Ytcbddoopmkhlfaa
open Go.Pv Go.RowKit
set_option linter.unusedSimpArgs false
set_option linter.unusedVariables false
set_option maxRecDepth 100000
set_option maxHeartbeats 4000000
attribute [-simp] Tclo_at Tgrp_at Tchk Tpchk TcI TcB Tclo Tgrp Tsid Tnod Tlook Tbnd Tidx Tnms Tnmd Tobj Tlks Tbay Trck Trpc Tres TSd TBd Trg Trf

def rsdF (s : Stn) (p : Pos) (i : Int) : Option (List Int) := if 0 ≤ i ∧ i < s.qs.length then sidF s p (grp s p) i else none
def Trsd : List V → Option V
  | [.agg a, .agg b, .int .i64 i] => (match unStn a, unPos b with
    | some s, some p => if okP s p = true then (match rsdF s p i with
      | some S => some (.agg (S.map (V.int .i64)))
      | none => none) else none
    | _, _ => none)
  | _ => none
theorem Trsd_at {s : Stn} {p : Pos} {i : Int} {S : List Int} (h : okP s p = true) (hS : rsdF s p i = some S) : Trsd [.agg [.str s.nm, .list 1 (s.bs.map s1), .list 5 (s.ls.map Ln.cs), .list 6 (s.ss.map Sr.cs), .list 12 (s.qs.map By.cs)], .agg [.list 1 (p.cl.map b1), .list 1 (p.lk.map r1)], .int .i64 i] = some (.agg (S.map (V.int .i64))) := by
  have e1 := unStn_cs s
  have e2 := unPos_cs p
  unfold Stn.cs at e1
  unfold Pos.cs at e2
  simp [Trsd, e1, e2, h, hS]
theorem rsd_tab : ∀ vs v, Trsd vs = some v → PCall Try.prog 56 vs v := by
  intro vs v h; unfold Trsd at h; split at h
  · split at h
    · rename_i a b i s p h1 h2
      split at h
      · rename_i hl
        split at h
        · rename_i S hS
          cases h
          rw [unStn_inv _ _ h1, unPos_inv _ _ h2]
          unfold rsdF at hS
          split at hS
          · rename_i hi
            unfold sidF at hS
            rw [if_pos (wfg_of hl), if_pos hi] at hS
            split at hS
            · rename_i b l hb hl'
              cases hS
              obtain ⟨k, rfl⟩ := Int.eq_ofNat_of_zero_le hi.1
              exact rsides_in hl k b l (by simpa using hb) (by simpa using hl')
            · cases hS
          · cases hS
        · cases h
      · cases h
    · cases h
  · cases h
def Trnd : List V → Option V
  | [.agg a, .agg b, .agg [.int .i64 k, .int .i64 o]] => (match unStn a, unPos b with
    | some s, some p => if okP s p = true then some (nodA (nodF s (grp s p) k o)) else none
    | _, _ => none)
  | _ => none
theorem Trnd_at {s : Stn} {p : Pos} {k o : Int} (h : okP s p = true) : Trnd [.agg [.str s.nm, .list 1 (s.bs.map s1), .list 5 (s.ls.map Ln.cs), .list 6 (s.ss.map Sr.cs), .list 12 (s.qs.map By.cs)], .agg [.list 1 (p.cl.map b1), .list 1 (p.lk.map r1)], .agg [.int .i64 k, .int .i64 o]] = some (nodA (nodF s (grp s p) k o)) := by
  have e1 := unStn_cs s
  have e2 := unPos_cs p
  unfold Stn.cs at e1
  unfold Pos.cs at e2
  simp [Trnd, e1, e2, h]
theorem rnd_tab : ∀ vs v, Trnd vs = some v → PCall Try.prog 55 vs v := by
  intro vs v h; unfold Trnd at h; split at h
  · split at h
    · rename_i h1 h2
      split at h
      · rename_i hl
        cases h
        rw [unStn_inv _ _ h1, unPos_inv _ _ h2]
        exact rnode_ok hl _ _
      · cases h
    · cases h
  · cases h
def E10 : Tab := add 56 Trsd (add 55 Trnd (E9))
theorem E10_at (f : FuncId) (vs : List V) : E10.at' f vs = if f = 56 then Trsd vs else if f = 55 then Trnd vs else E9.at' f vs := rfl
theorem E10_fr (f : FuncId) : E10.fr f = if f = 56 then false else if f = 55 then false else E9.fr f := rfl
theorem E10_gb (f : FuncId) : E10.gb f = E9.gb f := rfl
theorem E10_gv (f : FuncId) (vs : List V) : E10.gv f vs = E9.gv f vs := rfl
attribute [simp] E10_at E10_fr E10_gb E10_gv Trnd Trsd
theorem E10_ok : TabOK Try.prog E10 := by
  refine add_ok (add_ok (E9_ok) (by kernel_rfl) ?_) (by kernel_rfl) ?_
  · exact rnd_tab
  · exact rsd_tab
attribute [-simp] Trsd Trnd
attribute [simp] Trsd_at Trnd_at
/-- The sides of a bay of a valid diagram. -/
theorem sid_kinds (g : List Int) (b : By) (l : List Int) : (ieq b.kind 3 = true → b.lks.length = 2 → ∃ x y, sid g b l = [1, x, 1, y]) ∧ (ieq b.kind 3 = false → ∃ a0 a1 c0 c1, sid g b l = [a0, a1, c0, c1] ∧ (a0 = 0 ∧ a1 = 0 ∨ a0 = 1) ∧ (c0 = 2 ∨ c0 = 3)) := by
  constructor
  · intro h hl
    obtain ⟨lks, hlk⟩ : ∃ lks, b.lks = lks := ⟨_, rfl⟩
    rw [hlk] at hl
    match lks, hl with
    | [a, c], _ => exact ⟨_, _, by simp [sid, h, hlk]; exact ⟨rfl, rfl⟩⟩
  · intro h
    refine ⟨_, _, _, _, by simp only [sid, h]; rfl, ?_, ?_⟩
    · cases (b.lks.zip l).find? hit with
      | none => exact .inl ⟨rfl, rfl⟩
      | some x => exact .inr rfl
    · split
      · exact .inl rfl
      · exact .inr rfl
theorem sid_at {s : Stn} {p : Pos} (h : okP s p = true) {i : Nat} (hi : i < s.qs.length) : ∃ b l, s.qs[i]? = some b ∧ p.lk[i]? = some l ∧ sidF s p (grp s p) i = some (sid (grp s p) b l) ∧ (ieq b.kind 3 = true → b.lks.length = 2) := by
  obtain ⟨c1, c2⟩ := okP_iff h
  obtain ⟨b, hb, _⟩ := at_ex (l := s.qs) (i := i) hi
  obtain ⟨l, hl, -⟩ := wf_at (wfg_of h) hb
  have hF := fine_of c1
  refine ⟨b, l, hb, hl, ?_, (hF.lk b (List.mem_of_getElem? hb)).2.1⟩
  have : (i : Int) < s.qs.length := by omega
  simp [sidF, wfg_of h, hb, hl, this]
theorem raround_ok {s : Stn} {p : Pos} (h : okP s p = true) (n : Int × Int) (hn : n.1 = 1 ∨ n.1 = 2) (i : Nat) (hi : i < s.qs.length) : PCall Try.prog 62 [.agg s.cs, .agg p.cs, .agg [.int .i64 n.1, .int .i64 n.2], .int .i64 i] (.bool (inBat s p (grp s p) n i)) := by
  obtain ⟨b, l, hb, hl, hS, hk2⟩ := sid_at h hi
  obtain ⟨hi', hb'⟩ := get_of hb
  obtain ⟨n0, n1⟩ := n
  simp only at hn
  have hrs : rsdF s p (i : Int) = some (sid (grp s p) b l) := by
    have : (i : Int) < s.qs.length := by omega
    simp [rsdF, this, hS]
  have hv : inBat s p (grp s p) (n0, n1) i = inB (n0, n1) (sid (grp s p) b l) := by simp [inBat, hS]
  rw [hv]
  clear hv hS
  have hT := Trsd_at h hrs
  clear hrs
  obtain ⟨nq, hnq⟩ : ∃ n, s.qs.length = n := ⟨_, rfl⟩
  rw [hnq] at hi
  cases h3 : ieq b.kind 3
  · obtain ⟨a0, a1, c0, c1, hsd, ha, hc⟩ := (sid_kinds (grp s p) b l).2 h3
    rw [hsd] at hT ⊢
    clear hsd h
    have q0 : ieq a0 2 = false := ieq_f (by omega)
    have q1 : ieq c0 1 = false := ieq_f (by omega)
    rcases hn with rfl | rfl
    · cases p1 : ieq a0 1 <;> cases p2 : ieq a1 n1
      all_goals
        refine pcall_cx E10_ok mixed (fun _ => none) Try.func62 rfl Try.ntmps62 Try.results62 (by simp) (by kernel_rfl) ?_
      all_goals
        repeat' first
          | (with_reducible refine gw_bool (fun _ => ?_) (fun _ => ?_))
          | (with_reducible refine condw_bool (fun _ => ?_) (fun _ => ?_))
          | simp [*, Stn.cs, Pos.cs, By.cs, inB]
    · cases p1 : ieq a0 1 <;> cases p2 : ieq c0 2 <;> cases p3 : ieq c1 n1
      all_goals
        refine pcall_cx E10_ok mixed (fun _ => none) Try.func62 rfl Try.ntmps62 Try.results62 (by simp) (by kernel_rfl) ?_
      all_goals
        repeat' first
          | (with_reducible refine gw_bool (fun _ => ?_) (fun _ => ?_))
          | (with_reducible refine condw_bool (fun _ => ?_) (fun _ => ?_))
          | simp [*, Stn.cs, Pos.cs, By.cs, inB]
  · obtain ⟨x, y, hsd⟩ := (sid_kinds (grp s p) b l).1 h3 (hk2 h3)
    rw [hsd] at hT ⊢
    clear hsd h
    cases p1 : ieq 1 n0 <;> cases p2 : ieq x n1 <;> cases p3 : ieq y n1
    all_goals
      refine pcall_cx E10_ok mixed (fun _ => none) Try.func62 rfl Try.ntmps62 Try.results62 (by simp) (by kernel_rfl) ?_
    all_goals
      repeat' first
        | (with_reducible refine gw_bool (fun _ => ?_) (fun _ => ?_))
        | (with_reducible refine condw_bool (fun _ => ?_) (fun _ => ?_))
        | simp [*, Stn.cs, Pos.cs, By.cs, inB]
theorem nod_kind {s : Stn} {g : List Int} {k o : Int} {n : Int × Int} (h : nodF s g k o = some n) : n.1 = 1 ∨ n.1 = 2 := by
  unfold nodF at h
  split at h
  · cases h; exact .inl rfl
  · split at h
    · cases h; exact .inr rfl
    · cases h
def Tar : List V → Option V
  | [.agg a, .agg b, .agg [.int .i64 k, .int .i64 o], .int .i64 i] => (match unStn a, unPos b with
    | some s, some p => if okP s p = true ∧ (k = 1 ∨ k = 2) ∧ 0 ≤ i ∧ i < s.qs.length then some (.bool (inBat s p (grp s p) (k, o) i.toNat)) else none
    | _, _ => none)
  | _ => none
theorem Tar_at {s : Stn} {p : Pos} {k o : Int} {i : Nat} (h : okP s p = true) (hk : k = 1 ∨ k = 2) (hi : i < s.qs.length) : Tar [.agg [.str s.nm, .list 1 (s.bs.map s1), .list 5 (s.ls.map Ln.cs), .list 6 (s.ss.map Sr.cs), .list 12 (s.qs.map By.cs)], .agg [.list 1 (p.cl.map b1), .list 1 (p.lk.map r1)], .agg [.int .i64 k, .int .i64 o], .int .i64 i] = some (.bool (inBat s p (grp s p) (k, o) i)) := by
  have e1 := unStn_cs s
  have e2 := unPos_cs p
  unfold Stn.cs at e1
  unfold Pos.cs at e2
  simp only [Tar, e1, e2]
  exact if_pos ⟨h, hk, by omega, by omega⟩
theorem ar_tab : ∀ vs v, Tar vs = some v → PCall Try.prog 62 vs v := by
  intro vs v h; unfold Tar at h; split at h
  · split at h
    · rename_i h1 h2
      split at h
      · rename_i hl
        cases h
        rw [unStn_inv _ _ h1, unPos_inv _ _ h2]
        obtain ⟨p1, p2, p3, p4⟩ := hl
        obtain ⟨u, rfl⟩ := Int.eq_ofNat_of_zero_le p3
        exact raround_ok p1 (_, _) p2 u (by omega)
      · cases h
    · cases h
  · cases h
def E11 : Tab := add 62 Tar (E10)
theorem E11_at (f : FuncId) (vs : List V) : E11.at' f vs = if f = 62 then Tar vs else E10.at' f vs := rfl
theorem E11_fr (f : FuncId) : E11.fr f = if f = 62 then false else E10.fr f := rfl
theorem E11_gb (f : FuncId) : E11.gb f = E10.gb f := rfl
theorem E11_gv (f : FuncId) (vs : List V) : E11.gv f vs = E10.gv f vs := rfl
attribute [simp] E11_at E11_fr E11_gb E11_gv Tar
theorem E11_ok : TabOK Try.prog E11 := by
  refine add_ok (E10_ok) (by kernel_rfl) ?_
  · exact ar_tab
attribute [-simp] Tar
attribute [simp] Tar_at
theorem rBoundary_ok {s : Stn} {p : Pos} (hok : okP s p = true) (k o : Int) : PCall Try.prog 29 [.agg s.cs, .agg p.cs, .agg [.int .i64 k, .int .i64 o]] (.list 1 ((bndF s p (grp s p) (nodF s (grp s p) k o)).map i1)) := by
  have hlk := lkB_of (okP_iff hok).1
  have hln := lenB_ok hok
  have hn16 : s.qs.length ≤ 16 := (fine_of (okP_iff hok).1).nq
  obtain ⟨n, hnn⟩ : ∃ n, s.qs.length = n := ⟨_, rfl⟩
  rw [hnn] at hn16
  obtain ⟨N, hN⟩ : ∃ N, nodF s (grp s p) k o = N := ⟨_, rfl⟩
  rw [hN]
  cases N with
  | none =>
    refine pcall_nil ?_
    refine pcall_cx E11_ok mixed (fun _ => none) Try.func29 rfl Try.ntmps29 Try.results29 (by simp) (by kernel_rfl) ?_
    repeat' first
      | (with_reducible refine gw_bool (fun _ => ?_) (fun _ => ?_))
      | (with_reducible refine condw_bool (fun _ => ?_) (fun _ => ?_))
      | simp [*, Stn.cs, Pos.cs, nodA]
    refine lp_go (D := (fun _ => none)) E11_ok mixed (by kernel_rfl) [3, 4, 7] [3, 4, 5, 7, 37, 38] (α := Nat) (fun i e h => i ≤ n ∧ e 9 = .int .i64 i ∧ e 8 = .nils) (fun i => n - i) 0 ?_ ?_
    · exact ⟨by omega, by simp, by simp⟩
    rintro i e h hk hkh ⟨hi, g7, g8⟩
    simp [Keep] at hk
    simp [KeepH] at hkh
    by_cases hlt : i < n
    · have f1 : ilt (i : Int) (n : Int) = true := ilt_t (by omega)
      have w1 : IntKind.i64.wrap ((i : Int) + 1) = ((i + 1 : Nat) : Int) := wrap_succ (by omega)
      repeat' first
        | (with_reducible refine gw_bool (fun _ => ?_) (fun _ => ?_))
        | (with_reducible refine condw_bool (fun _ => ?_) (fun _ => ?_))
        | simp [*]
      refine nxt_go (i + 1) (View.refl _ _) (by omega) (by simp [*, Keep, St.forget, scr, scrC]) (by simp [*, KeepH, St.forget, scr, scrC]) ?_
      exact ⟨by omega, by simp [*], by simp [*]⟩
    · have f1 : ilt (i : Int) (n : Int) = false := ilt_f (by omega)
      repeat' first
        | (with_reducible refine gw_bool (fun _ => ?_) (fun _ => ?_))
        | (with_reducible refine condw_bool (fun _ => ?_) (fun _ => ?_))
        | simp [*]
  | some nd =>
    have hnk := nod_kind hN
    obtain ⟨n0, n1⟩ := nd
    simp only at hnk
    have hnz : ieq n0 0 = false := ieq_f (by omega)
    have hres : bndF s p (grp s p) (some (n0, n1)) = bndN s p (grp s p) (n0, n1) n := by simp [bndF, hnn]
    have hch := chunks_i1 (bndN s p (grp s p) (n0, n1) n)
    have hpu := pure_i1 (bndN s p (grp s p) (n0, n1) n)
    rw [hres]
    clear hres
    obtain ⟨R, hR⟩ : ∃ R, bndN s p (grp s p) (n0, n1) n = R := ⟨_, rfl⟩
    rw [hR] at hch hpu
    rw [hR]
    replace hR : Hid (bndN s p (grp s p) (n0, n1) n = R) := hR
    refine pcall_cx E11_ok mixed (fun _ => none) Try.func29 rfl Try.ntmps29 Try.results29 (by simp) (by kernel_rfl) ?_
    repeat' first
      | (with_reducible refine gw_bool (fun _ => ?_) (fun _ => ?_))
      | (with_reducible refine condw_bool (fun _ => ?_) (fun _ => ?_))
      | simp [*, Stn.cs, Pos.cs, nodA]
    refine lp_view (View.nilOwn _ (t := 8) (key := 38) 1 3 (by simp) (by simp)) ?_
    refine lp_go (D := (fun _ => none)) E11_ok mixed (by kernel_rfl) [3, 4, 7] [3, 4, 5, 7, 37] (α := Nat) (fun i e h => i ≤ n ∧ e 9 = .int .i64 i ∧ e 8 = .sl 38 0 (bndN s p (grp s p) (n0, n1) i).length 1 ∧ h 38 = some ⟨3, (bndN s p (grp s p) (n0, n1) i).map (V.int .i64)⟩) (fun i => n - i) 0 ?_ ?_
    · refine ⟨by omega, by simp, by simp [bndN], by simp [bndN]⟩
    rintro i e h hk hkh ⟨hi, g7, gs, gh⟩
    simp [Keep] at hk
    simp [KeepH] at hkh
    have hbl := bndN_len s p (grp s p) (n0, n1) i
    by_cases hlt : i < n
    · have hT := Tar_at (o := n1) hok hnk (show i < s.qs.length by omega)
      have hst : Hid (bndN s p (grp s p) (n0, n1) (i + 1) = bndN s p (grp s p) (n0, n1) i ++ (if inBat s p (grp s p) (n0, n1) i = true then [(i : Int)] else [])) := bndN_step
      have f1 : ilt (i : Int) (n : Int) = true := ilt_t (by omega)
      have w1 : IntKind.i64.wrap ((i : Int) + 1) = ((i + 1 : Nat) : Int) := wrap_succ (by omega)
      generalize bndN s p (grp s p) (n0, n1) i = C at gs gh hbl hst
      obtain ⟨q, hq⟩ : ∃ q, inBat s p (grp s p) (n0, n1) i = q := ⟨_, rfl⟩
      rw [hq] at hT hst
      clear hR hch hpu hq hok hlk hln hN hnk
      have hsC := scr_i1 C
      have f5 : (C.length + 1) * 8 ≤ 140737488355328 := by omega
      have f6 : C.length + 1 ≤ 9223372036854775807 := by omega
      cases q
      · rw [if_neg (by simp), List.append_nil] at hst
        repeat' first
          | (with_reducible refine gw_bool (fun _ => ?_) (fun _ => ?_))
          | (with_reducible refine condw_bool (fun _ => ?_) (fun _ => ?_))
          | simp [*]
        refine nxt_go (i + 1) (View.refl _ _) (by omega) (by simp [*, Keep, St.forget, scr, scrC]) (by simp [*, KeepH, St.forget, scr, scrC]) ?_
        refine ⟨by omega, by simp [*], ?_, ?_⟩
        · rw [hst.out]; simp [*]
        · rw [hst.out]; simp [*]
      · rw [if_pos rfl] at hst
        repeat' first
          | (with_reducible refine gw_bool (fun _ => ?_) (fun _ => ?_))
          | (with_reducible refine condw_bool (fun _ => ?_) (fun _ => ?_))
          | simp [*, appendV, srcCells, St.forget, scr, scrC, scrI_comp]
        refine nxt_go (i + 1) ((View.forget _ _ 37)) (by omega) (by simp [*, Keep, St.forget, scr, scrC]) (by simp [*, KeepH, St.forget, scr, scrC]) ?_
        refine ⟨by omega, by simp [*, St.forget, scr, scrC], ?_, ?_⟩
        · rw [hst.out]; simp [*, St.forget, scr, scrC, scrI_comp]
        · rw [hst.out]; simp [*, St.forget, scr, scrC, scrI_comp]
    · have f1 : ilt (i : Int) (n : Int) = false := ilt_f (by omega)
      have e1 : i = n := by omega
      rw [e1, hR.out] at gs gh
      clear hR
      repeat' first
        | (with_reducible refine gw_bool (fun _ => ?_) (fun _ => ?_))
        | (with_reducible refine condw_bool (fun _ => ?_) (fun _ => ?_))
        | simp [*]
theorem rSides_ok {s : Stn} {p : Pos} (h : okP s p = true) (i : Int) (S : List Int) (hS : sidF s p (grp s p) i = some S) : PCall Try.prog 36 [.agg s.cs, .agg p.cs, .int .i64 i] (.agg (S.map (V.int .i64))) := by
  have hlk := lkB_of (okP_iff h).1
  have hln := lenB_ok h
  have h4 : ∃ a0 a1 c0 c1, S = [a0, a1, c0, c1] := by
    unfold sidF at hS
    split at hS
    · split at hS
      · split at hS
        · cases hS; exact sid4 _ _ _
        · cases hS
      · cases hS; exact ⟨_, _, _, _, rfl⟩
    · cases hS
  obtain ⟨a0, a1, c0, c1, rfl⟩ := h4
  obtain ⟨n, hn⟩ : ∃ n, s.qs.length = n := ⟨_, rfl⟩
  cases f0 : ilt i 0
  · cases f1 : ilt i (n : Int)
    · have hz : [a0, a1, c0, c1] = [0, 0, 0, 0] := by
        have hi : ¬ (0 ≤ i ∧ i < s.qs.length) := by have := ilt_iff'.1 f1; omega
        simp only [sidF, wfg_of h, if_true, if_neg hi] at hS
        exact (Option.some.inj hS).symm
      simp only [List.cons.injEq, and_true] at hz
      obtain ⟨rfl, rfl, rfl, rfl⟩ := hz
      clear hS
      refine pcall_cx E11_ok mixed (fun _ => none) Try.func36 rfl Try.ntmps36 Try.results36 (by simp) (by kernel_rfl) ?_
      repeat' first
        | (with_reducible refine gw_bool (fun _ => ?_) (fun _ => ?_))
        | (with_reducible refine condw_bool (fun _ => ?_) (fun _ => ?_))
        | simp [*, Stn.cs, Pos.cs]
    · have hrs : rsdF s p i = some [a0, a1, c0, c1] := by
        have hi : 0 ≤ i ∧ i < s.qs.length := by have := ilt_iff'.1 f0; have := ilt_iff.1 f1; omega
        unfold rsdF; rw [if_pos hi]; exact hS
      clear hS
      refine pcall_cx E11_ok mixed (fun _ => none) Try.func36 rfl Try.ntmps36 Try.results36 (by simp) (by kernel_rfl) ?_
      repeat' first
        | (with_reducible refine gw_bool (fun _ => ?_) (fun _ => ?_))
        | (with_reducible refine condw_bool (fun _ => ?_) (fun _ => ?_))
        | simp [*, Stn.cs, Pos.cs]
  · have hz : [a0, a1, c0, c1] = [0, 0, 0, 0] := by
      have hi : ¬ (0 ≤ i ∧ i < s.qs.length) := by have := ilt_iff.1 f0; omega
      simp only [sidF, wfg_of h, if_true, if_neg hi] at hS
      exact (Option.some.inj hS).symm
    simp only [List.cons.injEq, and_true] at hz
    obtain ⟨rfl, rfl, rfl, rfl⟩ := hz
    clear hS
    refine pcall_cx E11_ok mixed (fun _ => none) Try.func36 rfl Try.ntmps36 Try.results36 (by simp) (by kernel_rfl) ?_
    repeat' first
      | (with_reducible refine gw_bool (fun _ => ?_) (fun _ => ?_))
      | (with_reducible refine condw_bool (fun _ => ?_) (fun _ => ?_))
      | simp [*, Stn.cs, Pos.cs]
end Go.Proofs.Ytcbddoopmkhlfaa
end
section
namespace Go.Proofs.Ytcbddoopmkhlfaa
open Go.Pv Go.RowKit
set_option linter.unusedSimpArgs false
set_option linter.unusedVariables false
set_option maxRecDepth 100000

theorem kind_ob {s : Stn} (h : chkF s = 0) {i : Nat} {b : By} (hb : s.qs[i]? = some b) : (ieq b.kind 1 = true ∧ 0 ≤ b.ob ∧ b.ob < s.ls.length) ∨ (ieq b.kind 1 = false ∧ ieq b.kind 2 = true ∧ 0 ≤ b.ob ∧ b.ob < s.ss.length) ∨ (ieq b.kind 1 = false ∧ ieq b.kind 2 = false ∧ ieq b.kind 3 = true) := by
  have hF := fine_of h
  unfold chkF at h
  split at h
  · split at h
    · cases h
    · obtain ⟨_, he⟩ := nx_zero h
      have hk := (List.getElem?_eq_some_iff.1 hb).1
      have hq := firstN_zero he i hk
      simp only [eQ, hb] at hq
      unfold byE at hq
      split at hq
      · split at hq
        · cases hq
        · have h0 : byE0 s.ls.length s.ss.length (SQ s i).qs b = 0 := by
            unfold byE1 at hq
            split at hq
            · rename_i hz; exact ieq_iff.1 hz
            · exact hq
          have hc : ∀ n : Nat, n ≤ 6 → withinF b.ob 0 (IntKind.i64.wrap ((n : Int) - 1)) = true → 0 ≤ b.ob ∧ b.ob < n := fun n hn hw => by
            rw [show IntKind.i64.wrap ((n : Int) - 1) = (n : Int) - 1 from wrap_id (by omega) (by omega)] at hw
            simp only [withinF, Bool.and_eq_true, Bool.not_eq_true'] at hw
            have h1 := ilt_iff'.1 hw.1
            have h2 := ilt_iff'.1 hw.2
            omega
          unfold byE0 cntF at h0
          cases h1 : ieq b.kind 1
          · cases h2 : ieq b.kind 2
            · cases h3 : ieq b.kind 3
              · simp [h1, h2, h3] at h0
              · exact .inr (.inr ⟨rfl, rfl, rfl⟩)
            · rw [h1, h2] at h0
              simp only [Bool.false_eq_true, if_false, if_true] at h0
              split at h0
              · rename_i hw; exact .inr (.inl ⟨rfl, rfl, hc _ (by have := hF.ns; omega) hw⟩)
              · cases h0
          · rw [h1] at h0
            simp only [if_true] at h0
            split at h0
            · rename_i hw; exact .inl ⟨rfl, hc _ hF.nl hw⟩
            · cases h0
      · cases hq
  · cases h
theorem can_g0 {g : List Int} (hc : Can g) {b : Int} (hb : 0 ≤ b ∧ b < g.length) : ∃ u : Nat, g0 g b = u ∧ u < g.length ∧ g0 g u = u := by
  obtain ⟨w, hw, hwl, hg⟩ := g0_at hb
  obtain ⟨u, hu, huw, hgu⟩ := hc w _ hg
  refine ⟨u, hu, by omega, ?_⟩
  have hul : u < g.length := by omega
  have : g0 g (u : Int) = g0 g b := by
    rw [List.getElem?_eq_getElem hul] at hgu
    simp [g0, gAt, hul]
    simpa [g0, gAt] using hgu
  rw [this, hu]
theorem nod_grp {s : Stn} {g : List Int} (hc : Can g) (hl : g.length = s.bs.length) {b : Int} (hb : 0 ≤ b ∧ b < g.length) : nodF s g 1 (g0 g b) = some (1, g0 g b) := by
  obtain ⟨u, hu, hul, hgu⟩ := can_g0 hc hb
  have f0 : ilt (u : Int) 0 = false := ilt_f (by omega)
  have f1 : ilt (u : Int) (s.bs.length : Int) = true := ilt_t (by omega)
  rw [hu]
  simp [nodF, f0, f1, ieq, hgu]
theorem can_grp {s : Stn} {p : Pos} (h : okP s p = true) : Can (grp s p) := grpN_can (fine_of (okP_iff h).1) (pfine_of (okP_iff h).2).nk _ (Nat.le_refl _)
theorem grp_len (s : Stn) (p : Pos) : (grp s p).length = s.bs.length := by rw [grp, grpN_len]
/-- The two sides of a bay. -/
theorem sid_nodes {s : Stn} {p : Pos} (h : okP s p = true) {i : Nat} (hi : i < s.qs.length) : ∃ a0 a1 c0 c1, sidF s p (grp s p) i = some [a0, a1, c0, c1] ∧ ((a0 = 0 ∧ a1 = 0) ∨ (a0 = 1 ∧ nodF s (grp s p) a0 a1 = some (a0, a1))) ∧ (nodF s (grp s p) c0 c1 = some (c0, c1) ∨ c0 = 3) ∧ (c0 = 1 ∨ c0 = 2 ∨ c0 = 3) := by
  have hw := wfg_of h
  have hc := can_grp h
  have hgl := grp_len s p
  obtain ⟨b, hb, -⟩ := at_ex (l := s.qs) (i := i) hi
  obtain ⟨l, hl, hll, hbus, hk2, hlen⟩ := wf_at hw hb
  have hi2 : (i : Int) < s.qs.length := by omega
  have hS : sidF s p (grp s p) i = some (sid (grp s p) b l) := by simp [sidF, hw, hb, hl, hi2]
  rw [hS]
  cases h3 : ieq b.kind 3
  · refine ⟨_, _, _, _, by simp only [sid, h3]; rfl, ?_, ?_, ?_⟩
    · cases hf : (b.lks.zip l).find? hit with
      | none => exact .inl ⟨rfl, rfl⟩
      | some x =>
        refine .inr ⟨rfl, ?_⟩
        have hm : x.1 ∈ b.lks := (List.of_mem_zip (List.mem_of_find?_eq_some hf)).1
        exact nod_grp hc hgl (hbus _ hm)
    · rcases kind_ob (okP_iff h).1 hb with ⟨k1, o1, o2⟩ | ⟨k1, _⟩ | ⟨_, _, k3⟩
      · left
        have f0 : ilt b.ob 0 = false := ilt_f o1
        have f1 : ilt b.ob (s.ls.length : Int) = true := ilt_t o2
        rw [if_pos k1]
        simp [nodF, f0, f1, show ieq 2 1 = false from rfl, show ieq 2 2 = true from rfl]
      · right; simp [k1]
      · rw [h3] at k3; cases k3
    · split
      · exact .inr (.inl rfl)
      · exact .inr (.inr rfl)
  · have hk := hk2 h3
    match hlk : b.lks, hk with
    | a :: c :: t, _ =>
      rw [hlk] at hbus
      exact ⟨_, _, _, _, by simp only [sid, h3, hlk]; rfl, .inr ⟨rfl, nod_grp hc hgl (hbus a (by simp))⟩, .inl (nod_grp hc hgl (hbus c (by simp))), .inl rfl⟩
theorem inB_eq {n : Nd} {a0 a1 c0 c1 : Int} : inB n [a0, a1, c0, c1] = true ↔ a0 = 1 ∧ (((a0, a1) = n ∧ (c0, c1) ≠ n) ∨ ((a0, a1) ≠ n ∧ (c0, c1) = n)) := by
  obtain ⟨n0, n1⟩ := n
  simp only [inB, Bool.and_eq_true, ieq_iff, Prod.mk.injEq, ne_eq, bne_iff_ne]
  refine and_congr_right fun _ => ?_
  have e1 : (ieq a0 n0 && ieq a1 n1) = true ↔ a0 = n0 ∧ a1 = n1 := by simp [ieq_iff]
  have e2 : (ieq c0 n0 && ieq c1 n1) = true ↔ c0 = n0 ∧ c1 = n1 := by simp [ieq_iff]
  rw [← e1, ← e2]
  cases (ieq a0 n0 && ieq a1 n1) <;> cases (ieq c0 n0 && ieq c1 n1) <;> simp
theorem bnd_mem {s : Stn} {p : Pos} {g : List Int} {n : Nd} {b : Int} : b ∈ bndF s p g (some n) ↔ ∃ i : Nat, b = i ∧ i < s.qs.length ∧ inBat s p g n i = true := by
  simp only [bndF, bndN, List.mem_map, List.mem_filter, List.mem_range]
  constructor
  · rintro ⟨i, ⟨h1, h2⟩, rfl⟩; exact ⟨i, rfl, h1, h2⟩
  · rintro ⟨i, rfl, h1, h2⟩; exact ⟨i, ⟨h1, h2⟩, rfl⟩
theorem bnd_at {s : Stn} {p : Pos} {g : List Int} {n : Nd} {i : Nat} (hi : i < s.qs.length) {S : List Int} (hS : sidF s p g i = some S) : (i : Int) ∈ bndF s p g (some n) ↔ inB n S = true := by
  rw [bnd_mem]
  constructor
  · rintro ⟨j, hj, _, h⟩
    have : j = i := by omega
    subst this
    simpa [inBat, hS] using h
  · intro h; exact ⟨i, rfl, hi, by simp [inBat, hS, h]⟩
/-! ### zones -/
def zonG (g : List Int) (m : Nat) : List Nd := ((List.range m).filter (fun i : Nat => g[i]? == some (i : Int))).map fun i : Nat => (1, (i : Int))
def zonL (n : Nat) : List Nd := (List.range n).map fun i : Nat => (2, (i : Int))
def zonF (s : Stn) (p : Pos) : List Nd := zonG (grp s p) s.bs.length ++ zonL s.ls.length
theorem zon_mem {s : Stn} {p : Pos} {z : Nd} (h : z ∈ zonF s p) : nodF s (grp s p) z.1 z.2 = some z := by
  rcases List.mem_append.1 h with h | h
  · simp only [zonG, List.mem_map, List.mem_filter, List.mem_range, beq_iff_eq] at h
    obtain ⟨i, ⟨h1, h2⟩, rfl⟩ := h
    have f0 : ilt (i : Int) 0 = false := ilt_f (by omega)
    have f1 : ilt (i : Int) (s.bs.length : Int) = true := ilt_t (by omega)
    have hg : g0 (grp s p) (i : Int) = i := by simp [g0, gAt, h2]
    simp [nodF, ieq, f0, f1, hg]
  · simp only [zonL, List.mem_map, List.mem_range] at h
    obtain ⟨i, h1, rfl⟩ := h
    have f0 : ilt (i : Int) 0 = false := ilt_f (by omega)
    have f1 : ilt (i : Int) (s.ls.length : Int) = true := ilt_t (by omega)
    simp [nodF, ieq, f0, f1]
/-! ### life -/
theorem nod12 {s : Stn} {g : List Int} {k o : Int} {n : Int × Int} (h : nodF s g k o = some n) : n.1 = 1 ∨ n.1 = 2 := by
  unfold nodF at h
  split at h
  · cases h; exact .inl rfl
  · split at h
    · cases h; exact .inr rfl
    · cases h
theorem Rch.head {o : Option (List Nd)} {E : List Ed} {c m n : Nd} (h1 : Adj E c m) (h2 : m ∉ woL o) (h : Rch o E m n) : Rch o E c n := by
  induction h with
  | refl => exact .step .refl h1 h2
  | step _ ha hn ih => exact .step ih ha hn
theorem Rch.last {E : List Ed} {c n : Nd} (h : Rch none E c n) : n = c ∨ ∃ m, Adj E c m ∧ m ≠ c ∧ Rch (some [c]) E m n := by
  induction h with
  | refl => exact .inl rfl
  | @step m n _ ha _ ih =>
    by_cases e : n = c
    · exact .inl e
    rcases ih with rfl | ⟨k, h1, h2, h3⟩
    · exact .inr ⟨n, ha, e, .refl⟩
    · exact .inr ⟨k, h1, h2, .step h3 ha (by simpa [woL] using e)⟩
theorem edg_at {v : Vu} {x : Ed} (h : x ∈ edg v) : sidF v.s v.p v.g x.i = some [x.a0, x.a1, x.c0, x.c1] ∧ x.l ≠ x.r ∧ x.a0 ≠ 0 ∧ x.c0 ≠ 0 := by
  have := (edN_i h).2
  unfold edOf at this
  split at this
  · rename_i c a0 a1 c0 c1 h1 h2
    split at this
    · rename_i hh
      simp only [isE, Bool.and_eq_true, Bool.not_eq_true', Bool.and_eq_false_iff] at hh
      have hx := Option.some.inj this
      have e1 : x.a0 = a0 := by rw [← hx]
      have e2 : x.a1 = a1 := by rw [← hx]
      have e3 : x.c0 = c0 := by rw [← hx]
      have e4 : x.c1 = c1 := by rw [← hx]
      rw [e1, e2, e3, e4]
      refine ⟨h2, ?_, fun e => ?_, fun e => ?_⟩
      · intro e
        simp only [Ed.l, Ed.r, e1, e2, e3, e4, Prod.mk.injEq] at e
        obtain ⟨_, h3, _⟩ := hh
        rcases h3 with h3 | h3
        · exact ieq_iff'.1 h3 e.1
        · exact ieq_iff'.1 h3 e.2
      · exact ieq_iff'.1 hh.2.2.1 e
      · exact ieq_iff'.1 hh.2.2.2 e
    · cases this
  · cases this
theorem edg_lt {v : Vu} {x : Ed} (h : x ∈ edg v) : x.i < v.p.cl.length := (edN_i h).1
/-- An edge at a zone's node lies on the zone's boundary. -/
theorem edge_bnd {s : Stn} {p : Pos} (h : okP s p = true) {cl : List Bool} (hcl : cl.length = s.qs.length) {q : Pos} (hq : q = ⟨cl, p.lk⟩) {z m : Nd} {x : Ed} (hx : x ∈ edg ⟨s, q, grp s p⟩) (hm : m ≠ z) (hz : (z = x.l ∧ m = x.r) ∨ (z = x.r ∧ m = x.l)) : (x.i : Int) ∈ bndF s p (grp s p) (some z) := by
  subst hq
  have hi : x.i < s.qs.length := by have := edg_lt hx; simp only at this; omega
  obtain ⟨e1, e2, e3, e4⟩ := edg_at hx
  have e1' : sidF s p (grp s p) x.i = some [x.a0, x.a1, x.c0, x.c1] := e1
  obtain ⟨a0, a1, c0, c1, hS, ha, hc, _⟩ := sid_nodes h hi
  rw [e1'] at hS
  simp only [Option.some.injEq, List.cons.injEq, and_true] at hS
  rw [bnd_at hi e1', inB_eq]
  refine ⟨?_, ?_⟩
  · rcases ha with ha | ha
    · exact absurd (hS.1.trans ha.1) e3
    · exact hS.1.trans ha.1
  · rcases hz with ⟨rfl, rfl⟩ | ⟨rfl, rfl⟩
    · exact .inl ⟨rfl, hm⟩
    · exact .inr ⟨hm, rfl⟩
theorem insA_one {s : Stn} {g : List Int} {z : Nd} (h : nodF s g z.1 z.2 = some z) {n : Nd} : n ∈ insA s g [z] ↔ n = z := by
  rw [insA_mem]; simp [h, eq_comm]
theorem fed_iff {s : Stn} {p : Pos} (hc : p.cl.length ≤ 40) {z : Nd} (hz : nodF s (grp s p) z.1 z.2 = some z) {b : Int} : fedF s p [z] b = true ↔ ∃ x ∈ edg ⟨s, p, grp s p⟩, (x.i : Int) = b ∧ ∃ m, ((z = x.l ∧ m = x.r) ∨ (z = x.r ∧ m = x.l)) ∧ m ≠ z ∧ ∃ n, Rch (some [z]) (edg ⟨s, p, grp s p⟩) m n ∧ n.1 = 3 := by
  have hEl : (edg ⟨s, p, grp s p⟩).length ≤ 40 := Nat.le_trans (edg_len _) hc
  have hmem : ∀ n : Nd, memN (insA s (grp s p) [z]) n.1 n.2 = decide (n = z) := fun n => by
    by_cases e : n = z
    · rw [memN_t ((insA_one hz).2 e)]; simp [e]
    · rw [memN_f (fun h => e ((insA_one hz).1 h))]; simp [e]
  have hr : ∀ c : Nd, reachF (some (insA s (grp s p) [z])) (edg ⟨s, p, grp s p⟩) c = true ↔ ∃ n, Rch (some [z]) (edg ⟨s, p, grp s p⟩) c n ∧ n.1 = 3 := fun c => by
    rw [reach_iff hEl]
    have hw : ∀ y, y ∈ woL (some (insA s (grp s p) [z])) ↔ y ∈ woL (some [z]) := fun y => by
      show y ∈ insA s (grp s p) [z] ↔ y ∈ [z]
      rw [insA_one hz]; simp
    exact ⟨fun ⟨n, h1, h2⟩ => ⟨n, h1.mono (fun y hy => (hw y).2 hy) (fun _ h => h), h2⟩, fun ⟨n, h1, h2⟩ => ⟨n, h1.mono (fun y hy => (hw y).1 hy) (fun _ h => h), h2⟩⟩
  have hX : ∀ x : Ed, fedX ⟨s, p, grp s p⟩ (insA s (grp s p) [z]) x = true ↔ ∃ m, ((z = x.l ∧ m = x.r) ∨ (z = x.r ∧ m = x.l)) ∧ m ≠ z ∧ ∃ n, Rch (some [z]) (edg ⟨s, p, grp s p⟩) m n ∧ n.1 = 3 := fun x => by
    have m1 : memN (insA s (grp s p) [z]) x.a0 x.a1 = decide (x.l = z) := hmem x.l
    have m2 : memN (insA s (grp s p) [z]) x.c0 x.c1 = decide (x.r = z) := hmem x.r
    unfold fedX
    rw [m1, m2]
    by_cases e1 : x.l = z
    · rw [show decide (x.l = z) = true by simp [e1]]
      by_cases e2 : x.r = z
      · rw [show decide (x.r = z) = true by simp [e2], if_pos rfl]
        refine ⟨fun h => (by cases h), ?_⟩
        rintro ⟨m, ⟨_, h⟩ | ⟨_, h⟩, hne, _⟩
        · exact absurd (h.trans e2) hne
        · exact absurd (h.trans e1) hne
      · rw [show decide (x.r = z) = false by simp [e2], if_neg (by decide), if_pos rfl, hr]
        constructor
        · exact fun h => ⟨x.r, .inl ⟨e1.symm, rfl⟩, e2, h⟩
        · rintro ⟨m, ⟨_, h⟩ | ⟨h, _⟩, hne, h2⟩
          · rwa [← h]
          · exact absurd h.symm e2
    · rw [show decide (x.l = z) = false by simp [e1]]
      by_cases e2 : x.r = z
      · rw [show decide (x.r = z) = true by simp [e2], if_neg (by decide), if_neg (by decide), hr]
        constructor
        · exact fun h => ⟨x.l, .inr ⟨e2.symm, rfl⟩, e1, h⟩
        · rintro ⟨m, ⟨h, _⟩ | ⟨_, h⟩, hne, h2⟩
          · exact absurd h.symm e1
          · rwa [← h]
      · rw [show decide (x.r = z) = false by simp [e2], if_pos (by decide)]
        refine ⟨fun h => (by cases h), ?_⟩
        rintro ⟨m, ⟨h, _⟩ | ⟨h, _⟩, _⟩
        · exact absurd h.symm e1
        · exact absurd h.symm e2
  constructor
  · intro h
    obtain ⟨x, hx, hi, hf⟩ := fedV_some h
    exact ⟨x, hx, hi, (hX x).1 hf⟩
  · rintro ⟨x, hx, hi, h⟩
    rw [fedF, fedV_at hx (ieq_iff.2 hi)]
    exact (hX x).2 h
theorem live_iff {s : Stn} {p : Pos} (hc : p.cl.length ≤ 40) {z : Nd} (hz : nodF s (grp s p) z.1 z.2 = some z) : liveF s p z.1 z.2 = true ↔ ∃ n, Rch none (edg ⟨s, p, grp s p⟩) z n ∧ n.1 = 3 := by
  have hEl : (edg ⟨s, p, grp s p⟩).length ≤ 40 := Nat.le_trans (edg_len _) hc
  simp only [liveF, hz]
  exact reach_iff hEl
theorem cl40 {s : Stn} {p : Pos} (h : okP s p = true) : p.cl.length ≤ 40 := by
  have h1 := (pfine_of (okP_iff h).2).nc
  have h2 := (fine_of (okP_iff h).1).nq
  omega
/-- The law of life. -/
theorem life {s : Stn} {p : Pos} (h : okP s p = true) {z : Nd} (hz : nodF s (grp s p) z.1 z.2 = some z) : (bndF s p (grp s p) (some z)).any (fun b => fedF s p [z] b) = liveF s p z.1 z.2 := by
  have hc := cl40 h
  rw [Bool.eq_iff_iff, List.any_eq_true, live_iff hc hz]
  constructor
  · rintro ⟨b, _, hf⟩
    obtain ⟨x, hx, _, m, hm, _, n, hn, h3⟩ := (fed_iff hc hz).1 hf
    refine ⟨n, Rch.head ⟨x, hx, hm⟩ (by simp [woL]) (hn.mono (fun y hy => by simp [woL] at hy) (fun _ h => h)), h3⟩
  · rintro ⟨n, hn, h3⟩
    rcases hn.last with rfl | ⟨m, ⟨x, hx, hm⟩, hne, hr⟩
    · have := nod12 hz
      omega
    · refine ⟨x.i, edge_bnd (q := p) h (by rw [(pfine_of (okP_iff h).2).nc]) rfl hx hne hm, (fed_iff hc hz).2 ⟨x, hx, rfl, m, hm, hne, n, hr, h3⟩⟩
end Go.Proofs.Ytcbddoopmkhlfaa
end
section
namespace Go.Proofs.Ytcbddoopmkhlfaa
open Go.Pv Go.RowKit
set_option linter.unusedSimpArgs false
set_option linter.unusedVariables false
set_option maxRecDepth 100000

theorem resF_one {x : Int} : ieq (resF 0 x) 1 = ieq x 1 := by
  unfold resF
  split
  · rename_i h; rw [ieq_iff.1 h]; rfl
  · rfl
theorem find_res (lks : List Lk) (l : List Int) : ((lks.zip (l.map (resF 0))).find? hit).map Prod.fst = ((lks.zip l).find? hit).map Prod.fst := by
  induction lks generalizing l with
  | nil => simp
  | cons a lks ih =>
    cases l with
    | nil => simp
    | cons x l =>
      simp only [List.map_cons, List.zip_cons_cons, List.find?_cons, hit, resF_one]
      cases ieq x 1
      · exact ih l
      · rfl
theorem fstN_fst (g : List Int) (a b : Option (Lk × Int)) (h : a.map Prod.fst = b.map Prod.fst) : fstN g a = fstN g b := by
  match a, b, h with
  | none, none, _ => rfl
  | some x, some y, h => simp only [Option.map_some, Option.some.injEq] at h; simp [fstN, h]
theorem sid_res (g : List Int) (b : By) (l : List Int) : sid g b (l.map (resF 0)) = sid g b l := by
  unfold sid
  rw [fstN_fst g _ _ (find_res b.lks l)]
theorem stG_res (g : List Int) (b : By) (l : List Int) : stG g b (l.map (resF 0)) = stG g b l := by
  unfold stG
  split
  · rfl
  · match hb : b.lks, l with
    | [a, c], [x, y] => simp [resF_one]
    | [], _ => rfl
    | [_], _ => rfl
    | _ :: _ :: _ :: _, _ => rfl
    | [a, c], [] => rfl
    | [a, c], [_] => rfl
    | [a, c], _ :: _ :: _ :: _ => rfl
theorem grpN_res {s : Stn} {p : Pos} (hk : p.lk.length = s.qs.length) : ∀ k, k ≤ s.qs.length → grpN s (resP p false) k = grpN s p k
  | 0, _ => by simp [grpN]
  | k + 1, hle => by
    obtain ⟨b, hb, _⟩ := at_ex (l := s.qs) (i := k) (by omega)
    obtain ⟨l, hl, _⟩ := at_ex (l := p.lk) (i := k) (by omega)
    have hl0 : (resP p false).lk[k]? = some (l.map (resF 0)) := by simp [resP, hl, resZ]
    rw [grpN_step hb hl0, grpN_step hb hl, grpN_res hk k (by omega), stG_res]
/-- The position with all that moves open, and with other breakers. -/
def opP (p : Pos) (cl : List Bool) : Pos := ⟨cl, (resP p false).lk⟩
theorem grp_op {s : Stn} {p : Pos} (h : okP s p = true) (cl : List Bool) : grp s (opP p cl) = grp s p := grpN_res (pfine_of (okP_iff h).2).nk _ (Nat.le_refl _)
theorem ok_op {s : Stn} {p : Pos} (h : okP s p = true) {cl : List Bool} (hcl : cl.length = p.cl.length) : okP s (opP p cl) = true := by
  have h1 := okP_resB h false
  obtain ⟨c1, c2⟩ := okP_iff h1
  have hP := pfine_of c2
  have hP' : PFine s (opP p cl) := ⟨by rw [← hP.nc]; exact hcl, hP.nk, hP.row⟩
  simp [okP, c1, posE_of hP']
theorem sidF_op {s : Stn} {p : Pos} (h : okP s p = true) {cl : List Bool} (hcl : cl.length = p.cl.length) (i : Int) : sidF s (opP p cl) (grp s p) i = sidF s p (grp s p) i := by
  have w1 := wfg_of h
  have w2 := wfg_of (ok_op h hcl)
  rw [grp_op h] at w2
  unfold sidF
  rw [if_pos w1, if_pos w2]
  split
  · rename_i hi
    obtain ⟨b, hb, -⟩ := at_ex (l := s.qs) (i := i.toNat) (by omega)
    obtain ⟨l, hl, -⟩ := wf_at w1 hb
    have hl0 : (opP p cl).lk[i.toNat]? = some (l.map (resF 0)) := by simp [opP, resP, hl, resZ]
    rw [hb, hl, hl0]
    simp only
    rw [sid_res]
  · rfl
theorem bnd_op {s : Stn} {p : Pos} (h : okP s p = true) {cl : List Bool} (hcl : cl.length = p.cl.length) (N : Option Nd) : bndF s (opP p cl) (grp s p) N = bndF s p (grp s p) N := by
  cases N with
  | none => rfl
  | some n =>
    simp only [bndF, bndN]
    have : inBat s (opP p cl) (grp s p) n = inBat s p (grp s p) n := by
      funext i
      simp only [inBat, sidF_op h hcl]
    rw [this]
theorem edg_op {s : Stn} {p : Pos} (h : okP s p = true) {cl : List Bool} (hcl : cl.length = p.cl.length) {x : Ed} (hx : x ∈ edg ⟨s, opP p cl, grp s p⟩) : edOf ⟨s, ⟨cl, p.lk⟩, grp s p⟩ x.i = some x := by
  have h1 := (edN_i hx).2
  have h2 := sidF_op h hcl (x.i : Int)
  have h3 : sidF s ⟨cl, p.lk⟩ (grp s p) x.i = sidF s p (grp s p) x.i := rfl
  unfold edOf at h1 ⊢
  rw [h2] at h1
  rw [h3]
  exact h1
theorem mem_edN {v : Vu} {x : Ed} : ∀ {n : Nat}, x.i < n → edOf v x.i = some x → x ∈ edN v n
  | 0, h, _ => by omega
  | n + 1, h, h2 => by
    by_cases e : x.i = n
    · rw [← e] at *
      rw [edN_t h2]; simp
    · have ih := mem_edN (v := v) (x := x) (n := n) (by omega) h2
      cases hu : edOf v n with
      | none => rw [edN_f hu]; exact ih
      | some y => rw [edN_t hu]; simp [ih]
/-- What is closed less is an edge less. -/
theorem edg_less {s : Stn} {p : Pos} (h : okP s p = true) {cl : List Bool} (hcl : cl.length = p.cl.length) (hle : ∀ i : Nat, cl[i]? = some true → p.cl[i]? = some true) {x : Ed} (hx : x ∈ edg ⟨s, opP p cl, grp s p⟩) : x ∈ edg ⟨s, p, grp s p⟩ := by
  have h1 := edg_op h hcl hx
  have hi : x.i < p.cl.length := by rw [← hcl]; exact edg_lt hx
  have hc : cl[x.i]? = some true := edg_cl hx
  refine mem_edN hi ?_
  have h3 : sidF s ⟨cl, p.lk⟩ (grp s p) x.i = sidF s p (grp s p) x.i := rfl
  unfold edOf at h1 ⊢
  rw [h3] at h1
  simp only at h1 ⊢
  rw [hc] at h1
  rw [hle _ hc]
  exact h1
theorem live_less {s : Stn} {p : Pos} (h : okP s p = true) {cl : List Bool} (hcl : cl.length = p.cl.length) (hle : ∀ i : Nat, cl[i]? = some true → p.cl[i]? = some true) {z : Nd} (hz : nodF s (grp s p) z.1 z.2 = some z) (hl : liveF s (opP p cl) z.1 z.2 = true) : liveF s p z.1 z.2 = true := by
  have hg := grp_op h cl
  have hz' : nodF s (grp s (opP p cl)) z.1 z.2 = some z := by rw [hg]; exact hz
  have hc := cl40 h
  rw [live_iff (by show cl.length ≤ 40; omega) hz'] at hl
  rw [live_iff hc hz]
  obtain ⟨n, hn, h3⟩ := hl
  rw [hg] at hn
  exact ⟨n, hn.mono (fun _ h => h) (fun x hx => edg_less h hcl hle hx), h3⟩
theorem live_none {s : Stn} {p : Pos} (h : okP s p = true) {cl : List Bool} (hcl : cl.length = p.cl.length) {z : Nd} (hz : nodF s (grp s p) z.1 z.2 = some z) (ho : ∀ i : Nat, (i : Int) ∈ bndF s p (grp s p) (some z) → cl[i]? = some false) : liveF s (opP p cl) z.1 z.2 = false := by
  have hg := grp_op h cl
  have hz' : nodF s (grp s (opP p cl)) z.1 z.2 = some z := by rw [hg]; exact hz
  have hc := cl40 h
  cases hl : liveF s (opP p cl) z.1 z.2
  · rfl
  exfalso
  rw [live_iff (by show cl.length ≤ 40; omega) hz'] at hl
  obtain ⟨n, hn, h3⟩ := hl
  rcases hn.last with rfl | ⟨m, ⟨x, hx, hm⟩, hne, _⟩
  · have := nod12 hz; omega
  · have hok := ok_op h hcl
    have hb := edge_bnd (q := opP p cl) hok (cl := cl) (by rw [hcl, (pfine_of (okP_iff h).2).nc]) rfl hx hne hm
    rw [hg, bnd_op h hcl] at hb
    have h1 := ho _ hb
    have h2 : cl[x.i]? = some true := edg_cl hx
    rw [h1] at h2
    cases h2
/-! ### the other side -/
/-- The zone on the other side of a bay. -/
def oth2F (n : Nd) : List Int → Option Nd
  | [a0, a1, c0, c1] => (let o := if (a0, a1) = n then (c0, c1) else (a0, a1); if o.1 = 1 ∨ o.1 = 2 then some o else none)
  | _ => none
theorem oth_back {s : Stn} {p : Pos} (h : okP s p = true) {z : Nd} (hz : nodF s (grp s p) z.1 z.2 = some z) {i : Nat} (hi : i < s.qs.length) {S : List Int} (hS : sidF s p (grp s p) i = some S) (hb : inB z S = true) {o : Nd} (ho : oth2F z S = some o) : nodF s (grp s p) o.1 o.2 = some o ∧ inB o S = true ∧ oth2F o S = some z := by
  obtain ⟨a0, a1, c0, c1, hS', ha, hc, hk⟩ := sid_nodes h hi
  rw [hS] at hS'
  cases hS'
  rw [inB_eq] at hb
  obtain ⟨h1, h2⟩ := hb
  have hzk := nod12 hz
  have ha' : nodF s (grp s p) a0 a1 = some (a0, a1) := by
    rcases ha with ⟨e, _⟩ | ⟨_, e⟩
    · omega
    · exact e
  rcases h2 with ⟨e1, e2⟩ | ⟨e1, e2⟩
  · simp only [oth2F, e1, if_true] at ho
    split at ho
    · rename_i hoc
      cases ho
      have hc' : nodF s (grp s p) c0 c1 = some (c0, c1) := by
        rcases hc with e | e
        · exact e
        · omega
      refine ⟨hc', inB_eq.2 ⟨h1, .inr ⟨fun e => e2 (by rw [← e, e1]), rfl⟩⟩, ?_⟩
      have e3 : ¬ ((a0, a1) = (c0, c1)) := fun e => e2 (by rw [← e, e1])
      simp only [oth2F, if_neg e3]
      rw [if_pos (by rw [← e1] at hzk; exact hzk), e1]
    · cases ho
  · simp only [oth2F, if_neg e1] at ho
    rw [if_pos (.inl h1)] at ho
    cases ho
    refine ⟨ha', inB_eq.2 ⟨h1, .inl ⟨rfl, fun e => e1 (by rw [← e, e2])⟩⟩, ?_⟩
    simp only [oth2F, if_true]
    rw [if_pos (by rw [← e2] at hzk; exact hzk), e2]
end Go.Proofs.Ytcbddoopmkhlfaa
end
section
namespace Go.Proofs.Ytcbddoopmkhlfaa
open Go.Pv Go.RowKit
set_option linter.unusedSimpArgs false
set_option linter.unusedVariables false
set_option maxRecDepth 100000
set_option maxHeartbeats 4000000
attribute [-simp] Tclo_at Tgrp_at Tchk Tpchk TcI TcB Tclo Tgrp Tsid Tnod Tlook Tbnd TsidA Tre Tidx Tnms Tnmd Tobj Tlks Tbay Trck Trpc Tres TSd TBd Tnm Tlv Tfd Tfn Tlg Tgps Trg Trf Trsd Trnd Tar

theorem chunks_nd (L : List Nd) : chunks 2 L.length (ndC L) = L.map nd2 := flat_chunks (sz := 2) (fun _ => rfl) L
theorem zonG_step {g : List Int} {i : Nat} {x : Int} (h : g[i]? = some x) : zonG g (i + 1) = zonG g i ++ (if ieq (i : Int) x = true then [(1, (i : Int))] else []) := by
  simp only [zonG, List.range_succ, List.filter_append, List.map_append]
  congr 1
  by_cases e : x = (i : Int)
  · subst e; simp [h, ieq]
  · have e1 : ieq (i : Int) x = false := ieq_f (fun h => e h.symm)
    simp [h, e, e1]
theorem zonG_len (g : List Int) (i : Nat) : (zonG g i).length ≤ i := by
  simp only [zonG, List.length_map]
  exact Nat.le_trans (List.length_filter_le _ _) (by simp)
theorem zonL_step (j : Nat) : zonL (j + 1) = zonL j ++ [(2, (j : Int))] := by simp [zonL, List.range_succ]
theorem zonL_len (j : Nat) : (zonL j).length = j := by simp [zonL]
theorem ieq_sym (a b : Int) : ieq a b = ieq b a := by
  rw [Bool.eq_iff_iff, ieq_iff, ieq_iff]; exact eq_comm
theorem rsdF_of {s : Stn} {p : Pos} {i : Nat} (hi : i < s.qs.length) : rsdF s p (i : Int) = sidF s p (grp s p) i := by
  have : (i : Int) < s.qs.length := by omega
  simp [rsdF, this]
theorem Zones_ok {s : Stn} {p : Pos} (h : okP s p = true) : PCall Try.prog 24 [.agg s.cs, .agg p.cs] (.list 2 ((zonF s p).map nd2)) := by
  have hgl := grp_len s p
  have hF := fine_of (okP_iff h).1
  have hnb4 := hF.nb
  have hnl6 := hF.nl
  obtain ⟨nb, hnb⟩ : ∃ n, s.bs.length = n := ⟨_, rfl⟩
  obtain ⟨nl, hnl⟩ : ∃ n, s.ls.length = n := ⟨_, rfl⟩
  have hR : zonG (grp s p) nb ++ zonL nl = zonF s p := by simp [zonF, hnb, hnl]
  have hch := chunks_nd (zonF s p)
  have hpu := ndC_pure (zonF s p)
  have hT := Tlook_at h
  rw [hnb] at hgl hnb4
  rw [hnl] at hnl6
  generalize zonF s p = R at hR hch hpu ⊢
  generalize grp s p = G at hR hgl hT
  clear h hF
  replace hR : Hid (zonG G nb ++ zonL nl = R) := hR
  refine pcall_cx G2_ok mixed (fun _ => none) Try.func24 rfl Try.ntmps24 Try.results24 (by simp) (by kernel_rfl) ?_
  repeat' first
    | (with_reducible refine gw_bool (fun _ => ?_) (fun _ => ?_))
    | (with_reducible refine condw_bool (fun _ => ?_) (fun _ => ?_))
    | simp [*, Stn.cs, Pos.cs, Vu.cs]
  refine lp_view (View.nilOwn _ (t := 7) (key := 34) 2 50 (by simp) (by simp)) ?_
  refine lp_go (D := (fun _ => none)) G2_ok mixed (by kernel_rfl) [2, 20, 21] [2, 3, 5, 33, 45, 46] (α := Nat) (fun i e h => i ≤ nb ∧ e 22 = .int .i64 i ∧ e 7 = .sl 34 0 (zonG G i).length 2 ∧ h 34 = some ⟨50, ndC (zonG G i)⟩) (fun i => nb - i) 0 ?_ ?_
  · refine ⟨by omega, by simp, by simp [zonG], by simp [zonG, ndC]⟩
  rintro i e h hk hkh ⟨hi, g7, gs, gh⟩
  simp [Keep] at hk
  simp [KeepH] at hkh
  clear hT
  have hbl := zonG_len G i
  by_cases hlt : i < nb
  · obtain ⟨x, hx, hx'⟩ := at_ex (l := G) (i := i) (by omega)
    have hst : Hid (zonG G (i + 1) = zonG G i ++ (if ieq (i : Int) x = true then [(1, (i : Int))] else [])) := zonG_step hx
    have f1 : ilt (i : Int) (nb : Int) = true := ilt_t (by omega)
    have w1 : IntKind.i64.wrap ((i : Int) + 1) = ((i + 1 : Nat) : Int) := wrap_succ (by omega)
    generalize zonG G i = C at gs gh hbl hst
    clear hR hch hpu
    have f5 : (C.length + 1) * 16 ≤ 140737488355328 := by omega
    have f6 : C.length + 1 ≤ 9223372036854775807 := by omega
    cases q1 : ieq (i : Int) x
    · skip
      repeat' first
        | (with_reducible refine gw_bool (fun _ => ?_) (fun _ => ?_))
        | (with_reducible refine condw_bool (fun _ => ?_) (fun _ => ?_))
        | simp [*, i1, appendV, srcCells, St.forget, scr, scrC]
      refine nxt_go (i + 1) (View.refl _ _) (by omega) (by simp [*, Keep, St.forget, scr, scrC]) (by simp [*, KeepH, St.forget, scr, scrC]) ?_
      refine ⟨by omega, by simp [*], ?_, ?_⟩
      · rw [hst.out]; simp [*]
      · rw [hst.out]; simp [*]
    · skip
      repeat' first
        | (with_reducible refine gw_bool (fun _ => ?_) (fun _ => ?_))
        | (with_reducible refine condw_bool (fun _ => ?_) (fun _ => ?_))
        | simp [*, i1, appendV, srcCells, St.forget, scr, scrC]
      refine nxt_go (i + 1) ((View.forget _ _ 33)) (by omega) (by simp [*, Keep, St.forget, scr, scrC]) (by simp [*, KeepH, St.forget, scr, scrC]) ?_
      refine ⟨by omega, by simp [*, St.forget, scr, scrC], ?_, ?_⟩
      · rw [hst.out]; simp [*, St.forget, scr, scrC]
      · rw [hst.out]; simp [*, St.forget, scr, scrC, ndC_snoc]
  have f1 : ilt (i : Int) (nb : Int) = false := ilt_f (by omega)
  have e1 : i = nb := by omega
  subst e1
  have hz0 : zonG G i ++ zonL 0 = zonG G i := by simp [zonL]
  rw [← hz0] at gs gh
  clear hz0
  repeat' first
    | (with_reducible refine gw_bool (fun _ => ?_) (fun _ => ?_))
    | (with_reducible refine condw_bool (fun _ => ?_) (fun _ => ?_))
    | simp [*]
  refine lp_go (D := (fun _ => none)) G2_ok mixed (by kernel_rfl) [38] [2, 3, 5, 33, 45, 46] (α := Nat) (fun j e h => j ≤ nl ∧ e 39 = .int .i64 j ∧ e 7 = .sl 34 0 (zonG G i ++ zonL j).length 2 ∧ h 34 = some ⟨50, ndC (zonG G i ++ zonL j)⟩) (fun j => nl - j) 0 ?_ ?_
  · exact ⟨by omega, by simp, by simp [*], by simp [*]⟩
  have hk0 := hk
  have hkh0 := hkh
  clear hk hkh g7 gs gh
  rintro j e h hk hkh ⟨hj, g7, gs, gh⟩
  simp [Keep, hk0, hkh0] at hk
  simp [KeepH, hk0, hkh0] at hkh
  have hbl2 : (zonG G i ++ zonL j).length ≤ i + j := by rw [List.length_append, zonL_len]; omega
  by_cases hlt2 : j < nl
  · have hst : Hid (zonG G i ++ zonL (j + 1) = (zonG G i ++ zonL j) ++ [(2, (j : Int))]) := show _ = _ by rw [zonL_step, List.append_assoc]
    have f2 : ilt (j : Int) (nl : Int) = true := ilt_t (by omega)
    have w2 : IntKind.i64.wrap ((j : Int) + 1) = ((j + 1 : Nat) : Int) := wrap_succ (by omega)
    generalize zonG G i ++ zonL j = C at gs gh hbl2 hst
    clear hR hch hpu
    have f5 : (C.length + 1) * 16 ≤ 140737488355328 := by omega
    have f6 : C.length + 1 ≤ 9223372036854775807 := by omega
    repeat' first
      | (with_reducible refine gw_bool (fun _ => ?_) (fun _ => ?_))
      | (with_reducible refine condw_bool (fun _ => ?_) (fun _ => ?_))
      | simp [*, appendV, srcCells, St.forget, scr, scrC]
    refine nxt_go (j + 1) ((View.forget _ _ 45)) (by omega) (by simp [*, Keep, St.forget, scr, scrC]) (by simp [*, KeepH, St.forget, scr, scrC]) ?_
    refine ⟨by omega, by simp [*, St.forget, scr, scrC], ?_, ?_⟩
    · rw [hst.out]; simp [*, St.forget, scr, scrC]
    · rw [hst.out]; simp [*, St.forget, scr, scrC, ndC_snoc]
  · have f2 : ilt (j : Int) (nl : Int) = false := ilt_f (by omega)
    have e2 : j = nl := by omega
    rw [e2, hR.out] at gs gh
    clear hR
    repeat' first
      | (with_reducible refine gw_bool (fun _ => ?_) (fun _ => ?_))
      | (with_reducible refine condw_bool (fun _ => ?_) (fun _ => ?_))
      | simp [*]
theorem rZones_ok {s : Stn} {p : Pos} (hok : okP s p = true) : PCall Try.prog 27 [.agg s.cs, .agg p.cs] (.list 2 ((zonF s p).map nd2)) := by
  have hlk := lkB_of (okP_iff hok).1
  have hln := lenB_ok hok
  have hgl := grp_len s p
  have hF := fine_of (okP_iff hok).1
  have hnb4 := hF.nb
  have hnl6 := hF.nl
  obtain ⟨nb, hnb⟩ : ∃ n, s.bs.length = n := ⟨_, rfl⟩
  obtain ⟨nl, hnl⟩ : ∃ n, s.ls.length = n := ⟨_, rfl⟩
  have hR : zonG (grp s p) nb ++ zonL nl = zonF s p := by simp [zonF, hnb, hnl]
  have hch := chunks_nd (zonF s p)
  have hpu := ndC_pure (zonF s p)
  have hT := Trg_at hok
  have hTf := Trf_at hlk hln
  rw [hok] at hTf
  rw [hnb] at hgl hnb4
  rw [hnl] at hnl6
  generalize zonF s p = R at hR hch hpu ⊢
  generalize grp s p = G at hR hgl hT
  clear hok hF hlk hln
  replace hR : Hid (zonG G nb ++ zonL nl = R) := hR
  refine pcall_cx E11_ok mixed (fun _ => none) Try.func27 rfl Try.ntmps27 Try.results27 (by simp) (by kernel_rfl) ?_
  repeat' first
    | (with_reducible refine gw_bool (fun _ => ?_) (fun _ => ?_))
    | (with_reducible refine condw_bool (fun _ => ?_) (fun _ => ?_))
    | simp [*, Stn.cs, Pos.cs]
  refine lp_view (View.nilOwn _ (t := 6) (key := 32) 2 50 (by simp) (by simp)) ?_
  refine lp_go (D := (fun _ => none)) E11_ok mixed (by kernel_rfl) [2, 5] [2, 3, 31, 43, 44] (α := Nat) (fun i e h => i ≤ nb ∧ e 7 = .int .i64 i ∧ e 6 = .sl 32 0 (zonG G i).length 2 ∧ h 32 = some ⟨50, ndC (zonG G i)⟩) (fun i => nb - i) 0 ?_ ?_
  · refine ⟨by omega, by simp, by simp [zonG], by simp [zonG, ndC]⟩
  rintro i e h hk hkh ⟨hi, g7, gs, gh⟩
  simp [Keep] at hk
  simp [KeepH] at hkh
  clear hT hTf
  have hbl := zonG_len G i
  by_cases hlt : i < nb
  · obtain ⟨x, hx, hx'⟩ := at_ex (l := G) (i := i) (by omega)
    have hst : Hid (zonG G (i + 1) = zonG G i ++ (if ieq x (i : Int) = true then [(1, (i : Int))] else [])) := by rw [ieq_sym x]; exact zonG_step hx
    have f1 : ilt (i : Int) (nb : Int) = true := ilt_t (by omega)
    have w1 : IntKind.i64.wrap ((i : Int) + 1) = ((i + 1 : Nat) : Int) := wrap_succ (by omega)
    generalize zonG G i = C at gs gh hbl hst
    clear hR hch hpu
    have f5 : (C.length + 1) * 16 ≤ 140737488355328 := by omega
    have f6 : C.length + 1 ≤ 9223372036854775807 := by omega
    cases q1 : ieq x (i : Int)
    · skip
      repeat' first
        | (with_reducible refine gw_bool (fun _ => ?_) (fun _ => ?_))
        | (with_reducible refine condw_bool (fun _ => ?_) (fun _ => ?_))
        | simp [*, i1, appendV, srcCells, St.forget, scr, scrC]
      refine nxt_go (i + 1) (View.refl _ _) (by omega) (by simp [*, Keep, St.forget, scr, scrC]) (by simp [*, KeepH, St.forget, scr, scrC]) ?_
      refine ⟨by omega, by simp [*], ?_, ?_⟩
      · rw [hst.out]; simp [*]
      · rw [hst.out]; simp [*]
    · skip
      repeat' first
        | (with_reducible refine gw_bool (fun _ => ?_) (fun _ => ?_))
        | (with_reducible refine condw_bool (fun _ => ?_) (fun _ => ?_))
        | simp [*, i1, appendV, srcCells, St.forget, scr, scrC]
      refine nxt_go (i + 1) ((View.forget _ _ 31)) (by omega) (by simp [*, Keep, St.forget, scr, scrC]) (by simp [*, KeepH, St.forget, scr, scrC]) ?_
      refine ⟨by omega, by simp [*, St.forget, scr, scrC], ?_, ?_⟩
      · rw [hst.out]; simp [*, St.forget, scr, scrC]
      · rw [hst.out]; simp [*, St.forget, scr, scrC, ndC_snoc]
  have f1 : ilt (i : Int) (nb : Int) = false := ilt_f (by omega)
  have e1 : i = nb := by omega
  subst e1
  have hz0 : zonG G i ++ zonL 0 = zonG G i := by simp [zonL]
  rw [← hz0] at gs gh
  clear hz0
  repeat' first
    | (with_reducible refine gw_bool (fun _ => ?_) (fun _ => ?_))
    | (with_reducible refine condw_bool (fun _ => ?_) (fun _ => ?_))
    | simp [*]
  refine lp_go (D := (fun _ => none)) E11_ok mixed (by kernel_rfl) [2] [2, 3, 31, 43, 44] (α := Nat) (fun j e h => j ≤ nl ∧ e 8 = .int .i64 j ∧ e 6 = .sl 32 0 (zonG G i ++ zonL j).length 2 ∧ h 32 = some ⟨50, ndC (zonG G i ++ zonL j)⟩) (fun j => nl - j) 0 ?_ ?_
  · exact ⟨by omega, by simp, by simp [*], by simp [*]⟩
  have hk0 := hk
  have hkh0 := hkh
  clear hk hkh g7 gs gh
  rintro j e h hk hkh ⟨hj, g7, gs, gh⟩
  simp [Keep, hk0, hkh0] at hk
  simp [KeepH, hk0, hkh0] at hkh
  have hbl2 : (zonG G i ++ zonL j).length ≤ i + j := by rw [List.length_append, zonL_len]; omega
  by_cases hlt2 : j < nl
  · have hst : Hid (zonG G i ++ zonL (j + 1) = (zonG G i ++ zonL j) ++ [(2, (j : Int))]) := show _ = _ by rw [zonL_step, List.append_assoc]
    have f2 : ilt (j : Int) (nl : Int) = true := ilt_t (by omega)
    have w2 : IntKind.i64.wrap ((j : Int) + 1) = ((j + 1 : Nat) : Int) := wrap_succ (by omega)
    generalize zonG G i ++ zonL j = C at gs gh hbl2 hst
    clear hR hch hpu
    have f5 : (C.length + 1) * 16 ≤ 140737488355328 := by omega
    have f6 : C.length + 1 ≤ 9223372036854775807 := by omega
    repeat' first
      | (with_reducible refine gw_bool (fun _ => ?_) (fun _ => ?_))
      | (with_reducible refine condw_bool (fun _ => ?_) (fun _ => ?_))
      | simp [*, appendV, srcCells, St.forget, scr, scrC]
    refine nxt_go (j + 1) ((View.forget _ _ 43)) (by omega) (by simp [*, Keep, St.forget, scr, scrC]) (by simp [*, KeepH, St.forget, scr, scrC]) ?_
    refine ⟨by omega, by simp [*, St.forget, scr, scrC], ?_, ?_⟩
    · rw [hst.out]; simp [*, St.forget, scr, scrC]
    · rw [hst.out]; simp [*, St.forget, scr, scrC, ndC_snoc]
  · have f2 : ilt (j : Int) (nl : Int) = false := ilt_f (by omega)
    have e2 : j = nl := by omega
    rw [e2, hR.out] at gs gh
    clear hR
    repeat' first
      | (with_reducible refine gw_bool (fun _ => ?_) (fun _ => ?_))
      | (with_reducible refine condw_bool (fun _ => ?_) (fun _ => ?_))
      | simp [*]
end Go.Proofs.Ytcbddoopmkhlfaa
end
section
namespace Go.Proofs.Ytcbddoopmkhlfaa
open Go.Pv Go.RowKit
set_option linter.unusedSimpArgs false
set_option linter.unusedVariables false
set_option maxRecDepth 100000
set_option maxHeartbeats 4000000
attribute [-simp] Tclo_at Tgrp_at Tchk Tpchk TcI TcB Tclo Tgrp Tsid Tnod Tlook Tbnd TsidA Tre Tidx Tnms Tnmd Tobj Tlks Tbay Trck Trpc Tres TSd TBd Tnm Tlv Tfd Tfn Tlg Tgps Trg Trf Trsd Trnd Tar

theorem ieq_rfl (a : Int) : ieq a a = true := ieq_t rfl
theorem same_ok (l : List Int) (hl : l.length ≤ 1000000) : PCall Try.prog 28 [.list 1 (l.map i1), .list 1 (l.map i1)] (.bool true) := by
  obtain ⟨n, hn⟩ : ∃ n, l.length = n := ⟨_, rfl⟩
  rw [hn] at hl
  have hr := ieq_rfl
  refine pcall_cx noTab_ok mixed (fun _ => none) Try.func28 rfl Try.ntmps28 Try.results28 (by simp) (by kernel_rfl) ?_
  repeat' first
    | (with_reducible refine gw_bool (fun _ => ?_) (fun _ => ?_))
    | (with_reducible refine condw_bool (fun _ => ?_) (fun _ => ?_))
    | simp [*]
  refine lp_go (D := (fun _ => none)) noTab_ok mixed (by kernel_rfl) [0, 1] [] (α := Nat) (fun i e h => i ≤ n ∧ e 5 = .int .i64 i) (fun i => n - i) 0 ?_ ?_
  · exact ⟨by omega, by simp⟩
  rintro i e h hk hkh ⟨hi, g7⟩
  simp [Keep] at hk
  simp [KeepH] at hkh
  by_cases hlt : i < n
  · obtain ⟨x, hx, hx'⟩ := at_ex (l := l) (i := i) (by omega)
    have f1 : ilt (i : Int) (n : Int) = true := ilt_t (by omega)
    have w1 : IntKind.i64.wrap ((i : Int) + 1) = ((i + 1 : Nat) : Int) := wrap_succ (by omega)
    repeat' first
      | (with_reducible refine gw_bool (fun _ => ?_) (fun _ => ?_))
      | (with_reducible refine condw_bool (fun _ => ?_) (fun _ => ?_))
      | simp [*, i1]
    refine nxt_go (i + 1) (View.refl _ _) (by omega) (by simp [*, Keep, St.forget, scr, scrC]) (by simp [*, KeepH, St.forget, scr, scrC]) ?_
    exact ⟨by omega, by simp [*]⟩
  · have f1 : ilt (i : Int) (n : Int) = false := ilt_f (by omega)
    repeat' first
      | (with_reducible refine gw_bool (fun _ => ?_) (fun _ => ?_))
      | (with_reducible refine condw_bool (fun _ => ?_) (fun _ => ?_))
      | simp [*]
theorem samez_ok (l : List Nd) (hl : l.length ≤ 1000000) : PCall Try.prog 40 [.list 2 (l.map nd2), .list 2 (l.map nd2)] (.bool true) := by
  obtain ⟨n, hn⟩ : ∃ n, l.length = n := ⟨_, rfl⟩
  rw [hn] at hl
  have hr := ieq_rfl
  refine pcall_cx noTab_ok mixed (fun _ => none) Try.func40 rfl Try.ntmps40 Try.results40 (by simp) (by kernel_rfl) ?_
  repeat' first
    | (with_reducible refine gw_bool (fun _ => ?_) (fun _ => ?_))
    | (with_reducible refine condw_bool (fun _ => ?_) (fun _ => ?_))
    | simp [*]
  refine lp_go (D := (fun _ => none)) noTab_ok mixed (by kernel_rfl) [0, 1] [] (α := Nat) (fun i e h => i ≤ n ∧ e 5 = .int .i64 i) (fun i => n - i) 0 ?_ ?_
  · exact ⟨by omega, by simp⟩
  rintro i e h hk hkh ⟨hi, g7⟩
  simp [Keep] at hk
  simp [KeepH] at hkh
  by_cases hlt : i < n
  · obtain ⟨x, hx, hx'⟩ := at_ex (l := l) (i := i) (by omega)
    have f1 : ilt (i : Int) (n : Int) = true := ilt_t (by omega)
    have w1 : IntKind.i64.wrap ((i : Int) + 1) = ((i + 1 : Nat) : Int) := wrap_succ (by omega)
    repeat' first
      | (with_reducible refine gw_bool (fun _ => ?_) (fun _ => ?_))
      | (with_reducible refine condw_bool (fun _ => ?_) (fun _ => ?_))
      | simp [*, nd2]
    refine nxt_go (i + 1) (View.refl _ _) (by omega) (by simp [*, Keep, St.forget, scr, scrC]) (by simp [*, KeepH, St.forget, scr, scrC]) ?_
    exact ⟨by omega, by simp [*]⟩
  · have f1 : ilt (i : Int) (n : Int) = false := ilt_f (by omega)
    repeat' first
      | (with_reducible refine gw_bool (fun _ => ?_) (fun _ => ?_))
      | (with_reducible refine condw_bool (fun _ => ?_) (fun _ => ?_))
      | simp [*]
theorem drop_at {α : Type} {l : List α} {i : Nat} {c : α} (h : l[i]? = some c) : l.drop i = c :: l.drop (i + 1) := by
  obtain ⟨hi, e⟩ := List.getElem?_eq_some_iff.1 h
  rw [List.drop_eq_getElem_cons hi, e]
theorem hasI_ok (l : List Int) (x : Int) (hm : x ∈ l) (hl : l.length ≤ 1000000) : PCall Try.prog 41 [.list 1 (l.map i1), .int .i64 x] (.bool true) := by
  obtain ⟨n, hn⟩ : ∃ n, l.length = n := ⟨_, rfl⟩
  rw [hn] at hl
  replace hm : Hid (x ∈ l) := hm
  refine pcall_cx noTab_ok mixed (fun _ => none) Try.func41 rfl Try.ntmps41 Try.results41 (by simp) (by kernel_rfl) ?_
  repeat' first
    | (with_reducible refine gw_bool (fun _ => ?_) (fun _ => ?_))
    | (with_reducible refine condw_bool (fun _ => ?_) (fun _ => ?_))
    | simp [*]
  refine lp_go (D := (fun _ => none)) noTab_ok mixed (by kernel_rfl) [0, 1] [] (α := Nat) (fun i e h => i ≤ n ∧ e 5 = .int .i64 i ∧ Hid (x ∈ l.drop i)) (fun i => n - i) 0 ?_ ?_
  · exact ⟨by omega, by simp, by simpa using hm⟩
  rintro i e h hk hkh ⟨hi, g7, hin⟩
  simp [Keep] at hk
  simp [KeepH] at hkh
  clear hm
  by_cases hlt : i < n
  · obtain ⟨c, hc, hc'⟩ := at_ex (l := l) (i := i) (by omega)
    have f1 : ilt (i : Int) (n : Int) = true := ilt_t (by omega)
    have w1 : IntKind.i64.wrap ((i : Int) + 1) = ((i + 1 : Nat) : Int) := wrap_succ (by omega)
    have hd := hin.out
    rw [drop_at hc, List.mem_cons] at hd
    clear hin
    cases q : ieq c x
    · have hnx : Hid (x ∈ l.drop (i + 1)) := hd.resolve_left (fun h => ieq_iff'.1 q h.symm)
      clear hd
      repeat' first
        | (with_reducible refine gw_bool (fun _ => ?_) (fun _ => ?_))
        | (with_reducible refine condw_bool (fun _ => ?_) (fun _ => ?_))
        | simp [*, i1]
      refine nxt_go (i + 1) (View.refl _ _) (by omega) (by simp [*, Keep, St.forget, scr, scrC]) (by simp [*, KeepH, St.forget, scr, scrC]) ?_
      exact ⟨by omega, by simp [*], hnx⟩
    · clear hd
      repeat' first
        | (with_reducible refine gw_bool (fun _ => ?_) (fun _ => ?_))
        | (with_reducible refine condw_bool (fun _ => ?_) (fun _ => ?_))
        | simp [*, i1]
  · exfalso
    have hd := hin.out
    rw [List.drop_eq_nil_of_le (by omega)] at hd
    cases hd
/-! ### a number's place in a list -/
def idxF (l : List Int) (x : Int) : Int := match (List.range l.length).find? (fun i => ieq x (l.getD i 0)) with
  | some i => i
  | none => -1
theorem idx_hit {l : List Int} {x c : Int} {i : Nat} (hc : l[i]? = some c) (h : ieq x c = true) (hb : ∀ k, k < i → ieq x (l.getD k 0) = false) : idxF l x = i := by
  have hi := (List.getElem?_eq_some_iff.1 hc).1
  have : (List.range l.length).find? (fun i => ieq x (l.getD i 0)) = some i := by
    rw [List.find?_range_eq_some]
    refine ⟨by simp [List.getD_eq_getElem?_getD, hc, h], by simpa using hi, fun j hj => by rw [hb j hj]; rfl⟩
  rw [idxF, this]
theorem idx_miss {l : List Int} {x : Int} (hb : ∀ k, k < l.length → ieq x (l.getD k 0) = false) : idxF l x = -1 := by
  have : (List.range l.length).find? (fun i => ieq x (l.getD i 0)) = none := by
    rw [List.find?_range_eq_none]
    exact fun i hi => by rw [hb i hi]; rfl
  rw [idxF, this]
theorem idx_ok (l : List Int) (x : Int) (hl : l.length ≤ 1000000) : PCall Try.prog 87 [.list 1 (l.map i1), .int .i64 x] (.int .i64 (idxF l x)) := by
  have hhit : ∀ (i : Nat) (c : Int), l[i]? = some c → ieq x c = true → (∀ k, k < i → ieq x (l.getD k 0) = false) → idxF l x = i := fun i c => idx_hit
  have hmiss : (∀ k, k < l.length → ieq x (l.getD k 0) = false) → idxF l x = -1 := idx_miss
  obtain ⟨n, hn⟩ : ∃ n, l.length = n := ⟨_, rfl⟩
  rw [hn] at hl hmiss
  generalize idxF l x = R at hhit hmiss ⊢
  replace hhit : Hid (_) := hhit
  replace hmiss : Hid (_) := hmiss
  refine pcall_cx noTab_ok mixed (fun _ => none) Try.func87 rfl Try.ntmps87 Try.results87 (by simp) (by kernel_rfl) ?_
  repeat' first
    | (with_reducible refine gw_bool (fun _ => ?_) (fun _ => ?_))
    | (with_reducible refine condw_bool (fun _ => ?_) (fun _ => ?_))
    | simp [*]
  refine lp_go (D := (fun _ => none)) noTab_ok mixed (by kernel_rfl) [0, 1, 7] [] (α := Nat) (fun i e h => i ≤ n ∧ e 8 = .int .i64 i ∧ Hid (∀ k, k < i → ieq x (l.getD k 0) = false)) (fun i => n - i) 0 ?_ ?_
  · exact ⟨by omega, by simp, show _ from fun k hk => by omega⟩
  rintro i e h hk hkh ⟨hi, g7, hin⟩
  simp [Keep] at hk
  simp [KeepH] at hkh
  by_cases hlt : i < n
  · obtain ⟨c, hc, hc'⟩ := at_ex (l := l) (i := i) (by omega)
    have f1 : ilt (i : Int) (n : Int) = true := ilt_t (by omega)
    have w1 : IntKind.i64.wrap ((i : Int) + 1) = ((i + 1 : Nat) : Int) := wrap_succ (by omega)
    cases q : ieq x c
    · have hnx : Hid (∀ k, k < i + 1 → ieq x (l.getD k 0) = false) := show _ from fun k hk => by
        by_cases e : k = i
        · subst e; rw [List.getD_eq_getElem?_getD, hc]; exact q
        · exact hin.out k (by omega)
      clear hin hhit hmiss
      repeat' first
        | (with_reducible refine gw_bool (fun _ => ?_) (fun _ => ?_))
        | (with_reducible refine condw_bool (fun _ => ?_) (fun _ => ?_))
        | simp [*, i1]
      refine nxt_go (i + 1) (View.refl _ _) (by omega) (by simp [*, Keep, St.forget, scr, scrC]) (by simp [*, KeepH, St.forget, scr, scrC]) ?_
      exact ⟨by omega, by simp [*], hnx⟩
    · have hr := hhit.out i c hc q hin.out
      clear hin hhit hmiss
      subst hr
      repeat' first
        | (with_reducible refine gw_bool (fun _ => ?_) (fun _ => ?_))
        | (with_reducible refine condw_bool (fun _ => ?_) (fun _ => ?_))
        | simp [*, i1]
  · have f1 : ilt (i : Int) (n : Int) = false := ilt_f (by omega)
    have hr := hmiss.out (by have := hin.out; rwa [show i = n by omega] at this)
    clear hin hhit hmiss
    subst hr
    repeat' first
      | (with_reducible refine gw_bool (fun _ => ?_) (fun _ => ?_))
      | (with_reducible refine condw_bool (fun _ => ?_) (fun _ => ?_))
      | simp [*]
theorem idx_mem (l : List Int) (x : Int) : ilt (idxF l x) 0 = !decide (x ∈ l) := by
  by_cases h : x ∈ l
  · obtain ⟨i, hi, e⟩ := List.mem_iff_getElem.1 h
    cases hf : (List.range l.length).find? (fun i => ieq x (l.getD i 0)) with
    | none =>
      rw [List.find?_range_eq_none] at hf
      have := hf i hi
      simp [List.getD_eq_getElem?_getD, hi, e, ieq] at this
    | some j => simp only [idxF, hf, h, decide_true, Bool.not_true]; exact ilt_f (by omega)
  · have : idxF l x = -1 := idx_miss fun k hk => ieq_f fun e => h (by rw [e, List.getD_eq_getElem?_getD, List.getElem?_eq_getElem hk]; exact List.getElem_mem hk)
    rw [this]; simp [h, ilt]
def Tix : List V → Option V
  | [.list 1 xs, .int .i64 x] => (match decL unI1 xs with
    | some l => if l.length ≤ 1000000 then some (.int .i64 (idxF l x)) else none
    | none => none)
  | _ => none
theorem Tix_at {l : List Int} {x : Int} (h : l.length ≤ 1000000) : Tix [.list 1 (l.map i1), .int .i64 x] = some (.int .i64 (idxF l x)) := by simp [Tix, decL_map unI1_cs, h]
theorem ix_tab : ∀ vs v, Tix vs = some v → PCall Try.prog 87 vs v := by
  intro vs v h; unfold Tix at h; split at h
  · split at h
    · rename_i h1
      split at h
      · rename_i hl; cases h; rw [decL_inv unI1_inv _ _ h1]; exact idx_ok _ _ hl
      · cases h
    · cases h
  · cases h
def HI : Tab := add 87 Tix (noTab)
theorem HI_at (f : FuncId) (vs : List V) : HI.at' f vs = if f = 87 then Tix vs else noTab.at' f vs := rfl
theorem HI_fr (f : FuncId) : HI.fr f = if f = 87 then false else noTab.fr f := rfl
theorem HI_gb (f : FuncId) : HI.gb f = noTab.gb f := rfl
theorem HI_gv (f : FuncId) (vs : List V) : HI.gv f vs = noTab.gv f vs := rfl
attribute [simp] HI_at HI_fr HI_gb HI_gv Tix
theorem HI_ok : TabOK Try.prog HI := by
  refine add_ok (noTab_ok) (by kernel_rfl) ?_
  · exact ix_tab
attribute [-simp] Tix
attribute [simp] Tix_at
theorem con_ok (l : List Int) (x : Int) (hl : l.length ≤ 1000000) : PCall Try.prog 63 [.list 1 (l.map i1), .int .i64 x] (.bool (decide (x ∈ l))) := by
  have h0 := idx_mem l x
  cases hd : decide (x ∈ l)
  · rw [hd] at h0
    refine pcall_cx HI_ok mixed (fun _ => none) Try.func63 rfl Try.ntmps63 Try.results63 (by simp) (by kernel_rfl) ?_
    repeat' first
      | (with_reducible refine gw_bool (fun _ => ?_) (fun _ => ?_))
      | (with_reducible refine condw_bool (fun _ => ?_) (fun _ => ?_))
      | simp [*]
  · rw [hd] at h0
    refine pcall_cx HI_ok mixed (fun _ => none) Try.func63 rfl Try.ntmps63 Try.results63 (by simp) (by kernel_rfl) ?_
    repeat' first
      | (with_reducible refine gw_bool (fun _ => ?_) (fun _ => ?_))
      | (with_reducible refine condw_bool (fun _ => ?_) (fun _ => ?_))
      | simp [*]
def Tcon : List V → Option V
  | [.list 1 xs, .int .i64 x] => (match decL unI1 xs with
    | some l => if l.length ≤ 1000000 then some (.bool (decide (x ∈ l))) else none
    | none => none)
  | _ => none
theorem Tcon_at {l : List Int} {x : Int} (h : l.length ≤ 1000000) : Tcon [.list 1 (l.map i1), .int .i64 x] = some (.bool (decide (x ∈ l))) := by simp [Tcon, decL_map unI1_cs, h]
theorem con_tab : ∀ vs v, Tcon vs = some v → PCall Try.prog 63 vs v := by
  intro vs v h; unfold Tcon at h; split at h
  · split at h
    · rename_i h1
      split at h
      · rename_i hl; cases h; rw [decL_inv unI1_inv _ _ h1]; exact con_ok _ _ hl
      · cases h
    · cases h
  · cases h
def HC : Tab := add 63 Tcon (G2)
theorem HC_at (f : FuncId) (vs : List V) : HC.at' f vs = if f = 63 then Tcon vs else G2.at' f vs := rfl
theorem HC_fr (f : FuncId) : HC.fr f = if f = 63 then false else G2.fr f := rfl
theorem HC_gb (f : FuncId) : HC.gb f = G2.gb f := rfl
theorem HC_gv (f : FuncId) (vs : List V) : HC.gv f vs = G2.gv f vs := rfl
attribute [simp] HC_at HC_fr HC_gb HC_gv Tcon
theorem HC_ok : TabOK Try.prog HC := by
  refine add_ok (G2_ok) (by kernel_rfl) ?_
  · exact con_tab
attribute [-simp] Tcon
attribute [simp] Tcon_at
/-! ### the zone on the other side -/
def othP (s : Stn) (p : Pos) (k o bay : Int) : Option Nd := match nodF s (grp s p) k o with
  | some n => if bay ∈ bndF s p (grp s p) (some n) then (match sidF s p (grp s p) bay with
    | some S => oth2F n S
    | none => none) else none
  | none => none
theorem oth_of {n o : Nd} {a0 a1 c0 c1 : Int} (h : o = if (a0, a1) = n then (c0, c1) else (a0, a1)) : oth2F n [a0, a1, c0, c1] = if (ieq o.1 1 || ieq o.1 2) = true then some o else none := by
  simp only [oth2F, ← h, Bool.or_eq_true, ieq_iff]
theorem bnd_len (s : Stn) (p : Pos) (g : List Int) (N : Option Nd) : (bndF s p g N).length ≤ s.qs.length := by
  cases N with
  | none => simp [bndF]
  | some n => exact bndN_len _ _ _ _ _
theorem Other_ok {s : Stn} {p : Pos} (h : okP s p = true) (k o bay : Int) : PCall Try.prog 31 [.agg s.cs, .agg p.cs, .agg [.int .i64 k, .int .i64 o], .int .i64 bay] (nodV (othP s p k o bay)) := by
  have hT := Tlook_at h
  have hgl := grp_len s p
  have hw := wfg_of h
  have hn16 := (fine_of (okP_iff h).1).nq
  rw [hgl] at hw
  have hTb := Tbnd_at2 (k := k) (o := o) hgl hw
  have hTn := Tnod_at (p := p) (k := k) (o := o) hgl
  have hbl := bnd_len s p (grp s p) (nodF s (grp s p) k o)
  obtain ⟨N, hN⟩ : ∃ N, nodF s (grp s p) k o = N := ⟨_, rfl⟩
  rw [hN] at hTb hbl hTn
  obtain ⟨L, hL⟩ : ∃ L, bndF s p (grp s p) N = L := ⟨_, rfl⟩
  rw [hL] at hTb hbl
  have hLl : L.length ≤ 1000000 := by omega
  have hTc := Tcon_at (x := bay) hLl
  cases hm : decide (bay ∈ L)
  · have hv : othP s p k o bay = none := by
      simp only [decide_eq_false_iff_not] at hm
      simp only [othP, hN]
      cases N with
      | none => rfl
      | some n => simp only [hL, if_neg hm]
    rw [hm] at hTc
    rw [hv]
    generalize grp s p = G at hT hTb hTn
    clear h hw hv hL hN
    refine pcall_cx HC_ok mixed (fun _ => none) Try.func31 rfl Try.ntmps31 Try.results31 (by simp) (by kernel_rfl) ?_
    repeat' first
      | (with_reducible refine gw_bool (fun _ => ?_) (fun _ => ?_))
      | (with_reducible refine condw_bool (fun _ => ?_) (fun _ => ?_))
      | simp [*, Stn.cs, Pos.cs, Vu.cs, nodV]
  · simp only [decide_eq_true_eq] at hm
    cases N with
    | none => rw [← hL] at hm; cases hm
    | some n =>
      have hm' := hm
      rw [← hL] at hm'
      obtain ⟨i, rfl, hi, hin⟩ := bnd_mem.1 hm'
      obtain ⟨a0, a1, c0, c1, hS, -, -, -⟩ := sid_nodes h hi
      have hv : othP s p k o i = oth2F n [a0, a1, c0, c1] := by
        simp only [othP, hN, hL, if_pos hm, hS]
      rw [hv]
      have hTs := Tsid_at hS
      simp only [hm, decide_true] at hTc
      obtain ⟨n0, n1⟩ := n
      generalize grp s p = G at hT hTb hTn hTs
      clear h hw hv hL hN hm hm' hin hS
      simp only [nodV] at hTn
      by_cases e : (a0, a1) = (n0, n1)
      · have q1 : ieq a0 n0 = true := ieq_t (Prod.mk.inj e).1
        have q2 : ieq a1 n1 = true := ieq_t (Prod.mk.inj e).2
        rw [oth_of (o := (c0, c1)) (by rw [if_pos e])]
        clear e
        cases r1 : ieq c0 1 <;> cases r2 : ieq c0 2
        all_goals
          refine pcall_cx HC_ok mixed (fun _ => none) Try.func31 rfl Try.ntmps31 Try.results31 (by simp) (by kernel_rfl) ?_
        all_goals
          repeat' first
            | (with_reducible refine gw_bool (fun _ => ?_) (fun _ => ?_))
            | (with_reducible refine condw_bool (fun _ => ?_) (fun _ => ?_))
            | simp [*, Stn.cs, Pos.cs, Vu.cs, nodV, setsV]
        all_goals (first | (have := ieq_iff.1 r1; omega) | (have := ieq_iff.1 r2; omega))
      · rw [oth_of (o := (a0, a1)) (by rw [if_neg e])]
        have q0 : (ieq a0 n0 && ieq a1 n1) = false := by
          rw [Bool.eq_false_iff]; intro hc
          simp only [Bool.and_eq_true, ieq_iff] at hc
          exact e (by rw [hc.1, hc.2])
        clear e
        cases q1 : ieq a0 n0
        all_goals rw [q1] at q0
        all_goals simp only [Bool.true_and, Bool.false_and] at q0
        all_goals cases r1 : ieq a0 1
        all_goals cases r2 : ieq a0 2
        all_goals
          refine pcall_cx HC_ok mixed (fun _ => none) Try.func31 rfl Try.ntmps31 Try.results31 (by simp) (by kernel_rfl) ?_
        all_goals
          repeat' first
            | (with_reducible refine gw_bool (fun _ => ?_) (fun _ => ?_))
            | (with_reducible refine condw_bool (fun _ => ?_) (fun _ => ?_))
            | simp [*, Stn.cs, Pos.cs, Vu.cs, nodV, setsV]
        all_goals (first | (have := ieq_iff.1 r1; omega) | (have := ieq_iff.1 r2; omega))
end Go.Proofs.Ytcbddoopmkhlfaa
end
