/-
  The document's positions: Resolve.
  The document's bus groups.
  The document's sides, nodes and boundaries.
  The document's boundaries.
  A number's place in a list; groups; sections of the bus image: what they are.
  The bus image: the sign of a bay, links that move.
  The bus image: its sections.
  The document's sections.
-/
import Derived.Test.YtjhmphkdkclbjaaJ5
section
namespace Go.Proofs.Ytjhmphkdkclbjaa
open Go.Pv Go.RowKit
set_option linter.unusedSimpArgs false
set_option linter.unusedVariables false
set_option maxRecDepth 100000
set_option maxHeartbeats 4000000
attribute [-simp] Tclo_at Tgrp_at Tchk Tpchk TcI TcB Tclo Tgrp Tsid Tnod Tlook Tbnd Tidx Tnms Tnmd Tobj Tlks Tbay Trck Trpc Tres TSd TBd

theorem rresolve_ok (p : Pos) (c : Bool) (h1 : p.cl.length ≤ 1000) (h2 : p.lk.length ≤ 1000) (h3 : ∀ l ∈ p.lk, l.length ≤ 1000) : PCall Try.prog 43 [.agg p.cs, .bool c] (.agg (resP p c).cs) := by
  obtain ⟨n, hn⟩ : ∃ n, p.lk.length = n := ⟨_, rfl⟩
  rw [hn] at h2
  have hfl := flat_b1 p.cl
  have hon : (p.cl.map V.bool).all oneV = true := by simp [oneV]
  have hbc := chunks_b1 p.cl
  have hbp := pure_b1 p.cl
  obtain ⟨n1, hn1⟩ : ∃ n, p.cl.length = n := ⟨_, rfl⟩
  rw [hn1] at h1 hbc
  have q5 : n1 ≤ 140737488355328 := by omega
  have q6 : n1 ≤ 9223372036854775807 := by omega
  cases c
  · have hres : resP p false = ⟨p.cl, p.lk.map (fun l => l.map (resF 0))⟩ := rfl
    rw [hres]
    clear hres
    have hend := chunks_r0 (p.lk.map (fun l => l.map (resF 0)))
    rw [List.length_map, hn] at hend
    replace hend : Hid (chunks 1 n ((p.lk.map (fun l => l.map (resF 0))).map r0) = (p.lk.map (fun l => l.map (resF 0))).map r1) := hend
    refine pcall_cx E8_ok mixed (fun _ => none) Try.func43 rfl Try.ntmps43 Try.results43 (by simp) (by kernel_rfl) ?_
    repeat' first
      | (with_reducible refine gw_bool (fun _ => ?_) (fun _ => ?_))
      | (with_reducible refine condw_bool (fun _ => ?_) (fun _ => ?_))
      | simp [*, Pos.cs, appendV, srcCells, St.forget, scr, scrC, scrB_comp]
    refine lp_view (View.nilAt _ (t := 5) (o := 0) (key := 5) (key' := 57) (i := 1) (blk := ⟨31, [.sl 9 0 n1 1, .nils]⟩) 1 42 (by simp) (by simp) (by simp) (by simp)) ?_
    refine lp_go (D := (fun _ => none)) E8_ok mixed (by kernel_rfl) [1, 2, 4, 5] [2, 4, 9, 12, 21, 27, 56] (α := Nat) (fun i e h => i ≤ n ∧ e 6 = .int .i64 i ∧ h 5 = some ⟨31, [.sl 9 0 n1 1, .sl 57 0 i 1]⟩ ∧ h 57 = some ⟨42, ((p.lk.take i).map (fun l => l.map (resF 0))).map r0⟩) (fun i => n - i) 0 ?_ ?_
    · refine ⟨by omega, by simp, by simp, by simp⟩
    · rintro i e h hk hkh ⟨hi, g7, g6, g43⟩
      simp [Keep] at hk
      simp [KeepH, scrC] at hkh
      by_cases hlt : i < n
      · obtain ⟨l, hl, hl'⟩ := at_ex (l := p.lk) (i := i) (by omega)
        have f1 : ilt (i : Int) (n : Int) = true := ilt_t (by omega)
        have w1 : IntKind.i64.wrap ((i : Int) + 1) = ((i + 1 : Nat) : Int) := wrap_succ (by omega)
        have hlm : l.length ≤ 1000 := h3 l (List.mem_of_getElem? hl)
        have f5 : (i + 1) * 24 ≤ 140737488355328 := by omega
        have f6 : i + 1 ≤ 9223372036854775807 := by omega
        have hnx : ((p.lk.take (i + 1)).map (fun l => l.map (resF 0))).map r0 = ((p.lk.take i).map (fun l => l.map (resF 0))).map r0 ++ [r0 (l.map (resF 0))] := by rw [take_snoc hl]; simp
        have hln : (((p.lk.take i).map (fun l => l.map (resF 0))).map r0).length = i := by simp; omega
        generalize hCC : ((p.lk.take i).map (fun l => l.map (resF 0))).map r0 = CC at g43 hnx hln
        have hpC : CC.any ownC = false := by rw [← hCC]; exact pure_r0 _
        have hsC : ∀ k, CC.map (scrC k) = CC := fun k => scrC_cells hpC
        have hbC : ∀ k b, CC.map (pubC k b) = CC := fun k b => pub_cells hpC
        replace hnx : Hid (((p.lk.take (i + 1)).map (fun l => l.map (resF 0))).map r0 = CC ++ [r0 (l.map (resF 0))]) := hnx
        clear hCC
        have hlt2 : i < p.lk.length := by omega
        have hfi := flat_i1 l
        have hoi : (l.map (V.int .i64)).all oneV = true := by simp [oneV]
        obtain ⟨m, hm⟩ : ∃ m, l.length = m := ⟨_, rfl⟩
        rw [hm] at hlm
        have p5 : m * 8 ≤ 140737488355328 := by omega
        have p6 : m ≤ 9223372036854775807 := by omega
        repeat' first
          | (with_reducible refine gw_bool (fun _ => ?_) (fun _ => ?_))
          | (with_reducible refine condw_bool (fun _ => ?_) (fun _ => ?_))
          | simp [*, r1, appendV, srcCells, St.forget, scr, scrC, scrI_comp, scrB_comp]
        refine lp_go (D := (fun _ => none)) E8_ok mixed (by kernel_rfl) [1, 2, 4, 5, 6, 7, 14, 15, 16, 17, 18, 21, 22, 23, 24, 25, 26, 27] [2, 4, 5, 9, 12, 27, 56, 57] (α := Nat) (fun j e h => j ≤ m ∧ e 8 = .int .i64 j ∧ h 21 = some ⟨3, (half 0 l j).map (V.int .i64)⟩) (fun j => m - j) 0 ?_ ?_
        · refine ⟨by omega, by simp, by simp [half]⟩
        · have hk0 := hk
          have hkh0 := hkh
          have g0 := g7
          clear hk hkh g7
          rintro j e h hk hkh ⟨hj, g7, gK⟩
          simp [Keep, hk0, hkh0, g0, hm] at hk
          simp [KeepH, hk0, hkh0, g6, g43] at hkh
          have hCl : (half 0 l j).length = m := by rw [half_len _ _ _ (by omega)]; exact hm
          by_cases hjlt : j < m
          · obtain ⟨y, hy, -⟩ := at_ex (l := l) (i := j) (by omega)
            have f2 : ilt (j : Int) (m : Int) = true := ilt_t (by omega)
            have w2 : IntKind.i64.wrap ((j : Int) + 1) = ((j + 1 : Nat) : Int) := wrap_succ (by omega)
            have hC1 := half_at (z := 0) hy
            cases hq : ieq y 2
            · have hnj : Hid (half 0 l (j + 1) = half 0 l j) := half_same hy hq
              generalize half 0 l j = C at gK hCl hC1 hnj
              have hC2 : ∀ h : j < C.length, C[j] = y := fun h => by rw [List.getElem?_eq_getElem h] at hC1; exact Option.some.inj hC1
              clear hy hl hl' hnx
              repeat' first
                | (with_reducible refine gw_bool (fun _ => ?_) (fun _ => ?_))
                | (with_reducible refine condw_bool (fun _ => ?_) (fun _ => ?_))
                | simp [*, St.forget, scr, scrC]
              refine nxt_go (j + 1) (View.refl _ _) (by omega) (by simp [*, Keep, St.forget, scr, scrC]) (by simp [*, KeepH, St.forget, scr, scrC]) ?_
              refine ⟨by omega, by simp [*], ?_⟩
              rw [hnj.out]; simp [*]
            · have hnj : half 0 l (j + 1) = (half 0 l j).set j 0 := by rw [half_step hy]; simp [resF, hq]
              replace hnj : Hid (half 0 l (j + 1) = (half 0 l j).set j 0) := hnj
              generalize half 0 l j = C at gK hCl hC1 hnj
              have hC2 : ∀ h : j < C.length, C[j] = y := fun h => by rw [List.getElem?_eq_getElem h] at hC1; exact Option.some.inj hC1
              clear hy hl hl' hnx
              have hj1 : j + 1 ≤ m := by omega
              repeat' first
                | (with_reducible refine gw_bool (fun _ => ?_) (fun _ => ?_))
                | (with_reducible refine condw_bool (fun _ => ?_) (fun _ => ?_))
                | simp [*, St.forget, scr, scrC, setsV]
              refine nxt_go (j + 1) (View.refl _ _) (by omega) (by simp [*, Keep, St.forget, scr, scrC]) (by simp [*, KeepH, St.forget, scr, scrC]) ?_
              refine ⟨by omega, by simp [*], ?_⟩
              rw [hnj.out]; simp [*, setsV, List.map_set]
          · have f2 : ilt (j : Int) (m : Int) = false := ilt_f (by omega)
            have e2 : j = l.length := by omega
            rw [e2, half_end] at gK
            rw [e2, half_end] at hCl
            have hch := chunks_i1 (l.map (resF 0))
            have hcp := pure_i1 (l.map (resF 0))
            rw [hCl] at hch
            have hnx' := hnx.out
            generalize l.map (resF 0) = C at gK hCl hch hnx' hcp
            replace hnx' : Hid (List.map r0 (List.map (fun l => List.map (resF 0) l) (List.take (i + 1) p.lk)) = CC ++ [r0 C]) := hnx'
            replace hch : Hid (chunks 1 m (C.map (V.int .i64)) = C.map i1) := hch
            have hcs : ∀ k, (C.map (V.int .i64)).map (scrC k) = C.map (V.int .i64) := fun k => scrC_cells hcp
            have hmm : m ≤ C.length := by omega
            clear hnx hl hl' e2
            repeat' first
              | (with_reducible refine gw_bool (fun _ => ?_) (fun _ => ?_))
              | (with_reducible refine condw_bool (fun _ => ?_) (fun _ => ?_))
              | simp [*, appendV, srcCells, St.forget, scr, scrC, scrB_comp]
            refine nxt_go (i + 1) ((View.forget _ _ 56).trans (View.pub _ (key := 21) (blk := ⟨3, C.map (V.int .i64)⟩) ?_ hcp)) (by omega) ?_ ?_ ?_
            · simp [*, St.forget, scrC, scrI_comp]
            · simp [*, Keep, St.forget, scr, scrC, St.pub, pubT, pubA, pubC]
            · simp [*, KeepH, St.forget, scr, scrC, St.pub, pubC, scrB_comp]
            · refine ⟨by omega, ?_, ?_, ?_⟩
              · simp [*, St.forget, scr, scrC, St.pub, pubT, pubA, pubC]
              · simp [*, St.forget, scr, scrC, St.pub, pubC]
              · rw [hnx'.out]; simp [*, St.forget, scr, scrC, St.pub, pubC, r0, hch.out]
      · have f1 : ilt (i : Int) (n : Int) = false := ilt_f (by omega)
        have e1 : i = n := by omega
        subst e1
        have ht : p.lk.take i = p.lk := by rw [← hn]; exact List.take_length
        rw [ht] at g43
        have hpu := pure_r0 (p.lk.map (fun l => l.map (resF 0)))
        have hed := hend.out
        have hln : ((p.lk.map (fun l => l.map (resF 0))).map r0).length = i := by simp; omega
        generalize hCC : (p.lk.map (fun l => l.map (resF 0))).map r0 = CC at g43 hpu hed hln
        clear hend hCC ht
        repeat' first
          | (with_reducible refine gw_bool (fun _ => ?_) (fun _ => ?_))
          | (with_reducible refine condw_bool (fun _ => ?_) (fun _ => ?_))
          | simp [*, Pos.cs]
  · have hres : resP p true = ⟨p.cl, p.lk.map (fun l => l.map (resF 1))⟩ := rfl
    rw [hres]
    clear hres
    have hend := chunks_r0 (p.lk.map (fun l => l.map (resF 1)))
    rw [List.length_map, hn] at hend
    replace hend : Hid (chunks 1 n ((p.lk.map (fun l => l.map (resF 1))).map r0) = (p.lk.map (fun l => l.map (resF 1))).map r1) := hend
    refine pcall_cx E8_ok mixed (fun _ => none) Try.func43 rfl Try.ntmps43 Try.results43 (by simp) (by kernel_rfl) ?_
    repeat' first
      | (with_reducible refine gw_bool (fun _ => ?_) (fun _ => ?_))
      | (with_reducible refine condw_bool (fun _ => ?_) (fun _ => ?_))
      | simp [*, Pos.cs, appendV, srcCells, St.forget, scr, scrC, scrB_comp]
    refine lp_view (View.nilAt _ (t := 5) (o := 0) (key := 5) (key' := 57) (i := 1) (blk := ⟨31, [.sl 9 0 n1 1, .nils]⟩) 1 42 (by simp) (by simp) (by simp) (by simp)) ?_
    refine lp_go (D := (fun _ => none)) E8_ok mixed (by kernel_rfl) [1, 2, 4, 5] [2, 4, 9, 12, 21, 27, 56] (α := Nat) (fun i e h => i ≤ n ∧ e 6 = .int .i64 i ∧ h 5 = some ⟨31, [.sl 9 0 n1 1, .sl 57 0 i 1]⟩ ∧ h 57 = some ⟨42, ((p.lk.take i).map (fun l => l.map (resF 1))).map r0⟩) (fun i => n - i) 0 ?_ ?_
    · refine ⟨by omega, by simp, by simp, by simp⟩
    · rintro i e h hk hkh ⟨hi, g7, g6, g43⟩
      simp [Keep] at hk
      simp [KeepH, scrC] at hkh
      by_cases hlt : i < n
      · obtain ⟨l, hl, hl'⟩ := at_ex (l := p.lk) (i := i) (by omega)
        have f1 : ilt (i : Int) (n : Int) = true := ilt_t (by omega)
        have w1 : IntKind.i64.wrap ((i : Int) + 1) = ((i + 1 : Nat) : Int) := wrap_succ (by omega)
        have hlm : l.length ≤ 1000 := h3 l (List.mem_of_getElem? hl)
        have f5 : (i + 1) * 24 ≤ 140737488355328 := by omega
        have f6 : i + 1 ≤ 9223372036854775807 := by omega
        have hnx : ((p.lk.take (i + 1)).map (fun l => l.map (resF 1))).map r0 = ((p.lk.take i).map (fun l => l.map (resF 1))).map r0 ++ [r0 (l.map (resF 1))] := by rw [take_snoc hl]; simp
        have hln : (((p.lk.take i).map (fun l => l.map (resF 1))).map r0).length = i := by simp; omega
        generalize hCC : ((p.lk.take i).map (fun l => l.map (resF 1))).map r0 = CC at g43 hnx hln
        have hpC : CC.any ownC = false := by rw [← hCC]; exact pure_r0 _
        have hsC : ∀ k, CC.map (scrC k) = CC := fun k => scrC_cells hpC
        have hbC : ∀ k b, CC.map (pubC k b) = CC := fun k b => pub_cells hpC
        replace hnx : Hid (((p.lk.take (i + 1)).map (fun l => l.map (resF 1))).map r0 = CC ++ [r0 (l.map (resF 1))]) := hnx
        clear hCC
        have hlt2 : i < p.lk.length := by omega
        have hfi := flat_i1 l
        have hoi : (l.map (V.int .i64)).all oneV = true := by simp [oneV]
        obtain ⟨m, hm⟩ : ∃ m, l.length = m := ⟨_, rfl⟩
        rw [hm] at hlm
        have p5 : m * 8 ≤ 140737488355328 := by omega
        have p6 : m ≤ 9223372036854775807 := by omega
        repeat' first
          | (with_reducible refine gw_bool (fun _ => ?_) (fun _ => ?_))
          | (with_reducible refine condw_bool (fun _ => ?_) (fun _ => ?_))
          | simp [*, r1, appendV, srcCells, St.forget, scr, scrC, scrI_comp, scrB_comp]
        refine lp_go (D := (fun _ => none)) E8_ok mixed (by kernel_rfl) [1, 2, 4, 5, 6, 7, 14, 15, 16, 17, 18, 21, 22, 23, 24, 25, 26, 27] [2, 4, 5, 9, 12, 27, 56, 57] (α := Nat) (fun j e h => j ≤ m ∧ e 8 = .int .i64 j ∧ h 21 = some ⟨3, (half 1 l j).map (V.int .i64)⟩) (fun j => m - j) 0 ?_ ?_
        · refine ⟨by omega, by simp, by simp [half]⟩
        · have hk0 := hk
          have hkh0 := hkh
          have g0 := g7
          clear hk hkh g7
          rintro j e h hk hkh ⟨hj, g7, gK⟩
          simp [Keep, hk0, hkh0, g0, hm] at hk
          simp [KeepH, hk0, hkh0, g6, g43] at hkh
          have hCl : (half 1 l j).length = m := by rw [half_len _ _ _ (by omega)]; exact hm
          by_cases hjlt : j < m
          · obtain ⟨y, hy, -⟩ := at_ex (l := l) (i := j) (by omega)
            have f2 : ilt (j : Int) (m : Int) = true := ilt_t (by omega)
            have w2 : IntKind.i64.wrap ((j : Int) + 1) = ((j + 1 : Nat) : Int) := wrap_succ (by omega)
            have hC1 := half_at (z := 1) hy
            cases hq : ieq y 2
            · have hnj : Hid (half 1 l (j + 1) = half 1 l j) := half_same hy hq
              generalize half 1 l j = C at gK hCl hC1 hnj
              have hC2 : ∀ h : j < C.length, C[j] = y := fun h => by rw [List.getElem?_eq_getElem h] at hC1; exact Option.some.inj hC1
              clear hy hl hl' hnx
              repeat' first
                | (with_reducible refine gw_bool (fun _ => ?_) (fun _ => ?_))
                | (with_reducible refine condw_bool (fun _ => ?_) (fun _ => ?_))
                | simp [*, St.forget, scr, scrC]
              refine nxt_go (j + 1) (View.refl _ _) (by omega) (by simp [*, Keep, St.forget, scr, scrC]) (by simp [*, KeepH, St.forget, scr, scrC]) ?_
              refine ⟨by omega, by simp [*], ?_⟩
              rw [hnj.out]; simp [*]
            · have hnj : half 1 l (j + 1) = (half 1 l j).set j 1 := by rw [half_step hy]; simp [resF, hq]
              replace hnj : Hid (half 1 l (j + 1) = (half 1 l j).set j 1) := hnj
              generalize half 1 l j = C at gK hCl hC1 hnj
              have hC2 : ∀ h : j < C.length, C[j] = y := fun h => by rw [List.getElem?_eq_getElem h] at hC1; exact Option.some.inj hC1
              clear hy hl hl' hnx
              have hj1 : j + 1 ≤ m := by omega
              repeat' first
                | (with_reducible refine gw_bool (fun _ => ?_) (fun _ => ?_))
                | (with_reducible refine condw_bool (fun _ => ?_) (fun _ => ?_))
                | simp [*, St.forget, scr, scrC, setsV]
              refine nxt_go (j + 1) (View.refl _ _) (by omega) (by simp [*, Keep, St.forget, scr, scrC]) (by simp [*, KeepH, St.forget, scr, scrC]) ?_
              refine ⟨by omega, by simp [*], ?_⟩
              rw [hnj.out]; simp [*, setsV, List.map_set]
          · have f2 : ilt (j : Int) (m : Int) = false := ilt_f (by omega)
            have e2 : j = l.length := by omega
            rw [e2, half_end] at gK
            rw [e2, half_end] at hCl
            have hch := chunks_i1 (l.map (resF 1))
            have hcp := pure_i1 (l.map (resF 1))
            rw [hCl] at hch
            have hnx' := hnx.out
            generalize l.map (resF 1) = C at gK hCl hch hnx' hcp
            replace hnx' : Hid (List.map r0 (List.map (fun l => List.map (resF 1) l) (List.take (i + 1) p.lk)) = CC ++ [r0 C]) := hnx'
            replace hch : Hid (chunks 1 m (C.map (V.int .i64)) = C.map i1) := hch
            have hcs : ∀ k, (C.map (V.int .i64)).map (scrC k) = C.map (V.int .i64) := fun k => scrC_cells hcp
            have hmm : m ≤ C.length := by omega
            clear hnx hl hl' e2
            repeat' first
              | (with_reducible refine gw_bool (fun _ => ?_) (fun _ => ?_))
              | (with_reducible refine condw_bool (fun _ => ?_) (fun _ => ?_))
              | simp [*, appendV, srcCells, St.forget, scr, scrC, scrB_comp]
            refine nxt_go (i + 1) ((View.forget _ _ 56).trans (View.pub _ (key := 21) (blk := ⟨3, C.map (V.int .i64)⟩) ?_ hcp)) (by omega) ?_ ?_ ?_
            · simp [*, St.forget, scrC, scrI_comp]
            · simp [*, Keep, St.forget, scr, scrC, St.pub, pubT, pubA, pubC]
            · simp [*, KeepH, St.forget, scr, scrC, St.pub, pubC, scrB_comp]
            · refine ⟨by omega, ?_, ?_, ?_⟩
              · simp [*, St.forget, scr, scrC, St.pub, pubT, pubA, pubC]
              · simp [*, St.forget, scr, scrC, St.pub, pubC]
              · rw [hnx'.out]; simp [*, St.forget, scr, scrC, St.pub, pubC, r0, hch.out]
      · have f1 : ilt (i : Int) (n : Int) = false := ilt_f (by omega)
        have e1 : i = n := by omega
        subst e1
        have ht : p.lk.take i = p.lk := by rw [← hn]; exact List.take_length
        rw [ht] at g43
        have hpu := pure_r0 (p.lk.map (fun l => l.map (resF 1)))
        have hed := hend.out
        have hln : ((p.lk.map (fun l => l.map (resF 1))).map r0).length = i := by simp; omega
        generalize hCC : (p.lk.map (fun l => l.map (resF 1))).map r0 = CC at g43 hpu hed hln
        clear hend hCC ht
        repeat' first
          | (with_reducible refine gw_bool (fun _ => ?_) (fun _ => ?_))
          | (with_reducible refine condw_bool (fun _ => ?_) (fun _ => ?_))
          | simp [*, Pos.cs]
end Go.Proofs.Ytjhmphkdkclbjaa
end
section
namespace Go.Proofs.Ytjhmphkdkclbjaa
open Go.Pv Go.RowKit
set_option linter.unusedSimpArgs false
set_option linter.unusedVariables false
set_option maxRecDepth 100000
set_option maxHeartbeats 4000000
attribute [-simp] Tclo_at Tgrp_at Tchk Tpchk TcI TcB Tclo Tgrp Tsid Tnod Tlook Tbnd Tidx Tnms Tnmd Tobj Tlks Tbay Trck Trpc Tres TSd TBd

theorem mg_hit {x y z : Int} (h : (ieq z x || ieq z y) = true) : mgF (min x y) (max x y) z = min x y := by
  simp only [Bool.or_eq_true, ieq_iff] at h
  unfold mgF
  split
  · rfl
  · rename_i hh
    have : ¬ (z = max x y) := fun e => hh (ieq_t e)
    omega
theorem mg_miss {x y z : Int} (h : (ieq z x || ieq z y) = false) : mgF (min x y) (max x y) z = z := by
  simp only [Bool.or_eq_false_iff] at h
  have h1 := ieq_iff'.1 h.1
  have h2 := ieq_iff'.1 h.2
  unfold mgF
  rw [if_neg]
  intro hh
  have := ieq_iff.1 hh
  omega
theorem rgroups_ok {s : Stn} {p : Pos} (h1 : chkF s = 0) (h2 : posE s p = 0) : PCall Try.prog 60 [.agg s.cs, .agg p.cs] (.list 1 ((grp s p).map i1)) := by
  have hF := fine_of h1
  have hP := pfine_of h2
  clear h1 h2
  obtain ⟨nb, hnb⟩ : ∃ n, s.bs.length = n := ⟨_, rfl⟩
  obtain ⟨n, hn⟩ : ∃ n, s.qs.length = n := ⟨_, rfl⟩
  have hn16 : n ≤ 16 := by have := hF.nq; omega
  have hnb4 : nb ≤ 4 := by have := hF.nb; omega
  have hkn : p.lk.length = n := by have := hP.nk; omega
  have hch := chunks_i1 (grp s p)
  have hpu := pure_i1 (grp s p)
  have hgl : (grp s p).length = nb := by rw [grp, grpN_len]; exact hnb
  obtain ⟨R, hR⟩ : ∃ R, grp s p = R := ⟨_, rfl⟩
  rw [hR] at hch hpu hgl
  rw [hR]
  rw [hgl] at hch
  replace hR : Hid (grpN s p n = R) := by rw [grp, hn] at hR; exact hR
  refine pcall_cx E8_ok mixed (fun _ => none) Try.func60 rfl Try.ntmps60 Try.results60 (by simp) (by kernel_rfl) ?_
  repeat' first
    | (with_reducible refine gw_bool (fun _ => ?_) (fun _ => ?_))
    | (with_reducible refine condw_bool (fun _ => ?_) (fun _ => ?_))
    | simp [*, Stn.cs, Pos.cs]
  refine lp_view (View.nilOwn _ (t := 5) (key := 22) 1 3 (by simp) (by simp)) ?_
  refine lp_go (D := (fun _ => none)) E8_ok mixed (by kernel_rfl) [2, 3] [2, 3, 8, 21] (α := Nat) (fun i e h => i ≤ nb ∧ e 6 = .int .i64 i ∧ e 5 = .sl 22 0 i 1 ∧ h 22 = some ⟨3, (ini0 i).map (V.int .i64)⟩) (fun i => nb - i) 0 ?_ ?_
  · refine ⟨by omega, by simp, by simp, by simp [ini0]⟩
  rintro i e h hk hkh ⟨hi, g7, g5, g22⟩
  simp [Keep] at hk
  simp [KeepH] at hkh
  by_cases hlt : i < nb
  · have f1 : ilt (i : Int) (nb : Int) = true := ilt_t (by omega)
    have w1 : IntKind.i64.wrap ((i : Int) + 1) = ((i + 1 : Nat) : Int) := wrap_succ (by omega)
    have f5 : (i + 1) * 8 ≤ 140737488355328 := by omega
    have f6 : i + 1 ≤ 9223372036854775807 := by omega
    have hst : Hid (ini0 (i + 1) = ini0 i ++ [(i : Int)]) := ini0_step i
    have hl0 := ini0_len i
    generalize ini0 i = C at g22 hst hl0
    clear hR hch hpu hgl
    repeat' first
      | (with_reducible refine gw_bool (fun _ => ?_) (fun _ => ?_))
      | (with_reducible refine condw_bool (fun _ => ?_) (fun _ => ?_))
      | simp [*, appendV, srcCells, St.forget, scr, scrC, scrI_comp]
    refine nxt_go (i + 1) ((View.forget _ _ 21)) (by omega) (by simp [*, Keep, St.forget, scr, scrC]) (by simp [*, KeepH, St.forget, scr, scrC]) ?_
    refine ⟨by omega, by simp [*, St.forget, scr, scrC], by simp [*, St.forget, scr, scrC], ?_⟩
    rw [hst.out]; simp [*, St.forget, scr, scrC, scrI_comp]
  have f1 : ilt (i : Int) (nb : Int) = false := ilt_f (by omega)
  have e1 : i = nb := by omega
  subst e1
  have hin : grpN s p 0 = ini0 i := by simp [grpN, hnb]
  rw [← hin] at g22
  clear hin hlt hi
  repeat' first
    | (with_reducible refine gw_bool (fun _ => ?_) (fun _ => ?_))
    | (with_reducible refine condw_bool (fun _ => ?_) (fun _ => ?_))
    | simp [*]
  refine lp_go (D := (fun _ => none)) E8_ok mixed (by kernel_rfl) [2, 3, 5, 5] [2, 3, 8, 21] (α := Nat) (fun k e h => k ≤ n ∧ e 7 = .int .i64 k ∧ h 22 = some ⟨3, (grpN s p k).map (V.int .i64)⟩) (fun k => n - k) 0 ?_ ?_
  · exact ⟨by omega, by simp, by simp [*]⟩
  have hk0 := hk
  have hkh0 := hkh
  have g50 := g5
  clear hk hkh g7 g5 g22
  rintro k e h hk hkh ⟨hki, g7, g39⟩
  simp [Keep, hk0, hkh0, g50] at hk
  simp [KeepH, hk0, hkh0] at hkh
  by_cases hlt : k < n
  · obtain ⟨b, hb, hb'⟩ := at_ex (l := s.qs) (i := k) (by omega)
    obtain ⟨l, hl, hl'⟩ := at_ex (l := p.lk) (i := k) (by omega)
    obtain ⟨hll, -⟩ := hP.row k b l hb hl
    obtain ⟨hbus, -, hb1, hb2⟩ := hF.lk b (List.mem_of_getElem? hb)
    have f1 : ilt (k : Int) (n : Int) = true := ilt_t (by omega)
    have w1 : IntKind.i64.wrap ((k : Int) + 1) = ((k + 1 : Nat) : Int) := wrap_succ (by omega)
    have hst : Hid (grpN s p (k + 1) = stG (grpN s p k) b l) := grpN_step hb hl
    have hGl : (grpN s p k).length = i := by rw [grpN_len]; exact hnb
    have hGp := pure_i1 (grpN s p k)
    generalize grpN s p k = G at g39 hst hGl hGp
    clear hR hch hpu hgl
    have hGs := scr_i1 G
    have hkn2 : k < p.lk.length := by omega
    cases hk3 : ieq b.kind 3
    · obtain ⟨lks, hlk⟩ : ∃ lks, b.lks = lks := ⟨_, rfl⟩
      rw [hlk] at hll hbus hb1 hb2
      match lks, hb1, hb2 with
      | [a], _, _ =>
        have hnx : stG G b l = G := by simp [stG, hk3, hlk]
        rw [hnx] at hst
        clear hnx hbus
        repeat' first
          | (with_reducible refine gw_bool (fun _ => ?_) (fun _ => ?_))
          | (with_reducible refine condw_bool (fun _ => ?_) (fun _ => ?_))
          | simp [*, By.cs]
        refine nxt_go (k + 1) ((View.forget _ _ 8)) (by omega) (by simp [*, Keep, St.forget, scr, scrC]) (by simp [*, KeepH, St.forget, scr, scrC]) ?_
        refine ⟨by omega, by simp [*, St.forget, scr, scrC], ?_⟩
        rw [hst.out]; simp [*, St.forget, scr, scrC, scrI_comp]
      | [a, c], _, _ =>
        match l, hll with
        | [x, y], _ =>
          cases hx : ieq x 1
          · have hnx : stG G b [x, y] = G := by simp [stG, hk3, hlk, hx]
            rw [hnx] at hst
            clear hnx hbus
            repeat' first
              | (with_reducible refine gw_bool (fun _ => ?_) (fun _ => ?_))
              | (with_reducible refine condw_bool (fun _ => ?_) (fun _ => ?_))
              | simp [*, By.cs, r1, i1]
            refine nxt_go (k + 1) ((View.forget _ _ 8)) (by omega) (by simp [*, Keep, St.forget, scr, scrC]) (by simp [*, KeepH, St.forget, scr, scrC]) ?_
            refine ⟨by omega, by simp [*, St.forget, scr, scrC], ?_⟩
            rw [hst.out]; simp [*, St.forget, scr, scrC, scrI_comp]
          cases hy : ieq y 1
          · have hnx : stG G b [x, y] = G := by simp [stG, hk3, hlk, hx, hy]
            rw [hnx] at hst
            clear hnx hbus
            repeat' first
              | (with_reducible refine gw_bool (fun _ => ?_) (fun _ => ?_))
              | (with_reducible refine condw_bool (fun _ => ?_) (fun _ => ?_))
              | simp [*, By.cs, r1, i1]
            refine nxt_go (k + 1) ((View.forget _ _ 8)) (by omega) (by simp [*, Keep, St.forget, scr, scrC]) (by simp [*, KeepH, St.forget, scr, scrC]) ?_
            refine ⟨by omega, by simp [*, St.forget, scr, scrC], ?_⟩
            rw [hst.out]; simp [*, St.forget, scr, scrC, scrI_comp]
          obtain ⟨u, hu⟩ := Int.eq_ofNat_of_zero_le (hbus a (by simp)).1
          obtain ⟨w, hwc⟩ := Int.eq_ofNat_of_zero_le (hbus c (by simp)).1
          have hub : u < i := by have := (hbus a (by simp)).2; omega
          have hwb : w < i := by have := (hbus c (by simp)).2; omega
          obtain ⟨ga, hga, -⟩ := at_ex (l := G) (i := u) (by omega)
          obtain ⟨gc, hgc, -⟩ := at_ex (l := G) (i := w) (by omega)
          have hga2 : ∀ h : u < G.length, G[u] = ga := fun h => by rw [List.getElem?_eq_getElem h] at hga; exact Option.some.inj hga
          have hgc2 : ∀ h : w < G.length, G[w] = gc := fun h => by rw [List.getElem?_eq_getElem h] at hgc; exact Option.some.inj hgc
          have hnx : stG G b [x, y] = G.map (mgF (min ga gc) (max ga gc)) := by simp [stG, hk3, hlk, hx, hy, merge, g0, gAt, hu, hwc, hga, hgc]
          rw [hnx] at hst
          clear hnx hbus
          have hcu : (u : Int) < (i : Int) := by omega
          have hcw : (w : Int) < (i : Int) := by omega
          have hmh : ∀ z, (ieq z ga || ieq z gc) = true → mgF (min ga gc) (max ga gc) z = min ga gc := fun z h => mg_hit h
          have hmm : ∀ z, (ieq z ga || ieq z gc) = false → mgF (min ga gc) (max ga gc) z = z := fun z h => mg_miss h
          obtain ⟨lo, hlo⟩ : ∃ lo, min ga gc = lo := ⟨_, rfl⟩
          obtain ⟨top, hto⟩ : ∃ top, max ga gc = top := ⟨_, rfl⟩
          rw [hlo, hto] at hst hmh hmm
          replace hmh : Hid (∀ z, (ieq z ga || ieq z gc) = true → mgF lo top z = lo) := hmh
          replace hmm : Hid (∀ z, (ieq z ga || ieq z gc) = false → mgF lo top z = z) := hmm
          repeat' first
            | (with_reducible refine gw_bool (fun _ => ?_) (fun _ => ?_))
            | (with_reducible refine condw_bool (fun _ => ?_) (fun _ => ?_))
            | simp [*, By.cs, Lk.cs, r1, i1]
          refine lp_go (D := (fun _ => none)) E8_ok mixed (by kernel_rfl) [2, 3, 5, 7, 8, 9, 10, 23, 24, 25, 26, 27, 30, 31, 32, 33, 34, 35, 36, 37, 38, 39, 40, 41, 42, 43, 44, 45, 46, 47, 48, 49, 50, 51, 52, 53, 54, 55, 56, 57, 58, 59, 60, 61, 62, 63, 64, 65, 66, 67, 68, 69, 70, 71, 72, 73, 74, 75, 76, 77, 78, 79] [2, 3, 8, 21] (α := Nat) (fun j e h => j ≤ i ∧ e 11 = .int .i64 j ∧ h 22 = some ⟨3, (hG (mgF lo top) G j).map (V.int .i64)⟩) (fun j => i - j) 0 ?_ ?_
          · exact ⟨by omega, by simp, by simp [*, hG]⟩
          have hk1 := hk
          have hkh1 := hkh
          have g71 := g7
          clear hk hkh g7 g39
          rintro j e h hk hkh ⟨hji, g7, g39⟩
          simp [Keep, hk1, hkh1, g71, hga, hgc, hga2, hgc2] at hk
          simp [KeepH, hk1, hkh1] at hkh
          have hCl : (hG (mgF lo top) G j).length = i := by rw [hG_len _ _ _ (by omega)]; exact hGl
          clear hGs
          by_cases hjlt : j < i
          · obtain ⟨z, hz, -⟩ := at_ex (l := G) (i := j) (by omega)
            have f2 : ilt (j : Int) (i : Int) = true := ilt_t (by omega)
            have w2 : IntKind.i64.wrap ((j : Int) + 1) = ((j + 1 : Nat) : Int) := wrap_succ (by omega)
            have hC1 := hG_at (f := mgF lo top) hz
            have hj1 : j + 1 ≤ i := by omega
            cases q1 : ieq z ga
            · cases q2 : ieq z gc
              · have hnj : Hid (hG (mgF lo top) G (j + 1) = hG (mgF lo top) G j) := hG_same hz (hmm.out z (by rw [q1, q2]; rfl))
                generalize hG (mgF lo top) G j = C at g39 hCl hC1 hnj
                have hC2 : ∀ h : j < C.length, C[j] = z := fun h => by rw [List.getElem?_eq_getElem h] at hC1; exact Option.some.inj hC1
                clear hz hst hGl hGp hmh hmm hga hgc hga2 hgc2
                repeat' first
                  | (with_reducible refine gw_bool (fun _ => ?_) (fun _ => ?_))
                  | (with_reducible refine condw_bool (fun _ => ?_) (fun _ => ?_))
                  | simp [*, St.forget, scr, scrC]
                refine nxt_go (j + 1) (View.refl _ _) (by omega) (by simp [*, Keep, St.forget, scr, scrC]) (by simp [*, KeepH, St.forget, scr, scrC]) ?_
                refine ⟨by omega, by simp [*], ?_⟩
                rw [hnj.out]; simp [*]
              · have hnj : hG (mgF lo top) G (j + 1) = (hG (mgF lo top) G j).set j lo := by rw [hG_step hz, hmh.out z (by rw [q1, q2]; rfl)]
                replace hnj : Hid (hG (mgF lo top) G (j + 1) = (hG (mgF lo top) G j).set j lo) := hnj
                generalize hG (mgF lo top) G j = C at g39 hCl hC1 hnj
                have hC2 : ∀ h : j < C.length, C[j] = z := fun h => by rw [List.getElem?_eq_getElem h] at hC1; exact Option.some.inj hC1
                clear hz hst hGl hGp hmh hmm hga hgc hga2 hgc2
                repeat' first
                  | (with_reducible refine gw_bool (fun _ => ?_) (fun _ => ?_))
                  | (with_reducible refine condw_bool (fun _ => ?_) (fun _ => ?_))
                  | simp [*, St.forget, scr, scrC, setsV]
                refine nxt_go (j + 1) (View.refl _ _) (by omega) (by simp [*, Keep, St.forget, scr, scrC]) (by simp [*, KeepH, St.forget, scr, scrC]) ?_
                refine ⟨by omega, by simp [*], ?_⟩
                rw [hnj.out]; simp [*, setsV, List.map_set]
            · have hnj : hG (mgF lo top) G (j + 1) = (hG (mgF lo top) G j).set j lo := by rw [hG_step hz, hmh.out z (by rw [q1]; rfl)]
              replace hnj : Hid (hG (mgF lo top) G (j + 1) = (hG (mgF lo top) G j).set j lo) := hnj
              generalize hG (mgF lo top) G j = C at g39 hCl hC1 hnj
              have hC2 : ∀ h : j < C.length, C[j] = z := fun h => by rw [List.getElem?_eq_getElem h] at hC1; exact Option.some.inj hC1
              clear hz hst hGl hGp hmh hmm hga hgc hga2 hgc2
              repeat' first
                | (with_reducible refine gw_bool (fun _ => ?_) (fun _ => ?_))
                | (with_reducible refine condw_bool (fun _ => ?_) (fun _ => ?_))
                | simp [*, St.forget, scr, scrC, setsV]
              refine nxt_go (j + 1) (View.refl _ _) (by omega) (by simp [*, Keep, St.forget, scr, scrC]) (by simp [*, KeepH, St.forget, scr, scrC]) ?_
              refine ⟨by omega, by simp [*], ?_⟩
              rw [hnj.out]; simp [*, setsV, List.map_set]
          · have f2 : ilt (j : Int) (i : Int) = false := ilt_f (by omega)
            have e2 : j = G.length := by omega
            rw [e2, hG_end] at g39
            clear e2 hCl
            have hst' := hst.out
            have hCp := pure_i1 (G.map (mgF lo top))
            generalize G.map (mgF lo top) = C at g39 hst' hCp
            replace hst' : Hid (grpN s p (k + 1) = C) := hst'
            clear hst hGl hGp hmh hmm hga hgc hga2 hgc2
            repeat' first
              | (with_reducible refine gw_bool (fun _ => ?_) (fun _ => ?_))
              | (with_reducible refine condw_bool (fun _ => ?_) (fun _ => ?_))
              | simp [*, St.forget, scr, scrC]
            refine nxt_go (k + 1) ((View.forget _ _ 8)) (by omega) (by simp [*, Keep, St.forget, scr, scrC]) (by simp [*, KeepH, St.forget, scr, scrC]) ?_
            refine ⟨by omega, by simp [*, St.forget, scr, scrC], ?_⟩
            rw [hst'.out]; simp [*, St.forget, scr, scrC, scrI_comp]
    · have hnx : stG G b l = G := by simp [stG, hk3]
      rw [hnx] at hst
      clear hnx hbus
      repeat' first
        | (with_reducible refine gw_bool (fun _ => ?_) (fun _ => ?_))
        | (with_reducible refine condw_bool (fun _ => ?_) (fun _ => ?_))
        | simp [*, By.cs]
      refine nxt_go (k + 1) ((View.forget _ _ 8)) (by omega) (by simp [*, Keep, St.forget, scr, scrC]) (by simp [*, KeepH, St.forget, scr, scrC]) ?_
      refine ⟨by omega, by simp [*, St.forget, scr, scrC], ?_⟩
      rw [hst.out]; simp [*, St.forget, scr, scrC, scrI_comp]
  · have f1 : ilt (k : Int) (n : Int) = false := ilt_f (by omega)
    have e1 : k = n := by omega
    rw [e1, hR.out] at g39
    clear hR
    repeat' first
      | (with_reducible refine gw_bool (fun _ => ?_) (fun _ => ?_))
      | (with_reducible refine condw_bool (fun _ => ?_) (fun _ => ?_))
      | simp [*]
end Go.Proofs.Ytjhmphkdkclbjaa
end
section
namespace Go.Proofs.Ytjhmphkdkclbjaa
open Go.Pv Go.RowKit
set_option linter.unusedSimpArgs false
set_option linter.unusedVariables false
set_option maxRecDepth 100000
set_option maxHeartbeats 4000000
attribute [-simp] Tclo_at Tgrp_at Tchk Tpchk TcI TcB Tclo Tgrp Tsid Tnod Tlook Tbnd Tidx Tnms Tnmd Tobj Tlks Tbay Trck Trpc Tres TSd TBd

/-! ### what a valid diagram's bays are -/
theorem erQ_of {s : Stn} (h : chkF s = 0) : erQ s = 0 := by
  unfold chkF at h
  split at h
  · split at h
    · cases h
    · exact h
  · cases h
theorem bay_zero {s : Stn} (h : chkF s = 0) {i : Nat} {b : By} (hb : s.qs[i]? = some b) : byE (SQ s i) b = 0 := by
  have h1 := (nx_zero (erQ_of h)).2
  have := firstN_zero h1 i (List.getElem?_eq_some_iff.1 hb).1
  simpa [eQ, hb] using this
theorem obj_zero {s : Stn} (h : chkF s = 0) {i : Nat} {b : By} (hb : s.qs[i]? = some b) : objE s.ls.length s.ss.length b = 0 := by
  have h0 := bay_zero h hb
  rw [byE_of] at h0
  split at h0
  · rw [byE1_of] at h0
    split at h0
    · rename_i h1; exact h1
    · rename_i h1; exact (h1 h0).elim
  · rename_i h1; exact (h1 h0).elim
theorem kind_of {s : Stn} (h : chkF s = 0) {i : Nat} {b : By} (hb : s.qs[i]? = some b) : ieq b.kind 1 = true ∨ (ieq b.kind 1 = false ∧ ieq b.kind 2 = true) ∨ (ieq b.kind 1 = false ∧ ieq b.kind 2 = false ∧ ieq b.kind 3 = true) := by
  have h0 := obj_zero h hb
  unfold objE cntF at h0
  cases h1 : ieq b.kind 1
  · cases h2 : ieq b.kind 2
    · cases h3 : ieq b.kind 3
      · simp [h1, h2, h3] at h0
      · exact .inr (.inr ⟨rfl, rfl, rfl⟩)
    · exact .inr (.inl ⟨rfl, rfl⟩)
  · exact .inl rfl
/-! ### sides -/
def Trg : List V → Option V
  | [.agg a, .agg b] => (match unStn a, unPos b with
    | some s, some p => if okP s p = true then some (.list 1 ((grp s p).map i1)) else none
    | _, _ => none)
  | _ => none
theorem Trg_at {s : Stn} {p : Pos} (h : okP s p = true) : Trg [.agg [.str s.nm, .list 1 (s.bs.map s1), .list 5 (s.ls.map Ln.cs), .list 6 (s.ss.map Sr.cs), .list 12 (s.qs.map By.cs)], .agg [.list 1 (p.cl.map b1), .list 1 (p.lk.map r1)]] = some (.list 1 ((grp s p).map i1)) := by
  have e1 := unStn_cs s
  have e2 := unPos_cs p
  unfold Stn.cs at e1
  unfold Pos.cs at e2
  simp [Trg, e1, e2, h]
theorem rg_tab : ∀ vs v, Trg vs = some v → PCall Try.prog 60 vs v := by
  intro vs v h; unfold Trg at h; split at h
  · split at h
    · rename_i h1 h2
      split at h
      · rename_i hl
        cases h
        rw [unStn_inv _ _ h1, unPos_inv _ _ h2]
        obtain ⟨a, b⟩ := okP_iff hl
        exact rgroups_ok a b
      · cases h
    · cases h
  · cases h
def Trf : List V → Option V
  | [.agg a, .agg b] => (match unStn a, unPos b with
    | some s, some p => if lkB s = true ∧ lenB s p = true then some (.bool (okP s p)) else none
    | _, _ => none)
  | _ => none
theorem Trf_at {s : Stn} {p : Pos} (h1 : lkB s = true) (h2 : lenB s p = true) : Trf [.agg [.str s.nm, .list 1 (s.bs.map s1), .list 5 (s.ls.map Ln.cs), .list 6 (s.ss.map Sr.cs), .list 12 (s.qs.map By.cs)], .agg [.list 1 (p.cl.map b1), .list 1 (p.lk.map r1)]] = some (.bool (okP s p)) := by
  have e1 := unStn_cs s
  have e2 := unPos_cs p
  unfold Stn.cs at e1
  unfold Pos.cs at e2
  simp [Trf, e1, e2, h1, h2]
theorem rf_tab : ∀ vs v, Trf vs = some v → PCall Try.prog 59 vs v := by
  intro vs v h; unfold Trf at h; split at h
  · split at h
    · rename_i h1 h2
      split at h
      · rename_i hl
        cases h
        rw [unStn_inv _ _ h1, unPos_inv _ _ h2]
        exact rfine_ok hl.1 hl.2
      · cases h
    · cases h
  · cases h
def E9 : Tab := add 60 Trg (add 59 Trf (E8))
theorem E9_at (f : FuncId) (vs : List V) : E9.at' f vs = if f = 60 then Trg vs else if f = 59 then Trf vs else E8.at' f vs := rfl
theorem E9_fr (f : FuncId) : E9.fr f = if f = 60 then false else if f = 59 then false else E8.fr f := rfl
theorem E9_gb (f : FuncId) : E9.gb f = E8.gb f := rfl
theorem E9_gv (f : FuncId) (vs : List V) : E9.gv f vs = E8.gv f vs := rfl
attribute [simp] E9_at E9_fr E9_gb E9_gv Trf Trg
theorem E9_ok : TabOK Try.prog E9 := by
  refine add_ok (add_ok (E8_ok) (by kernel_rfl) ?_) (by kernel_rfl) ?_
  · exact rf_tab
  · exact rg_tab
attribute [-simp] Trg Trf
attribute [simp] Trg_at Trf_at
theorem lkB_of {s : Stn} (h : chkF s = 0) : lkB s = true := by
  have hF := fine_of h
  exact List.all_eq_true.2 fun b hb => by
    have := (hF.lk b hb).2.2.2
    simp; omega
theorem lenB_ok {s : Stn} {p : Pos} (h : okP s p = true) : lenB s p = true := by
  obtain ⟨a, b⟩ := okP_iff h
  exact lenB_of (fine_of a) (pfine_of b)
theorem rsides_in {s : Stn} {p : Pos} (h : okP s p = true) (i : Nat) (b : By) (l : List Int) (hb : s.qs[i]? = some b) (hl : p.lk[i]? = some l) : PCall Try.prog 61 [.agg s.cs, .agg p.cs, .int .i64 i] (.agg ((sid (grp s p) b l).map (V.int .i64))) := by
  obtain ⟨c1, c2⟩ := okP_iff h
  have hF := fine_of c1
  have hP := pfine_of c2
  obtain ⟨hi, hb'⟩ := get_of hb
  obtain ⟨hi2, hl'⟩ := get_of hl
  obtain ⟨hll, -⟩ := hP.row i b l hb hl
  obtain ⟨hbus, hk2, hb1, hb2⟩ := hF.lk b (List.mem_of_getElem? hb)
  have hgl : (grp s p).length = s.bs.length := by rw [grp, grpN_len]
  rw [← hgl] at hbus
  have hkd := kind_of c1 hb
  clear c1 c2 hF hP
  obtain ⟨n, hn⟩ : ∃ n, s.qs.length = n := ⟨_, rfl⟩
  obtain ⟨n2, hn2⟩ : ∃ n, p.lk.length = n := ⟨_, rfl⟩
  rw [hn] at hi
  rw [hn2] at hi2
  have hTg := Trg_at h
  generalize hG : grp s p = G at hbus hTg hgl
  clear hgl hG h
  obtain ⟨ng, hng⟩ : ∃ n, G.length = n := ⟨_, rfl⟩
  rw [hng] at hbus
  have hGi : ∀ x : Int, 0 ≤ x ∧ x < ng → ∃ (u : Nat) (g : Int), x = u ∧ u < ng ∧ (∀ h : u < G.length, G[u] = g) ∧ g0 G (u : Int) = g := fun x hx => by
    obtain ⟨u, rfl⟩ := Int.eq_ofNat_of_zero_le hx.1
    have hu : u < G.length := by omega
    refine ⟨u, G[u], rfl, by omega, fun _ => rfl, ?_⟩
    simp [g0, gAt, hu]
  cases h3 : ieq b.kind 3
  · have hs : sid G b l = [(fstN G ((b.lks.zip l).find? hit)).1, (fstN G ((b.lks.zip l).find? hit)).2, if ieq b.kind 1 = true then 2 else 3, b.ob] := by simp [sid, h3]
    rw [hs]
    clear hs
    have hk12 : ieq b.kind 2 = !ieq b.kind 1 := by
      rcases hkd with h1 | ⟨h1, h2⟩ | ⟨_, _, h4⟩
      · rw [h1]; have := ieq_iff.1 h1; rw [this]; rfl
      · rw [h1, h2]; rfl
      · rw [h3] at h4; cases h4
    clear hkd hk2
    obtain ⟨lks, hlk⟩ : ∃ lks, b.lks = lks := ⟨_, rfl⟩
    rw [hlk] at hll hbus hb1 hb2 ⊢
    match lks, hb1, hb2 with
    | [a], _, _ =>
      match l, hll with
      | [x], _ =>
        obtain ⟨u, gu, ha, hu, hGu, hg0⟩ := hGi _ (hbus a (by simp))
        clear hGi hbus
        have hcu : (u : Int) < (ng : Int) := by omega
        cases k1 : ieq b.kind 1 <;> cases hx : ieq x 1
        all_goals rw [k1] at hk12
        all_goals simp only [Bool.not_false, Bool.not_true] at hk12
        all_goals
          refine pcall_cx E9_ok mixed (fun _ => none) Try.func61 rfl Try.ntmps61 Try.results61 (by simp) (by kernel_rfl) ?_
        all_goals
          repeat' first
            | (with_reducible refine gw_bool (fun _ => ?_) (fun _ => ?_))
            | (with_reducible refine condw_bool (fun _ => ?_) (fun _ => ?_))
            | (refine lp_unroll (D := (fun _ => none)) E9_ok mixed (by kernel_rfl) ?_)
            | simp [*, Stn.cs, Pos.cs, By.cs, Lk.cs, r1, i1, hit, fstN, setsV]
    | [a, c], _, _ =>
      match l, hll with
      | [x, y], _ =>
        obtain ⟨u, gu, ha, hu, hGu, hg0⟩ := hGi _ (hbus a (by simp))
        obtain ⟨v, gv, hc, hv, hGv, hg1⟩ := hGi _ (hbus c (by simp))
        clear hGi hbus
        have hcu : (u : Int) < (ng : Int) := by omega
        have hcv : (v : Int) < (ng : Int) := by omega
        cases k1 : ieq b.kind 1 <;> cases hx : ieq x 1 <;> cases hy : ieq y 1
        all_goals rw [k1] at hk12
        all_goals simp only [Bool.not_false, Bool.not_true] at hk12
        all_goals
          refine pcall_cx E9_ok mixed (fun _ => none) Try.func61 rfl Try.ntmps61 Try.results61 (by simp) (by kernel_rfl) ?_
        all_goals
          repeat' first
            | (with_reducible refine gw_bool (fun _ => ?_) (fun _ => ?_))
            | (with_reducible refine condw_bool (fun _ => ?_) (fun _ => ?_))
            | (refine lp_unroll (D := (fun _ => none)) E9_ok mixed (by kernel_rfl) ?_)
            | simp [*, Stn.cs, Pos.cs, By.cs, Lk.cs, r1, i1, hit, fstN, setsV]
  · have hk2' := hk2 h3
    clear hkd hk2
    obtain ⟨lks, hlk⟩ : ∃ lks, b.lks = lks := ⟨_, rfl⟩
    rw [hlk] at hk2' hbus
    match lks, hk2' with
    | [a, c], _ =>
      obtain ⟨u, gu, ha, hu, hGu, hg0⟩ := hGi _ (hbus a (by simp))
      obtain ⟨v, gv, hc, hv, hGv, hg1⟩ := hGi _ (hbus c (by simp))
      clear hGi hbus
      have hcu : (u : Int) < (ng : Int) := by omega
      have hcv : (v : Int) < (ng : Int) := by omega
      have hs : sid G b l = [1, gu, 1, gv] := by simp [sid, h3, hlk, ha, hc, hg0, hg1]
      rw [hs]
      clear hs
      refine pcall_cx E9_ok mixed (fun _ => none) Try.func61 rfl Try.ntmps61 Try.results61 (by simp) (by kernel_rfl) ?_
      repeat' first
        | (with_reducible refine gw_bool (fun _ => ?_) (fun _ => ?_))
        | (with_reducible refine condw_bool (fun _ => ?_) (fun _ => ?_))
        | simp [*, Stn.cs, Pos.cs, By.cs, Lk.cs, i1]
/-! ### nodes -/
def nodA : Option (Int × Int) → V
  | some x => .agg [.int .i64 x.1, .int .i64 x.2]
  | none => .agg [.int .i64 0, .int .i64 0]
theorem rnode_ok {s : Stn} {p : Pos} (h : okP s p = true) (k o : Int) : PCall Try.prog 79 [.agg s.cs, .agg p.cs, .agg [.int .i64 k, .int .i64 o]] (nodA (nodF s (grp s p) k o)) := by
  obtain ⟨nb, hnb⟩ : ∃ n, s.bs.length = n := ⟨_, rfl⟩
  obtain ⟨nl, hnl⟩ : ∃ n, s.ls.length = n := ⟨_, rfl⟩
  have hgl : (grp s p).length = nb := by rw [grp, grpN_len]; exact hnb
  have hTg := Trg_at h
  generalize hG : grp s p = G at hTg hgl ⊢
  clear hG h
  obtain ⟨N, hN⟩ : ∃ N, nodF s G k o = N := ⟨_, rfl⟩
  rw [hN]
  unfold nodF at hN
  rw [hnb, hnl] at hN
  cases k1 : ieq k 1
  · rw [k1] at hN
    cases k2 : ieq k 2
    · have hN' : N = none := by rw [← hN]; simp [k2]
      clear hN
      refine pcall_cx E9_ok mixed (fun _ => none) Try.func79 rfl Try.ntmps79 Try.results79 (by simp) (by kernel_rfl) ?_
      repeat' first
        | (with_reducible refine gw_bool (fun _ => ?_) (fun _ => ?_))
        | (with_reducible refine condw_bool (fun _ => ?_) (fun _ => ?_))
        | simp [*, Stn.cs, Pos.cs, nodA]
    · cases o0 : ilt o 0
      · cases o1 : ilt o nl
        · have hN' : N = none := by rw [← hN]; simp [k2, o0, o1]
          clear hN
          refine pcall_cx E9_ok mixed (fun _ => none) Try.func79 rfl Try.ntmps79 Try.results79 (by simp) (by kernel_rfl) ?_
          repeat' first
            | (with_reducible refine gw_bool (fun _ => ?_) (fun _ => ?_))
            | (with_reducible refine condw_bool (fun _ => ?_) (fun _ => ?_))
            | simp [*, Stn.cs, Pos.cs, nodA]
        · have hN' : N = some (2, o) := by rw [← hN]; simp [k2, o0, o1]
          clear hN
          refine pcall_cx E9_ok mixed (fun _ => none) Try.func79 rfl Try.ntmps79 Try.results79 (by simp) (by kernel_rfl) ?_
          repeat' first
            | (with_reducible refine gw_bool (fun _ => ?_) (fun _ => ?_))
            | (with_reducible refine condw_bool (fun _ => ?_) (fun _ => ?_))
            | simp [*, Stn.cs, Pos.cs, nodA]
      · have hN' : N = none := by rw [← hN]; simp [k2, o0]
        clear hN
        refine pcall_cx E9_ok mixed (fun _ => none) Try.func79 rfl Try.ntmps79 Try.results79 (by simp) (by kernel_rfl) ?_
        repeat' first
          | (with_reducible refine gw_bool (fun _ => ?_) (fun _ => ?_))
          | (with_reducible refine condw_bool (fun _ => ?_) (fun _ => ?_))
          | simp [*, Stn.cs, Pos.cs, nodA]
  · have k2 : ieq k 2 = false := by
      have : k = 1 := by simpa [ieq] using k1
      subst this; decide
    cases o0 : ilt o 0
    · cases o1 : ilt o nb
      · have hN' : N = none := by rw [← hN]; simp [k1, k2, o0, o1]
        clear hN
        refine pcall_cx E9_ok mixed (fun _ => none) Try.func79 rfl Try.ntmps79 Try.results79 (by simp) (by kernel_rfl) ?_
        repeat' first
          | (with_reducible refine gw_bool (fun _ => ?_) (fun _ => ?_))
          | (with_reducible refine condw_bool (fun _ => ?_) (fun _ => ?_))
          | simp [*, Stn.cs, Pos.cs, nodA]
      · have a0 := ilt_iff'.1 o0
        have a1 := ilt_iff.1 o1
        obtain ⟨u, rfl⟩ := Int.eq_ofNat_of_zero_le (show 0 ≤ o by omega)
        have hu : u < G.length := by omega
        obtain ⟨gx, hgx⟩ : ∃ gx, G[u] = gx := ⟨_, rfl⟩
        have hN' : N = some (1, gx) := by
          rw [← hN]; simp only [o0, o1, k1]; simp [g0, gAt, hu, hgx]
        clear hN
        have hcu : (u : Int) < (nb : Int) := by omega
        have hub : u < nb := by omega
        refine pcall_cx E9_ok mixed (fun _ => none) Try.func79 rfl Try.ntmps79 Try.results79 (by simp) (by kernel_rfl) ?_
        repeat' first
          | (with_reducible refine gw_bool (fun _ => ?_) (fun _ => ?_))
          | (with_reducible refine condw_bool (fun _ => ?_) (fun _ => ?_))
          | simp [*, Stn.cs, Pos.cs, nodA, i1]
    · have hN' : N = none := by rw [← hN]; simp [k1, k2, o0]
      clear hN
      refine pcall_cx E9_ok mixed (fun _ => none) Try.func79 rfl Try.ntmps79 Try.results79 (by simp) (by kernel_rfl) ?_
      repeat' first
        | (with_reducible refine gw_bool (fun _ => ?_) (fun _ => ?_))
        | (with_reducible refine condw_bool (fun _ => ?_) (fun _ => ?_))
        | simp [*, Stn.cs, Pos.cs, nodA]
end Go.Proofs.Ytjhmphkdkclbjaa
end
section
namespace Go.Proofs.Ytjhmphkdkclbjaa
open Go.Pv Go.RowKit
set_option linter.unusedSimpArgs false
set_option linter.unusedVariables false
set_option maxRecDepth 100000
set_option maxHeartbeats 4000000
attribute [-simp] Tclo_at Tgrp_at Tchk Tpchk TcI TcB Tclo Tgrp Tsid Tnod Tlook Tbnd Tidx Tnms Tnmd Tobj Tlks Tbay Trck Trpc Tres TSd TBd Trg Trf

def rsdF (s : Stn) (p : Pos) (i : Int) : Option (List Int) := if 0 ≤ i ∧ i < s.qs.length then sidF s p (grp s p) i else none
def Trsd : List V → Option V
  | [.agg a, .agg b, .int .i64 i] => (match unStn a, unPos b with
    | some s, some p => if okP s p = true then (match rsdF s p i with
      | some S => some (.agg (S.map (V.int .i64)))
      | none => none) else none
    | _, _ => none)
  | _ => none
theorem Trsd_at {s : Stn} {p : Pos} {i : Int} {S : List Int} (h : okP s p = true) (hS : rsdF s p i = some S) : Trsd [.agg [.str s.nm, .list 1 (s.bs.map s1), .list 5 (s.ls.map Ln.cs), .list 6 (s.ss.map Sr.cs), .list 12 (s.qs.map By.cs)], .agg [.list 1 (p.cl.map b1), .list 1 (p.lk.map r1)], .int .i64 i] = some (.agg (S.map (V.int .i64))) := by
  have e1 := unStn_cs s
  have e2 := unPos_cs p
  unfold Stn.cs at e1
  unfold Pos.cs at e2
  simp [Trsd, e1, e2, h, hS]
theorem rsd_tab : ∀ vs v, Trsd vs = some v → PCall Try.prog 61 vs v := by
  intro vs v h; unfold Trsd at h; split at h
  · split at h
    · rename_i a b i s p h1 h2
      split at h
      · rename_i hl
        split at h
        · rename_i S hS
          cases h
          rw [unStn_inv _ _ h1, unPos_inv _ _ h2]
          unfold rsdF at hS
          split at hS
          · rename_i hi
            unfold sidF at hS
            rw [if_pos (wfg_of hl), if_pos hi] at hS
            split at hS
            · rename_i b l hb hl'
              cases hS
              obtain ⟨k, rfl⟩ := Int.eq_ofNat_of_zero_le hi.1
              exact rsides_in hl k b l (by simpa using hb) (by simpa using hl')
            · cases hS
          · cases hS
        · cases h
      · cases h
    · cases h
  · cases h
def Trnd : List V → Option V
  | [.agg a, .agg b, .agg [.int .i64 k, .int .i64 o]] => (match unStn a, unPos b with
    | some s, some p => if okP s p = true then some (nodA (nodF s (grp s p) k o)) else none
    | _, _ => none)
  | _ => none
theorem Trnd_at {s : Stn} {p : Pos} {k o : Int} (h : okP s p = true) : Trnd [.agg [.str s.nm, .list 1 (s.bs.map s1), .list 5 (s.ls.map Ln.cs), .list 6 (s.ss.map Sr.cs), .list 12 (s.qs.map By.cs)], .agg [.list 1 (p.cl.map b1), .list 1 (p.lk.map r1)], .agg [.int .i64 k, .int .i64 o]] = some (nodA (nodF s (grp s p) k o)) := by
  have e1 := unStn_cs s
  have e2 := unPos_cs p
  unfold Stn.cs at e1
  unfold Pos.cs at e2
  simp [Trnd, e1, e2, h]
theorem rnd_tab : ∀ vs v, Trnd vs = some v → PCall Try.prog 79 vs v := by
  intro vs v h; unfold Trnd at h; split at h
  · split at h
    · rename_i h1 h2
      split at h
      · rename_i hl
        cases h
        rw [unStn_inv _ _ h1, unPos_inv _ _ h2]
        exact rnode_ok hl _ _
      · cases h
    · cases h
  · cases h
def E10 : Tab := add 61 Trsd (add 79 Trnd (E9))
theorem E10_at (f : FuncId) (vs : List V) : E10.at' f vs = if f = 61 then Trsd vs else if f = 79 then Trnd vs else E9.at' f vs := rfl
theorem E10_fr (f : FuncId) : E10.fr f = if f = 61 then false else if f = 79 then false else E9.fr f := rfl
theorem E10_gb (f : FuncId) : E10.gb f = E9.gb f := rfl
theorem E10_gv (f : FuncId) (vs : List V) : E10.gv f vs = E9.gv f vs := rfl
attribute [simp] E10_at E10_fr E10_gb E10_gv Trnd Trsd
theorem E10_ok : TabOK Try.prog E10 := by
  refine add_ok (add_ok (E9_ok) (by kernel_rfl) ?_) (by kernel_rfl) ?_
  · exact rnd_tab
  · exact rsd_tab
attribute [-simp] Trsd Trnd
attribute [simp] Trsd_at Trnd_at
/-- The sides of a bay of a valid diagram. -/
theorem sid_kinds (g : List Int) (b : By) (l : List Int) : (ieq b.kind 3 = true → b.lks.length = 2 → ∃ x y, sid g b l = [1, x, 1, y]) ∧ (ieq b.kind 3 = false → ∃ a0 a1 c0 c1, sid g b l = [a0, a1, c0, c1] ∧ (a0 = 0 ∧ a1 = 0 ∨ a0 = 1) ∧ (c0 = 2 ∨ c0 = 3)) := by
  constructor
  · intro h hl
    obtain ⟨lks, hlk⟩ : ∃ lks, b.lks = lks := ⟨_, rfl⟩
    rw [hlk] at hl
    match lks, hl with
    | [a, c], _ => exact ⟨_, _, by simp [sid, h, hlk]; exact ⟨rfl, rfl⟩⟩
  · intro h
    refine ⟨_, _, _, _, by simp only [sid, h]; rfl, ?_, ?_⟩
    · cases (b.lks.zip l).find? hit with
      | none => exact .inl ⟨rfl, rfl⟩
      | some x => exact .inr rfl
    · split
      · exact .inl rfl
      · exact .inr rfl
theorem sid_at {s : Stn} {p : Pos} (h : okP s p = true) {i : Nat} (hi : i < s.qs.length) : ∃ b l, s.qs[i]? = some b ∧ p.lk[i]? = some l ∧ sidF s p (grp s p) i = some (sid (grp s p) b l) ∧ (ieq b.kind 3 = true → b.lks.length = 2) := by
  obtain ⟨c1, c2⟩ := okP_iff h
  obtain ⟨b, hb, _⟩ := at_ex (l := s.qs) (i := i) hi
  obtain ⟨l, hl, -⟩ := wf_at (wfg_of h) hb
  have hF := fine_of c1
  refine ⟨b, l, hb, hl, ?_, (hF.lk b (List.mem_of_getElem? hb)).2.1⟩
  have : (i : Int) < s.qs.length := by omega
  simp [sidF, wfg_of h, hb, hl, this]
theorem raround_ok {s : Stn} {p : Pos} (h : okP s p = true) (n : Int × Int) (hn : n.1 = 1 ∨ n.1 = 2) (i : Nat) (hi : i < s.qs.length) : PCall Try.prog 80 [.agg s.cs, .agg p.cs, .agg [.int .i64 n.1, .int .i64 n.2], .int .i64 i] (.bool (inBat s p (grp s p) n i)) := by
  obtain ⟨b, l, hb, hl, hS, hk2⟩ := sid_at h hi
  obtain ⟨hi', hb'⟩ := get_of hb
  obtain ⟨n0, n1⟩ := n
  simp only at hn
  have hrs : rsdF s p (i : Int) = some (sid (grp s p) b l) := by
    have : (i : Int) < s.qs.length := by omega
    simp [rsdF, this, hS]
  have hv : inBat s p (grp s p) (n0, n1) i = inB (n0, n1) (sid (grp s p) b l) := by simp [inBat, hS]
  rw [hv]
  clear hv hS
  have hT := Trsd_at h hrs
  clear hrs
  obtain ⟨nq, hnq⟩ : ∃ n, s.qs.length = n := ⟨_, rfl⟩
  rw [hnq] at hi
  cases h3 : ieq b.kind 3
  · obtain ⟨a0, a1, c0, c1, hsd, ha, hc⟩ := (sid_kinds (grp s p) b l).2 h3
    rw [hsd] at hT ⊢
    clear hsd h
    have q0 : ieq a0 2 = false := ieq_f (by omega)
    have q1 : ieq c0 1 = false := ieq_f (by omega)
    rcases hn with rfl | rfl
    · cases p1 : ieq a0 1 <;> cases p2 : ieq a1 n1
      all_goals
        refine pcall_cx E10_ok mixed (fun _ => none) Try.func80 rfl Try.ntmps80 Try.results80 (by simp) (by kernel_rfl) ?_
      all_goals
        repeat' first
          | (with_reducible refine gw_bool (fun _ => ?_) (fun _ => ?_))
          | (with_reducible refine condw_bool (fun _ => ?_) (fun _ => ?_))
          | simp [*, Stn.cs, Pos.cs, By.cs, inB]
    · cases p1 : ieq a0 1 <;> cases p2 : ieq c0 2 <;> cases p3 : ieq c1 n1
      all_goals
        refine pcall_cx E10_ok mixed (fun _ => none) Try.func80 rfl Try.ntmps80 Try.results80 (by simp) (by kernel_rfl) ?_
      all_goals
        repeat' first
          | (with_reducible refine gw_bool (fun _ => ?_) (fun _ => ?_))
          | (with_reducible refine condw_bool (fun _ => ?_) (fun _ => ?_))
          | simp [*, Stn.cs, Pos.cs, By.cs, inB]
  · obtain ⟨x, y, hsd⟩ := (sid_kinds (grp s p) b l).1 h3 (hk2 h3)
    rw [hsd] at hT ⊢
    clear hsd h
    cases p1 : ieq 1 n0 <;> cases p2 : ieq x n1 <;> cases p3 : ieq y n1
    all_goals
      refine pcall_cx E10_ok mixed (fun _ => none) Try.func80 rfl Try.ntmps80 Try.results80 (by simp) (by kernel_rfl) ?_
    all_goals
      repeat' first
        | (with_reducible refine gw_bool (fun _ => ?_) (fun _ => ?_))
        | (with_reducible refine condw_bool (fun _ => ?_) (fun _ => ?_))
        | simp [*, Stn.cs, Pos.cs, By.cs, inB]
theorem nod_kind {s : Stn} {g : List Int} {k o : Int} {n : Int × Int} (h : nodF s g k o = some n) : n.1 = 1 ∨ n.1 = 2 := by
  unfold nodF at h
  split at h
  · cases h; exact .inl rfl
  · split at h
    · cases h; exact .inr rfl
    · cases h
def Tar : List V → Option V
  | [.agg a, .agg b, .agg [.int .i64 k, .int .i64 o], .int .i64 i] => (match unStn a, unPos b with
    | some s, some p => if okP s p = true ∧ (k = 1 ∨ k = 2) ∧ 0 ≤ i ∧ i < s.qs.length then some (.bool (inBat s p (grp s p) (k, o) i.toNat)) else none
    | _, _ => none)
  | _ => none
theorem Tar_at {s : Stn} {p : Pos} {k o : Int} {i : Nat} (h : okP s p = true) (hk : k = 1 ∨ k = 2) (hi : i < s.qs.length) : Tar [.agg [.str s.nm, .list 1 (s.bs.map s1), .list 5 (s.ls.map Ln.cs), .list 6 (s.ss.map Sr.cs), .list 12 (s.qs.map By.cs)], .agg [.list 1 (p.cl.map b1), .list 1 (p.lk.map r1)], .agg [.int .i64 k, .int .i64 o], .int .i64 i] = some (.bool (inBat s p (grp s p) (k, o) i)) := by
  have e1 := unStn_cs s
  have e2 := unPos_cs p
  unfold Stn.cs at e1
  unfold Pos.cs at e2
  simp only [Tar, e1, e2]
  exact if_pos ⟨h, hk, by omega, by omega⟩
theorem ar_tab : ∀ vs v, Tar vs = some v → PCall Try.prog 80 vs v := by
  intro vs v h; unfold Tar at h; split at h
  · split at h
    · rename_i h1 h2
      split at h
      · rename_i hl
        cases h
        rw [unStn_inv _ _ h1, unPos_inv _ _ h2]
        obtain ⟨p1, p2, p3, p4⟩ := hl
        obtain ⟨u, rfl⟩ := Int.eq_ofNat_of_zero_le p3
        exact raround_ok p1 (_, _) p2 u (by omega)
      · cases h
    · cases h
  · cases h
def E11 : Tab := add 80 Tar (E10)
theorem E11_at (f : FuncId) (vs : List V) : E11.at' f vs = if f = 80 then Tar vs else E10.at' f vs := rfl
theorem E11_fr (f : FuncId) : E11.fr f = if f = 80 then false else E10.fr f := rfl
theorem E11_gb (f : FuncId) : E11.gb f = E10.gb f := rfl
theorem E11_gv (f : FuncId) (vs : List V) : E11.gv f vs = E10.gv f vs := rfl
attribute [simp] E11_at E11_fr E11_gb E11_gv Tar
theorem E11_ok : TabOK Try.prog E11 := by
  refine add_ok (E10_ok) (by kernel_rfl) ?_
  · exact ar_tab
attribute [-simp] Tar
attribute [simp] Tar_at
theorem rBoundary_ok {s : Stn} {p : Pos} (hok : okP s p = true) (k o : Int) : PCall Try.prog 44 [.agg s.cs, .agg p.cs, .agg [.int .i64 k, .int .i64 o]] (.list 1 ((bndF s p (grp s p) (nodF s (grp s p) k o)).map i1)) := by
  have hlk := lkB_of (okP_iff hok).1
  have hln := lenB_ok hok
  have hn16 : s.qs.length ≤ 16 := (fine_of (okP_iff hok).1).nq
  obtain ⟨n, hnn⟩ : ∃ n, s.qs.length = n := ⟨_, rfl⟩
  rw [hnn] at hn16
  obtain ⟨N, hN⟩ : ∃ N, nodF s (grp s p) k o = N := ⟨_, rfl⟩
  rw [hN]
  cases N with
  | none =>
    refine pcall_nil ?_
    refine pcall_cx E11_ok mixed (fun _ => none) Try.func44 rfl Try.ntmps44 Try.results44 (by simp) (by kernel_rfl) ?_
    repeat' first
      | (with_reducible refine gw_bool (fun _ => ?_) (fun _ => ?_))
      | (with_reducible refine condw_bool (fun _ => ?_) (fun _ => ?_))
      | simp [*, Stn.cs, Pos.cs, nodA]
    refine lp_go (D := (fun _ => none)) E11_ok mixed (by kernel_rfl) [3, 4, 7] [3, 4, 5, 7, 37, 38] (α := Nat) (fun i e h => i ≤ n ∧ e 9 = .int .i64 i ∧ e 8 = .nils) (fun i => n - i) 0 ?_ ?_
    · exact ⟨by omega, by simp, by simp⟩
    rintro i e h hk hkh ⟨hi, g7, g8⟩
    simp [Keep] at hk
    simp [KeepH] at hkh
    by_cases hlt : i < n
    · have f1 : ilt (i : Int) (n : Int) = true := ilt_t (by omega)
      have w1 : IntKind.i64.wrap ((i : Int) + 1) = ((i + 1 : Nat) : Int) := wrap_succ (by omega)
      repeat' first
        | (with_reducible refine gw_bool (fun _ => ?_) (fun _ => ?_))
        | (with_reducible refine condw_bool (fun _ => ?_) (fun _ => ?_))
        | simp [*]
      refine nxt_go (i + 1) (View.refl _ _) (by omega) (by simp [*, Keep, St.forget, scr, scrC]) (by simp [*, KeepH, St.forget, scr, scrC]) ?_
      exact ⟨by omega, by simp [*], by simp [*]⟩
    · have f1 : ilt (i : Int) (n : Int) = false := ilt_f (by omega)
      repeat' first
        | (with_reducible refine gw_bool (fun _ => ?_) (fun _ => ?_))
        | (with_reducible refine condw_bool (fun _ => ?_) (fun _ => ?_))
        | simp [*]
  | some nd =>
    have hnk := nod_kind hN
    obtain ⟨n0, n1⟩ := nd
    simp only at hnk
    have hnz : ieq n0 0 = false := ieq_f (by omega)
    have hres : bndF s p (grp s p) (some (n0, n1)) = bndN s p (grp s p) (n0, n1) n := by simp [bndF, hnn]
    have hch := chunks_i1 (bndN s p (grp s p) (n0, n1) n)
    have hpu := pure_i1 (bndN s p (grp s p) (n0, n1) n)
    rw [hres]
    clear hres
    obtain ⟨R, hR⟩ : ∃ R, bndN s p (grp s p) (n0, n1) n = R := ⟨_, rfl⟩
    rw [hR] at hch hpu
    rw [hR]
    replace hR : Hid (bndN s p (grp s p) (n0, n1) n = R) := hR
    refine pcall_cx E11_ok mixed (fun _ => none) Try.func44 rfl Try.ntmps44 Try.results44 (by simp) (by kernel_rfl) ?_
    repeat' first
      | (with_reducible refine gw_bool (fun _ => ?_) (fun _ => ?_))
      | (with_reducible refine condw_bool (fun _ => ?_) (fun _ => ?_))
      | simp [*, Stn.cs, Pos.cs, nodA]
    refine lp_view (View.nilOwn _ (t := 8) (key := 38) 1 3 (by simp) (by simp)) ?_
    refine lp_go (D := (fun _ => none)) E11_ok mixed (by kernel_rfl) [3, 4, 7] [3, 4, 5, 7, 37] (α := Nat) (fun i e h => i ≤ n ∧ e 9 = .int .i64 i ∧ e 8 = .sl 38 0 (bndN s p (grp s p) (n0, n1) i).length 1 ∧ h 38 = some ⟨3, (bndN s p (grp s p) (n0, n1) i).map (V.int .i64)⟩) (fun i => n - i) 0 ?_ ?_
    · refine ⟨by omega, by simp, by simp [bndN], by simp [bndN]⟩
    rintro i e h hk hkh ⟨hi, g7, gs, gh⟩
    simp [Keep] at hk
    simp [KeepH] at hkh
    have hbl := bndN_len s p (grp s p) (n0, n1) i
    by_cases hlt : i < n
    · have hT := Tar_at (o := n1) hok hnk (show i < s.qs.length by omega)
      have hst : Hid (bndN s p (grp s p) (n0, n1) (i + 1) = bndN s p (grp s p) (n0, n1) i ++ (if inBat s p (grp s p) (n0, n1) i = true then [(i : Int)] else [])) := bndN_step
      have f1 : ilt (i : Int) (n : Int) = true := ilt_t (by omega)
      have w1 : IntKind.i64.wrap ((i : Int) + 1) = ((i + 1 : Nat) : Int) := wrap_succ (by omega)
      generalize bndN s p (grp s p) (n0, n1) i = C at gs gh hbl hst
      obtain ⟨q, hq⟩ : ∃ q, inBat s p (grp s p) (n0, n1) i = q := ⟨_, rfl⟩
      rw [hq] at hT hst
      clear hR hch hpu hq hok hlk hln hN hnk
      have hsC := scr_i1 C
      have f5 : (C.length + 1) * 8 ≤ 140737488355328 := by omega
      have f6 : C.length + 1 ≤ 9223372036854775807 := by omega
      cases q
      · rw [if_neg (by simp), List.append_nil] at hst
        repeat' first
          | (with_reducible refine gw_bool (fun _ => ?_) (fun _ => ?_))
          | (with_reducible refine condw_bool (fun _ => ?_) (fun _ => ?_))
          | simp [*]
        refine nxt_go (i + 1) (View.refl _ _) (by omega) (by simp [*, Keep, St.forget, scr, scrC]) (by simp [*, KeepH, St.forget, scr, scrC]) ?_
        refine ⟨by omega, by simp [*], ?_, ?_⟩
        · rw [hst.out]; simp [*]
        · rw [hst.out]; simp [*]
      · rw [if_pos rfl] at hst
        repeat' first
          | (with_reducible refine gw_bool (fun _ => ?_) (fun _ => ?_))
          | (with_reducible refine condw_bool (fun _ => ?_) (fun _ => ?_))
          | simp [*, appendV, srcCells, St.forget, scr, scrC, scrI_comp]
        refine nxt_go (i + 1) ((View.forget _ _ 37)) (by omega) (by simp [*, Keep, St.forget, scr, scrC]) (by simp [*, KeepH, St.forget, scr, scrC]) ?_
        refine ⟨by omega, by simp [*, St.forget, scr, scrC], ?_, ?_⟩
        · rw [hst.out]; simp [*, St.forget, scr, scrC, scrI_comp]
        · rw [hst.out]; simp [*, St.forget, scr, scrC, scrI_comp]
    · have f1 : ilt (i : Int) (n : Int) = false := ilt_f (by omega)
      have e1 : i = n := by omega
      rw [e1, hR.out] at gs gh
      clear hR
      repeat' first
        | (with_reducible refine gw_bool (fun _ => ?_) (fun _ => ?_))
        | (with_reducible refine condw_bool (fun _ => ?_) (fun _ => ?_))
        | simp [*]
theorem rSides_ok {s : Stn} {p : Pos} (h : okP s p = true) (i : Int) (S : List Int) (hS : sidF s p (grp s p) i = some S) : PCall Try.prog 21 [.agg s.cs, .agg p.cs, .int .i64 i] (.agg (S.map (V.int .i64))) := by
  have hlk := lkB_of (okP_iff h).1
  have hln := lenB_ok h
  have h4 : ∃ a0 a1 c0 c1, S = [a0, a1, c0, c1] := by
    unfold sidF at hS
    split at hS
    · split at hS
      · split at hS
        · cases hS; exact sid4 _ _ _
        · cases hS
      · cases hS; exact ⟨_, _, _, _, rfl⟩
    · cases hS
  obtain ⟨a0, a1, c0, c1, rfl⟩ := h4
  obtain ⟨n, hn⟩ : ∃ n, s.qs.length = n := ⟨_, rfl⟩
  cases f0 : ilt i 0
  · cases f1 : ilt i (n : Int)
    · have hz : [a0, a1, c0, c1] = [0, 0, 0, 0] := by
        have hi : ¬ (0 ≤ i ∧ i < s.qs.length) := by have := ilt_iff'.1 f1; omega
        simp only [sidF, wfg_of h, if_true, if_neg hi] at hS
        exact (Option.some.inj hS).symm
      simp only [List.cons.injEq, and_true] at hz
      obtain ⟨rfl, rfl, rfl, rfl⟩ := hz
      clear hS
      refine pcall_cx E11_ok mixed (fun _ => none) Try.func21 rfl Try.ntmps21 Try.results21 (by simp) (by kernel_rfl) ?_
      repeat' first
        | (with_reducible refine gw_bool (fun _ => ?_) (fun _ => ?_))
        | (with_reducible refine condw_bool (fun _ => ?_) (fun _ => ?_))
        | simp [*, Stn.cs, Pos.cs]
    · have hrs : rsdF s p i = some [a0, a1, c0, c1] := by
        have hi : 0 ≤ i ∧ i < s.qs.length := by have := ilt_iff'.1 f0; have := ilt_iff.1 f1; omega
        unfold rsdF; rw [if_pos hi]; exact hS
      clear hS
      refine pcall_cx E11_ok mixed (fun _ => none) Try.func21 rfl Try.ntmps21 Try.results21 (by simp) (by kernel_rfl) ?_
      repeat' first
        | (with_reducible refine gw_bool (fun _ => ?_) (fun _ => ?_))
        | (with_reducible refine condw_bool (fun _ => ?_) (fun _ => ?_))
        | simp [*, Stn.cs, Pos.cs]
  · have hz : [a0, a1, c0, c1] = [0, 0, 0, 0] := by
      have hi : ¬ (0 ≤ i ∧ i < s.qs.length) := by have := ilt_iff.1 f0; omega
      simp only [sidF, wfg_of h, if_true, if_neg hi] at hS
      exact (Option.some.inj hS).symm
    simp only [List.cons.injEq, and_true] at hz
    obtain ⟨rfl, rfl, rfl, rfl⟩ := hz
    clear hS
    refine pcall_cx E11_ok mixed (fun _ => none) Try.func21 rfl Try.ntmps21 Try.results21 (by simp) (by kernel_rfl) ?_
    repeat' first
      | (with_reducible refine gw_bool (fun _ => ?_) (fun _ => ?_))
      | (with_reducible refine condw_bool (fun _ => ?_) (fun _ => ?_))
      | simp [*, Stn.cs, Pos.cs]
end Go.Proofs.Ytjhmphkdkclbjaa
end
section
namespace Go.Proofs.Ytjhmphkdkclbjaa
open Go.Pv Go.RowKit
set_option linter.unusedSimpArgs false
set_option linter.unusedVariables false
set_option maxRecDepth 100000
set_option maxHeartbeats 4000000
attribute [-simp] Tclo_at Tgrp_at Tchk Tpchk TcI TcB Tclo Tgrp Tsid Tnod Tlook Tbnd Tres TSd TBd

theorem ieq_sym (a b : Int) : ieq a b = ieq b a := by
  rw [Bool.eq_iff_iff, ieq_iff, ieq_iff]; exact eq_comm
/-! ### a number's place in a list -/
def idxF (l : List Int) (x : Int) : Int := match (List.range l.length).find? (fun i => ieq x (l.getD i 0)) with
  | some i => i
  | none => -1
theorem idx_hit {l : List Int} {x c : Int} {i : Nat} (hc : l[i]? = some c) (h : ieq x c = true) (hb : ∀ k, k < i → ieq x (l.getD k 0) = false) : idxF l x = i := by
  have hi := (List.getElem?_eq_some_iff.1 hc).1
  have : (List.range l.length).find? (fun i => ieq x (l.getD i 0)) = some i := by
    rw [List.find?_range_eq_some]
    refine ⟨by simp [List.getD_eq_getElem?_getD, hc, h], by simpa using hi, fun j hj => by rw [hb j hj]; rfl⟩
  rw [idxF, this]
theorem idx_miss {l : List Int} {x : Int} (hb : ∀ k, k < l.length → ieq x (l.getD k 0) = false) : idxF l x = -1 := by
  have : (List.range l.length).find? (fun i => ieq x (l.getD i 0)) = none := by
    rw [List.find?_range_eq_none]
    exact fun i hi => by rw [hb i hi]; rfl
  rw [idxF, this]
theorem idx_ok (l : List Int) (x : Int) (hl : l.length ≤ 1000000) : PCall Try.prog 87 [.list 1 (l.map i1), .int .i64 x] (.int .i64 (idxF l x)) := by
  have hhit : ∀ (i : Nat) (c : Int), l[i]? = some c → ieq x c = true → (∀ k, k < i → ieq x (l.getD k 0) = false) → idxF l x = i := fun i c => idx_hit
  have hmiss : (∀ k, k < l.length → ieq x (l.getD k 0) = false) → idxF l x = -1 := idx_miss
  obtain ⟨n, hn⟩ : ∃ n, l.length = n := ⟨_, rfl⟩
  rw [hn] at hl hmiss
  generalize idxF l x = R at hhit hmiss ⊢
  replace hhit : Hid (_) := hhit
  replace hmiss : Hid (_) := hmiss
  refine pcall_cx noTab_ok mixed (fun _ => none) Try.func87 rfl Try.ntmps87 Try.results87 (by simp) (by kernel_rfl) ?_
  repeat' first
    | (with_reducible refine gw_bool (fun _ => ?_) (fun _ => ?_))
    | (with_reducible refine condw_bool (fun _ => ?_) (fun _ => ?_))
    | simp [*]
  refine lp_go (D := (fun _ => none)) noTab_ok mixed (by kernel_rfl) [0, 1, 7] [] (α := Nat) (fun i e h => i ≤ n ∧ e 8 = .int .i64 i ∧ Hid (∀ k, k < i → ieq x (l.getD k 0) = false)) (fun i => n - i) 0 ?_ ?_
  · exact ⟨by omega, by simp, show _ from fun k hk => by omega⟩
  rintro i e h hk hkh ⟨hi, g7, hin⟩
  simp [Keep] at hk
  simp [KeepH] at hkh
  by_cases hlt : i < n
  · obtain ⟨c, hc, hc'⟩ := at_ex (l := l) (i := i) (by omega)
    have f1 : ilt (i : Int) (n : Int) = true := ilt_t (by omega)
    have w1 : IntKind.i64.wrap ((i : Int) + 1) = ((i + 1 : Nat) : Int) := wrap_succ (by omega)
    cases q : ieq x c
    · have hnx : Hid (∀ k, k < i + 1 → ieq x (l.getD k 0) = false) := show _ from fun k hk => by
        by_cases e : k = i
        · subst e; rw [List.getD_eq_getElem?_getD, hc]; exact q
        · exact hin.out k (by omega)
      clear hin hhit hmiss
      repeat' first
        | (with_reducible refine gw_bool (fun _ => ?_) (fun _ => ?_))
        | (with_reducible refine condw_bool (fun _ => ?_) (fun _ => ?_))
        | simp [*, i1]
      refine nxt_go (i + 1) (View.refl _ _) (by omega) (by simp [*, Keep, St.forget, scr, scrC]) (by simp [*, KeepH, St.forget, scr, scrC]) ?_
      exact ⟨by omega, by simp [*], hnx⟩
    · have hr := hhit.out i c hc q hin.out
      clear hin hhit hmiss
      subst hr
      repeat' first
        | (with_reducible refine gw_bool (fun _ => ?_) (fun _ => ?_))
        | (with_reducible refine condw_bool (fun _ => ?_) (fun _ => ?_))
        | simp [*, i1]
  · have f1 : ilt (i : Int) (n : Int) = false := ilt_f (by omega)
    have hr := hmiss.out (by have := hin.out; rwa [show i = n by omega] at this)
    clear hin hhit hmiss
    subst hr
    repeat' first
      | (with_reducible refine gw_bool (fun _ => ?_) (fun _ => ?_))
      | (with_reducible refine condw_bool (fun _ => ?_) (fun _ => ?_))
      | simp [*]
theorem idx_mem (l : List Int) (x : Int) : ilt (idxF l x) 0 = !decide (x ∈ l) := by
  by_cases h : x ∈ l
  · obtain ⟨i, hi, e⟩ := List.mem_iff_getElem.1 h
    cases hf : (List.range l.length).find? (fun i => ieq x (l.getD i 0)) with
    | none =>
      rw [List.find?_range_eq_none] at hf
      have := hf i hi
      simp [List.getD_eq_getElem?_getD, hi, e, ieq] at this
    | some j => simp only [idxF, hf, h, decide_true, Bool.not_true]; exact ilt_f (by omega)
  · have : idxF l x = -1 := idx_miss fun k hk => ieq_f fun e => h (by rw [e, List.getD_eq_getElem?_getD, List.getElem?_eq_getElem hk]; exact List.getElem_mem hk)
    rw [this]; simp [h, ilt]
def Tix : List V → Option V
  | [.list 1 xs, .int .i64 x] => (match decL unI1 xs with
    | some l => if l.length ≤ 1000000 then some (.int .i64 (idxF l x)) else none
    | none => none)
  | _ => none
theorem Tix_at {l : List Int} {x : Int} (h : l.length ≤ 1000000) : Tix [.list 1 (l.map i1), .int .i64 x] = some (.int .i64 (idxF l x)) := by simp [Tix, decL_map unI1_cs, h]
theorem ix_tab : ∀ vs v, Tix vs = some v → PCall Try.prog 87 vs v := by
  intro vs v h; unfold Tix at h; split at h
  · split at h
    · rename_i h1
      split at h
      · rename_i hl; cases h; rw [decL_inv unI1_inv _ _ h1]; exact idx_ok _ _ hl
      · cases h
    · cases h
  · cases h
def HI : Tab := add 87 Tix (noTab)
theorem HI_at (f : FuncId) (vs : List V) : HI.at' f vs = if f = 87 then Tix vs else noTab.at' f vs := rfl
theorem HI_fr (f : FuncId) : HI.fr f = if f = 87 then false else noTab.fr f := rfl
theorem HI_gb (f : FuncId) : HI.gb f = noTab.gb f := rfl
theorem HI_gv (f : FuncId) (vs : List V) : HI.gv f vs = noTab.gv f vs := rfl
attribute [simp] HI_at HI_fr HI_gb HI_gv Tix
theorem HI_ok : TabOK Try.prog HI := by
  refine add_ok (noTab_ok) (by kernel_rfl) ?_
  · exact ix_tab
attribute [-simp] Tix
attribute [simp] Tix_at
theorem con_ok (l : List Int) (x : Int) (hl : l.length ≤ 1000000) : PCall Try.prog 58 [.list 1 (l.map i1), .int .i64 x] (.bool (decide (x ∈ l))) := by
  have h0 := idx_mem l x
  cases hd : decide (x ∈ l)
  · rw [hd] at h0
    refine pcall_cx HI_ok mixed (fun _ => none) Try.func58 rfl Try.ntmps58 Try.results58 (by simp) (by kernel_rfl) ?_
    repeat' first
      | (with_reducible refine gw_bool (fun _ => ?_) (fun _ => ?_))
      | (with_reducible refine condw_bool (fun _ => ?_) (fun _ => ?_))
      | simp [*]
  · rw [hd] at h0
    refine pcall_cx HI_ok mixed (fun _ => none) Try.func58 rfl Try.ntmps58 Try.results58 (by simp) (by kernel_rfl) ?_
    repeat' first
      | (with_reducible refine gw_bool (fun _ => ?_) (fun _ => ?_))
      | (with_reducible refine condw_bool (fun _ => ?_) (fun _ => ?_))
      | simp [*]
def Tcon : List V → Option V
  | [.list 1 xs, .int .i64 x] => (match decL unI1 xs with
    | some l => if l.length ≤ 1000000 then some (.bool (decide (x ∈ l))) else none
    | none => none)
  | _ => none
theorem Tcon_at {l : List Int} {x : Int} (h : l.length ≤ 1000000) : Tcon [.list 1 (l.map i1), .int .i64 x] = some (.bool (decide (x ∈ l))) := by simp [Tcon, decL_map unI1_cs, h]
theorem con_tab : ∀ vs v, Tcon vs = some v → PCall Try.prog 58 vs v := by
  intro vs v h; unfold Tcon at h; split at h
  · split at h
    · rename_i h1
      split at h
      · rename_i hl; cases h; rw [decL_inv unI1_inv _ _ h1]; exact con_ok _ _ hl
      · cases h
    · cases h
  · cases h
theorem res_small {s : Stn} {p : Pos} (h : okP s p = true) : p.cl.length ≤ 1000 ∧ p.lk.length ≤ 1000 ∧ ∀ l ∈ p.lk, l.length ≤ 1000 := by
  obtain ⟨h1, h2⟩ := okP_iff h
  have hF := fine_of h1
  have hP := pfine_of h2
  have hq := hF.nq
  refine ⟨by have := hP.nc; omega, by have := hP.nk; omega, fun l hl => ?_⟩
  obtain ⟨i, hi, rfl⟩ := List.mem_iff_getElem.1 hl
  have hk := hP.nk
  obtain ⟨b, hb, _⟩ := at_ex (l := s.qs) (i := i) (by omega)
  have := (hP.row i b _ hb (List.getElem?_eq_getElem hi)).1
  have := (hF.lk b (List.mem_of_getElem? hb)).2.2.2
  omega
theorem Groups_ok {s : Stn} {p : Pos} (h : okP s p = true) : PCall Try.prog 18 [.agg s.cs, .agg p.cs] (.list 1 ((grp s p).map i1)) := by
  refine pcall_cx D5_ok mixed (fun _ => none) Try.func18 rfl Try.ntmps18 Try.results18 (by simp) (by kernel_rfl) ?_
  repeat' first
    | (with_reducible refine gw_bool (fun _ => ?_) (fun _ => ?_))
    | (with_reducible refine condw_bool (fun _ => ?_) (fun _ => ?_))
    | simp [*, Stn.cs, Pos.cs, Vu.cs]
def Tgps : List V → Option V
  | [.agg a, .agg b] => (match unStn a, unPos b with
    | some s, some p => if okP s p = true then some (.list 1 ((grp s p).map i1)) else none
    | _, _ => none)
  | _ => none
theorem Tgps_at {s : Stn} {p : Pos} (h : okP s p = true) : Tgps [.agg [.str s.nm, .list 1 (s.bs.map s1), .list 5 (s.ls.map Ln.cs), .list 6 (s.ss.map Sr.cs), .list 12 (s.qs.map By.cs)], .agg [.list 1 (p.cl.map b1), .list 1 (p.lk.map r1)]] = some (.list 1 ((grp s p).map i1)) := by
  have e1 := unStn_cs s
  have e2 := unPos_cs p
  unfold Stn.cs at e1
  unfold Pos.cs at e2
  simp [Tgps, e1, e2, h]
theorem gps_tab : ∀ vs v, Tgps vs = some v → PCall Try.prog 18 vs v := by
  intro vs v h; unfold Tgps at h; split at h
  · split at h
    · rename_i h1 h2
      split at h
      · rename_i hl; cases h; rw [unStn_inv _ _ h1, unPos_inv _ _ h2]; exact Groups_ok hl
      · cases h
    · cases h
  · cases h
attribute [simp] Tgps_at
/-! ### sections -/
structure Sc where
  bu : List Int
  me : List (Int × Int)
  mv : Bool
def p2 (c : Int × Int) : List V := [.int .i64 c.1, .int .i64 c.2]
def pC (L : List (Int × Int)) : List V := (L.map p2).flatten
theorem pC_len (L : List (Int × Int)) : (pC L).length = L.length * 2 := flat_len (sz := 2) (fun _ => rfl) L
theorem pC_pure (L : List (Int × Int)) : (pC L).any ownC = false := flat_pure (fun _ => rfl) L
theorem pC_scr (L : List (Int × Int)) (k : Nat) : (pC L).map (scrC k) = pC L := scrC_cells (pC_pure L)
theorem pC_pub (L : List (Int × Int)) (k : Nat) (b : Blk) : (pC L).map (pubC k b) = pC L := pub_cells (pC_pure L)
theorem pC_snoc (L : List (Int × Int)) (x : Int × Int) : pC (L ++ [x]) = pC L ++ [.int .i64 x.1, .int .i64 x.2] := (flat_snoc L x).symm
theorem chunks_p (L : List (Int × Int)) : chunks 2 L.length (pC L) = L.map p2 := flat_chunks (sz := 2) (fun _ => rfl) L
attribute [simp] pC_len pC_pure pC_scr pC_pub
def Sc.cs (x : Sc) : List V := [.list 1 (x.bu.map i1), .list 2 (x.me.map p2), .bool x.mv]
def sC (L : List Sc) : List V := (L.map Sc.cs).flatten
theorem sC_len (L : List Sc) : (sC L).length = L.length * 3 := flat_len (sz := 3) (fun _ => rfl) L
theorem sC_pure (L : List Sc) : (sC L).any ownC = false := flat_pure (fun _ => rfl) L
theorem sC_scr (L : List Sc) (k : Nat) : (sC L).map (scrC k) = sC L := scrC_cells (sC_pure L)
theorem sC_pub (L : List Sc) (k : Nat) (b : Blk) : (sC L).map (pubC k b) = sC L := pub_cells (sC_pure L)
theorem sC_snoc (L : List Sc) (x : Sc) : sC (L ++ [x]) = sC L ++ [.list 1 (x.bu.map i1), .list 2 (x.me.map p2), .bool x.mv] := (flat_snoc L x).symm
theorem chunks_s (L : List Sc) : chunks 3 L.length (sC L) = L.map Sc.cs := flat_chunks (sz := 3) (fun _ => rfl) L
attribute [simp] sC_len sC_pure sC_scr sC_pub
def unP2 : List V → Option (Int × Int)
  | [.int .i64 a, .int .i64 b] => some (a, b)
  | _ => none
theorem unP2_cs (c : Int × Int) : unP2 (p2 c) = some c := rfl
theorem unP2_inv : ∀ c a, unP2 c = some a → c = p2 a := by
  intro c a h; unfold unP2 at h; split at h
  · cases h; rfl
  · cases h
def unSc : List V → Option Sc
  | [.list 1 a, .list 2 b, .bool c] => (match decL unI1 a, decL unP2 b with
    | some a, some b => some ⟨a, b, c⟩
    | _, _ => none)
  | _ => none
theorem unSc_cs (x : Sc) : unSc x.cs = some x := by simp [unSc, Sc.cs, decL_map unI1_cs, decL_map unP2_cs]
theorem unSc_inv : ∀ c a, unSc c = some a → c = Sc.cs a := by
  intro c a h; unfold unSc at h; split at h
  · split at h
    · rename_i h1 h2
      cases h
      rw [decL_inv unI1_inv _ _ h1, decL_inv unP2_inv _ _ h2]; rfl
    · cases h
  · cases h
/-- The buses of a group. -/
def busN (g : List Int) (lo m : Nat) : List Int := ((List.range m).filter (fun i : Nat => g[i]? == some (lo : Int))).map fun i : Nat => (i : Int)
theorem busN_step {g : List Int} {lo i : Nat} {x : Int} (h : g[i]? = some x) : busN g lo (i + 1) = busN g lo i ++ (if ieq x (lo : Int) = true then [(i : Int)] else []) := by
  simp only [busN, List.range_succ, List.filter_append, List.map_append]
  congr 1
  by_cases e : x = (lo : Int)
  · subst e; simp [h, ieq]
  · have e1 : ieq x (lo : Int) = false := ieq_f e
    simp [h, e, e1]
theorem busN_len (g : List Int) (lo i : Nat) : (busN g lo i).length ≤ i := by
  simp only [busN, List.length_map]
  exact Nat.le_trans (List.length_filter_le _ _) (by simp)
theorem busN_mem {g : List Int} {lo : Nat} {b : Int} (hb : 0 ≤ b ∧ b < g.length) : b ∈ busN g lo g.length ↔ g0 g b = lo := by
  obtain ⟨u, rfl⟩ := Int.eq_ofNat_of_zero_le hb.1
  have hu : u < g.length := by omega
  simp only [busN, List.mem_map, List.mem_filter, List.mem_range, beq_iff_eq]
  constructor
  · rintro ⟨i, ⟨_, h⟩, e⟩
    have : i = u := by omega
    subst this
    simp [g0, gAt, h]
  · intro h
    refine ⟨u, ⟨hu, ?_⟩, rfl⟩
    rw [List.getElem?_eq_getElem hu]
    simpa [g0, gAt, hu] using h
/-- The sign of a bay, by the buses of the section. -/
def sgB (B : List Int) (b : By) : Int := if ieq b.kind 3 = true then (match b.lks with
  | a :: _ => if decide (a.bus ∈ B) = true then 1 else -1
  | [] => 1) else 1
def mvR (B : List Int) (b : By) (l : List Int) : Bool := (b.lks.zip l).any fun y => ieq y.2 2 && decide (y.1.bus ∈ B)
def mvB (s : Stn) (p : Pos) (B : List Int) : Bool := (s.qs.zip p.lk).any fun x => mvR B x.1 x.2
def sgAt (s : Stn) (B : List Int) (k : Int) : Int := match s.qs[k.toNat]? with
  | some b => sgB B b
  | none => 1
def memF (s : Stn) (q : Pos) (g : List Int) (lo : Nat) (B : List Int) : List (Int × Int) := (bndF s q g (nodF s g 1 lo)).map fun k => (k, sgAt s B k)
def secX (s : Stn) (p q : Pos) (g : List Int) (lo : Nat) : Sc := ⟨busN g lo g.length, memF s q g lo (busN g lo g.length), mvB s p (busN g lo g.length)⟩
def secN (s : Stn) (p q : Pos) (g : List Int) (m : Nat) : List Sc := ((List.range m).filter (fun i : Nat => g[i]? == some (i : Int))).map (secX s p q g)
theorem secN_step {s : Stn} {p q : Pos} {g : List Int} {i : Nat} {x : Int} (h : g[i]? = some x) : secN s p q g (i + 1) = secN s p q g i ++ (if ieq x (i : Int) = true then [secX s p q g i] else []) := by
  simp only [secN, List.range_succ, List.filter_append, List.map_append]
  congr 1
  by_cases e : x = (i : Int)
  · subst e; simp [h, ieq]
  · have e1 : ieq x (i : Int) = false := ieq_f e
    simp [h, e, e1]
theorem secN_len (s : Stn) (p q : Pos) (g : List Int) (i : Nat) : (secN s p q g i).length ≤ i := by
  simp only [secN, List.length_map]
  exact Nat.le_trans (List.length_filter_le _ _) (by simp)
def secF (s : Stn) (p : Pos) : List Sc := secN s p (resP p true) (grp s (resP p true)) s.bs.length
end Go.Proofs.Ytjhmphkdkclbjaa
end
section
namespace Go.Proofs.Ytjhmphkdkclbjaa
open Go.Pv Go.RowKit
set_option linter.unusedSimpArgs false
set_option linter.unusedVariables false
set_option maxRecDepth 100000
set_option maxHeartbeats 4000000
attribute [-simp] Tclo_at Tgrp_at Tchk Tpchk TcI TcB Tclo Tgrp Tsid Tnod Tlook Tbnd Tres TSd TBd Tix

def HC : Tab := add 58 Tcon (add 18 Tgps (D6))
theorem HC_at (f : FuncId) (vs : List V) : HC.at' f vs = if f = 58 then Tcon vs else if f = 18 then Tgps vs else D6.at' f vs := rfl
theorem HC_fr (f : FuncId) : HC.fr f = if f = 58 then false else if f = 18 then false else D6.fr f := rfl
theorem HC_gb (f : FuncId) : HC.gb f = D6.gb f := rfl
theorem HC_gv (f : FuncId) (vs : List V) : HC.gv f vs = D6.gv f vs := rfl
attribute [simp] HC_at HC_fr HC_gb HC_gv Tcon Tgps
theorem HC_ok : TabOK Try.prog HC := by
  refine add_ok (add_ok (D6_ok) (by kernel_rfl) ?_) (by kernel_rfl) ?_
  · exact gps_tab
  · exact con_tab
attribute [-simp] Tcon Tgps
attribute [simp] Tcon_at
theorem sign_ok (b : By) (B : List Int) (hB : B.length ≤ 1000000) (hb : b.lks ≠ []) : PCall Try.prog 40 [.agg b.cs, .list 1 (B.map i1)] (.int .i64 (sgB B b)) := by
  obtain ⟨lks, hlk⟩ : ∃ lks, b.lks = lks := ⟨_, rfl⟩
  rw [hlk] at hb
  match lks, hb with
  | a :: t, _ =>
    have hT := Tcon_at (x := a.bus) hB
    cases k3 : ieq b.kind 3
    · have hv : sgB B b = 1 := by simp [sgB, k3]
      rw [hv]
      refine pcall_cx HC_ok mixed (fun _ => none) Try.func40 rfl Try.ntmps40 Try.results40 (by simp) (by kernel_rfl) ?_
      repeat' first
        | (with_reducible refine gw_bool (fun _ => ?_) (fun _ => ?_))
        | (with_reducible refine condw_bool (fun _ => ?_) (fun _ => ?_))
        | simp [*, By.cs, Lk.cs]
    · have hv : sgB B b = if decide (a.bus ∈ B) = true then 1 else -1 := by simp [sgB, k3, hlk]
      rw [hv]
      clear hv
      generalize decide (a.bus ∈ B) = X at hT ⊢
      cases X
      · refine pcall_cx HC_ok mixed (fun _ => none) Try.func40 rfl Try.ntmps40 Try.results40 (by simp) (by kernel_rfl) ?_
        repeat' first
          | (with_reducible refine gw_bool (fun _ => ?_) (fun _ => ?_))
          | (with_reducible refine condw_bool (fun _ => ?_) (fun _ => ?_))
          | simp [*, By.cs, Lk.cs]
      · refine pcall_cx HC_ok mixed (fun _ => none) Try.func40 rfl Try.ntmps40 Try.results40 (by simp) (by kernel_rfl) ?_
        repeat' first
          | (with_reducible refine gw_bool (fun _ => ?_) (fun _ => ?_))
          | (with_reducible refine condw_bool (fun _ => ?_) (fun _ => ?_))
          | simp [*, By.cs, Lk.cs]
def Tsg : List V → Option V
  | [.agg a, .list 1 xs] => (match unBy a, decL unI1 xs with
    | some b, some B => if B.length ≤ 1000000 ∧ b.lks ≠ [] then some (.int .i64 (sgB B b)) else none
    | _, _ => none)
  | _ => none
theorem Tsg_at {b : By} {B : List Int} (hB : B.length ≤ 1000000) (hb : b.lks ≠ []) : Tsg [.agg b.cs, .list 1 (B.map i1)] = some (.int .i64 (sgB B b)) := by
  simp only [Tsg, unBy_cs, decL_map unI1_cs]
  exact if_pos ⟨hB, hb⟩
theorem sg_tab : ∀ vs v, Tsg vs = some v → PCall Try.prog 40 vs v := by
  intro vs v h; unfold Tsg at h; split at h
  · split at h
    · rename_i h1 h2
      split at h
      · rename_i hl; cases h; rw [unBy_inv _ _ h1, decL_inv unI1_inv _ _ h2]; exact sign_ok _ _ hl.1 hl.2
      · cases h
    · cases h
  · cases h
theorem mv_ok {s : Stn} {p : Pos} (hF : Fine s) (hP : PFine s p) (B : List Int) (hB : B.length ≤ 1000000) : PCall Try.prog 41 [.agg s.cs, .agg p.cs, .list 1 (B.map i1)] (.bool (mvB s p B)) := by
  have hT : Hid (∀ x : Int, _) := show _ from fun x => Tcon_at (x := x) hB
  have hnq := hF.nq
  have hnk := hP.nk
  obtain ⟨n, hn⟩ : ∃ n, s.qs.length = n := ⟨_, rfl⟩
  rw [hn] at hnq hnk
  obtain ⟨R, hR⟩ : ∃ R, mvB s p B = R := ⟨_, rfl⟩
  rw [hR]
  replace hR : Hid ((s.qs.zip p.lk).any (fun x => mvR B x.1 x.2) = R) := hR
  refine pcall_cx HC_ok mixed (fun _ => none) Try.func41 rfl Try.ntmps41 Try.results41 (by simp) (by kernel_rfl) ?_
  repeat' first
    | (with_reducible refine gw_bool (fun _ => ?_) (fun _ => ?_))
    | (with_reducible refine condw_bool (fun _ => ?_) (fun _ => ?_))
    | simp [*, Stn.cs, Pos.cs]
  refine lp_go (D := (fun _ => none)) HC_ok mixed (by kernel_rfl) [2, 4, 12, 13] [3, 4, 8, 10] (α := Nat) (fun i e h => i ≤ n ∧ e 14 = .int .i64 i ∧ Hid (((s.qs.zip p.lk).take i).any (fun x => mvR B x.1 x.2) = false)) (fun i => n - i) 0 ?_ ?_
  · exact ⟨by omega, by simp, show _ = _ by simp⟩
  rintro i e h hk hkh ⟨hi, g7, hin⟩
  simp [Keep] at hk
  simp [KeepH] at hkh
  by_cases hlt : i < n
  · obtain ⟨b, hb, hb'⟩ := at_ex (l := s.qs) (i := i) (by omega)
    obtain ⟨l, hl, hl'⟩ := at_ex (l := p.lk) (i := i) (by omega)
    obtain ⟨hll, -⟩ := hP.row i b l hb hl
    obtain ⟨-, -, hb1, hb2⟩ := hF.lk b (List.mem_of_getElem? hb)
    have hz : (s.qs.zip p.lk)[i]? = some (b, l) := by simp [List.getElem?_zip_eq_some, hb, hl]
    have f1 : ilt (i : Int) (n : Int) = true := ilt_t (by omega)
    have w1 : IntKind.i64.wrap ((i : Int) + 1) = ((i + 1 : Nat) : Int) := wrap_succ (by omega)
    have hnx : mvR B b l = false → Hid (((s.qs.zip p.lk).take (i + 1)).any (fun x => mvR B x.1 x.2) = false) := fun h => show _ = _ by
      rw [take_snoc hz, List.any_append, hin.out]; simp [h]
    have hyes : mvR B b l = true → R = true := fun h => by
      rw [← hR.out, List.any_eq_true]
      exact ⟨(b, l), List.mem_of_getElem? hz, h⟩
    obtain ⟨m, hm⟩ : ∃ m, b.lks.length = m := ⟨_, rfl⟩
    rw [hm] at hll hb1 hb2
    have hlt2 : i < p.lk.length := by omega
    replace hnx : Hid (_) := hnx
    replace hyes : Hid (_) := hyes
    clear hin hR
    repeat' first
      | (with_reducible refine gw_bool (fun _ => ?_) (fun _ => ?_))
      | (with_reducible refine condw_bool (fun _ => ?_) (fun _ => ?_))
      | simp [*, By.cs]
    refine lp_go (D := (fun _ => none)) HC_ok mixed (by kernel_rfl) [2, 4, 7, 8, 12, 13, 14, 15, 16, 17, 18, 19, 20, 21] [3, 4, 8, 10] (α := Nat) (fun j e h => j ≤ m ∧ e 22 = .int .i64 j ∧ Hid (((b.lks.zip l).take j).any (fun y => ieq y.2 2 && decide (y.1.bus ∈ B)) = false)) (fun j => m - j) 0 ?_ ?_
    · exact ⟨by omega, by simp, show _ = _ by simp⟩
    have hk0 := hk
    have hkh0 := hkh
    have g70 := g7
    clear hk hkh g7
    rintro j e h hk hkh ⟨hj, g7, hjn⟩
    simp [Keep, hk0, hkh0, g70] at hk
    simp [KeepH, hk0, hkh0] at hkh
    by_cases hjlt : j < m
    · obtain ⟨a, ha, ha'⟩ := at_ex (l := b.lks) (i := j) (by omega)
      obtain ⟨x, hx, hx'⟩ := at_ex (l := l) (i := j) (by omega)
      have hz2 : (b.lks.zip l)[j]? = some (a, x) := by simp [List.getElem?_zip_eq_some, ha, hx]
      have f2 : ilt (j : Int) (m : Int) = true := ilt_t (by omega)
      have w2 : IntKind.i64.wrap ((j : Int) + 1) = ((j + 1 : Nat) : Int) := wrap_succ (by omega)
      have hTa := hT.out a.bus
      have hjx : (ieq x 2 && decide (a.bus ∈ B)) = false → Hid (((b.lks.zip l).take (j + 1)).any (fun y => ieq y.2 2 && decide (y.1.bus ∈ B)) = false) := fun h => show _ = _ by
        rw [take_snoc hz2, List.any_append, hjn.out]; simp only [List.any_cons, List.any_nil, Bool.or_false, Bool.false_or]; exact h
      have hjy : (ieq x 2 && decide (a.bus ∈ B)) = true → R = true := fun h => hyes.out (by
        rw [mvR, List.any_eq_true]; exact ⟨(a, x), List.mem_of_getElem? hz2, h⟩)
      have hlt3 : j < l.length := by omega
      generalize decide (a.bus ∈ B) = X at hTa hjx hjy
      clear hjn hnx hyes hT
      cases hq : ieq x 2
      · have hq1 := hjx (by rw [hq]; rfl)
        clear hjx hjy
        repeat' first
          | (with_reducible refine gw_bool (fun _ => ?_) (fun _ => ?_))
          | (with_reducible refine condw_bool (fun _ => ?_) (fun _ => ?_))
          | simp [*, Lk.cs, r1, i1]
        refine nxt_go (j + 1) ((View.forget _ _ 10)) (by omega) (by simp [*, Keep, St.forget, scr, scrC, usesC, usesA]) (by simp [*, KeepH, St.forget, scr, scrC]) ?_
        exact ⟨by omega, by simp [*, St.forget, scr, scrC], hq1⟩
      · cases X
        · have hq1 := hjx (by rw [hq]; rfl)
          clear hjx hjy
          repeat' first
            | (with_reducible refine gw_bool (fun _ => ?_) (fun _ => ?_))
            | (with_reducible refine condw_bool (fun _ => ?_) (fun _ => ?_))
            | simp [*, Lk.cs, r1, i1]
          refine nxt_go (j + 1) ((View.forget _ _ 10)) (by omega) (by simp [*, Keep, St.forget, scr, scrC, usesC, usesA]) (by simp [*, KeepH, St.forget, scr, scrC]) ?_
          exact ⟨by omega, by simp [*, St.forget, scr, scrC], hq1⟩
        · have hq1 := hjy (by rw [hq]; rfl)
          clear hjx hjy
          subst hq1
          repeat' first
            | (with_reducible refine gw_bool (fun _ => ?_) (fun _ => ?_))
            | (with_reducible refine condw_bool (fun _ => ?_) (fun _ => ?_))
            | simp [*, Lk.cs, r1, i1]
    · have f2 : ilt (j : Int) (m : Int) = false := ilt_f (by omega)
      have hq := hnx.out (by
        have := hjn.out
        rw [List.take_of_length_le (by simp; omega)] at this
        exact this)
      clear hjn hnx hyes hT
      repeat' first
        | (with_reducible refine gw_bool (fun _ => ?_) (fun _ => ?_))
        | (with_reducible refine condw_bool (fun _ => ?_) (fun _ => ?_))
        | simp [*]
      refine nxt_go (i + 1) ((View.forget _ _ 8)) (by omega) (by simp [*, Keep, St.forget, scr, scrC, usesC, usesA]) (by simp [*, KeepH, St.forget, scr, scrC]) ?_
      exact ⟨by omega, by simp [*, St.forget, scr, scrC], hq⟩
  · have f1 : ilt (i : Int) (n : Int) = false := ilt_f (by omega)
    have hRf : R = false := by
      have := hin.out
      rw [List.take_of_length_le (by simp; omega)] at this
      rw [← hR.out]; exact this
    clear hin hR hT
    subst hRf
    repeat' first
      | (with_reducible refine gw_bool (fun _ => ?_) (fun _ => ?_))
      | (with_reducible refine condw_bool (fun _ => ?_) (fun _ => ?_))
      | simp [*]
def Tmv : List V → Option V
  | [.agg a, .agg b, .list 1 xs] => (match unStn a, unPos b, decL unI1 xs with
    | some s, some p, some B => if okP s p = true ∧ B.length ≤ 1000000 then some (.bool (mvB s p B)) else none
    | _, _, _ => none)
  | _ => none
theorem Tmv_at {s : Stn} {p : Pos} {B : List Int} (h : okP s p = true) (hB : B.length ≤ 1000000) : Tmv [.agg [.str s.nm, .list 1 (s.bs.map s1), .list 5 (s.ls.map Ln.cs), .list 6 (s.ss.map Sr.cs), .list 12 (s.qs.map By.cs)], .agg [.list 1 (p.cl.map b1), .list 1 (p.lk.map r1)], .list 1 (B.map i1)] = some (.bool (mvB s p B)) := by
  have e1 := unStn_cs s
  have e2 := unPos_cs p
  unfold Stn.cs at e1
  unfold Pos.cs at e2
  simp [Tmv, e1, e2, decL_map unI1_cs, h, hB]
theorem mv_tab : ∀ vs v, Tmv vs = some v → PCall Try.prog 41 vs v := by
  intro vs v h; unfold Tmv at h; split at h
  · split at h
    · rename_i h1 h2 h3
      split at h
      · rename_i hl
        cases h; rw [unStn_inv _ _ h1, unPos_inv _ _ h2, decL_inv unI1_inv _ _ h3]
        exact mv_ok (fine_of (okP_iff hl.1).1) (pfine_of (okP_iff hl.1).2) _ hl.2
      · cases h
    · cases h
  · cases h
def HS : Tab := add 40 Tsg (add 41 Tmv (HC))
theorem HS_at (f : FuncId) (vs : List V) : HS.at' f vs = if f = 40 then Tsg vs else if f = 41 then Tmv vs else HC.at' f vs := rfl
theorem HS_fr (f : FuncId) : HS.fr f = if f = 40 then false else if f = 41 then false else HC.fr f := rfl
theorem HS_gb (f : FuncId) : HS.gb f = HC.gb f := rfl
theorem HS_gv (f : FuncId) (vs : List V) : HS.gv f vs = HC.gv f vs := rfl
attribute [simp] HS_at HS_fr HS_gb HS_gv Tmv Tsg
theorem HS_ok : TabOK Try.prog HS := by
  refine add_ok (add_ok (HC_ok) (by kernel_rfl) ?_) (by kernel_rfl) ?_
  · exact mv_tab
  · exact sg_tab
attribute [-simp] Tsg Tmv
end Go.Proofs.Ytjhmphkdkclbjaa
end
section
namespace Go.Proofs.Ytjhmphkdkclbjaa
open Go.Pv Go.RowKit
set_option linter.unusedSimpArgs false
set_option linter.unusedVariables false
set_option maxRecDepth 100000
set_option maxHeartbeats 8000000
attribute [-simp] Tclo_at Tgrp_at Tchk Tpchk TcI TcB Tclo Tgrp Tsid Tnod Tlook Tbnd Tres TSd TBd Tix Tcon Tgps Tsg Tmv

def ofE (s : Stn) (p : Pos) : Int := if chkF s = 0 then posE s p else chkF s
def ofF (s : Stn) (p : Pos) : List Sc := if okP s p = true then secF s p else []
def ofW (s : Stn) (p : Pos) : V := .tup [.list 3 ((ofF s p).map Sc.cs), .int .i64 (ofE s p)]
theorem wk_nil3 {e : V} : Wk (.tup [.nils, e]) (.tup [.list 3 [], e]) := Wk.tup (.cons (Wk.nils 3) (.cons (Wk.refl _) .nil))
theorem of_bad {s : Stn} {p : Pos} (h : okP s p = false) : ofF s p = [] := by simp [ofF, h]
theorem Of_bad {s : Stn} {p : Pos} (hl : lenB s p = true) (h : okP s p = false) : PCall Try.prog 12 [.agg s.cs, .agg p.cs] (ofW s p) := by
  rw [ofW, of_bad h]
  refine PCall.weaken ?_ (WkL.refl _) wk_nil3
  cases c1 : ieq (chkF s) 0
  · have hv : ofE s p = chkF s := by rw [ofE, if_neg (ieq_iff'.1 c1)]
    rw [hv]
    clear h
    refine pcall_cx HS_ok mixed (fun _ => none) Try.func12 rfl Try.ntmps12 Try.results12 (by simp) (by kernel_rfl) ?_
    repeat' first
      | (with_reducible refine gw_bool (fun _ => ?_) (fun _ => ?_))
      | (with_reducible refine condw_bool (fun _ => ?_) (fun _ => ?_))
      | simp [*, Stn.cs, Pos.cs]
  · have c1' := ieq_iff.1 c1
    have hv : ofE s p = posE s p := by rw [ofE, if_pos c1']
    have c2 : ieq (posE s p) 0 = false := ieq_f fun e => by simp [okP, c1', e] at h
    rw [hv]
    clear h c1'
    refine pcall_cx HS_ok mixed (fun _ => none) Try.func12 rfl Try.ntmps12 Try.results12 (by simp) (by kernel_rfl) ?_
    repeat' first
      | (with_reducible refine gw_bool (fun _ => ?_) (fun _ => ?_))
      | (with_reducible refine condw_bool (fun _ => ?_) (fun _ => ?_))
      | simp [*, Stn.cs, Pos.cs]
theorem chunks_pure (n : Nat) : chunks 1 n ([] : List V) = List.replicate n [] := by
  induction n with
  | zero => rfl
  | succ n ih => simp [chunks, ih, List.replicate_succ]
theorem Of_good {s : Stn} {p : Pos} (h : okP s p = true) : PCall Try.prog 12 [.agg s.cs, .agg p.cs] (ofW s p) := by
  have hlb := lenB_of (fine_of (okP_iff h).1) (pfine_of (okP_iff h).2)
  have c1 := (okP_iff h).1
  have c2 := (okP_iff h).2
  have hF := fine_of c1
  have hv : ofW s p = .tup [.list 3 ((secN s p (resP p true) (grp s (resP p true)) s.bs.length).map Sc.cs), .int .i64 0] := by rw [ofW, ofF, if_pos h, ofE, if_pos c1, c2]; rfl
  rw [hv]
  clear hv
  have hTr := Tres_at (c := true) (res_small h)
  have hok1 := okP_res c1 c2
  have hTg := Tgps_at hok1
  have hgl : (grp s (resP p true)).length = s.bs.length := by rw [grp, grpN_len]
  have hTb : Hid (∀ lo : Int, _) := show _ from fun lo => TBd_at (k := 1) (o := lo) hok1
  have hTm : Hid (∀ B : List Int, _) := show _ from fun B hB => Tmv_at (B := B) h hB
  have hbq : Hid (∀ (N : Option (Int × Int)) (j : Nat) (x : Int), (bndF s (resP p true) (grp s (resP p true)) N)[j]? = some x → ∃ u : Nat, x = u ∧ u < s.qs.length) := show _ from fun N j x hx => by
    cases N with
    | none => simp [bndF] at hx
    | some nd =>
      simp only [bndF, bndN] at hx
      have := List.mem_of_getElem? hx
      simp only [List.mem_map, List.mem_filter, List.mem_range] at this
      obtain ⟨i, ⟨hi, _⟩, rfl⟩ := this
      exact ⟨i, rfl, hi⟩
  have hbl : Hid (∀ N : Option (Int × Int), (bndF s (resP p true) (grp s (resP p true)) N).length ≤ s.qs.length) := show _ from fun N => by
    cases N with
    | none => simp [bndF]
    | some n => exact bndN_len _ _ _ _ _
  generalize resP p true = Q at hTr hTg hTb hgl hbq hbl ⊢
  generalize grp s Q = G at hTg hTb hgl hbq hbl ⊢
  simp only [Pos.cs] at hTr
  have hnq := hF.nq
  have hnb := hF.nb
  obtain ⟨nb, hnbe⟩ : ∃ n, s.bs.length = n := ⟨_, rfl⟩
  rw [hnbe] at hgl hnb ⊢
  obtain ⟨n, hn⟩ : ∃ n, s.qs.length = n := ⟨_, rfl⟩
  rw [hn] at hnq hbq hbl
  have hch := chunks_s (secN s p Q G nb)
  have hpu := sC_pure (secN s p Q G nb)
  obtain ⟨R, hR⟩ : ∃ R, secN s p Q G nb = R := ⟨_, rfl⟩
  rw [hR] at hch hpu ⊢
  replace hR : Hid (secN s p Q G nb = R) := hR
  have hlk : Hid (∀ b ∈ s.qs, b.lks ≠ []) := show _ from fun b hb e => by have := (hF.lk b hb).2.2.1; rw [e] at this; simp at this
  clear hok1 h hF
  refine pcall_cx HS_ok mixed (fun _ => none) Try.func12 rfl Try.ntmps12 Try.results12 (by simp) (by kernel_rfl) ?_
  repeat' first
    | (with_reducible refine gw_bool (fun _ => ?_) (fun _ => ?_))
    | (with_reducible refine condw_bool (fun _ => ?_) (fun _ => ?_))
    | simp [*, Stn.cs, Pos.cs]
  refine lp_view (View.nilOwn _ (t := 10) (key := 96) 3 45 (by simp) (by simp)) ?_
  refine lp_go (D := (fun _ => none)) HS_ok mixed (by kernel_rfl) [2, 3, 8, 9, 34] [2, 3, 8, 12, 57, 58, 83, 84, 95] (α := Nat) (fun i e h => i ≤ nb ∧ e 35 = .int .i64 i ∧ e 10 = .sl 96 0 (secN s p Q G i).length 3 ∧ h 96 = some ⟨45, sC (secN s p Q G i)⟩) (fun i => nb - i) 0 ?_ ?_
  · exact ⟨by omega, by simp, by simp [secN], by simp [secN, sC]⟩
  rintro i e h hk hkh ⟨hi, g7, g10, g96⟩
  simp [Keep] at hk
  simp [KeepH] at hkh
  clear hTr hTg
  by_cases hlt : i < nb
  · obtain ⟨x, hx, hx'⟩ := at_ex (l := G) (i := i) (by omega)
    have f1 : ilt (i : Int) (nb : Int) = true := ilt_t (by omega)
    have w1 : IntKind.i64.wrap ((i : Int) + 1) = ((i + 1 : Nat) : Int) := wrap_succ (by omega)
    have hst : Hid (secN s p Q G (i + 1) = secN s p Q G i ++ (if ieq x (i : Int) = true then [secX s p Q G i] else [])) := secN_step hx
    have hll := secN_len s p Q G i
    generalize secN s p Q G i = C at g10 g96 hst hll
    clear hR hch hpu
    cases q1 : ieq x (i : Int)
    · clear hTb hTm
      repeat' first
        | (with_reducible refine gw_bool (fun _ => ?_) (fun _ => ?_))
        | (with_reducible refine condw_bool (fun _ => ?_) (fun _ => ?_))
        | simp [*, i1]
      refine nxt_go (i + 1) (View.refl _ _) (by omega) (by simp [*, Keep, St.forget, scr, scrC]) (by simp [*, KeepH, St.forget, scr, scrC]) ?_
      refine ⟨by omega, by simp [*], ?_, ?_⟩
      · rw [hst.out]; simp [*]
      · rw [hst.out]; simp [*]
    have hTbi := hTb.out i
    have hTmi := hTm.out (busN G i nb) (by have := busN_len G i nb; omega)
    have hbqi := hbq.out (nodF s G 1 i)
    have hbli := hbl.out (nodF s G 1 i)
    have hX : secX s p Q G i = ⟨busN G i nb, (bndF s Q G (nodF s G 1 i)).map (fun k => (k, sgAt s (busN G i nb) k)), mvB s p (busN G i nb)⟩ := by rw [secX, hgl]; rfl
    rw [q1, hX] at hst
    generalize bndF s Q G (nodF s G 1 i) = K at hTbi hbqi hbli hst
    simp only [if_true] at hst
    clear hTb hTm hbq hbl hX
    replace hTmi : Hid (_) := hTmi
    replace hbqi : Hid (_) := hbqi
    repeat' first
      | (with_reducible refine gw_bool (fun _ => ?_) (fun _ => ?_))
      | (with_reducible refine condw_bool (fun _ => ?_) (fun _ => ?_))
      | simp [*, i1]
    refine lp_view (View.nilAt _ (t := 12) (o := 0) (key := 12) (key' := 58) (i := 0) (blk := ⟨45, [.nils, .nils, .bool false]⟩) 1 3 (by simp) (by simp) (by simp) (by simp [*])) ?_
    refine lp_view (View.nilAt _ (t := 12) (o := 0) (key := 12) (key' := 84) (i := 1) (blk := ⟨45, [.sl 58 0 0 1, .nils, .bool false]⟩) 2 82 (by simp) (by simp) (by simp) (by simp [*])) ?_
    refine lp_go (D := (fun _ => none)) HS_ok mixed (by kernel_rfl) [2, 3, 8, 9, 10, 11, 12, 34, 35, 36, 37, 38, 39, 40, 41, 42, 43, 44, 45, 10] [2, 3, 8, 57, 83, 84, 95, 96, 96] (α := Nat) (fun k e h => k ≤ nb ∧ e 46 = .int .i64 k ∧ h 12 = some ⟨45, [.sl 58 0 (busN G i k).length 1, .sl 84 0 0 2, .bool false]⟩ ∧ h 58 = some ⟨3, (busN G i k).map (V.int .i64)⟩) (fun k => nb - k) 0 ?_ ?_
    · exact ⟨by omega, by simp, by simp [busN], by simp [busN]⟩
    have hk0 := hk
    have hkh0 := hkh
    have g70 := g7
    have g100 := g10
    have g960 := g96
    clear hk hkh g7 g10 g96
    rintro k e h hk hkh ⟨hki, g46, g12, g58⟩
    simp [Keep, hk0, hkh0, g70, g100] at hk
    simp [KeepH, hk0, hkh0, g960] at hkh
    by_cases hkl : k < nb
    · obtain ⟨y, hy, hy'⟩ := at_ex (l := G) (i := k) (by omega)
      have f2 : ilt (k : Int) (nb : Int) = true := ilt_t (by omega)
      have w2 : IntKind.i64.wrap ((k : Int) + 1) = ((k + 1 : Nat) : Int) := wrap_succ (by omega)
      have hsb : Hid (busN G i (k + 1) = busN G i k ++ (if ieq y (i : Int) = true then [(k : Int)] else [])) := busN_step hy
      have hbb := busN_len G i k
      generalize busN G i k = B at g12 g58 hsb hbb
      have hsB := scr_i1 B
      have f5 : (B.length + 1) * 8 ≤ 140737488355328 := by omega
      have f6 : B.length + 1 ≤ 9223372036854775807 := by omega
      clear hst hTmi hTbi hbqi hlk
      cases q2 : ieq y (i : Int)
      · skip
        repeat' first
          | (with_reducible refine gw_bool (fun _ => ?_) (fun _ => ?_))
          | (with_reducible refine condw_bool (fun _ => ?_) (fun _ => ?_))
          | simp [*, i1]
        refine nxt_go (k + 1) (View.refl _ _) (by omega) (by simp [*, Keep, St.forget, scr, scrC]) (by simp [*, KeepH, St.forget, scr, scrC]) ?_
        refine ⟨by omega, by simp [*], ?_, ?_⟩
        · rw [hsb.out]; simp [*]
        · rw [hsb.out]; simp [*]
      · skip
        repeat' first
          | (with_reducible refine gw_bool (fun _ => ?_) (fun _ => ?_))
          | (with_reducible refine condw_bool (fun _ => ?_) (fun _ => ?_))
          | simp [*, i1, appendV, srcCells, St.forget, scr, scrC, scrI_comp, setsV]
        refine nxt_go (k + 1) ((View.forget _ _ 57)) (by omega) (by simp [*, Keep, St.forget, scr, scrC, usesC, usesA]) (by simp [*, KeepH, St.forget, scr, scrC]) ?_
        refine ⟨by omega, by simp [*, St.forget, scr, scrC], ?_, ?_⟩
        · rw [hsb.out]; simp [*, St.forget, scr, scrC, scrI_comp]
        · rw [hsb.out]; simp [*, St.forget, scr, scrC, scrI_comp]
    have f2 : ilt (k : Int) (nb : Int) = false := ilt_f (by omega)
    have e2 : k = nb := by omega
    rw [e2] at g12 g58
    have hbb := busN_len G i nb
    have hsg : ∀ (j u : Nat) (b : By), K[j]? = some (u : Int) → s.qs[u]? = some b → (K.take (j + 1)).map (fun k => (k, sgAt s (busN G i nb) k)) = (K.take j).map (fun k => (k, sgAt s (busN G i nb) k)) ++ [((u : Int), sgB (busN G i nb) b)] := fun j u b hj hb => by
      rw [take_snoc hj]; simp [sgAt, hb]
    have hTs : ∀ b, b ∈ s.qs → Tsg [.agg b.cs, .list 1 ((busN G i nb).map i1)] = some (.int .i64 (sgB (busN G i nb) b)) := fun b hb => Tsg_at (by omega) (hlk.out b hb)
    have hm0 : ((K.take 0).map (fun k => (k, sgAt s (busN G i nb) k))) = [] := by simp
    have hml : ∀ j, ((K.take j).map (fun k => (k, sgAt s (busN G i nb) k))).length ≤ K.length := fun j => by simp [List.length_take]; omega
    have hme : (K.take K.length).map (fun k => (k, sgAt s (busN G i nb) k)) = K.map (fun k => (k, sgAt s (busN G i nb) k)) := by rw [List.take_length]
    have hchB := chunks_i1 (busN G i nb)
    have hpB := pure_i1 (busN G i nb)
    generalize hMM : (fun k => (k, sgAt s (busN G i nb) k)) = M at hst hsg hm0 hml hme
    clear hMM
    generalize busN G i nb = B at g12 g58 hsg hTs hTmi hst hbb hchB hpB
    have hsB := scr_i1 B
    obtain ⟨nK, hnK⟩ : ∃ n, K.length = n := ⟨_, rfl⟩
    rw [hnK] at hbli hml hme
    replace hsg : Hid (_) := hsg
    replace hTs : Hid (_) := hTs
    replace hml : Hid (_) := hml
    replace hme : Hid (_) := hme
    replace hst : Hid (_) := hst
    clear hkl hki
    repeat' first
      | (with_reducible refine gw_bool (fun _ => ?_) (fun _ => ?_))
      | (with_reducible refine condw_bool (fun _ => ?_) (fun _ => ?_))
      | simp [*]
    refine lp_go (D := (fun _ => none)) HS_ok mixed (by kernel_rfl) [2, 3, 8, 9, 10, 11, 12, 34, 35, 65, 66] [2, 3, 8, 57, 58, 83, 95, 96, 58, 96] (α := Nat) (fun j e h => j ≤ nK ∧ e 67 = .int .i64 j ∧ h 12 = some ⟨45, [.sl 58 0 B.length 1, .sl 84 0 ((K.take j).map M).length 2, .bool false]⟩ ∧ h 84 = some ⟨82, pC ((K.take j).map M)⟩) (fun j => nK - j) 0 ?_ ?_
    · exact ⟨by omega, by simp, by simp [*], by simp [*, pC]⟩
    have hk1 := hk
    have hkh1 := hkh
    clear hk hkh g46 g12
    rintro j e h hk hkh ⟨hj, g67, g12, g84⟩
    simp [Keep, hk1, hkh1] at hk
    simp [KeepH, hk1, hkh1, g58] at hkh
    by_cases hjl : j < nK
    · obtain ⟨y, hy, hy'⟩ := at_ex (l := K) (i := j) (by omega)
      obtain ⟨u, rfl, hu⟩ := hbqi.out j y hy
      obtain ⟨b, hb, hb'⟩ := at_ex (l := s.qs) (i := u) (by omega)
      have f3 : ilt (j : Int) (nK : Int) = true := ilt_t (by omega)
      have w3 : IntKind.i64.wrap ((j : Int) + 1) = ((j + 1 : Nat) : Int) := wrap_succ (by omega)
      have hsm := hsg.out j u b hy hb
      have hT := hTs.out b (List.mem_of_getElem? hb)
      have hmj := hml.out j
      generalize (K.take j).map M = C2 at g12 g84 hsm hmj
      replace hsm : Hid (_) := hsm
      have f5 : (C2.length + 1) * 16 ≤ 140737488355328 := by omega
      have f6 : C2.length + 1 ≤ 9223372036854775807 := by omega
      clear hst hTmi hTbi hbqi hlk hsg hTs hml hme hm0
      simp only [By.cs] at hT
      repeat' first
        | (with_reducible refine gw_bool (fun _ => ?_) (fun _ => ?_))
        | (with_reducible refine condw_bool (fun _ => ?_) (fun _ => ?_))
        | simp [*, i1, By.cs, appendV, srcCells, St.forget, scr, scrC, scrI_comp, setsV]
      refine nxt_go (j + 1) ((View.forget _ _ 83)) (by omega) (by simp [*, Keep, St.forget, scr, scrC, usesC, usesA]) (by simp [*, KeepH, St.forget, scr, scrC]) ?_
      refine ⟨by omega, by simp [*, St.forget, scr, scrC], ?_, ?_⟩
      · rw [hsm.out]; simp [*, St.forget, scr, scrC, scrI_comp]
      · rw [hsm.out]; simp [*, St.forget, scr, scrC, scrI_comp, pC_snoc]
    · have f3 : ilt (j : Int) (nK : Int) = false := ilt_f (by omega)
      have e3 : j = nK := by omega
      rw [e3, hme.out] at g12 g84
      have hmj := hml.out nK
      rw [hme.out] at hmj
      have hTmm := hTmi.out
      generalize mvB s p B = mvb at hTmm hst
      have hstt := hst.out
      have hchM := chunks_p (K.map M)
      generalize K.map M = C2 at g12 g84 hmj hstt hchM
      replace hstt : Hid (_) := hstt
      have f5 : (C.length + 1) * 56 ≤ 140737488355328 := by omega
      have f6 : C.length + 1 ≤ 9223372036854775807 := by omega
      clear hst hTmi hTbi hbqi hlk hsg hTs hml hme hm0
      repeat' first
        | (with_reducible refine gw_bool (fun _ => ?_) (fun _ => ?_))
        | (with_reducible refine condw_bool (fun _ => ?_) (fun _ => ?_))
        | simp [*, i1, appendV, srcCells, St.forget, scr, scrC, scrI_comp, setsV]
      refine nxt_go (i + 1) ((View.forget _ _ 12).trans ((View.forget _ _ 95).trans ((View.pub _ (key := 58) (blk := ⟨3, B.map (V.int .i64)⟩) ?_ hpB).trans (View.pub _ (key := 84) (blk := ⟨82, pC C2⟩) ?_ (pC_pure _))))) (by omega) ?_ ?_ ?_
      · simp [*, St.forget, scr, scrC, scrI_comp]
      · simp [*, St.forget, scr, scrC, St.pub, pubC]
      · simp [*, Keep, St.forget, scr, scrC, usesC, usesA, St.pub, pubT, pubA, pubC]
      · simp [*, KeepH, St.forget, scr, scrC, St.pub, pubC]
      · refine ⟨by omega, ?_, ?_, ?_⟩
        · simp [*, St.forget, scr, scrC, St.pub, pubT, pubA, pubC]
        · rw [hstt.out]; simp [*, St.forget, scr, scrC, St.pub, pubT, pubA, pubC]
        · rw [hstt.out, sC_snoc]; simp [*, St.forget, scr, scrC, St.pub, pubC]
  · have f1 : ilt (i : Int) (nb : Int) = false := ilt_f (by omega)
    have e1 : i = nb := by omega
    rw [e1, hR.out] at g10 g96
    clear hR hTb hTm hbq hbl hlk
    repeat' first
      | (with_reducible refine gw_bool (fun _ => ?_) (fun _ => ?_))
      | (with_reducible refine condw_bool (fun _ => ?_) (fun _ => ?_))
      | simp [*]
end Go.Proofs.Ytjhmphkdkclbjaa
end
section
namespace Go.Proofs.Ytjhmphkdkclbjaa
open Go.Pv Go.RowKit
set_option linter.unusedSimpArgs false
set_option linter.unusedVariables false
set_option maxRecDepth 100000
set_option maxHeartbeats 8000000
attribute [-simp] Tclo_at Tgrp_at Tchk Tpchk TcI TcB Tclo Tgrp Tsid Tnod Tlook Tbnd Tres TSd TBd Tix Tcon Tgps Tsg Tmv Tidx Tnms Tnmd Tobj Tlks Tbay Trck Trpc Trg Trf Trsd Trnd Tar

theorem rgps_ok {s : Stn} {p : Pos} (h : okP s p = true) : PCall Try.prog 20 [.agg s.cs, .agg p.cs] (.list 1 ((grp s p).map i1)) := by
  have hT := Trf_at (lkB_of (okP_iff h).1) (lenB_ok h)
  rw [h] at hT
  refine pcall_cx E11_ok mixed (fun _ => none) Try.func20 rfl Try.ntmps20 Try.results20 (by simp) (by kernel_rfl) ?_
  repeat' first
    | (with_reducible refine gw_bool (fun _ => ?_) (fun _ => ?_))
    | (with_reducible refine condw_bool (fun _ => ?_) (fun _ => ?_))
    | simp [*, Stn.cs, Pos.cs]
theorem rgps_tab : ∀ vs v, Tgps vs = some v → PCall Try.prog 20 vs v := by
  intro vs v h; unfold Tgps at h; split at h
  · split at h
    · rename_i h1 h2
      split at h
      · rename_i hl; cases h; rw [unStn_inv _ _ h1, unPos_inv _ _ h2]; exact rgps_ok hl
      · cases h
    · cases h
  · cases h
theorem rres_tab : ∀ vs v, Tres vs = some v → PCall Try.prog 43 vs v := by
  intro vs v h; unfold Tres at h; split at h
  · split at h
    · rename_i h1
      split at h
      · rename_i hl; cases h; rw [unPos_inv _ _ h1]; exact rresolve_ok _ _ hl.1 hl.2.1 hl.2.2
      · cases h
    · cases h
  · cases h
theorem rbd_tab : ∀ vs v, TBd vs = some v → PCall Try.prog 44 vs v := by
  intro vs v h; unfold TBd at h; split at h
  · split at h
    · rename_i h1 h2
      split at h
      · rename_i hl; cases h; rw [unStn_inv _ _ h1, unPos_inv _ _ h2]; exact rBoundary_ok hl _ _
      · cases h
    · cases h
  · cases h
def EO : Tab := add 20 Tgps (add 43 Tres (add 44 TBd (E11)))
theorem EO_at (f : FuncId) (vs : List V) : EO.at' f vs = if f = 20 then Tgps vs else if f = 43 then Tres vs else if f = 44 then TBd vs else E11.at' f vs := rfl
theorem EO_fr (f : FuncId) : EO.fr f = if f = 20 then false else if f = 43 then false else if f = 44 then false else E11.fr f := rfl
theorem EO_gb (f : FuncId) : EO.gb f = E11.gb f := rfl
theorem EO_gv (f : FuncId) (vs : List V) : EO.gv f vs = E11.gv f vs := rfl
attribute [simp] EO_at EO_fr EO_gb EO_gv TBd Tgps Tres
theorem EO_ok : TabOK Try.prog EO := by
  refine add_ok (add_ok (add_ok (E11_ok) (by kernel_rfl) ?_) (by kernel_rfl) ?_) (by kernel_rfl) ?_
  · exact rbd_tab
  · exact rres_tab
  · exact rgps_tab
attribute [-simp] Tgps Tres TBd
theorem rOf_bad {s : Stn} {p : Pos} (hk : lkB s = true) (hl : lenB s p = true) (h : okP s p = false) : PCall Try.prog 13 [.agg s.cs, .agg p.cs] (ofW s p) := by
  rw [ofW, of_bad h]
  refine PCall.weaken ?_ (WkL.refl _) wk_nil3
  have hT1 := Trck_at hk
  have hT2 := Trpc_at hl
  cases c1 : ieq (chkF s) 0
  · have hv : ofE s p = chkF s := by rw [ofE, if_neg (ieq_iff'.1 c1)]
    rw [hv]
    clear h
    refine pcall_cx EO_ok mixed (fun _ => none) Try.func13 rfl Try.ntmps13 Try.results13 (by simp) (by kernel_rfl) ?_
    repeat' first
      | (with_reducible refine gw_bool (fun _ => ?_) (fun _ => ?_))
      | (with_reducible refine condw_bool (fun _ => ?_) (fun _ => ?_))
      | simp [*, Stn.cs, Pos.cs]
  · have c1' := ieq_iff.1 c1
    have hv : ofE s p = posE s p := by rw [ofE, if_pos c1']
    have c2 : ieq (posE s p) 0 = false := ieq_f fun e => by simp [okP, c1', e] at h
    rw [hv]
    clear h c1'
    refine pcall_cx EO_ok mixed (fun _ => none) Try.func13 rfl Try.ntmps13 Try.results13 (by simp) (by kernel_rfl) ?_
    repeat' first
      | (with_reducible refine gw_bool (fun _ => ?_) (fun _ => ?_))
      | (with_reducible refine condw_bool (fun _ => ?_) (fun _ => ?_))
      | simp [*, Stn.cs, Pos.cs]
theorem any_step2 {α : Type} {L : List α} {f : α → Bool} {k : Nat} {b : α} (h : L[k]? = some b) : (L.take (k + 1)).any f = ((L.take k).any f || f b) := by
  simp [take_snoc h]
theorem rOf_good {s : Stn} {p : Pos} (h : okP s p = true) : PCall Try.prog 13 [.agg s.cs, .agg p.cs] (ofW s p) := by
  have c1 := (okP_iff h).1
  have c2 := (okP_iff h).2
  have hT1 := Trck_at (lkB_of c1)
  have hT2 := Trpc_at (lenB_ok h)
  rw [c1] at hT1
  rw [c2] at hT2
  have hF := fine_of c1
  have hP := pfine_of c2
  have hv : ofW s p = .tup [.list 3 ((secN s p (resP p true) (grp s (resP p true)) s.bs.length).map Sc.cs), .int .i64 0] := by rw [ofW, ofF, if_pos h, ofE, if_pos c1, c2]; rfl
  rw [hv]
  clear hv
  have hTr := Tres_at (c := true) (res_small h)
  have hok1 := okP_res c1 c2
  have hTg := Tgps_at hok1
  have hgl : (grp s (resP p true)).length = s.bs.length := by rw [grp, grpN_len]
  have hTb : Hid (∀ lo : Int, _) := show _ from fun lo => TBd_at (k := 1) (o := lo) hok1
  have hbq : Hid (∀ (N : Option (Int × Int)) (j : Nat) (x : Int), (bndF s (resP p true) (grp s (resP p true)) N)[j]? = some x → ∃ u : Nat, x = u ∧ u < s.qs.length) := show _ from fun N j x hx => by
    cases N with
    | none => simp [bndF] at hx
    | some nd =>
      simp only [bndF, bndN] at hx
      have := List.mem_of_getElem? hx
      simp only [List.mem_map, List.mem_filter, List.mem_range] at this
      obtain ⟨i, ⟨hi, _⟩, rfl⟩ := this
      exact ⟨i, rfl, hi⟩
  have hbl : Hid (∀ N : Option (Int × Int), (bndF s (resP p true) (grp s (resP p true)) N).length ≤ s.qs.length) := show _ from fun N => by
    cases N with
    | none => simp [bndF]
    | some n => exact bndN_len _ _ _ _ _
  generalize resP p true = Q at hTr hTg hTb hgl hbq hbl ⊢
  generalize grp s Q = G at hTg hTb hgl hbq hbl ⊢
  simp only [Pos.cs] at hTr
  have hmem : Hid (∀ lo : Nat, ∀ b ∈ s.qs, ∀ a ∈ b.lks, ∃ (w : Nat) (gw : Int), a.bus = w ∧ w < s.bs.length ∧ G[w]? = some gw ∧ decide (a.bus ∈ busN G lo s.bs.length) = ieq gw lo) := show _ from fun lo b hb a ha => by
    have hr := (hF.lk b hb).1 a ha
    obtain ⟨w, hw⟩ := Int.eq_ofNat_of_zero_le hr.1
    obtain ⟨gw, hgw, -⟩ := at_ex (l := G) (i := w) (by omega)
    refine ⟨w, gw, hw, by omega, hgw, ?_⟩
    have := busN_mem (g := G) (lo := lo) (b := a.bus) (by rw [hgl]; exact hr)
    rw [hgl] at this
    rw [Bool.eq_iff_iff, decide_eq_true_eq, this, ieq_iff]
    have hg0 : g0 G a.bus = gw := by rw [hw]; simp [g0, gAt, hgw]
    rw [hg0]
  have hnq := hF.nq
  have hnb := hF.nb
  have hnk := hP.nk
  obtain ⟨nb, hnbe⟩ : ∃ n, s.bs.length = n := ⟨_, rfl⟩
  rw [hnbe] at hgl hnb hmem ⊢
  obtain ⟨n, hn⟩ : ∃ n, s.qs.length = n := ⟨_, rfl⟩
  rw [hn] at hnq hbq hbl hnk
  have hch := chunks_s (secN s p Q G nb)
  have hpu := sC_pure (secN s p Q G nb)
  obtain ⟨R, hR⟩ : ∃ R, secN s p Q G nb = R := ⟨_, rfl⟩
  rw [hR] at hch hpu ⊢
  replace hR : Hid (secN s p Q G nb = R) := hR
  have hlk : Hid (∀ b ∈ s.qs, b.lks ≠ []) := show _ from fun b hb e => by have := (hF.lk b hb).2.2.1; rw [e] at this; simp at this
  have hrow : Hid (∀ (i : Nat) (b : By) (l : List Int), s.qs[i]? = some b → p.lk[i]? = some l → l.length = b.lks.length ∧ b.lks.length ≤ 2) := show _ from fun i b l hb hl => ⟨(hP.row i b l hb hl).1, (hF.lk b (List.mem_of_getElem? hb)).2.2.2⟩
  clear hok1 h hF hP c1 c2
  refine pcall_cx EO_ok mixed (fun _ => none) Try.func13 rfl Try.ntmps13 Try.results13 (by simp) (by kernel_rfl) ?_
  repeat' first
    | (with_reducible refine gw_bool (fun _ => ?_) (fun _ => ?_))
    | (with_reducible refine condw_bool (fun _ => ?_) (fun _ => ?_))
    | simp [*, Stn.cs, Pos.cs]
  refine lp_view (View.nilOwn _ (t := 9) (key := 150) 3 45 (by simp) (by simp)) ?_
  refine lp_go (D := (fun _ => none)) EO_ok mixed (by kernel_rfl) [2, 3, 7, 8, 37] [2, 3, 7, 11, 15, 17, 19, 63, 64, 106, 107, 149] (α := Nat) (fun i e h => i ≤ nb ∧ e 38 = .int .i64 i ∧ e 9 = .sl 150 0 (secN s p Q G i).length 3 ∧ h 150 = some ⟨45, sC (secN s p Q G i)⟩) (fun i => nb - i) 0 ?_ ?_
  · exact ⟨by omega, by simp, by simp [secN], by simp [secN, sC]⟩
  rintro i e h hk hkh ⟨hi, g7, g10, g96⟩
  simp [Keep] at hk
  simp [KeepH] at hkh
  clear hTr hTg hT1 hT2
  by_cases hlt : i < nb
  · obtain ⟨x, hx, hx'⟩ := at_ex (l := G) (i := i) (by omega)
    have f1 : ilt (i : Int) (nb : Int) = true := ilt_t (by omega)
    have w1 : IntKind.i64.wrap ((i : Int) + 1) = ((i + 1 : Nat) : Int) := wrap_succ (by omega)
    have hst : Hid (secN s p Q G (i + 1) = secN s p Q G i ++ (if ieq x (i : Int) = true then [secX s p Q G i] else [])) := secN_step hx
    have hll := secN_len s p Q G i
    generalize secN s p Q G i = C at g10 g96 hst hll
    clear hR hch hpu
    cases q1 : ieq x (i : Int)
    · clear hTb hmem
      repeat' first
        | (with_reducible refine gw_bool (fun _ => ?_) (fun _ => ?_))
        | (with_reducible refine condw_bool (fun _ => ?_) (fun _ => ?_))
        | simp [*, i1]
      refine nxt_go (i + 1) (View.refl _ _) (by omega) (by simp [*, Keep, St.forget, scr, scrC]) (by simp [*, KeepH, St.forget, scr, scrC]) ?_
      refine ⟨by omega, by simp [*], ?_, ?_⟩
      · rw [hst.out]; simp [*]
      · rw [hst.out]; simp [*]
    have hTbi := hTb.out i
    have hmemi := hmem.out i
    have hbqi := hbq.out (nodF s G 1 i)
    have hbli := hbl.out (nodF s G 1 i)
    have hX : secX s p Q G i = ⟨busN G i nb, (bndF s Q G (nodF s G 1 i)).map (fun k => (k, sgAt s (busN G i nb) k)), mvB s p (busN G i nb)⟩ := by rw [secX, hgl]; rfl
    rw [q1, hX] at hst
    generalize bndF s Q G (nodF s G 1 i) = K at hTbi hbqi hbli hst
    simp only [if_true] at hst
    clear hTb hmem hbq hbl hX
    replace hmemi : Hid (_) := hmemi
    replace hbqi : Hid (_) := hbqi
    repeat' first
      | (with_reducible refine gw_bool (fun _ => ?_) (fun _ => ?_))
      | (with_reducible refine condw_bool (fun _ => ?_) (fun _ => ?_))
      | simp [*, i1]
    refine lp_view (View.nilAt _ (t := 11) (o := 0) (key := 11) (key' := 64) (i := 0) (blk := ⟨45, [.nils, .nils, .bool false]⟩) 1 3 (by simp) (by simp) (by simp) (by simp [*])) ?_
    refine lp_view (View.nilAt _ (t := 11) (o := 0) (key := 11) (key' := 107) (i := 1) (blk := ⟨45, [.sl 64 0 0 1, .nils, .bool false]⟩) 2 82 (by simp) (by simp) (by simp) (by simp [*])) ?_
    refine lp_go (D := (fun _ => none)) EO_ok mixed (by kernel_rfl) [2, 3, 7, 8, 9, 10, 11, 37, 38, 39, 40, 41, 42, 43, 44, 45, 46, 47, 48, 49, 50, 9] [2, 3, 7, 15, 17, 19, 63, 106, 107, 149, 150, 150] (α := Nat) (fun k e h => k ≤ nb ∧ e 51 = .int .i64 k ∧ h 11 = some ⟨45, [.sl 64 0 (busN G i k).length 1, .sl 107 0 0 2, .bool false]⟩ ∧ h 64 = some ⟨3, (busN G i k).map (V.int .i64)⟩) (fun k => nb - k) 0 ?_ ?_
    · exact ⟨by omega, by simp, by simp [busN], by simp [busN]⟩
    have hk0 := hk
    have hkh0 := hkh
    have g70 := g7
    have g100 := g10
    have g960 := g96
    clear hk hkh g7 g10 g96
    rintro k e h hk hkh ⟨hki, g46, g12, g58⟩
    simp [Keep, hk0, hkh0, g70, g100] at hk
    simp [KeepH, hk0, hkh0, g960] at hkh
    by_cases hkl : k < nb
    · obtain ⟨y, hy, hy'⟩ := at_ex (l := G) (i := k) (by omega)
      have f2 : ilt (k : Int) (nb : Int) = true := ilt_t (by omega)
      have w2 : IntKind.i64.wrap ((k : Int) + 1) = ((k + 1 : Nat) : Int) := wrap_succ (by omega)
      have hsb : Hid (busN G i (k + 1) = busN G i k ++ (if ieq y (i : Int) = true then [(k : Int)] else [])) := busN_step hy
      have hbb := busN_len G i k
      generalize busN G i k = B at g12 g58 hsb hbb
      have hsB := scr_i1 B
      have f5 : (B.length + 1) * 8 ≤ 140737488355328 := by omega
      have f6 : B.length + 1 ≤ 9223372036854775807 := by omega
      clear hst hmemi hTbi hbqi hlk hrow
      cases q2 : ieq y (i : Int)
      · skip
        repeat' first
          | (with_reducible refine gw_bool (fun _ => ?_) (fun _ => ?_))
          | (with_reducible refine condw_bool (fun _ => ?_) (fun _ => ?_))
          | simp [*, i1]
        refine nxt_go (k + 1) (View.refl _ _) (by omega) (by simp [*, Keep, St.forget, scr, scrC]) (by simp [*, KeepH, St.forget, scr, scrC]) ?_
        refine ⟨by omega, by simp [*], ?_, ?_⟩
        · rw [hsb.out]; simp [*]
        · rw [hsb.out]; simp [*]
      · skip
        repeat' first
          | (with_reducible refine gw_bool (fun _ => ?_) (fun _ => ?_))
          | (with_reducible refine condw_bool (fun _ => ?_) (fun _ => ?_))
          | simp [*, i1, appendV, srcCells, St.forget, scr, scrC, scrI_comp, setsV]
        refine nxt_go (k + 1) ((View.forget _ _ 63)) (by omega) (by simp [*, Keep, St.forget, scr, scrC, usesC, usesA]) (by simp [*, KeepH, St.forget, scr, scrC]) ?_
        refine ⟨by omega, by simp [*, St.forget, scr, scrC], ?_, ?_⟩
        · rw [hsb.out]; simp [*, St.forget, scr, scrC, scrI_comp]
        · rw [hsb.out]; simp [*, St.forget, scr, scrC, scrI_comp]
    have f2 : ilt (k : Int) (nb : Int) = false := ilt_f (by omega)
    have e2 : k = nb := by omega
    rw [e2] at g12 g58
    have hbb := busN_len G i nb
    have hsg : ∀ (j u : Nat) (b : By), K[j]? = some (u : Int) → s.qs[u]? = some b → (K.take (j + 1)).map (fun k => (k, sgAt s (busN G i nb) k)) = (K.take j).map (fun k => (k, sgAt s (busN G i nb) k)) ++ [((u : Int), sgB (busN G i nb) b)] := fun j u b hj hb => by
      rw [take_snoc hj]; simp [sgAt, hb]
    have hm0 : ((K.take 0).map (fun k => (k, sgAt s (busN G i nb) k))) = [] := by simp
    have hml : ∀ j, ((K.take j).map (fun k => (k, sgAt s (busN G i nb) k))).length ≤ K.length := fun j => by simp [List.length_take]; omega
    have hme : (K.take K.length).map (fun k => (k, sgAt s (busN G i nb) k)) = K.map (fun k => (k, sgAt s (busN G i nb) k)) := by rw [List.take_length]
    have hchB := chunks_i1 (busN G i nb)
    have hpB := pure_i1 (busN G i nb)
    generalize hMM : (fun k => (k, sgAt s (busN G i nb) k)) = M at hst hsg hm0 hml hme
    clear hMM
    generalize busN G i nb = B at g12 g58 hsg hmemi hst hbb hchB hpB
    have hsB := scr_i1 B
    obtain ⟨nK, hnK⟩ : ∃ n, K.length = n := ⟨_, rfl⟩
    rw [hnK] at hbli hml hme
    replace hsg : Hid (_) := hsg
    replace hml : Hid (_) := hml
    replace hme : Hid (_) := hme
    replace hst : Hid (_) := hst
    clear hkl hki
    repeat' first
      | (with_reducible refine gw_bool (fun _ => ?_) (fun _ => ?_))
      | (with_reducible refine condw_bool (fun _ => ?_) (fun _ => ?_))
      | simp [*]
    refine lp_go (D := (fun _ => none)) EO_ok mixed (by kernel_rfl) [2, 3, 7, 8, 9, 10, 11, 37, 38, 71, 72] [2, 3, 7, 15, 17, 19, 63, 64, 106, 149, 150, 64, 150] (α := Nat) (fun j e h => j ≤ nK ∧ e 73 = .int .i64 j ∧ h 11 = some ⟨45, [.sl 64 0 B.length 1, .sl 107 0 ((K.take j).map M).length 2, .bool false]⟩ ∧ h 107 = some ⟨82, pC ((K.take j).map M)⟩) (fun j => nK - j) 0 ?_ ?_
    · exact ⟨by omega, by simp, by simp [*], by simp [*, pC]⟩
    have hk1 := hk
    have hkh1 := hkh
    clear hk hkh g46 g12
    rintro j e h hk hkh ⟨hj, g67, g12, g84⟩
    simp [Keep, hk1, hkh1] at hk
    simp [KeepH, hk1, hkh1, g58] at hkh
    by_cases hjl : j < nK
    · obtain ⟨y, hy, hy'⟩ := at_ex (l := K) (i := j) (by omega)
      obtain ⟨u, rfl, hu⟩ := hbqi.out j y hy
      obtain ⟨b, hb, hb'⟩ := at_ex (l := s.qs) (i := u) (by omega)
      have f3 : ilt (j : Int) (nK : Int) = true := ilt_t (by omega)
      have w3 : IntKind.i64.wrap ((j : Int) + 1) = ((j + 1 : Nat) : Int) := wrap_succ (by omega)
      have hsm := hsg.out j u b hy hb
      have hmj := hml.out j
      generalize (K.take j).map M = C2 at g12 g84 hsm hmj
      have f5 : (C2.length + 1) * 16 ≤ 140737488355328 := by omega
      have f6 : C2.length + 1 ≤ 9223372036854775807 := by omega
      have hne := hlk.out b (List.mem_of_getElem? hb)
      have hmb := hmemi.out b (List.mem_of_getElem? hb)
      clear hst hmemi hTbi hbqi hlk hsg hml hme hm0 hrow
      obtain ⟨lks, hlks⟩ : ∃ lks, b.lks = lks := ⟨_, rfl⟩
      rw [hlks] at hne hmb
      match lks, hne with
      | a :: t, _ =>
        obtain ⟨w, gw, hwa, hwl, hgw, hdec⟩ := hmb a (by simp)
        obtain ⟨hgl1, hgl2⟩ := get_of hgw
        have hwi : (w : Int) < (nb : Int) := by omega
        clear hmb
        cases k3 : ieq b.kind 3
        · have hv : sgB B b = 1 := by simp [sgB, k3]
          rw [hv] at hsm
          replace hsm : Hid (_) := hsm
          clear hdec
          repeat' first
            | (with_reducible refine gw_bool (fun _ => ?_) (fun _ => ?_))
            | (with_reducible refine condw_bool (fun _ => ?_) (fun _ => ?_))
            | simp [*, i1, By.cs, appendV, srcCells, St.forget, scr, scrC, scrI_comp, setsV]
          refine nxt_go (j + 1) ((View.forget _ _ 106).trans ((View.forget _ _ 15))) (by omega) (by simp [*, Keep, St.forget, scr, scrC, usesC, usesA]) (by simp [*, KeepH, St.forget, scr, scrC]) ?_
          refine ⟨by omega, by simp [*, St.forget, scr, scrC], ?_, ?_⟩
          · rw [hsm.out]; simp [*, St.forget, scr, scrC, scrI_comp]
          · rw [hsm.out]; simp [*, St.forget, scr, scrC, scrI_comp, pC_snoc]
        · have hv : sgB B b = if ieq gw (i : Int) = true then 1 else -1 := by simp only [sgB, k3, hlks, hdec]; rfl
          rw [hv] at hsm
          clear hdec
          cases q4 : ieq gw (i : Int)
          · rw [q4] at hsm
            replace hsm : Hid (_) := hsm
            repeat' first
              | (with_reducible refine gw_bool (fun _ => ?_) (fun _ => ?_))
              | (with_reducible refine condw_bool (fun _ => ?_) (fun _ => ?_))
              | simp [*, i1, By.cs, Lk.cs, appendV, srcCells, St.forget, scr, scrC, scrI_comp, setsV]
            refine nxt_go (j + 1) ((View.forget _ _ 106).trans ((View.forget _ _ 15))) (by omega) (by simp [*, Keep, St.forget, scr, scrC, usesC, usesA]) (by simp [*, KeepH, St.forget, scr, scrC]) ?_
            refine ⟨by omega, by simp [*, St.forget, scr, scrC], ?_, ?_⟩
            · rw [hsm.out]; simp [*, St.forget, scr, scrC, scrI_comp]
            · rw [hsm.out]; simp [*, St.forget, scr, scrC, scrI_comp, pC_snoc]
          · rw [q4] at hsm
            replace hsm : Hid (_) := hsm
            repeat' first
              | (with_reducible refine gw_bool (fun _ => ?_) (fun _ => ?_))
              | (with_reducible refine condw_bool (fun _ => ?_) (fun _ => ?_))
              | simp [*, i1, By.cs, Lk.cs, appendV, srcCells, St.forget, scr, scrC, scrI_comp, setsV]
            refine nxt_go (j + 1) ((View.forget _ _ 106).trans ((View.forget _ _ 15))) (by omega) (by simp [*, Keep, St.forget, scr, scrC, usesC, usesA]) (by simp [*, KeepH, St.forget, scr, scrC]) ?_
            refine ⟨by omega, by simp [*, St.forget, scr, scrC], ?_, ?_⟩
            · rw [hsm.out]; simp [*, St.forget, scr, scrC, scrI_comp]
            · rw [hsm.out]; simp [*, St.forget, scr, scrC, scrI_comp, pC_snoc]
    have f3 : ilt (j : Int) (nK : Int) = false := ilt_f (by omega)
    have e3 : j = nK := by omega
    rw [e3, hme.out] at g12 g84
    have hmj := hml.out nK
    rw [hme.out] at hmj
    have hstt := hst.out
    have hchM := chunks_p (K.map M)
    generalize K.map M = C2 at g12 g84 hmj hstt hchM
    have hmv0 : ((s.qs.zip p.lk).take 0).any (fun x => mvR B x.1 x.2) = false := by simp
    have hmve : ((s.qs.zip p.lk).take n).any (fun x => mvR B x.1 x.2) = mvB s p B := by rw [List.take_of_length_le (by simp; omega)]; rfl
    have hmvs : ∀ (i : Nat) (b : By) (l : List Int), s.qs[i]? = some b → p.lk[i]? = some l → ((s.qs.zip p.lk).take (i + 1)).any (fun x => mvR B x.1 x.2) = (((s.qs.zip p.lk).take i).any (fun x => mvR B x.1 x.2) || mvR B b l) := fun i b l hb hl => any_step2 (b := (b, l)) (by simp [List.getElem?_zip_eq_some, hb, hl])
    generalize hFF : (fun i : Nat => ((s.qs.zip p.lk).take i).any (fun x => mvR B x.1 x.2)) = FF
    have hFi : ∀ i, ((s.qs.zip p.lk).take i).any (fun x => mvR B x.1 x.2) = FF i := fun i => by rw [← hFF]
    simp only [hFi] at hmv0 hmve hmvs
    clear hFF hFi
    replace hmve : Hid (_) := hmve
    replace hmvs : Hid (_) := hmvs
    replace hstt : Hid (_) := hstt
    clear hjl hj hst hTbi hbqi hlk hsg hml hme hm0
    repeat' first
      | (with_reducible refine gw_bool (fun _ => ?_) (fun _ => ?_))
      | (with_reducible refine condw_bool (fun _ => ?_) (fun _ => ?_))
      | simp [*]
    refine lp_go (D := (fun _ => none)) EO_ok mixed (by kernel_rfl) [2, 3, 7, 8, 9, 10, 11, 37, 38, 111, 112] [2, 3, 7, 15, 17, 19, 63, 64, 106, 107, 149, 150, 64, 107, 150] (α := Nat) (fun c e h => c ≤ n ∧ e 113 = .int .i64 c ∧ h 11 = some ⟨45, [.sl 64 0 B.length 1, .sl 107 0 C2.length 2, .bool (FF c)]⟩) (fun c => n - c) 0 ?_ ?_
    · exact ⟨by omega, by simp, by simp [*]⟩
    have hk2 := hk
    have hkh2 := hkh
    clear hk hkh g67 g12
    rintro c e h hk hkh ⟨hcn, g113, g12⟩
    simp [Keep, hk2, hkh2] at hk
    simp [KeepH, hk2, hkh2, g84] at hkh
    by_cases hcl : c < n
    · obtain ⟨b, hb, hb'⟩ := at_ex (l := s.qs) (i := c) (by omega)
      obtain ⟨l, hl, hl'⟩ := at_ex (l := p.lk) (i := c) (by omega)
      obtain ⟨hr1, hr2⟩ := hrow.out c b l hb hl
      have f4 : ilt (c : Int) (n : Int) = true := ilt_t (by omega)
      have w4 : IntKind.i64.wrap ((c : Int) + 1) = ((c + 1 : Nat) : Int) := wrap_succ (by omega)
      have hFs := hmvs.out c b l hb hl
      have hmb := hmemi.out b (List.mem_of_getElem? hb)
      obtain ⟨mm, hmm⟩ : ∃ m, b.lks.length = m := ⟨_, rfl⟩
      rw [hmm] at hr1 hr2
      have hlt2 : c < p.lk.length := by omega
      replace hFs : Hid (_) := hFs
      replace hmb : Hid (_) := hmb
      generalize FF c = F0 at g12 hFs
      clear hmvs hmemi hmve hstt hrow hmv0
      repeat' first
        | (with_reducible refine gw_bool (fun _ => ?_) (fun _ => ?_))
        | (with_reducible refine condw_bool (fun _ => ?_) (fun _ => ?_))
        | simp [*, By.cs]
      refine lp_go (D := (fun _ => none)) EO_ok mixed (by kernel_rfl) [2, 3, 7, 8, 9, 10, 11, 16, 17, 37, 38, 111, 112, 113, 119, 120] [2, 3, 7, 15, 17, 19, 63, 64, 106, 107, 149, 150, 64, 107, 150] (α := Nat) (fun d e h => d ≤ mm ∧ e 121 = .int .i64 d ∧ h 11 = some ⟨45, [.sl 64 0 B.length 1, .sl 107 0 C2.length 2, .bool (F0 || ((b.lks.zip l).take d).any (fun y => ieq y.2 2 && decide (y.1.bus ∈ B)))]⟩) (fun d => mm - d) 0 ?_ ?_
      · exact ⟨by omega, by simp, by simp [*]⟩
      have hk3 := hk
      have hkh3 := hkh
      clear hk hkh g12
      rintro d e h hk hkh ⟨hdm, g121, g12⟩
      simp [Keep, hk3, hkh3, g113] at hk
      simp [KeepH, hk3, hkh3] at hkh
      by_cases hdl : d < mm
      · obtain ⟨a, ha, ha'⟩ := at_ex (l := b.lks) (i := d) (by omega)
        obtain ⟨x2, hx2, hx2'⟩ := at_ex (l := l) (i := d) (by omega)
        have hz2 : (b.lks.zip l)[d]? = some (a, x2) := by simp [List.getElem?_zip_eq_some, ha, hx2]
        obtain ⟨w, gw, hwa, hwl, hgw, hdec⟩ := hmb.out a (List.mem_of_getElem? ha)
        obtain ⟨hgl1, hgl2⟩ := get_of hgw
        have hwi : (w : Int) < (nb : Int) := by omega
        have f5 : ilt (d : Int) (mm : Int) = true := ilt_t (by omega)
        have w5 : IntKind.i64.wrap ((d : Int) + 1) = ((d + 1 : Nat) : Int) := wrap_succ (by omega)
        have hst2 := any_step2 (f := fun y : Lk × Int => ieq y.2 2 && decide (y.1.bus ∈ B)) hz2
        simp only [hdec] at hst2
        generalize ((b.lks.zip l).take d).any (fun y => ieq y.2 2 && decide (y.1.bus ∈ B)) = U at g12 hst2
        replace hst2 : Hid (_) := hst2
        clear hFs hmb hdec
        have hd3 : d < l.length := by omega
        cases q5 : ieq x2 2
        · skip
          repeat' first
            | (with_reducible refine gw_bool (fun _ => ?_) (fun _ => ?_))
            | (with_reducible refine condw_bool (fun _ => ?_) (fun _ => ?_))
            | simp [*, i1, r1, Lk.cs, setsV]
          refine nxt_go (d + 1) ((View.forget _ _ 19)) (by omega) (by simp [*, Keep, St.forget, scr, scrC, usesC, usesA]) (by simp [*, KeepH, St.forget, scr, scrC]) ?_
          refine ⟨by omega, by simp [*, St.forget, scr, scrC], ?_⟩
          rw [hst2.out]; simp [*, St.forget, scr, scrC]
        · cases q6 : ieq gw (i : Int)
          · skip
            repeat' first
              | (with_reducible refine gw_bool (fun _ => ?_) (fun _ => ?_))
              | (with_reducible refine condw_bool (fun _ => ?_) (fun _ => ?_))
              | simp [*, i1, r1, Lk.cs, setsV]
            refine nxt_go (d + 1) ((View.forget _ _ 19)) (by omega) (by simp [*, Keep, St.forget, scr, scrC, usesC, usesA]) (by simp [*, KeepH, St.forget, scr, scrC]) ?_
            refine ⟨by omega, by simp [*, St.forget, scr, scrC], ?_⟩
            rw [hst2.out]; simp [*, St.forget, scr, scrC]
          · skip
            repeat' first
              | (with_reducible refine gw_bool (fun _ => ?_) (fun _ => ?_))
              | (with_reducible refine condw_bool (fun _ => ?_) (fun _ => ?_))
              | simp [*, i1, r1, Lk.cs, setsV]
            refine nxt_go (d + 1) ((View.forget _ _ 19)) (by omega) (by simp [*, Keep, St.forget, scr, scrC, usesC, usesA]) (by simp [*, KeepH, St.forget, scr, scrC]) ?_
            refine ⟨by omega, by simp [*, St.forget, scr, scrC], ?_⟩
            rw [hst2.out]; simp [*, St.forget, scr, scrC]
      · have f5 : ilt (d : Int) (mm : Int) = false := ilt_f (by omega)
        have e5 : ((b.lks.zip l).take d).any (fun y => ieq y.2 2 && decide (y.1.bus ∈ B)) = mvR B b l := by rw [List.take_of_length_le (by simp; omega)]; rfl
        rw [e5] at g12
        clear hmb e5
        repeat' first
          | (with_reducible refine gw_bool (fun _ => ?_) (fun _ => ?_))
          | (with_reducible refine condw_bool (fun _ => ?_) (fun _ => ?_))
          | simp [*]
        refine nxt_go (c + 1) ((View.forget _ _ 17)) (by omega) (by simp [*, Keep, St.forget, scr, scrC, usesC, usesA]) (by simp [*, KeepH, St.forget, scr, scrC]) ?_
        refine ⟨by omega, by simp [*, St.forget, scr, scrC], ?_⟩
        rw [hFs.out]; simp [*, St.forget, scr, scrC]
    · have f4 : ilt (c : Int) (n : Int) = false := ilt_f (by omega)
      have e4 : c = n := by omega
      rw [e4, hmve.out] at g12
      have hs2 := hstt.out
      generalize mvB s p B = mvb at g12 hs2
      replace hs2 : Hid (_) := hs2
      have f5 : (C.length + 1) * 56 ≤ 140737488355328 := by omega
      have f6 : C.length + 1 ≤ 9223372036854775807 := by omega
      clear hmvs hmemi hmve hstt hrow hmv0
      repeat' first
        | (with_reducible refine gw_bool (fun _ => ?_) (fun _ => ?_))
        | (with_reducible refine condw_bool (fun _ => ?_) (fun _ => ?_))
        | simp [*, i1, appendV, srcCells, St.forget, scr, scrC, scrI_comp, setsV]
      refine nxt_go (i + 1) ((View.forget _ _ 11).trans ((View.forget _ _ 149).trans ((View.pub _ (key := 64) (blk := ⟨3, B.map (V.int .i64)⟩) ?_ hpB).trans (View.pub _ (key := 107) (blk := ⟨82, pC C2⟩) ?_ (pC_pure _))))) (by omega) ?_ ?_ ?_
      · simp [*, St.forget, scr, scrC, scrI_comp]
      · simp [*, St.forget, scr, scrC, St.pub, pubC]
      · simp [*, Keep, St.forget, scr, scrC, usesC, usesA, St.pub, pubT, pubA, pubC]
      · simp [*, KeepH, St.forget, scr, scrC, St.pub, pubC]
      · refine ⟨by omega, ?_, ?_, ?_⟩
        · simp [*, St.forget, scr, scrC, St.pub, pubT, pubA, pubC]
        · rw [hs2.out]; simp [*, St.forget, scr, scrC, St.pub, pubT, pubA, pubC]
        · rw [hs2.out, sC_snoc]; simp [*, St.forget, scr, scrC, St.pub, pubC]
  · have f1 : ilt (i : Int) (nb : Int) = false := ilt_f (by omega)
    have e1 : i = nb := by omega
    rw [e1, hR.out] at g10 g96
    clear hR hTb hbq hbl hlk hmem hrow
    repeat' first
      | (with_reducible refine gw_bool (fun _ => ?_) (fun _ => ?_))
      | (with_reducible refine condw_bool (fun _ => ?_) (fun _ => ?_))
      | simp [*]
end Go.Proofs.Ytjhmphkdkclbjaa
end
