/-
  The document's positions: Resolve.
-/
import Derived.Test.YtcbddoopmkhlfaaSt22
import Derived.Test.YtcbddoopmkhlfaaSt15
namespace Go.Proofs.Ytcbddoopmkhlfaa
open Go.Pv Go.RowKit
set_option linter.unusedSimpArgs false
set_option linter.unusedVariables false
set_option maxRecDepth 100000
set_option maxHeartbeats 4000000
attribute [-simp] Tclo_at Tgrp_at Tchk Tpchk TcI TcB Tclo Tgrp Tsid Tnod Tlook Tbnd Tidx Tnms Tnmd Tobj Tlks Tbay Trck Trpc Tres TSd TBd

theorem rresolve_ok (p : Pos) (c : Bool) (h1 : p.cl.length ≤ 1000) (h2 : p.lk.length ≤ 1000) (h3 : ∀ l ∈ p.lk, l.length ≤ 1000) : PCall Try.prog 46 [.agg p.cs, .bool c] (.agg (resP p c).cs) := by
  obtain ⟨n, hn⟩ : ∃ n, p.lk.length = n := ⟨_, rfl⟩
  rw [hn] at h2
  have hfl := flat_b1 p.cl
  have hon : (p.cl.map V.bool).all oneV = true := by simp [oneV]
  have hbc := chunks_b1 p.cl
  have hbp := pure_b1 p.cl
  obtain ⟨n1, hn1⟩ : ∃ n, p.cl.length = n := ⟨_, rfl⟩
  rw [hn1] at h1 hbc
  have q5 : n1 ≤ 140737488355328 := by omega
  have q6 : n1 ≤ 9223372036854775807 := by omega
  cases c
  · have hres : resP p false = ⟨p.cl, p.lk.map (fun l => l.map (resF 0))⟩ := rfl
    rw [hres]
    clear hres
    have hend := chunks_r0 (p.lk.map (fun l => l.map (resF 0)))
    rw [List.length_map, hn] at hend
    replace hend : Hid (chunks 1 n ((p.lk.map (fun l => l.map (resF 0))).map r0) = (p.lk.map (fun l => l.map (resF 0))).map r1) := hend
    refine pcall_cx E8_ok mixed (fun _ => none) Try.func46 rfl Try.ntmps46 Try.results46 (by simp) (by kernel_rfl) ?_
    repeat' first
      | (with_reducible refine gw_bool (fun _ => ?_) (fun _ => ?_))
      | (with_reducible refine condw_bool (fun _ => ?_) (fun _ => ?_))
      | simp [*, Pos.cs, appendV, srcCells, St.forget, scr, scrC, scrB_comp]
    refine lp_view (View.nilAt _ (t := 5) (o := 0) (key := 5) (key' := 57) (i := 1) (blk := ⟨38, [.sl 9 0 n1 1, .nils]⟩) 1 47 (by simp) (by simp) (by simp) (by simp)) ?_
    refine lp_go (D := (fun _ => none)) E8_ok mixed (by kernel_rfl) [1, 2, 4, 5] [2, 4, 9, 12, 21, 27, 56] (α := Nat) (fun i e h => i ≤ n ∧ e 6 = .int .i64 i ∧ h 5 = some ⟨38, [.sl 9 0 n1 1, .sl 57 0 i 1]⟩ ∧ h 57 = some ⟨47, ((p.lk.take i).map (fun l => l.map (resF 0))).map r0⟩) (fun i => n - i) 0 ?_ ?_
    · refine ⟨by omega, by simp, by simp, by simp⟩
    · rintro i e h hk hkh ⟨hi, g7, g6, g43⟩
      simp [Keep] at hk
      simp [KeepH, scrC] at hkh
      by_cases hlt : i < n
      · obtain ⟨l, hl, hl'⟩ := at_ex (l := p.lk) (i := i) (by omega)
        have f1 : ilt (i : Int) (n : Int) = true := ilt_t (by omega)
        have w1 : IntKind.i64.wrap ((i : Int) + 1) = ((i + 1 : Nat) : Int) := wrap_succ (by omega)
        have hlm : l.length ≤ 1000 := h3 l (List.mem_of_getElem? hl)
        have f5 : (i + 1) * 24 ≤ 140737488355328 := by omega
        have f6 : i + 1 ≤ 9223372036854775807 := by omega
        have hnx : ((p.lk.take (i + 1)).map (fun l => l.map (resF 0))).map r0 = ((p.lk.take i).map (fun l => l.map (resF 0))).map r0 ++ [r0 (l.map (resF 0))] := by rw [take_snoc hl]; simp
        have hln : (((p.lk.take i).map (fun l => l.map (resF 0))).map r0).length = i := by simp; omega
        generalize hCC : ((p.lk.take i).map (fun l => l.map (resF 0))).map r0 = CC at g43 hnx hln
        have hpC : CC.any ownC = false := by rw [← hCC]; exact pure_r0 _
        have hsC : ∀ k, CC.map (scrC k) = CC := fun k => scrC_cells hpC
        have hbC : ∀ k b, CC.map (pubC k b) = CC := fun k b => pub_cells hpC
        replace hnx : Hid (((p.lk.take (i + 1)).map (fun l => l.map (resF 0))).map r0 = CC ++ [r0 (l.map (resF 0))]) := hnx
        clear hCC
        have hlt2 : i < p.lk.length := by omega
        have hfi := flat_i1 l
        have hoi : (l.map (V.int .i64)).all oneV = true := by simp [oneV]
        obtain ⟨m, hm⟩ : ∃ m, l.length = m := ⟨_, rfl⟩
        rw [hm] at hlm
        have p5 : m * 8 ≤ 140737488355328 := by omega
        have p6 : m ≤ 9223372036854775807 := by omega
        repeat' first
          | (with_reducible refine gw_bool (fun _ => ?_) (fun _ => ?_))
          | (with_reducible refine condw_bool (fun _ => ?_) (fun _ => ?_))
          | simp [*, r1, appendV, srcCells, St.forget, scr, scrC, scrI_comp, scrB_comp]
        refine lp_go (D := (fun _ => none)) E8_ok mixed (by kernel_rfl) [1, 2, 4, 5, 6, 7, 14, 15, 16, 17, 18, 21, 22, 23, 24, 25, 26, 27] [2, 4, 5, 9, 12, 27, 56, 57] (α := Nat) (fun j e h => j ≤ m ∧ e 8 = .int .i64 j ∧ h 21 = some ⟨3, (half 0 l j).map (V.int .i64)⟩) (fun j => m - j) 0 ?_ ?_
        · refine ⟨by omega, by simp, by simp [half]⟩
        · have hk0 := hk
          have hkh0 := hkh
          have g0 := g7
          clear hk hkh g7
          rintro j e h hk hkh ⟨hj, g7, gK⟩
          simp [Keep, hk0, hkh0, g0, hm] at hk
          simp [KeepH, hk0, hkh0, g6, g43] at hkh
          have hCl : (half 0 l j).length = m := by rw [half_len _ _ _ (by omega)]; exact hm
          by_cases hjlt : j < m
          · obtain ⟨y, hy, -⟩ := at_ex (l := l) (i := j) (by omega)
            have f2 : ilt (j : Int) (m : Int) = true := ilt_t (by omega)
            have w2 : IntKind.i64.wrap ((j : Int) + 1) = ((j + 1 : Nat) : Int) := wrap_succ (by omega)
            have hC1 := half_at (z := 0) hy
            cases hq : ieq y 2
            · have hnj : Hid (half 0 l (j + 1) = half 0 l j) := half_same hy hq
              generalize half 0 l j = C at gK hCl hC1 hnj
              have hC2 : ∀ h : j < C.length, C[j] = y := fun h => by rw [List.getElem?_eq_getElem h] at hC1; exact Option.some.inj hC1
              clear hy hl hl' hnx
              repeat' first
                | (with_reducible refine gw_bool (fun _ => ?_) (fun _ => ?_))
                | (with_reducible refine condw_bool (fun _ => ?_) (fun _ => ?_))
                | simp [*, St.forget, scr, scrC]
              refine nxt_go (j + 1) (View.refl _ _) (by omega) (by simp [*, Keep, St.forget, scr, scrC]) (by simp [*, KeepH, St.forget, scr, scrC]) ?_
              refine ⟨by omega, by simp [*], ?_⟩
              rw [hnj.out]; simp [*]
            · have hnj : half 0 l (j + 1) = (half 0 l j).set j 0 := by rw [half_step hy]; simp [resF, hq]
              replace hnj : Hid (half 0 l (j + 1) = (half 0 l j).set j 0) := hnj
              generalize half 0 l j = C at gK hCl hC1 hnj
              have hC2 : ∀ h : j < C.length, C[j] = y := fun h => by rw [List.getElem?_eq_getElem h] at hC1; exact Option.some.inj hC1
              clear hy hl hl' hnx
              have hj1 : j + 1 ≤ m := by omega
              repeat' first
                | (with_reducible refine gw_bool (fun _ => ?_) (fun _ => ?_))
                | (with_reducible refine condw_bool (fun _ => ?_) (fun _ => ?_))
                | simp [*, St.forget, scr, scrC, setsV]
              refine nxt_go (j + 1) (View.refl _ _) (by omega) (by simp [*, Keep, St.forget, scr, scrC]) (by simp [*, KeepH, St.forget, scr, scrC]) ?_
              refine ⟨by omega, by simp [*], ?_⟩
              rw [hnj.out]; simp [*, setsV, List.map_set]
          · have f2 : ilt (j : Int) (m : Int) = false := ilt_f (by omega)
            have e2 : j = l.length := by omega
            rw [e2, half_end] at gK
            rw [e2, half_end] at hCl
            have hch := chunks_i1 (l.map (resF 0))
            have hcp := pure_i1 (l.map (resF 0))
            rw [hCl] at hch
            have hnx' := hnx.out
            generalize l.map (resF 0) = C at gK hCl hch hnx' hcp
            replace hnx' : Hid (List.map r0 (List.map (fun l => List.map (resF 0) l) (List.take (i + 1) p.lk)) = CC ++ [r0 C]) := hnx'
            replace hch : Hid (chunks 1 m (C.map (V.int .i64)) = C.map i1) := hch
            have hcs : ∀ k, (C.map (V.int .i64)).map (scrC k) = C.map (V.int .i64) := fun k => scrC_cells hcp
            have hmm : m ≤ C.length := by omega
            clear hnx hl hl' e2
            repeat' first
              | (with_reducible refine gw_bool (fun _ => ?_) (fun _ => ?_))
              | (with_reducible refine condw_bool (fun _ => ?_) (fun _ => ?_))
              | simp [*, appendV, srcCells, St.forget, scr, scrC, scrB_comp]
            refine nxt_go (i + 1) ((View.forget _ _ 56).trans (View.pub _ (key := 21) (blk := ⟨3, C.map (V.int .i64)⟩) ?_ hcp)) (by omega) ?_ ?_ ?_
            · simp [*, St.forget, scrC, scrI_comp]
            · simp [*, Keep, St.forget, scr, scrC, St.pub, pubT, pubA, pubC]
            · simp [*, KeepH, St.forget, scr, scrC, St.pub, pubC, scrB_comp]
            · refine ⟨by omega, ?_, ?_, ?_⟩
              · simp [*, St.forget, scr, scrC, St.pub, pubT, pubA, pubC]
              · simp [*, St.forget, scr, scrC, St.pub, pubC]
              · rw [hnx'.out]; simp [*, St.forget, scr, scrC, St.pub, pubC, r0, hch.out]
      · have f1 : ilt (i : Int) (n : Int) = false := ilt_f (by omega)
        have e1 : i = n := by omega
        subst e1
        have ht : p.lk.take i = p.lk := by rw [← hn]; exact List.take_length
        rw [ht] at g43
        have hpu := pure_r0 (p.lk.map (fun l => l.map (resF 0)))
        have hed := hend.out
        have hln : ((p.lk.map (fun l => l.map (resF 0))).map r0).length = i := by simp; omega
        generalize hCC : (p.lk.map (fun l => l.map (resF 0))).map r0 = CC at g43 hpu hed hln
        clear hend hCC ht
        repeat' first
          | (with_reducible refine gw_bool (fun _ => ?_) (fun _ => ?_))
          | (with_reducible refine condw_bool (fun _ => ?_) (fun _ => ?_))
          | simp [*, Pos.cs]
  · have hres : resP p true = ⟨p.cl, p.lk.map (fun l => l.map (resF 1))⟩ := rfl
    rw [hres]
    clear hres
    have hend := chunks_r0 (p.lk.map (fun l => l.map (resF 1)))
    rw [List.length_map, hn] at hend
    replace hend : Hid (chunks 1 n ((p.lk.map (fun l => l.map (resF 1))).map r0) = (p.lk.map (fun l => l.map (resF 1))).map r1) := hend
    refine pcall_cx E8_ok mixed (fun _ => none) Try.func46 rfl Try.ntmps46 Try.results46 (by simp) (by kernel_rfl) ?_
    repeat' first
      | (with_reducible refine gw_bool (fun _ => ?_) (fun _ => ?_))
      | (with_reducible refine condw_bool (fun _ => ?_) (fun _ => ?_))
      | simp [*, Pos.cs, appendV, srcCells, St.forget, scr, scrC, scrB_comp]
    refine lp_view (View.nilAt _ (t := 5) (o := 0) (key := 5) (key' := 57) (i := 1) (blk := ⟨38, [.sl 9 0 n1 1, .nils]⟩) 1 47 (by simp) (by simp) (by simp) (by simp)) ?_
    refine lp_go (D := (fun _ => none)) E8_ok mixed (by kernel_rfl) [1, 2, 4, 5] [2, 4, 9, 12, 21, 27, 56] (α := Nat) (fun i e h => i ≤ n ∧ e 6 = .int .i64 i ∧ h 5 = some ⟨38, [.sl 9 0 n1 1, .sl 57 0 i 1]⟩ ∧ h 57 = some ⟨47, ((p.lk.take i).map (fun l => l.map (resF 1))).map r0⟩) (fun i => n - i) 0 ?_ ?_
    · refine ⟨by omega, by simp, by simp, by simp⟩
    · rintro i e h hk hkh ⟨hi, g7, g6, g43⟩
      simp [Keep] at hk
      simp [KeepH, scrC] at hkh
      by_cases hlt : i < n
      · obtain ⟨l, hl, hl'⟩ := at_ex (l := p.lk) (i := i) (by omega)
        have f1 : ilt (i : Int) (n : Int) = true := ilt_t (by omega)
        have w1 : IntKind.i64.wrap ((i : Int) + 1) = ((i + 1 : Nat) : Int) := wrap_succ (by omega)
        have hlm : l.length ≤ 1000 := h3 l (List.mem_of_getElem? hl)
        have f5 : (i + 1) * 24 ≤ 140737488355328 := by omega
        have f6 : i + 1 ≤ 9223372036854775807 := by omega
        have hnx : ((p.lk.take (i + 1)).map (fun l => l.map (resF 1))).map r0 = ((p.lk.take i).map (fun l => l.map (resF 1))).map r0 ++ [r0 (l.map (resF 1))] := by rw [take_snoc hl]; simp
        have hln : (((p.lk.take i).map (fun l => l.map (resF 1))).map r0).length = i := by simp; omega
        generalize hCC : ((p.lk.take i).map (fun l => l.map (resF 1))).map r0 = CC at g43 hnx hln
        have hpC : CC.any ownC = false := by rw [← hCC]; exact pure_r0 _
        have hsC : ∀ k, CC.map (scrC k) = CC := fun k => scrC_cells hpC
        have hbC : ∀ k b, CC.map (pubC k b) = CC := fun k b => pub_cells hpC
        replace hnx : Hid (((p.lk.take (i + 1)).map (fun l => l.map (resF 1))).map r0 = CC ++ [r0 (l.map (resF 1))]) := hnx
        clear hCC
        have hlt2 : i < p.lk.length := by omega
        have hfi := flat_i1 l
        have hoi : (l.map (V.int .i64)).all oneV = true := by simp [oneV]
        obtain ⟨m, hm⟩ : ∃ m, l.length = m := ⟨_, rfl⟩
        rw [hm] at hlm
        have p5 : m * 8 ≤ 140737488355328 := by omega
        have p6 : m ≤ 9223372036854775807 := by omega
        repeat' first
          | (with_reducible refine gw_bool (fun _ => ?_) (fun _ => ?_))
          | (with_reducible refine condw_bool (fun _ => ?_) (fun _ => ?_))
          | simp [*, r1, appendV, srcCells, St.forget, scr, scrC, scrI_comp, scrB_comp]
        refine lp_go (D := (fun _ => none)) E8_ok mixed (by kernel_rfl) [1, 2, 4, 5, 6, 7, 14, 15, 16, 17, 18, 21, 22, 23, 24, 25, 26, 27] [2, 4, 5, 9, 12, 27, 56, 57] (α := Nat) (fun j e h => j ≤ m ∧ e 8 = .int .i64 j ∧ h 21 = some ⟨3, (half 1 l j).map (V.int .i64)⟩) (fun j => m - j) 0 ?_ ?_
        · refine ⟨by omega, by simp, by simp [half]⟩
        · have hk0 := hk
          have hkh0 := hkh
          have g0 := g7
          clear hk hkh g7
          rintro j e h hk hkh ⟨hj, g7, gK⟩
          simp [Keep, hk0, hkh0, g0, hm] at hk
          simp [KeepH, hk0, hkh0, g6, g43] at hkh
          have hCl : (half 1 l j).length = m := by rw [half_len _ _ _ (by omega)]; exact hm
          by_cases hjlt : j < m
          · obtain ⟨y, hy, -⟩ := at_ex (l := l) (i := j) (by omega)
            have f2 : ilt (j : Int) (m : Int) = true := ilt_t (by omega)
            have w2 : IntKind.i64.wrap ((j : Int) + 1) = ((j + 1 : Nat) : Int) := wrap_succ (by omega)
            have hC1 := half_at (z := 1) hy
            cases hq : ieq y 2
            · have hnj : Hid (half 1 l (j + 1) = half 1 l j) := half_same hy hq
              generalize half 1 l j = C at gK hCl hC1 hnj
              have hC2 : ∀ h : j < C.length, C[j] = y := fun h => by rw [List.getElem?_eq_getElem h] at hC1; exact Option.some.inj hC1
              clear hy hl hl' hnx
              repeat' first
                | (with_reducible refine gw_bool (fun _ => ?_) (fun _ => ?_))
                | (with_reducible refine condw_bool (fun _ => ?_) (fun _ => ?_))
                | simp [*, St.forget, scr, scrC]
              refine nxt_go (j + 1) (View.refl _ _) (by omega) (by simp [*, Keep, St.forget, scr, scrC]) (by simp [*, KeepH, St.forget, scr, scrC]) ?_
              refine ⟨by omega, by simp [*], ?_⟩
              rw [hnj.out]; simp [*]
            · have hnj : half 1 l (j + 1) = (half 1 l j).set j 1 := by rw [half_step hy]; simp [resF, hq]
              replace hnj : Hid (half 1 l (j + 1) = (half 1 l j).set j 1) := hnj
              generalize half 1 l j = C at gK hCl hC1 hnj
              have hC2 : ∀ h : j < C.length, C[j] = y := fun h => by rw [List.getElem?_eq_getElem h] at hC1; exact Option.some.inj hC1
              clear hy hl hl' hnx
              have hj1 : j + 1 ≤ m := by omega
              repeat' first
                | (with_reducible refine gw_bool (fun _ => ?_) (fun _ => ?_))
                | (with_reducible refine condw_bool (fun _ => ?_) (fun _ => ?_))
                | simp [*, St.forget, scr, scrC, setsV]
              refine nxt_go (j + 1) (View.refl _ _) (by omega) (by simp [*, Keep, St.forget, scr, scrC]) (by simp [*, KeepH, St.forget, scr, scrC]) ?_
              refine ⟨by omega, by simp [*], ?_⟩
              rw [hnj.out]; simp [*, setsV, List.map_set]
          · have f2 : ilt (j : Int) (m : Int) = false := ilt_f (by omega)
            have e2 : j = l.length := by omega
            rw [e2, half_end] at gK
            rw [e2, half_end] at hCl
            have hch := chunks_i1 (l.map (resF 1))
            have hcp := pure_i1 (l.map (resF 1))
            rw [hCl] at hch
            have hnx' := hnx.out
            generalize l.map (resF 1) = C at gK hCl hch hnx' hcp
            replace hnx' : Hid (List.map r0 (List.map (fun l => List.map (resF 1) l) (List.take (i + 1) p.lk)) = CC ++ [r0 C]) := hnx'
            replace hch : Hid (chunks 1 m (C.map (V.int .i64)) = C.map i1) := hch
            have hcs : ∀ k, (C.map (V.int .i64)).map (scrC k) = C.map (V.int .i64) := fun k => scrC_cells hcp
            have hmm : m ≤ C.length := by omega
            clear hnx hl hl' e2
            repeat' first
              | (with_reducible refine gw_bool (fun _ => ?_) (fun _ => ?_))
              | (with_reducible refine condw_bool (fun _ => ?_) (fun _ => ?_))
              | simp [*, appendV, srcCells, St.forget, scr, scrC, scrB_comp]
            refine nxt_go (i + 1) ((View.forget _ _ 56).trans (View.pub _ (key := 21) (blk := ⟨3, C.map (V.int .i64)⟩) ?_ hcp)) (by omega) ?_ ?_ ?_
            · simp [*, St.forget, scrC, scrI_comp]
            · simp [*, Keep, St.forget, scr, scrC, St.pub, pubT, pubA, pubC]
            · simp [*, KeepH, St.forget, scr, scrC, St.pub, pubC, scrB_comp]
            · refine ⟨by omega, ?_, ?_, ?_⟩
              · simp [*, St.forget, scr, scrC, St.pub, pubT, pubA, pubC]
              · simp [*, St.forget, scr, scrC, St.pub, pubC]
              · rw [hnx'.out]; simp [*, St.forget, scr, scrC, St.pub, pubC, r0, hch.out]
      · have f1 : ilt (i : Int) (n : Int) = false := ilt_f (by omega)
        have e1 : i = n := by omega
        subst e1
        have ht : p.lk.take i = p.lk := by rw [← hn]; exact List.take_length
        rw [ht] at g43
        have hpu := pure_r0 (p.lk.map (fun l => l.map (resF 1)))
        have hed := hend.out
        have hln : ((p.lk.map (fun l => l.map (resF 1))).map r0).length = i := by simp; omega
        generalize hCC : (p.lk.map (fun l => l.map (resF 1))).map r0 = CC at g43 hpu hed hln
        clear hend hCC ht
        repeat' first
          | (with_reducible refine gw_bool (fun _ => ?_) (fun _ => ?_))
          | (with_reducible refine condw_bool (fun _ => ?_) (fun _ => ?_))
          | simp [*, Pos.cs]
end Go.Proofs.Ytcbddoopmkhlfaa
