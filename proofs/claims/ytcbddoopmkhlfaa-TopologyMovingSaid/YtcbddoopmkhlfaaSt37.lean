/-
  The normal position; large diagrams; the law's guards.
-/
import Derived.Test.YtcbddoopmkhlfaaSt36
import Derived.Test.YtcbddoopmkhlfaaSt22
namespace Go.Proofs.Ytcbddoopmkhlfaa
open Go.Pv Go.RowKit
set_option linter.unusedSimpArgs false
set_option linter.unusedVariables false
set_option maxRecDepth 100000
set_option maxHeartbeats 4000000
attribute [-simp] Tclo_at Tgrp_at Tchk Tpchk TcI TcB Tclo Tgrp Tsid Tnod Tlook Tbnd TsidA Tre Tidx Tnms Tnmd Tobj Tlks Tbay Trck Trpc

def psL (b : By) : List Int := b.lks.map Lk.pos
def normP (s : Stn) : Pos := ⟨s.qs.map By.cl, s.qs.map psL⟩
theorem normal_ok {s : Stn} (h1 : chkF s = 0) : PCall Try.prog 47 [.agg s.cs] (.agg (normP s).cs) := by
  have hF := fine_of h1
  obtain ⟨n, hn⟩ : ∃ n, s.qs.length = n := ⟨_, rfl⟩
  have hn16 : n ≤ 16 := by have := hF.nq; omega
  have hc1 := chunks_b1 (s.qs.map By.cl)
  have hp1 := pure_b1 (s.qs.map By.cl)
  have hc2 := chunks_r0 (s.qs.map psL)
  have hp2 := pure_r0 (s.qs.map psL)
  rw [List.length_map, hn] at hc1 hc2
  have hres : (normP s).cs = [.list 1 ((s.qs.map By.cl).map b1), .list 1 ((s.qs.map psL).map r1)] := rfl
  rw [hres]
  clear hres
  obtain ⟨A, hA⟩ : ∃ A, (s.qs.map By.cl).map V.bool = A := ⟨_, rfl⟩
  obtain ⟨B, hB⟩ : ∃ B, (s.qs.map psL).map r0 = B := ⟨_, rfl⟩
  obtain ⟨A', hA'⟩ : ∃ A', (s.qs.map By.cl).map b1 = A' := ⟨_, rfl⟩
  obtain ⟨B', hB'⟩ : ∃ B', (s.qs.map psL).map r1 = B' := ⟨_, rfl⟩
  rw [hA] at hc1 hp1
  rw [hB] at hc2 hp2
  rw [hA'] at hc1 ⊢
  rw [hB'] at hc2 ⊢
  have hAl : A.length = n := by rw [← hA]; simp [hn]
  have hBl : B.length = n := by rw [← hB]; simp [hn]
  replace hA : Hid (((s.qs.take n).map By.cl).map V.bool = A) := by rw [← hn, List.take_length]; exact hA
  replace hB : Hid (((s.qs.take n).map psL).map r0 = B) := by rw [← hn, List.take_length]; exact hB
  clear hA' hB'
  refine pcall_cx D5_ok mixed (fun _ => none) Try.func47 rfl Try.ntmps47 Try.results47 (by simp) (by kernel_rfl) ?_
  repeat' first
    | (with_reducible refine gw_bool (fun _ => ?_) (fun _ => ?_))
    | (with_reducible refine condw_bool (fun _ => ?_) (fun _ => ?_))
    | simp [*, Stn.cs]
  refine lp_view (View.nilAt _ (t := 3) (o := 0) (key := 3) (key' := 38) (i := 0) (blk := ⟨38, [.nils, .nils]⟩) 1 4 (by simp) (by simp) (by simp) (by simp)) ?_
  refine lp_view (View.nilAt _ (t := 3) (o := 0) (key := 3) (key' := 44) (i := 1) (blk := ⟨38, [.sl 38 0 0 1, .nils]⟩) 1 47 (by simp) (by simp) (by simp) (by simp)) ?_
  refine lp_go (D := (fun _ => none)) D5_ok mixed (by kernel_rfl) [2, 3, 14, 15] [1, 2, 5, 8, 30, 31, 37, 43] (α := Nat) (fun i e h => i ≤ n ∧ e 16 = .int .i64 i ∧ h 3 = some ⟨38, [.sl 38 0 i 1, .sl 44 0 i 1]⟩ ∧ h 38 = some ⟨4, ((s.qs.take i).map By.cl).map V.bool⟩ ∧ h 44 = some ⟨47, ((s.qs.take i).map psL).map r0⟩) (fun i => n - i) 0 ?_ ?_
  · exact ⟨by omega, by simp, by simp, by simp, by simp⟩
  rintro i e h hk hkh ⟨hi, g7, g3, g38, g44⟩
  simp [Keep] at hk
  simp [KeepH] at hkh
  by_cases hlt : i < n
  · obtain ⟨b, hb, hb'⟩ := at_ex (l := s.qs) (i := i) (by omega)
    obtain ⟨-, -, hl1, hl2⟩ := hF.lk b (List.mem_of_getElem? hb)
    have f1 : ilt (i : Int) (n : Int) = true := ilt_t (by omega)
    have w1 : IntKind.i64.wrap ((i : Int) + 1) = ((i + 1 : Nat) : Int) := wrap_succ (by omega)
    have hx1 : Hid (((s.qs.take (i + 1)).map By.cl).map V.bool = ((s.qs.take i).map By.cl).map V.bool ++ [V.bool b.cl]) := show _ = _ by rw [take_snoc hb]; simp
    have hx2 : Hid (((s.qs.take (i + 1)).map psL).map r0 = ((s.qs.take i).map psL).map r0 ++ [r0 (psL b)]) := show _ = _ by rw [take_snoc hb]; simp
    have hCl : (((s.qs.take i).map By.cl).map V.bool).length = i := by simp; omega
    have hDl : (((s.qs.take i).map psL).map r0).length = i := by simp; omega
    have hCp := pure_b1 ((s.qs.take i).map By.cl)
    have hDp := pure_r0 ((s.qs.take i).map psL)
    generalize ((s.qs.take i).map By.cl).map V.bool = C at g38 hx1 hCl hCp
    generalize ((s.qs.take i).map psL).map r0 = D at g44 hx2 hDl hDp
    have hCs : ∀ k, C.map (scrC k) = C := fun k => scrC_cells hCp
    have hDs : ∀ k, D.map (scrC k) = D := fun k => scrC_cells hDp
    have hCb : ∀ k b, C.map (pubC k b) = C := fun k b => pub_cells hCp
    have hDb : ∀ k b, D.map (pubC k b) = D := fun k b => pub_cells hDp
    have f5 : (i + 1) * 24 ≤ 140737488355328 := by omega
    have f6 : i + 1 ≤ 9223372036854775807 := by omega
    have f7 : i + 1 ≤ 140737488355328 := by omega
    obtain ⟨m, hm⟩ : ∃ m, b.lks.length = m := ⟨_, rfl⟩
    rw [hm] at hl1 hl2
    clear hA hB hc1 hc2 hp1 hp2
    repeat' first
      | (with_reducible refine gw_bool (fun _ => ?_) (fun _ => ?_))
      | (with_reducible refine condw_bool (fun _ => ?_) (fun _ => ?_))
      | simp [*, By.cs]
    refine lp_view (View.nilOwn _ (t := 6) (key := 31) 1 3 (by simp) (by simp [*])) ?_
    refine lp_go (D := (fun _ => none)) D5_ok mixed (by kernel_rfl) [2, 3, 5, 14, 15, 16, 17, 18, 19, 20, 21, 22] [1, 2, 3, 5, 8, 30, 37, 38, 43, 44] (α := Nat) (fun j e h => j ≤ m ∧ e 23 = .int .i64 j ∧ e 6 = .sl 31 0 j 1 ∧ h 31 = some ⟨3, ((b.lks.take j).map Lk.pos).map (V.int .i64)⟩) (fun j => m - j) 0 ?_ ?_
    · exact ⟨by omega, by simp, by simp, by simp⟩
    have hk0 := hk
    have hkh0 := hkh
    have g70 := g7
    clear hk hkh g7
    rintro j e h hk hkh ⟨hj, g7, g6, g31⟩
    simp [Keep, hk0, hkh0, g70] at hk
    simp [KeepH, hk0, hkh0, g3, g38, g44] at hkh
    by_cases hjlt : j < m
    · obtain ⟨x, hx, hx'⟩ := at_ex (l := b.lks) (i := j) (by omega)
      have f2 : ilt (j : Int) (m : Int) = true := ilt_t (by omega)
      have w2 : IntKind.i64.wrap ((j : Int) + 1) = ((j + 1 : Nat) : Int) := wrap_succ (by omega)
      have hy : Hid (((b.lks.take (j + 1)).map Lk.pos).map (V.int .i64) = ((b.lks.take j).map Lk.pos).map (V.int .i64) ++ [V.int .i64 x.pos]) := show _ = _ by rw [take_snoc hx]; simp
      have hEl : (((b.lks.take j).map Lk.pos).map (V.int .i64)).length = j := by simp; omega
      have hEp := pure_i1 ((b.lks.take j).map Lk.pos)
      generalize ((b.lks.take j).map Lk.pos).map (V.int .i64) = E at g31 hy hEl hEp
      have hEs : ∀ k, E.map (scrC k) = E := fun k => scrC_cells hEp
      have q5 : (j + 1) * 8 ≤ 140737488355328 := by omega
      have q6 : j + 1 ≤ 9223372036854775807 := by omega
      clear hx1 hx2 hb hb'
      repeat' first
        | (with_reducible refine gw_bool (fun _ => ?_) (fun _ => ?_))
        | (with_reducible refine condw_bool (fun _ => ?_) (fun _ => ?_))
        | simp [*, Lk.cs, appendV, srcCells, St.forget, scr, scrC]
      refine nxt_go (j + 1) ((View.forget _ _ 30).trans (View.forget _ _ 8)) (by omega) (by simp [*, Keep, St.forget, scr, scrC, usesC, usesA]) (by simp [*, KeepH, St.forget, scr, scrC]) ?_
      refine ⟨by omega, by simp [*, St.forget, scr, scrC], by simp [*, St.forget, scr, scrC], ?_⟩
      rw [hy.out]; simp [*, St.forget, scr, scrC]
    · have f2 : ilt (j : Int) (m : Int) = false := ilt_f (by omega)
      have e2 : j = b.lks.length := by omega
      have hch := chunks_i1 (psL b)
      have hcp := pure_i1 (psL b)
      have hpl : (psL b).length = m := by simp [psL, hm]
      rw [hpl] at hch
      rw [e2, List.take_length] at g31
      rw [e2, hm] at g6
      have g31' : h 31 = some ⟨3, (psL b).map (V.int .i64)⟩ := g31
      have hx2' := hx2.out
      clear g31 e2 hx2
      generalize psL b = E at g31' hch hcp hpl hx2'
      replace hx2' : Hid (((s.qs.take (i + 1)).map psL).map r0 = D ++ [r0 E]) := hx2'
      replace hch : Hid (chunks 1 m (E.map (V.int .i64)) = E.map i1) := hch
      have hcs : ∀ k, (E.map (V.int .i64)).map (scrC k) = E.map (V.int .i64) := fun k => scrC_cells hcp
      have hmm : m ≤ E.length := by omega
      clear hb hb'
      repeat' first
        | (with_reducible refine gw_bool (fun _ => ?_) (fun _ => ?_))
        | (with_reducible refine condw_bool (fun _ => ?_) (fun _ => ?_))
        | simp [*, appendV, srcCells, St.forget, scr, scrC]
      refine nxt_go (i + 1) ((View.forget _ _ 37).trans ((View.forget _ _ 43).trans ((View.forget _ _ 5).trans (View.pub _ (key := 31) (blk := ⟨3, E.map (V.int .i64)⟩) ?_ hcp)))) (by omega) ?_ ?_ ?_
      · simp [*, St.forget, scrC, scrI_comp]
      · simp [*, Keep, St.forget, scr, scrC, St.pub, pubT, pubA, pubC]
      · simp [*, KeepH, St.forget, scr, scrC, St.pub, pubC]
      · refine ⟨by omega, ?_, ?_, ?_, ?_⟩
        · simp [*, St.forget, scr, scrC, St.pub, pubT, pubA, pubC]
        · simp [*, St.forget, scr, scrC, St.pub, pubC]
        · rw [hx1.out]; simp [*, St.forget, scr, scrC, St.pub, pubC]
        · rw [hx2'.out]; simp [*, St.forget, scr, scrC, St.pub, pubC, r0, hch.out]
  · have f1 : ilt (i : Int) (n : Int) = false := ilt_f (by omega)
    have e1 : i = n := by omega
    rw [e1, hA.out] at g38
    rw [e1, hB.out] at g44
    rw [e1] at g3
    clear hA hB
    repeat' first
      | (with_reducible refine gw_bool (fun _ => ?_) (fun _ => ?_))
      | (with_reducible refine condw_bool (fun _ => ?_) (fun _ => ?_))
      | simp [*, setsV]
def largeF (s : Stn) : Bool := ilt 8 (s.bs.length : Int) || (ilt 10 (s.ls.length : Int) || (ilt 8 (s.ss.length : Int) || (ilt 20 (s.qs.length : Int) || s.qs.any (fun b => ilt 6 (b.lks.length : Int)))))
theorem large_ok (s : Stn) : PCall Try.prog 48 [.agg s.cs] (.bool (largeF s)) := by
  obtain ⟨nb, hnb⟩ : ∃ n, s.bs.length = n := ⟨_, rfl⟩
  obtain ⟨nl, hnl⟩ : ∃ n, s.ls.length = n := ⟨_, rfl⟩
  obtain ⟨ns, hns⟩ : ∃ n, s.ss.length = n := ⟨_, rfl⟩
  obtain ⟨n, hn⟩ : ∃ n, s.qs.length = n := ⟨_, rfl⟩
  cases c1 : ilt 8 (nb : Int)
  case true =>
    have hv : largeF s = true := by simp only [largeF, hnb, c1]; simp
    refine pcall_cx noTab_ok mixed (fun _ => none) Try.func48 rfl Try.ntmps48 Try.results48 (by simp) (by kernel_rfl) ?_
    repeat' first
      | (with_reducible refine gw_bool (fun _ => ?_) (fun _ => ?_))
      | (with_reducible refine condw_bool (fun _ => ?_) (fun _ => ?_))
      | simp [*, Stn.cs]
  cases c2 : ilt 10 (nl : Int)
  case true =>
    have hv : largeF s = true := by simp only [largeF, hnl, c2]; simp
    refine pcall_cx noTab_ok mixed (fun _ => none) Try.func48 rfl Try.ntmps48 Try.results48 (by simp) (by kernel_rfl) ?_
    repeat' first
      | (with_reducible refine gw_bool (fun _ => ?_) (fun _ => ?_))
      | (with_reducible refine condw_bool (fun _ => ?_) (fun _ => ?_))
      | simp [*, Stn.cs]
  cases c3 : ilt 8 (ns : Int)
  case true =>
    have hv : largeF s = true := by simp only [largeF, hns, c3]; simp
    refine pcall_cx noTab_ok mixed (fun _ => none) Try.func48 rfl Try.ntmps48 Try.results48 (by simp) (by kernel_rfl) ?_
    repeat' first
      | (with_reducible refine gw_bool (fun _ => ?_) (fun _ => ?_))
      | (with_reducible refine condw_bool (fun _ => ?_) (fun _ => ?_))
      | simp [*, Stn.cs]
  cases c4 : ilt 20 (n : Int)
  case true =>
    have hv : largeF s = true := by simp only [largeF, hn, c4]; simp
    refine pcall_cx noTab_ok mixed (fun _ => none) Try.func48 rfl Try.ntmps48 Try.results48 (by simp) (by kernel_rfl) ?_
    repeat' first
      | (with_reducible refine gw_bool (fun _ => ?_) (fun _ => ?_))
      | (with_reducible refine condw_bool (fun _ => ?_) (fun _ => ?_))
      | simp [*, Stn.cs]
  have hn20 : n ≤ 20 := by have := ilt_iff'.1 c4; omega
  have hv : largeF s = s.qs.any (fun b => ilt 6 (b.lks.length : Int)) := by simp only [largeF, hnb, hnl, hns, hn, c1, c2, c3, c4]; simp
  rw [hv]
  clear hv
  obtain ⟨R, hR⟩ : ∃ R, s.qs.any (fun b => ilt 6 (b.lks.length : Int)) = R := ⟨_, rfl⟩
  rw [hR]
  replace hR : Hid (s.qs.any (fun b => ilt 6 (b.lks.length : Int)) = R) := hR
  refine pcall_cx noTab_ok mixed (fun _ => none) Try.func48 rfl Try.ntmps48 Try.results48 (by simp) (by kernel_rfl) ?_
  repeat' first
    | (with_reducible refine gw_bool (fun _ => ?_) (fun _ => ?_))
    | (with_reducible refine condw_bool (fun _ => ?_) (fun _ => ?_))
    | simp [*, Stn.cs]
  refine lp_go (D := (fun _ => none)) noTab_ok mixed (by kernel_rfl) [1] [1] (α := Nat) (fun i e h => i ≤ n ∧ e 3 = .int .i64 i ∧ Hid ((s.qs.take i).any (fun b => ilt 6 (b.lks.length : Int)) = false)) (fun i => n - i) 0 ?_ ?_
  · exact ⟨by omega, by simp, show _ = _ by simp⟩
  rintro i e h hk hkh ⟨hi, g7, hinv⟩
  simp [Keep] at hk
  simp [KeepH] at hkh
  by_cases hlt : i < n
  · obtain ⟨b, hb, hb'⟩ := at_ex (l := s.qs) (i := i) (by omega)
    have f1 : ilt (i : Int) (n : Int) = true := ilt_t (by omega)
    have w1 : IntKind.i64.wrap ((i : Int) + 1) = ((i + 1 : Nat) : Int) := wrap_succ (by omega)
    obtain ⟨m, hm⟩ : ∃ m, b.lks.length = m := ⟨_, rfl⟩
    have hnx : (s.qs.take (i + 1)).any (fun b => ilt 6 (b.lks.length : Int)) = ilt 6 (m : Int) := by rw [take_snoc hb, List.any_append, hinv.out]; simp [hm]
    cases hq : ilt 6 (m : Int)
    · rw [hq] at hnx
      replace hnx : Hid ((s.qs.take (i + 1)).any (fun b => ilt 6 (b.lks.length : Int)) = false) := hnx
      clear hinv hR
      repeat' first
        | (with_reducible refine gw_bool (fun _ => ?_) (fun _ => ?_))
        | (with_reducible refine condw_bool (fun _ => ?_) (fun _ => ?_))
        | simp [*, By.cs]
      refine nxt_go (i + 1) (View.refl _ _) (by omega) (by simp [*, Keep, St.forget, scr, scrC]) (by simp [*, KeepH, St.forget, scr, scrC]) ?_
      exact ⟨by omega, by simp [*], hnx⟩
    · have hRt : true = R := by rw [← hR.out]; symm; exact List.any_eq_true.2 ⟨b, List.mem_of_getElem? hb, by rw [hm]; exact hq⟩
      clear hinv hR hnx
      subst hRt
      repeat' first
        | (with_reducible refine gw_bool (fun _ => ?_) (fun _ => ?_))
        | (with_reducible refine condw_bool (fun _ => ?_) (fun _ => ?_))
        | simp [*, By.cs]
  · have f1 : ilt (i : Int) (n : Int) = false := ilt_f (by omega)
    have hRf : false = R := by
      have := hinv.out
      rw [List.take_of_length_le (by omega)] at this
      rw [← hR.out]; exact this.symm
    clear hinv hR
    subst hRf
    repeat' first
      | (with_reducible refine gw_bool (fun _ => ?_) (fun _ => ?_))
      | (with_reducible refine condw_bool (fun _ => ?_) (fun _ => ?_))
      | simp [*]
end Go.Proofs.Ytcbddoopmkhlfaa
