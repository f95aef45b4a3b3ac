/-
  Views: look.
-/
import Derived.Test.YtcbddoopmkhlfaaSt13
namespace Go.Proofs.Ytcbddoopmkhlfaa
open Go.Pv Go.RowKit
set_option linter.unusedSimpArgs false
set_option linter.unusedVariables false
set_option maxRecDepth 100000
set_option maxHeartbeats 2000000
attribute [-simp] Tclo_at Tgrp_at Tchk Tpchk TcI TcB Tclo Tgrp Tsid Tnod

def vu0 : V := .agg [.str ⟨#[]⟩, .nils, .nils, .nils, .nils, .nils, .nils, .nils]
theorem look_bad1 {s : Stn} {p : Pos} (h : ieq (chkF s) 0 = false) : PCall Try.prog 49 [.agg s.cs, .agg p.cs] (.tup [vu0, .bool false]) := by
  refine pcall_cx D4_ok mixed (fun _ => none) Try.func49 rfl Try.ntmps49 Try.results49 (by simp) (by kernel_rfl) ?_
  repeat' first
    | (with_reducible refine gw_bool (fun _ => ?_) (fun _ => ?_))
    | (with_reducible refine condw_bool (fun _ => ?_) (fun _ => ?_))
    | simp [*, Stn.cs, Pos.cs, vu0]
theorem look_bad2 {s : Stn} {p : Pos} (hl : lenB s p = true) (h1 : ieq (chkF s) 0 = true) (h : ieq (posE s p) 0 = false) : PCall Try.prog 49 [.agg s.cs, .agg p.cs] (.tup [vu0, .bool false]) := by
  refine pcall_cx D4_ok mixed (fun _ => none) Try.func49 rfl Try.ntmps49 Try.results49 (by simp) (by kernel_rfl) ?_
  repeat' first
    | (with_reducible refine gw_bool (fun _ => ?_) (fun _ => ?_))
    | (with_reducible refine condw_bool (fun _ => ?_) (fun _ => ?_))
    | simp [*, Stn.cs, Pos.cs, vu0]
theorem lenB_of {s : Stn} {p : Pos} (h : Fine s) (k : PFine s p) : lenB s p = true := by
  simp only [lenB, Bool.and_eq_true, decide_eq_true_eq, List.all_eq_true]
  refine ⟨by have := h.nq; omega, fun l hl => ?_⟩
  obtain ⟨i, hi, rfl⟩ := List.mem_iff_getElem.1 hl
  have hk := k.nk
  obtain ⟨b, hb, _⟩ := at_ex (l := s.qs) (i := i) (by omega)
  have := (k.row i b _ hb (List.getElem?_eq_getElem hi)).1
  have := (h.lk b (List.mem_of_getElem? hb)).2.2.2
  omega
theorem ini0_step (n : Nat) : ini0 (n + 1) = ini0 n ++ [(n : Int)] := by simp [ini0, List.range_succ]
theorem ini0_len (n : Nat) : (ini0 n).length = n := by simp [ini0]
theorem look_ok {s : Stn} {p : Pos} (h1 : chkF s = 0) (h2 : posE s p = 0) : PCall Try.prog 49 [.agg s.cs, .agg p.cs] (.tup [.agg (Vu.cs ⟨s, p, grp s p⟩), .bool true]) := by
  have hF := fine_of h1
  have hP := pfine_of h2
  have hw := wf_of hF hP
  have hlb := lenB_of hF hP
  obtain ⟨nb, hnb⟩ : ∃ n, s.bs.length = n := ⟨_, rfl⟩
  obtain ⟨n, hn⟩ : ∃ n, s.qs.length = n := ⟨_, rfl⟩
  have hn16 : n ≤ 16 := by have := hF.nq; omega
  have hnb4 : nb ≤ 4 := by have := hF.nb; omega
  have hkn : p.lk.length = n := by have := hP.nk; omega
  have hch := chunks_i1 (grp s p)
  have hpu := pure_i1 (grp s p)
  have hgl : (grp s p).length = nb := by rw [grp, grpN_len]; exact hnb
  obtain ⟨R, hR⟩ : ∃ R, grp s p = R := ⟨_, rfl⟩
  rw [hR] at hch hpu hgl
  rw [hR]
  rw [hgl] at hch
  replace hR : Hid (grpN s p n = R) := by rw [grp, hn] at hR; exact hR
  rw [hnb] at hw
  refine pcall_cx D4_ok mixed (fun _ => none) Try.func49 rfl Try.ntmps49 Try.results49 (by simp) (by kernel_rfl) ?_
  repeat' first
    | (with_reducible refine gw_bool (fun _ => ?_) (fun _ => ?_))
    | (with_reducible refine condw_bool (fun _ => ?_) (fun _ => ?_))
    | simp [*, Stn.cs, Pos.cs]
  refine lp_view (View.nilAt _ (t := 6) (o := 0) (key := 6) (key' := 39) (i := 7) (blk := ⟨81, [.str s.nm, .list 1 (s.bs.map s1), .list 5 (s.ls.map Ln.cs), .list 6 (s.ss.map Sr.cs), .list 12 (s.qs.map By.cs), .list 1 (p.cl.map b1), .list 1 (p.lk.map r1), .nils]⟩) 1 3 (by simp) (by simp) (by simp) (by simp)) ?_
  refine lp_go (D := (fun _ => none)) D4_ok mixed (by kernel_rfl) [2, 4, 6, 31] [2, 3, 4, 9, 38] (α := Nat) (fun i e h => i ≤ nb ∧ e 32 = .int .i64 i ∧ h 6 = some ⟨81, [.str s.nm, .list 1 (s.bs.map s1), .list 5 (s.ls.map Ln.cs), .list 6 (s.ss.map Sr.cs), .list 12 (s.qs.map By.cs), .list 1 (p.cl.map b1), .list 1 (p.lk.map r1), .sl 39 0 i 1]⟩ ∧ h 39 = some ⟨3, (ini0 i).map (V.int .i64)⟩) (fun i => nb - i) 0 ?_ ?_
  · refine ⟨by omega, by simp, by simp, by simp [ini0]⟩
  · rintro i e h hk hkh ⟨hi, g7, g6, g39⟩
    simp [Keep] at hk
    simp [KeepH] at hkh
    by_cases hlt : i < nb
    · have f1 : ilt (i : Int) (nb : Int) = true := ilt_t (by omega)
      have w1 : IntKind.i64.wrap ((i : Int) + 1) = ((i + 1 : Nat) : Int) := wrap_succ (by omega)
      have f5 : (i + 1) * 8 ≤ 140737488355328 := by omega
      have f6 : i + 1 ≤ 9223372036854775807 := by omega
      have hst : Hid (ini0 (i + 1) = ini0 i ++ [(i : Int)]) := ini0_step i
      have hl0 := ini0_len i
      generalize ini0 i = C at g39 hst hl0
      clear hR hch hpu hgl hw h2
      repeat' first
        | (with_reducible refine gw_bool (fun _ => ?_) (fun _ => ?_))
        | (with_reducible refine condw_bool (fun _ => ?_) (fun _ => ?_))
        | simp [*, appendV, srcCells, St.forget, scr, scrC, scrI_comp]
      refine nxt_go (i + 1) ((View.forget _ _ 38)) (by omega) (by simp [*, Keep, St.forget, scr, scrC]) (by simp [*, KeepH, St.forget, scr, scrC]) ?_
      refine ⟨by omega, by simp [*, St.forget, scr, scrC], by simp [*, St.forget, scr, scrC], ?_⟩
      rw [hst.out]; simp [*, St.forget, scr, scrC, scrI_comp]
    · have f1 : ilt (i : Int) (nb : Int) = false := ilt_f (by omega)
      have e1 : i = nb := by omega
      subst e1
      have hin : grpN s p 0 = ini0 i := by simp [grpN, hnb]
      rw [← hin] at g39
      clear hin
      repeat' first
        | (with_reducible refine gw_bool (fun _ => ?_) (fun _ => ?_))
        | (with_reducible refine condw_bool (fun _ => ?_) (fun _ => ?_))
        | simp [*]
      refine lp_go (D := (fun _ => none)) D4_ok mixed (by kernel_rfl) [4, 6, 43, 44] [2, 3, 4, 6, 9, 38] (α := Nat) (fun k e h => k ≤ n ∧ e 45 = .int .i64 k ∧ h 39 = some ⟨3, (grpN s p k).map (V.int .i64)⟩) (fun k => n - k) 0 ?_ ?_
      · exact ⟨by omega, by simp, by simp [*]⟩
      · have hk0 := hk
        have hkh0 := hkh
        clear hk hkh g7 g39
        rintro k e h hk hkh ⟨hki, g7, g39⟩
        simp [Keep, hk0, hkh0] at hk
        simp [KeepH, hk0, hkh0, g6] at hkh
        by_cases hlt : k < n
        · obtain ⟨b, hb, hb'⟩ := at_ex (l := s.qs) (i := k) (by omega)
          obtain ⟨l, hl, hl'⟩ := at_ex (l := p.lk) (i := k) (by omega)
          obtain ⟨hll, -⟩ := hP.row k b l hb hl
          obtain ⟨hbus, -, hb1, hb2⟩ := hF.lk b (List.mem_of_getElem? hb)
          have f1 : ilt (k : Int) (n : Int) = true := ilt_t (by omega)
          have w1 : IntKind.i64.wrap ((k : Int) + 1) = ((k + 1 : Nat) : Int) := wrap_succ (by omega)
          have hst : Hid (grpN s p (k + 1) = stG (grpN s p k) b l) := grpN_step hb hl
          have hGl : (grpN s p k).length = i := by rw [grpN_len]; exact hnb
          have hGc := chunks_i1 (grpN s p k)
          have hGp := pure_i1 (grpN s p k)
          rw [hGl] at hGc
          generalize grpN s p k = G at g39 hst hGl hGc hGp
          clear hR hch hpu hgl hw h2 h1
          have hGs := scr_i1 G
          have hGm : ∀ q : Nat, scrC q ∘ V.int .i64 = V.int .i64 := scrI_comp
          cases hk3 : ieq b.kind 3
          · obtain ⟨lks, hlk⟩ : ∃ lks, b.lks = lks := ⟨_, rfl⟩
            rw [hlk] at hll hbus hb1 hb2
            match lks, hb1, hb2 with
            | [a], _, _ =>
              have hnx : stG G b l = G := by simp [stG, hk3, hlk]
              rw [hnx] at hst
              clear hnx hbus
              repeat' first
                | (with_reducible refine gw_bool (fun _ => ?_) (fun _ => ?_))
                | (with_reducible refine condw_bool (fun _ => ?_) (fun _ => ?_))
                | simp [*, By.cs]
              refine nxt_go (k + 1) ((View.forget _ _ 9)) (by omega) (by simp [*, Keep, St.forget, scr, scrC]) (by simp [*, KeepH, St.forget, scr, scrC]) ?_
              refine ⟨by omega, by simp [*, St.forget, scr, scrC], ?_⟩
              rw [hst.out]; simp [*, St.forget, scr, scrC, scrI_comp]
            | [a, c], _, _ =>
              match l, hll with
              | [x, y], _ =>
                have hc0 : clF p k 0 = some (ieq x 1) := by simp [clF, hl]
                have hc1 : clF p k 1 = some (ieq y 1) := by simp [clF, hl]
                cases hx : ieq x 1
                · have hnx : stG G b [x, y] = G := by simp [stG, hk3, hlk, hx]
                  rw [hnx] at hst
                  rw [hx] at hc0
                  clear hnx hbus
                  repeat' first
                    | (with_reducible refine gw_bool (fun _ => ?_) (fun _ => ?_))
                    | (with_reducible refine condw_bool (fun _ => ?_) (fun _ => ?_))
                    | simp [*, By.cs]
                  refine nxt_go (k + 1) ((View.forget _ _ 9)) (by omega) (by simp [*, Keep, St.forget, scr, scrC]) (by simp [*, KeepH, St.forget, scr, scrC]) ?_
                  refine ⟨by omega, by simp [*, St.forget, scr, scrC], ?_⟩
                  rw [hst.out]; simp [*, St.forget, scr, scrC, scrI_comp]
                cases hy : ieq y 1
                · have hnx : stG G b [x, y] = G := by simp [stG, hk3, hlk, hx, hy]
                  rw [hnx] at hst
                  rw [hx] at hc0
                  rw [hy] at hc1
                  clear hnx hbus
                  repeat' first
                    | (with_reducible refine gw_bool (fun _ => ?_) (fun _ => ?_))
                    | (with_reducible refine condw_bool (fun _ => ?_) (fun _ => ?_))
                    | simp [*, By.cs]
                  refine nxt_go (k + 1) ((View.forget _ _ 9)) (by omega) (by simp [*, Keep, St.forget, scr, scrC]) (by simp [*, KeepH, St.forget, scr, scrC]) ?_
                  refine ⟨by omega, by simp [*, St.forget, scr, scrC], ?_⟩
                  rw [hst.out]; simp [*, St.forget, scr, scrC, scrI_comp]
                obtain ⟨u, hu⟩ := Int.eq_ofNat_of_zero_le (hbus a (by simp)).1
                obtain ⟨w, hwc⟩ := Int.eq_ofNat_of_zero_le (hbus c (by simp)).1
                have hub : u < i := by have := (hbus a (by simp)).2; omega
                have hwb : w < i := by have := (hbus c (by simp)).2; omega
                obtain ⟨ga, hga, -⟩ := at_ex (l := G) (i := u) (by omega)
                obtain ⟨gc, hgc, -⟩ := at_ex (l := G) (i := w) (by omega)
                have hga2 : ∀ h : u < G.length, G[u] = ga := fun h => by rw [List.getElem?_eq_getElem h] at hga; exact Option.some.inj hga
                have hgc2 : ∀ h : w < G.length, G[w] = gc := fun h => by rw [List.getElem?_eq_getElem h] at hgc; exact Option.some.inj hgc
                have hnx : stG G b [x, y] = G.map (mgF (min ga gc) (max ga gc)) := by simp [stG, hk3, hlk, hx, hy, merge, g0, gAt, hu, hwc, hga, hgc]
                rw [hnx] at hst
                rw [hx] at hc0
                rw [hy] at hc1
                clear hnx hbus
                have hcu : (u : Int) < (i : Int) := by omega
                have hcw : (w : Int) < (i : Int) := by omega
                obtain ⟨lo, hlo⟩ : ∃ lo, min ga gc = lo := ⟨_, rfl⟩
                obtain ⟨top, hto⟩ : ∃ top, max ga gc = top := ⟨_, rfl⟩
                rw [hlo, hto] at hst
                repeat' first
                  | (with_reducible refine gw_bool (fun _ => ?_) (fun _ => ?_))
                  | (with_reducible refine condw_bool (fun _ => ?_) (fun _ => ?_))
                  | simp [*, By.cs, Lk.cs]
                refine lp_go (D := (fun _ => none)) D4_ok mixed (by kernel_rfl) [4, 6, 8, 9, 10, 11, 12, 13, 43, 44, 45, 46, 47, 48, 49, 50, 51, 52, 53, 54, 55, 56, 57, 58, 59, 60, 61, 62, 63, 64, 65, 66, 67, 68, 69, 70, 71, 72, 73, 74, 75, 76, 77, 78, 79, 80, 81, 82, 83, 84, 85, 86, 87, 88, 89, 90, 91, 92, 93, 94, 95, 96, 97] [2, 3, 4, 6, 9, 38] (α := Nat) (fun j e h => j ≤ i ∧ e 98 = .int .i64 j ∧ h 39 = some ⟨3, (hG (mgF lo top) G j).map (V.int .i64)⟩) (fun j => i - j) 0 ?_ ?_
                · exact ⟨by omega, by simp, by simp [*, hG]⟩
                · have hk1 := hk
                  have hkh1 := hkh
                  have g71 := g7
                  clear hk hkh g7 g39
                  rintro j e h hk hkh ⟨hji, g7, g39⟩
                  simp [Keep, hk1, hkh1, g71, hlo, hto] at hk
                  simp [KeepH, hk1, hkh1] at hkh
                  have hCl : (hG (mgF lo top) G j).length = i := by rw [hG_len _ _ _ (by omega)]; exact hGl
                  clear hga hgc hga2 hgc2 hGs
                  by_cases hjlt : j < i
                  · obtain ⟨z, hz, -⟩ := at_ex (l := G) (i := j) (by omega)
                    have f2 : ilt (j : Int) (i : Int) = true := ilt_t (by omega)
                    have w2 : IntKind.i64.wrap ((j : Int) + 1) = ((j + 1 : Nat) : Int) := wrap_succ (by omega)
                    have hC1 := hG_at (f := mgF lo top) hz
                    have hj1 : j + 1 ≤ i := by omega
                    cases hq : ieq z top
                    · have hnj : Hid (hG (mgF lo top) G (j + 1) = hG (mgF lo top) G j) := hG_same hz (by simp [mgF, hq])
                      generalize hG (mgF lo top) G j = C at g39 hCl hC1 hnj
                      have hC2 : ∀ h : j < C.length, C[j] = z := fun h => by rw [List.getElem?_eq_getElem h] at hC1; exact Option.some.inj hC1
                      clear hz hst hGl hGc hGp
                      repeat' first
                        | (with_reducible refine gw_bool (fun _ => ?_) (fun _ => ?_))
                        | (with_reducible refine condw_bool (fun _ => ?_) (fun _ => ?_))
                        | simp [*, St.forget, scr, scrC]
                      refine nxt_go (j + 1) (View.refl _ _) (by omega) (by simp [*, Keep, St.forget, scr, scrC]) (by simp [*, KeepH, St.forget, scr, scrC]) ?_
                      refine ⟨by omega, by simp [*], ?_⟩
                      rw [hnj.out]; simp [*]
                    · have hnj : hG (mgF lo top) G (j + 1) = (hG (mgF lo top) G j).set j lo := by rw [hG_step hz]; simp [mgF, hq]
                      replace hnj : Hid (hG (mgF lo top) G (j + 1) = (hG (mgF lo top) G j).set j lo) := hnj
                      generalize hG (mgF lo top) G j = C at g39 hCl hC1 hnj
                      have hC2 : ∀ h : j < C.length, C[j] = z := fun h => by rw [List.getElem?_eq_getElem h] at hC1; exact Option.some.inj hC1
                      clear hz hst hGl hGc hGp
                      repeat' first
                        | (with_reducible refine gw_bool (fun _ => ?_) (fun _ => ?_))
                        | (with_reducible refine condw_bool (fun _ => ?_) (fun _ => ?_))
                        | simp [*, St.forget, scr, scrC, setsV]
                      refine nxt_go (j + 1) (View.refl _ _) (by omega) (by simp [*, Keep, St.forget, scr, scrC]) (by simp [*, KeepH, St.forget, scr, scrC]) ?_
                      refine ⟨by omega, by simp [*], ?_⟩
                      rw [hnj.out]; simp [*, setsV, List.map_set]
                  · have f2 : ilt (j : Int) (i : Int) = false := ilt_f (by omega)
                    have e2 : j = G.length := by omega
                    rw [e2, hG_end] at g39
                    clear e2 hCl
                    have hst' := hst.out
                    generalize G.map (mgF lo top) = C at g39 hst'
                    replace hst' : Hid (grpN s p (k + 1) = C) := hst'
                    clear hst hGl hGc hGp
                    repeat' first
                      | (with_reducible refine gw_bool (fun _ => ?_) (fun _ => ?_))
                      | (with_reducible refine condw_bool (fun _ => ?_) (fun _ => ?_))
                      | simp [*, St.forget, scr, scrC]
                    refine nxt_go (k + 1) ((View.forget _ _ 9)) (by omega) (by simp [*, Keep, St.forget, scr, scrC]) (by simp [*, KeepH, St.forget, scr, scrC]) ?_
                    refine ⟨by omega, by simp [*, St.forget, scr, scrC], ?_⟩
                    rw [hst'.out]; simp [*, St.forget, scr, scrC, scrI_comp]
          · have hnx : stG G b l = G := by simp [stG, hk3]
            rw [hnx] at hst
            clear hnx hbus
            repeat' first
              | (with_reducible refine gw_bool (fun _ => ?_) (fun _ => ?_))
              | (with_reducible refine condw_bool (fun _ => ?_) (fun _ => ?_))
              | simp [*, By.cs]
            refine nxt_go (k + 1) ((View.forget _ _ 9)) (by omega) (by simp [*, Keep, St.forget, scr, scrC]) (by simp [*, KeepH, St.forget, scr, scrC]) ?_
            refine ⟨by omega, by simp [*, St.forget, scr, scrC], ?_⟩
            rw [hst.out]; simp [*, St.forget, scr, scrC, scrI_comp]
        · have f1 : ilt (k : Int) (n : Int) = false := ilt_f (by omega)
          have e1 : k = n := by omega
          rw [e1, hR.out] at g39
          clear hR
          repeat' first
            | (with_reducible refine gw_bool (fun _ => ?_) (fun _ => ?_))
            | (with_reducible refine condw_bool (fun _ => ?_) (fun _ => ?_))
            | simp [*, Vu.cs]
/-! ### Sides, Boundary -/
def okP (s : Stn) (p : Pos) : Bool := decide (chkF s = 0 ∧ posE s p = 0)
theorem okP_iff {s : Stn} {p : Pos} (h : okP s p = true) : chkF s = 0 ∧ posE s p = 0 := by simpa [okP] using h
def Tlook : List V → Option V
  | [.agg a, .agg b] => (match unStn a, unPos b with
    | some s, some p => if okP s p = true then some (.tup [.agg (Vu.cs ⟨s, p, grp s p⟩), .bool true]) else none
    | _, _ => none)
  | _ => none
theorem Tlook_at {s : Stn} {p : Pos} (h : okP s p = true) : Tlook [.agg [.str s.nm, .list 1 (s.bs.map s1), .list 5 (s.ls.map Ln.cs), .list 6 (s.ss.map Sr.cs), .list 12 (s.qs.map By.cs)], .agg [.list 1 (p.cl.map b1), .list 1 (p.lk.map r1)]] = some (.tup [.agg (Vu.cs ⟨s, p, grp s p⟩), .bool true]) := by
  have e1 := unStn_cs s
  have e2 := unPos_cs p
  unfold Stn.cs at e1
  unfold Pos.cs at e2
  simp [Tlook, e1, e2, h]
theorem look_tab : ∀ vs v, Tlook vs = some v → PCall Try.prog 49 vs v := by
  intro vs v h; unfold Tlook at h; split at h
  · split at h
    · rename_i h1 h2
      split at h
      · rename_i hl
        cases h
        rw [unStn_inv _ _ h1, unPos_inv _ _ h2]
        obtain ⟨a, b⟩ := okP_iff hl
        exact look_ok a b
      · cases h
    · cases h
  · cases h
theorem wfg_of {s : Stn} {p : Pos} (h : okP s p = true) : wfG s p (grp s p).length = true := by
  obtain ⟨a, b⟩ := okP_iff h
  rw [grp, grpN_len]
  exact wf_of (fine_of a) (pfine_of b)
def Tbnd : List V → Option V
  | [.agg c, .agg [.int .i64 k, .int .i64 o]] => (match unVu c with
    | some v => if v.g.length = v.s.bs.length ∧ wfG v.s v.p v.g.length = true then some (.list 1 ((bndF v.s v.p v.g (nodF v.s v.g k o)).map i1)) else none
    | none => none)
  | _ => none
theorem Tbnd_at {s : Stn} {p : Pos} {g : List Int} {k o : Int} (h : g.length = s.bs.length) (hw : wfG s p g.length = true) : Tbnd [.agg [.str s.nm, .list 1 (s.bs.map s1), .list 5 (s.ls.map Ln.cs), .list 6 (s.ss.map Sr.cs), .list 12 (s.qs.map By.cs), .list 1 (p.cl.map b1), .list 1 (p.lk.map r1), .list 1 (g.map i1)], .agg [.int .i64 k, .int .i64 o]] = some (.list 1 ((bndF s p g (nodF s g k o)).map i1)) := by
  have := unVu_cs ⟨s, p, g⟩
  unfold Vu.cs at this
  rw [h] at hw
  simp [Tbnd, this, h, hw]
theorem Tbnd_at2 {s : Stn} {p : Pos} {g : List Int} {k o : Int} (h : g.length = s.bs.length) (hw : wfG s p s.bs.length = true) : Tbnd [.agg [.str s.nm, .list 1 (s.bs.map s1), .list 5 (s.ls.map Ln.cs), .list 6 (s.ss.map Sr.cs), .list 12 (s.qs.map By.cs), .list 1 (p.cl.map b1), .list 1 (p.lk.map r1), .list 1 (g.map i1)], .agg [.int .i64 k, .int .i64 o]] = some (.list 1 ((bndF s p g (nodF s g k o)).map i1)) := Tbnd_at h (by rw [h]; exact hw)
theorem bnd_tab : ∀ vs v, Tbnd vs = some v → PCall Try.prog 60 vs v := by
  intro vs v h; unfold Tbnd at h; split at h
  · split at h
    · rename_i hv
      split at h
      · rename_i hg
        cases h
        rw [unVu_inv _ _ hv]
        exact bnd_ok _ _ _ hg.1 hg.2
      · cases h
    · cases h
  · cases h
def D5 : Tab := add 49 Tlook (add 60 Tbnd (D4))
theorem D5_at (f : FuncId) (vs : List V) : D5.at' f vs = if f = 49 then Tlook vs else if f = 60 then Tbnd vs else D4.at' f vs := rfl
theorem D5_fr (f : FuncId) : D5.fr f = if f = 49 then false else if f = 60 then false else D4.fr f := rfl
theorem D5_gb (f : FuncId) : D5.gb f = D4.gb f := rfl
theorem D5_gv (f : FuncId) (vs : List V) : D5.gv f vs = D4.gv f vs := rfl
attribute [simp] D5_at D5_fr D5_gb D5_gv Tbnd Tlook
theorem D5_ok : TabOK Try.prog D5 := by
  refine add_ok (add_ok (D4_ok) (by kernel_rfl) ?_) (by kernel_rfl) ?_
  · exact bnd_tab
  · exact look_tab
attribute [-simp] Tlook Tbnd
attribute [simp] Tlook_at Tbnd_at2
theorem Sides_ok {s : Stn} {p : Pos} (h : okP s p = true) (i : Int) (S : List Int) (hS : sidF s p (grp s p) i = some S) : PCall Try.prog 35 [.agg s.cs, .agg p.cs, .int .i64 i] (.agg (S.map (V.int .i64))) := by
  have h4 : ∃ a0 a1 c0 c1, S = [a0, a1, c0, c1] := by
    unfold sidF at hS
    split at hS
    · split at hS
      · split at hS
        · cases hS; exact sid4 _ _ _
        · cases hS
      · cases hS; exact ⟨_, _, _, _, rfl⟩
    · cases hS
  obtain ⟨a0, a1, c0, c1, rfl⟩ := h4
  refine pcall_cx D5_ok mixed (fun _ => none) Try.func35 rfl Try.ntmps35 Try.results35 (by simp) (by kernel_rfl) ?_
  repeat' first
    | (with_reducible refine gw_bool (fun _ => ?_) (fun _ => ?_))
    | (with_reducible refine condw_bool (fun _ => ?_) (fun _ => ?_))
    | simp [*, Stn.cs, Pos.cs, Vu.cs]
theorem Boundary_ok {s : Stn} {p : Pos} (h : okP s p = true) (k o : Int) : PCall Try.prog 25 [.agg s.cs, .agg p.cs, .agg [.int .i64 k, .int .i64 o]] (.list 1 ((bndF s p (grp s p) (nodF s (grp s p) k o)).map i1)) := by
  have hw := wfg_of h
  have hg : (grp s p).length = s.bs.length := by rw [grp, grpN_len]
  rw [hg] at hw
  refine pcall_cx D5_ok mixed (fun _ => none) Try.func25 rfl Try.ntmps25 Try.results25 (by simp) (by kernel_rfl) ?_
  repeat' first
    | (with_reducible refine gw_bool (fun _ => ?_) (fun _ => ?_))
    | (with_reducible refine condw_bool (fun _ => ?_) (fun _ => ?_))
    | simp [*, Stn.cs, Pos.cs, Vu.cs]
end Go.Proofs.Ytcbddoopmkhlfaa
