/-
  Zones that are fed: the walk.
-/
import Derived.Test.YtcbddoopmkhlfaaSt35
namespace Go.Proofs.Ytcbddoopmkhlfaa
open Go.Pv Go.RowKit
set_option linter.unusedSimpArgs false
set_option linter.unusedVariables false
set_option maxRecDepth 100000
set_option maxHeartbeats 4000000
attribute [-simp] Tclo_at Tgrp_at Tchk Tpchk TcI TcB Tclo Tgrp Tsid Tnod Tlook Tbnd TsidA Tre

def insF (s : Stn) (g : List Int) (L : List Nd) (z : Nd) : List Nd := match nodF s g z.1 z.2 with
  | some n => if memN L n.1 n.2 = true then L else L ++ [n]
  | none => L
def insN (s : Stn) (g : List Int) (zs : List Nd) (i : Nat) : List Nd := (zs.take i).foldl (insF s g) []
def insA (s : Stn) (g : List Int) (zs : List Nd) : List Nd := insN s g zs zs.length
theorem insN_step {s : Stn} {g : List Int} {zs : List Nd} {i : Nat} {z : Nd} (h : zs[i]? = some z) : insN s g zs (i + 1) = insF s g (insN s g zs i) z := by
  simp [insN, take_snoc h]
/-- What an edge of the bay answers. -/
def fedX (v : Vu) (L : List Nd) (x : Ed) : Bool :=
  if (memN L x.a0 x.a1 == memN L x.c0 x.c1) = true then false
  else reachF (some L) (edg v) (if memN L x.a0 x.a1 = true then x.r else x.l)
def fedV (v : Vu) (L : List Nd) (bay : Int) : Bool := match (edg v).find? (fun x => ieq x.i bay) with
  | some x => fedX v L x
  | none => false
def fedF (s : Stn) (p : Pos) (zs : List Nd) (bay : Int) : Bool := fedV ⟨s, p, grp s p⟩ (insA s (grp s p) zs) bay
theorem edN_i {v : Vu} : ∀ {n : Nat} {x : Ed}, x ∈ edN v n → x.i < n ∧ edOf v x.i = some x
  | 0, x, h => by simp [edN] at h
  | n + 1, x, h => by
    cases hu : edOf v n with
    | none =>
      rw [edN_f hu] at h
      obtain ⟨h1, h2⟩ := edN_i h
      exact ⟨by omega, h2⟩
    | some y =>
      rw [edN_t hu] at h
      rcases List.mem_append.1 h with h | h
      · obtain ⟨h1, h2⟩ := edN_i h
        exact ⟨by omega, h2⟩
      · simp at h; subst h
        have : x.i = n := by
          unfold edOf at hu
          split at hu
          · split at hu
            · cases hu; rfl
            · cases hu
          · cases hu
        exact ⟨by omega, by rw [this]; exact hu⟩
theorem edg_uniq {v : Vu} {x y : Ed} (hx : x ∈ edg v) (hy : y ∈ edg v) (h : x.i = y.i) : x = y := by
  have h1 := (edN_i hx).2
  have h2 := (edN_i hy).2
  rw [h, h2] at h1
  exact (Option.some.inj h1).symm
theorem fedV_at {v : Vu} {L : List Nd} {bay : Int} {x : Ed} (hx : x ∈ edg v) (h : ieq x.i bay = true) : fedV v L bay = fedX v L x := by
  unfold fedV
  cases hf : (edg v).find? (fun x => ieq x.i bay) with
  | none =>
    have := List.find?_eq_none.1 hf x hx
    simp [h] at this
  | some y =>
    have h1 := List.find?_some hf
    have h2 := List.mem_of_find?_eq_some hf
    have e1 := ieq_iff.1 h
    have e2 := ieq_iff.1 h1
    have : x.i = y.i := by omega
    rw [edg_uniq hx h2 this]
theorem fedV_none {v : Vu} {L : List Nd} {bay : Int} (h : ∀ x ∈ edg v, ieq x.i bay = false) : fedV v L bay = false := by
  unfold fedV
  have : (edg v).find? (fun x => ieq x.i bay) = none := List.find?_eq_none.2 fun x hx => by rw [h x hx]; simp
  rw [this]
/-- The frame's blocks. -/
def fedBl (s : Stn) (p : Pos) (bay : Int) (L : List Nd) : List (Nat × Blk) := [(4, ⟨35, s.cs⟩), (5, ⟨38, p.cs⟩), (7, ⟨3, [.int .i64 bay]⟩), (8, ⟨4, [.bool false]⟩), (9, ⟨81, Vu.cs ⟨s, p, grp s p⟩⟩), (27, ⟨84, L.map nodK⟩), (11, ⟨84, [.mp 27]⟩)]
theorem MK.leaveC {n : Nat} {st : St} {ro : Nat → Prop} {lam : Lam} {a : Act} {w W0 : World} {ro0 : Nat → Prop} {Ds : List Nat} (hs : Sim ⟨w, ownB lam, a.defers⟩ n ro lam st a w) (hm : MK W0 ro0 Ds ro lam a w) (hro : ∀ b, ro0 b → b < W0.heap.size) {fn : Func} {b : Bool} (hr : resL Try.prog st fn.results.toList = some [.bool b]) {m : Nat} :
    LeavesInM Fence.wide m Try.prog fn a.tmps (rPost W0 ro0 b) a.defers .returning w := by
  rw [hm.dfs]
  have hs2 := hs.move (W' := shut Ds w) (by rw [shut_size]; exact Nat.le_refl _) (fun b hb => shut_other Ds w b (fun h => (hm.at' b h).2.1 hb)) (fun b hb => shut_other Ds w b (fun h => (hm.at' b h).2.2.1 hb))
  obtain ⟨zs, hz, hra⟩ := resL_sound hs2 _ _ hr
  have hl : zs.length = 1 := by simpa using hra.1
  obtain ⟨x, rfl⟩ := List.length_eq_one_iff.1 hl
  have hrun := results_run (P := Try.prog) fn a.tmps (shut Ds w) hz
  simp only [List.size_toArray, List.length_cons, List.length_nil, dite_true] at hrun
  have hx : R (shut Ds w) ro lam (.bool b) x := hra.2 0 _ x rfl rfl
  have hxb := hx.bool_inv
  refine leaves_marks Ds w hm.nd (fun D hD => (hm.at' D hD).1) ⟨x, hrun, x, ro0, rfl, ?_, fun _ h => h, fun _ h => .inl h, fun b hb => ?_, by rw [hxb]; exact .bool _⟩
  · obtain ⟨o1, o2, o3⟩ := shut_os Ds w
    refine ⟨o1.trans hm.kept.os, o2.trans hm.kept.tape, o3.trans hm.kept.output, by rw [shut_size]; exact hm.kept.size, fun k hk => ?_⟩
    rw [shut_other Ds w k (fun h => by have := (hm.at' k h).2.2.2; omega)]
    exact hm.kept.block k hk
  · rw [shut_size]; exact Nat.lt_of_lt_of_le (hro b hb) hm.kept.size
theorem cwr_drawX {Γ : Tab} (hΓ : TabOK Try.prog Γ) {n id : Nat} {ops : Array Oper} {Q : Exit → St → Prop} {st : St} (hf : ops.toList.all (fun o => fits n o.dst) = true) (hd : ops.toList.all (fun o => notDefer o.op) = true) (hB : drawB ops = true) (h : cx Try.prog Γ n (fun _ => none) (.region id ops true) Q st) : CWR Try.prog n (.region id ops true) Q st := by
  simp only [cx] at h
  have he : ops = ops.toList.toArray := by simp
  rw [he]
  exact cwr_draw hΓ hd (by simpa using hB) (ew_of_eg hf (by simpa using h))
def Lf (b7 b8 b9 b11 : Nat) : List (Nat × V) := [(7, .vptr b7 7 0), (8, .vptr b8 8 0), (9, .vptr b9 9 0), (11, .vptr b11 11 0)]
theorem keep_env {n : Nat} {w0 : Base} {ro : Nat → Prop} {lam : Lam} {st : St} {a : Act} {w : World} (hs : Sim w0 n ro lam st a w) {L : List (Nat × V)} (hE : HasE st.env L) : Sim w0 n ro lam ⟨envL L, st.heap⟩ a w :=
  hs.env' (fun t => by
    rcases envL_or L hE t with h | h
    · rw [h]; exact hs.env t
    · rw [h]; exact .pure _ _ (.junk _))
theorem asPtr {n : Nat} {w0 : Base} {ro : Nat → Prop} {lam : Lam} {st : St} {a : Act} {w : World} {t b key off : Nat} (hs : Sim w0 n ro lam st a w) (h : st.env t = .vptr b key off) : Sim w0 n ro lam ⟨upd (fun _ => .junk) t (.ptr key off), st.heap⟩ a w :=
  hs.env' (fun u => by
    by_cases e : u = t
    · subst e; rw [upd_same]
      have := hs.env u
      rw [h] at this
      obtain ⟨m, hl, hx⟩ := this.vptr_inv
      rw [hx]; exact .ptr key off b m hl
    · rw [upd_ne _ _ e]; exact .pure _ _ (.junk _))
theorem Fed_ok {s : Stn} {p : Pos} (hok : okP s p = true) (zs : List Nd) (hz : zs.length ≤ 9223372036854775806) (bay : Int) : PCall Try.prog 22 [.agg s.cs, .agg p.cs, .list 2 (zs.map nd2), .int .i64 bay] (.bool (fedF s p zs bay)) := by
  have hre := reOk_of hok
  have hgl : (grp s p).length = s.bs.length := by rw [grp, grpN_len]
  have hfed : fedF s p zs bay = fedV ⟨s, p, grp s p⟩ (insA s (grp s p) zs) bay := rfl
  have hP := pfine_of (okP_iff hok).2
  have hcl : p.cl.length = s.qs.length := hP.nc
  have hwf := wfg_of hok
  clear hP
  obtain ⟨RR, hRR⟩ : ∃ RR, fedF s p zs bay = RR := ⟨_, rfl⟩
  rw [hRR]
  rw [hfed] at hRR
  clear hfed
  intro W0 ro0 args hro hsz hr
  have hs0 := sim_ini (n := 71) hro hsz (by simp) hr
  refine callsIn_wide.1 (callsIn_of_wp_marks (n := 0) Try.func22 rfl trivial ?_ rfl)
  rw [Try.ntmps22]
  have hm0 : MK W0 ro0 [] ro0 (fun _ => none) { tmps := args ++ Array.replicate (71 - args.size) Go.undef, defers := [] } W0 :=
    ⟨rfl, List.nodup_nil, fun D hD => (by simp at hD), Below.refl _ _, fun b ⟨k, hk⟩ => (by rcases hk with ⟨_, hk⟩ | hk <;> cases hk), fun _ h => h, fun _ h => .inl h⟩
  have hs0' := hs0.rebase
  clear hs0
  obtain ⟨A0, hA0⟩ : ∃ A0 : Act, { tmps := args ++ Array.replicate (71 - args.size) Go.undef, defers := [] } = A0 := ⟨_, rfl⟩
  rw [hA0] at hm0 hs0' ⊢
  clear hA0 hr
  refine wpIn_seq (wpIn_mono (cw_inE (CW.of_cx (D := fun _ => none) G1_ok mixed _ (fun e t => e = .normal ∧ HasE t.env [(2, .list 2 (zs.map nd2)), (4, .ptr 4 0), (5, .ptr 5 0), (7, .ptr 7 0), (8, .ptr 8 0)] ∧ HeapIs t.heap [(4, ⟨35, s.cs⟩), (5, ⟨38, p.cs⟩), (7, ⟨3, [.int .i64 bay]⟩), (8, ⟨4, [.bool false]⟩)]) _ (by kernel_rfl) ?_) hs0' hm0) ?_)
  · clear hs0' hm0
    repeat' first
      | (with_reducible refine gw_bool (fun _ => ?_) (fun _ => ?_))
      | (with_reducible refine condw_bool (fun _ => ?_) (fun _ => ?_))
      | simp [*, HasE, Stn.cs, Pos.cs]
    refine ⟨by simp [KeepBl], fun k hk => ?_⟩
    have k4 : k ≠ 4 := blk_ne hk rfl
    have k5 : k ≠ 5 := blk_ne hk rfl
    have k7 : k ≠ 7 := blk_ne hk rfl
    have k8 : k ≠ 8 := blk_ne hk rfl
    simp [k4, k5, k7, k8]
  rintro e a1 w1 ⟨s1, ro1, lam1, ⟨rfl, hE1, hH1⟩, hs1, hm1⟩
  replace hs1 := toL hs1 hE1 hH1
  clear hs0' hm0 hE1 hH1
  refine wpIn_seq (wpIn_mono (cw_inE (CW.of_cx (D := fun _ => none) G1_ok mixed _ (fun e t => e = .normal ∧ HasE t.env [(10, .bool true), (2, .list 2 (zs.map nd2)), (7, .ptr 7 0), (8, .ptr 8 0), (9, .ptr 9 0)] ∧ HeapIs t.heap [(4, ⟨35, s.cs⟩), (5, ⟨38, p.cs⟩), (7, ⟨3, [.int .i64 bay]⟩), (8, ⟨4, [.bool false]⟩), (9, ⟨81, Vu.cs ⟨s, p, grp s p⟩⟩)]) _ (by kernel_rfl) ?_) hs1 hm1) ?_)
  · clear hs1 hm1
    repeat' first
      | (with_reducible refine gw_bool (fun _ => ?_) (fun _ => ?_))
      | (with_reducible refine condw_bool (fun _ => ?_) (fun _ => ?_))
      | simp [*, HasE, envL, blkOf, Stn.cs, Pos.cs, Vu.cs]
    refine ⟨by simp [KeepBl, blkOf], fun k hk => ?_⟩
    have k4 : k ≠ 4 := blk_ne hk rfl
    have k5 : k ≠ 5 := blk_ne hk rfl
    have k7 : k ≠ 7 := blk_ne hk rfl
    have k8 : k ≠ 8 := blk_ne hk rfl
    have k9 : k ≠ 9 := blk_ne hk rfl
    simp [k4, k5, k7, k8, k9, blkOf]
  rintro e a2 w2 ⟨s2, ro2, lam2, ⟨rfl, hE2, hH2⟩, hs2, hm2⟩
  replace hs2 := toL hs2 hE2 hH2
  clear hs1 hm1 hE2 hH2
  refine wpIn_seq (wpIn_mono (cw_inE (CW.of_cx (D := fun _ => none) G1_ok mixed _ (fun e t => e = .normal ∧ HasE t.env [(2, .list 2 (zs.map nd2)), (7, .ptr 7 0), (8, .ptr 8 0), (9, .ptr 9 0)] ∧ HeapIs t.heap [(4, ⟨35, s.cs⟩), (5, ⟨38, p.cs⟩), (7, ⟨3, [.int .i64 bay]⟩), (8, ⟨4, [.bool false]⟩), (9, ⟨81, Vu.cs ⟨s, p, grp s p⟩⟩)]) _ (by kernel_rfl) ?_) hs2 hm2) ?_)
  · clear hs2 hm2
    repeat' first
      | (with_reducible refine gw_bool (fun _ => ?_) (fun _ => ?_))
      | (with_reducible refine condw_bool (fun _ => ?_) (fun _ => ?_))
      | simp [*, HasE, envL]
    exact ⟨by simp [KeepBl, blkOf], fun k hk => hk⟩
  rintro e a3 w3 ⟨s3, ro3, lam3, ⟨rfl, hE3, hH3⟩, hs3, hm3⟩
  replace hs3 := toL hs3 hE3 hH3
  clear hs2 hm2 hE3 hH3
  refine wpIn_seq (wpIn_mono (cw_inE (CW.of_cx (D := fun _ => none) G1_ok mixed _ (fun e t => e = .normal ∧ HasE t.env [(2, .list 2 (zs.map nd2)), (7, .ptr 7 0), (8, .ptr 8 0), (9, .ptr 9 0), (11, .ptr 11 0)] ∧ HeapIs t.heap (fedBl s p bay [])) _ (by kernel_rfl) ?_) hs3 hm3) ?_)
  · clear hs3 hm3
    repeat' first
      | (with_reducible refine gw_bool (fun _ => ?_) (fun _ => ?_))
      | (with_reducible refine condw_bool (fun _ => ?_) (fun _ => ?_))
      | simp [*, HasE, envL, blkOf]
    refine ⟨by simp [KeepBl, blkOf, fedBl], fun k hk => ?_⟩
    have k4 : k ≠ 4 := blk_ne hk rfl
    have k5 : k ≠ 5 := blk_ne hk rfl
    have k7 : k ≠ 7 := blk_ne hk rfl
    have k8 : k ≠ 8 := blk_ne hk rfl
    have k9 : k ≠ 9 := blk_ne hk rfl
    have k27 : k ≠ 27 := blk_ne hk rfl
    have k11 : k ≠ 11 := blk_ne hk rfl
    simp [k4, k5, k7, k8, k9, k27, k11, blkOf]
  rintro e a4 w4 ⟨s4, ro4, lam4, ⟨rfl, hE4, hH4⟩, hs4, hm4⟩
  replace hs4 := toL hs4 hE4 hH4
  clear hs3 hm3 hE4 hH4
  obtain ⟨L, hL⟩ : ∃ L, insA s (grp s p) zs = L := ⟨_, rfl⟩
  rw [hL] at hRR
  -- the zones
  refine wpIn_seq (wpIn_mono (cw_inE (CW.of_cx (D := fun _ => none) G1_ok mixed _ (fun e t => e = .normal ∧ HasE t.env [(7, .ptr 7 0), (8, .ptr 8 0), (9, .ptr 9 0), (11, .ptr 11 0)] ∧ KeepBl t.heap (fedBl s p bay L) ∧ t.heap 17 = none ∧ t.heap 18 = none) _ (by kernel_rfl) ?_) hs4 hm4) ?_)
  · clear hs4 hm4 hRR
    obtain ⟨nz, hnz⟩ : ∃ n, zs.length = n := ⟨_, rfl⟩
    rw [hnz] at hz
    replace hL : Hid (insN s (grp s p) zs nz = L) := by rw [insA, hnz] at hL; exact hL
    repeat' first
      | (with_reducible refine gw_bool (fun _ => ?_) (fun _ => ?_))
      | (with_reducible refine condw_bool (fun _ => ?_) (fun _ => ?_))
      | simp [*, HasE, envL, blkOf, fedBl, Stn.cs, Pos.cs, Vu.cs]
    refine lp_go (D := (fun _ => none)) G1_ok mixed (by kernel_rfl) [7, 8, 9, 11, 28, 29, 46, 47] [4, 5, 7, 8, 9, 11, 13, 14, 17, 18] (α := Nat) (fun i e h => i ≤ nz ∧ e 30 = .int .i64 i ∧ h 27 = some ⟨84, (insN s (grp s p) zs i).map nodK⟩) (fun i => nz - i) 0 ?_ ?_
    · exact ⟨by omega, by simp, by simp [insN, blkOf]⟩
    rintro i e h hk hkh ⟨hi, g7, g27⟩
    simp [Keep] at hk
    simp [KeepH, blkOf, Stn.cs, Pos.cs, Vu.cs] at hkh
    by_cases hlt : i < nz
    · obtain ⟨z, hzz, hzz'⟩ := at_ex (l := zs) (i := i) (by omega)
      have f1 : ilt (i : Int) (nz : Int) = true := ilt_t (by omega)
      have w1 : IntKind.i64.wrap ((i : Int) + 1) = ((i + 1 : Nat) : Int) := wrap_succ (by omega)
      have hst : Hid (insN s (grp s p) zs (i + 1) = insF s (grp s p) (insN s (grp s p) zs i) z) := insN_step hzz
      generalize insN s (grp s p) zs i = C at g27 hst
      clear hL
      cases hN : nodF s (grp s p) z.1 z.2 with
      | none =>
        have hst' : insN s (grp s p) zs (i + 1) = C := by have := hst.out; simpa [insF, hN] using this
        replace hst' : Hid (insN s (grp s p) zs (i + 1) = C) := hst'
        clear hst
        repeat' first
          | (with_reducible refine gw_bool (fun _ => ?_) (fun _ => ?_))
          | (with_reducible refine condw_bool (fun _ => ?_) (fun _ => ?_))
          | simp [*, nd2, Vu.cs, nodV]
        refine nxt_go (i + 1) ((View.forget _ _ 13).trans ((View.forget _ _ 14))) (by omega) (by simp [*, Keep, St.forget, scr, scrC]) (by simp [*, KeepH, St.forget, scr, scrC]) ?_
        refine ⟨by omega, by simp [*, St.forget, scr, scrC], ?_⟩
        rw [hst'.out]; simp [*, St.forget, scr, scrC]
      | some nn =>
        obtain ⟨n0, n1⟩ := nn
        cases hM : memN C n0 n1
        · have hst' : insN s (grp s p) zs (i + 1) = C ++ [(n0, n1)] := by have := hst.out; simpa [insF, hN, hM] using this
          replace hst' : Hid (insN s (grp s p) zs (i + 1) = C ++ [(n0, n1)]) := hst'
          clear hst
          repeat' first
            | (with_reducible refine gw_bool (fun _ => ?_) (fun _ => ?_))
            | (with_reducible refine condw_bool (fun _ => ?_) (fun _ => ?_))
            | simp [*, nd2, Vu.cs, nodV]
          refine nxt_go (i + 1) ((View.forget _ _ 13).trans ((View.forget _ _ 14))) (by omega) (by simp [*, Keep, St.forget, scr, scrC]) (by simp [*, KeepH, St.forget, scr, scrC]) ?_
          refine ⟨by omega, by simp [*, St.forget, scr, scrC], ?_⟩
          rw [hst'.out]; simp [*, St.forget, scr, scrC, nodK]
        · have hst' : insN s (grp s p) zs (i + 1) = C := by have := hst.out; simpa [insF, hN, hM] using this
          replace hst' : Hid (insN s (grp s p) zs (i + 1) = C) := hst'
          clear hst
          repeat' first
            | (with_reducible refine gw_bool (fun _ => ?_) (fun _ => ?_))
            | (with_reducible refine condw_bool (fun _ => ?_) (fun _ => ?_))
            | simp [*, nd2, Vu.cs, nodV]
          refine nxt_go (i + 1) ((View.forget _ _ 13).trans ((View.forget _ _ 14))) (by omega) (by simp [*, Keep, St.forget, scr, scrC]) (by simp [*, KeepH, St.forget, scr, scrC]) ?_
          refine ⟨by omega, by simp [*, St.forget, scr, scrC], ?_⟩
          rw [hst'.out]; simp [*, St.forget, scr, scrC]
    · have f1 : ilt (i : Int) (nz : Int) = false := ilt_f (by omega)
      have e1 : i = nz := by omega
      rw [e1, hL.out] at g27
      clear hL
      repeat' first
        | (with_reducible refine gw_bool (fun _ => ?_) (fun _ => ?_))
        | (with_reducible refine condw_bool (fun _ => ?_) (fun _ => ?_))
        | simp [*, HasE, KeepBl, fedBl, Stn.cs, Pos.cs, Vu.cs]
  rintro e a5 w5 ⟨s5, ro5, lam5, ⟨rfl, hE5, hH5, h17, h18⟩, hs5, hm5⟩
  clear hs4 hm4
  have p7 : R w5 ro5 lam5 (.ptr 7 0) (a5.tmps.getD 7 Go.undef) := by have := hs5.env 7; rwa [hE5.1] at this
  have p8 : R w5 ro5 lam5 (.ptr 8 0) (a5.tmps.getD 8 Go.undef) := by have := hs5.env 8; rwa [hE5.2.1] at this
  have p9 : R w5 ro5 lam5 (.ptr 9 0) (a5.tmps.getD 9 Go.undef) := by have := hs5.env 9; rwa [hE5.2.2.1] at this
  have p11 : R w5 ro5 lam5 (.ptr 11 0) (a5.tmps.getD 11 Go.undef) := by have := hs5.env 11; rwa [hE5.2.2.2.1] at this
  obtain ⟨b7, m7, l7, x7⟩ := p7.ptr_inv
  obtain ⟨b8, m8, l8, x8⟩ := p8.ptr_inv
  obtain ⟨b9, m9, l9, x9⟩ := p9.ptr_inv
  obtain ⟨b11, m11, l11, x11⟩ := p11.ptr_inv
  replace hs5 := hs5.env' (e := envL (Lf b7 b8 b9 b11)) (fun t => by
    simp only [envL, Lf]
    by_cases h7 : t = 7
    · subst h7; rw [upd_same, x7]; exact .vptr 7 0 b7 m7 l7
    · rw [upd_ne _ _ h7]
      by_cases h8 : t = 8
      · subst h8; rw [upd_same, x8]; exact .vptr 8 0 b8 m8 l8
      · rw [upd_ne _ _ h8]
        by_cases h9 : t = 9
        · subst h9; rw [upd_same, x9]; exact .vptr 9 0 b9 m9 l9
        · rw [upd_ne _ _ h9]
          by_cases h11 : t = 11
          · subst h11; rw [upd_same, x11]; exact .vptr 11 0 b11 m11 l11
          · rw [upd_ne _ _ h11]; exact .pure _ _ (.junk _))
  clear p7 p8 p9 p11 hE5
  obtain ⟨H5, hH5e⟩ : ∃ H5, s5.heap = H5 := ⟨_, rfl⟩
  rw [hH5e] at hs5 hH5 h17 h18
  obtain ⟨v, hv⟩ : ∃ v : Vu, v = ⟨s, p, grp s p⟩ := ⟨_, rfl⟩
  have hfv : fedBl s p bay L = [(4, ⟨35, s.cs⟩), (5, ⟨38, p.cs⟩), (7, ⟨3, [.int .i64 bay]⟩), (8, ⟨4, [.bool false]⟩), (9, ⟨81, v.cs⟩), (27, ⟨84, L.map nodK⟩), (11, ⟨84, [.mp 27]⟩)] := by rw [hv]; rfl
  refine wpIn_seq (wpIn_mono (Q := fun e a w => (e = .normal ∧ RR = false ∧ ∃ Ds ro lam t, Sim ⟨w, ownB lam, a.defers⟩ 71 ro lam t a w ∧ MK W0 ro0 Ds ro lam a w ∧ t.env 8 = .vptr b8 8 0 ∧ t.heap 8 = some ⟨4, [.bool false]⟩) ∨ (e = .ret ∧ bodyPostM Fence.wide 0 Try.prog Try.f22 (rPost W0 ro0 RR) .ret a w)) ?_ ?_)
  · refine wpIn_seq ?_
    refine wpIn_region_list ?_
    rw [← List.take_append_drop 1 (Array.toList _)]
    refine eg_inE G1_ok (K := fun t => HasE t.env ((44, .agg v.cs) :: Lf b7 b8 b9 b11) ∧ t.heap = H5) _ _ _ _ _ _ (by kernel_rfl) ?_ hs5 ?_
    · clear hs5 hm5
      rw [hfv] at hH5
      simp only [KeepBl, Vu.cs] at hH5
      repeat' first
        | (with_reducible refine gw_bool (fun _ => ?_) (fun _ => ?_))
        | (with_reducible refine condw_bool (fun _ => ?_) (fun _ => ?_))
        | simp [*, HasE, envL, Lf, Vu.cs]
    rintro s6 a6 ro6 lam6 w6 ⟨hE6, hH6⟩ hx6 hs6
    have hm6 := hm5.step hs6 hx6
    replace hs6 := keep_env hs6.rebase hE6
    rw [hH6] at hs6
    clear hs5 hm5 hE6 hx6
    refine wpListIn_plain rfl fun K hK => oper_in (call_wp rfl (by kernel_rfl) ?_)
    have hV : R w6 ro6 lam6 (.agg v.cs) (a6.tmps.getD 44 Go.undef) := hs6.env 44
    have hmap : (#[Operand.tmp 44] : Array Operand).map a6.eval = #[a6.tmps.getD 44 Go.undef] := by
      simp only [List.map_toArray, List.map_cons, List.map_nil]; rfl
    rw [hmap]
    refine (edges_ok v w6 ro6 _ hs6.rolt (hV.pureA rfl)).mono ?_
    rintro e w7 ⟨bE, ro7, rfl, hb7, hup, hdn, hlt7, hv7⟩
    refine ⟨_, rfl, hK _ _ ?_⟩
    clear hK
    obtain ⟨F2, hF2⟩ : ∃ F2 : Value, F2 = .func (.func 85) #[] #[.pointer (some ⟨bE, 0, none⟩)] := ⟨_, rfl⟩
    rw [← hF2]
    have hs7 : Sim ⟨w7, ownB lam6, (a6.put (some 45) F2).defers⟩ 71 ro7 lam6 _ (a6.put (some 45) F2) w7 := (((hs6.world hb7).more hup hlt7 (fun key b mm hl hb => by
        rcases hdn b hb with h | h
        · exact (hs6.own key b mm hl).2.2 h
        · have := (hs6.own key b mm hl).2.1; omega) (fun key b hl hb => by
        rcases hdn b hb with h | h
        · exact (hs6.maps key b hl).1.2.2 h
        · have := (hs6.maps key b hl).1.2.1; omega)).put (d := some 45) (v := .val F2) (by decide) (.pure _ _ (.val _))).rebase
    have hm7 : MK W0 ro0 [] ro7 lam6 (a6.put (some 45) F2) w7 := hm6.move rfl ((Base.Keeps.refl _ _ _).after hb7) ⟨hup, fun b hb => (hdn b hb).imp id .inr⟩ (fun b hb => .inl hb)
    obtain ⟨a7, ha7⟩ : ∃ a7, a6.put (some 45) F2 = a7 := ⟨_, rfl⟩
    rw [ha7] at hs7 hm7 ⊢
    replace hs7 := keep_env hs7 (L := (45, .val F2) :: Lf b7 b8 b9 b11) (by simp [HasE, St.put, envL, upd, Lf])
    have hs7' : Sim ⟨w7, ownB lam6, a7.defers⟩ 71 ro7 lam6 ⟨envL ((45, .val F2) :: Lf b7 b8 b9 b11), H5⟩ a7 w7 := hs7
    clear hs7
    have hg7 : a7.eval (.tmp 45) = F2 := getD_val (show R w7 ro7 lam6 (.val F2) _ from hs7'.env 45)
    have hz7 : 71 ≤ a7.tmps.size := hs7'.size
    clear hs6 hm6 hV hmap
    have hset : ∀ x : Ed, setPs #[46, 47] x.arr a7.tmps = (a7.tmps.setIfInBounds 46 (.int .i64 x.i)).setIfInBounds 47 (.agg #[.int .i64 x.a0, .int .i64 x.a1, .int .i64 x.c0, .int .i64 x.c1]) := fun x => by simp [setPs, Ed.arr]
    have hwfv : wfG v.s v.p v.g.length = true := by rw [hv]; exact hwf
    have hclv : v.p.cl.length = v.s.qs.length := by rw [hv]; exact hcl
    have hrev : reOk v = true := by rw [hv]; exact hre
    rw [← hv] at hRR
    refine wpIn_block ?_
    refine range_in hs7' (hg7.trans hF2) (callFunc_run (by kernel_rfl)) (encs := fun x : { x : Ed // x ∈ edg v } => x.1.arr) (xs := (edg v).attach) (fun _ => rfl) (it_okS v _ ro7 w7 hlt7 hwfv hclv hv7) ?_
      (fun pre h => KeepBl h (fedBl s p bay L) ∧ h 17 = none ∧ h 18 = none ∧ ∀ y ∈ pre, ieq y.1.i bay = false) (fun c pre h => c = .ret ∧ h 8 = some ⟨4, [.bool RR]⟩) ⟨hH5, h17, h18, fun y hy => by simp at hy⟩
      (fun x => envL ((47, .agg x.1.ns) :: (46, .int .i64 x.1.i) :: (45, .val F2) :: Lf b7 b8 b9 b11)) ?_ ?_ ?_ ?_ ?_
    · intro t
      show stays (envL ((45, .val F2) :: Lf b7 b8 b9 b11) t) = true
      simp only [envL, Lf, upd]
      repeat' (split; · rfl)
      rfl
    · intro x ro' lam' W hRR' t
      rw [hset x.1]
      simp only [envL]
      by_cases ht : t = 47
      · subst ht
        rw [upd_same, Array.getD_eq_getD_getElem?, Array.getElem?_setIfInBounds, if_pos rfl, if_pos (by simp; omega)]
        refine .pure _ _ (.agg _ _ rfl fun j c y hc hy => ?_)
        match j with
        | 0 => simp [Ed.ns] at hc hy; subst hc; subst hy; exact .int _ _
        | 1 => simp [Ed.ns] at hc hy; subst hc; subst hy; exact .int _ _
        | 2 => simp [Ed.ns] at hc hy; subst hc; subst hy; exact .int _ _
        | 3 => simp [Ed.ns] at hc hy; subst hc; subst hy; exact .int _ _
        | j + 4 => simp [Ed.ns] at hc
      · rw [upd_ne _ _ ht]
        by_cases ht3 : t = 46
        · subst ht3
          rw [upd_same, Array.getD_eq_getD_getElem?, Array.getElem?_setIfInBounds, if_neg (by decide), Array.getElem?_setIfInBounds, if_pos rfl, if_pos (by omega)]
          exact .pure _ _ (.int _ _)
        · have := hRR' t
          rw [upd_ne _ _ ht3, Array.getD_eq_getD_getElem?, Array.getElem?_setIfInBounds, if_neg (fun e => ht e.symm), Array.getElem?_setIfInBounds, if_neg (fun e => ht3 e.symm), ← Array.getD_eq_getD_getElem?]
          exact this
    · intro x; rw [hset x.1]; simp
    · rintro pre ⟨x, hxm⟩ h ⟨hK1, hn17, hn18, hpre⟩ hplt
      simp only
      have hvx : ieq x.i bay = true → RR = fedX v L x := fun hh => by rw [← hRR]; exact fedV_at hxm hh
      rw [hfv] at hK1
      simp only [KeepBl] at hK1
      clear hs7' hm7 hset hv7 hH5 h17 h18 hplt hRR
      refine (CWR.of_cx (D := fun _ => none) G1_ok _ (fun e t => e = .normal ∧ HasE t.env ((16, .int .i64 x.i) :: (17, .ptr 17 0) :: Lf b7 b8 b9 b11) ∧ KeepBl t.heap ((17, ⟨58, x.ns⟩) :: fedBl s p bay L) ∧ t.heap 18 = none) _ (by kernel_rfl) ?_).mono ?_
      · rw [hfv]
        repeat' first
          | (with_reducible refine gw_bool (fun _ => ?_) (fun _ => ?_))
          | (with_reducible refine condw_bool (fun _ => ?_) (fun _ => ?_))
          | simp [*, HasE, envL, Lf, Ed.ns, KeepBl]
      rintro e t ⟨rfl, hE, hH, hh18⟩
      refine ⟨rfl, ?_⟩
      intro l m w0 ro lam a w hs
      replace hs := keep_env hs hE
      obtain ⟨Ht, hHt⟩ : ∃ Ht, t.heap = Ht := ⟨_, rfl⟩
      rw [hHt] at hs hH hh18
      clear hE hK1 hn17 hn18
      have hvp : ∀ (t : Nat) (e : Nat → V), HasE e (Lf b7 b8 b9 b11) → isVp (envL ((45, .val F2) :: Lf b7 b8 b9 b11) t) = true → e t = envL ((45, .val F2) :: Lf b7 b8 b9 b11) t := fun t e he ht => by
        simp only [HasE, Lf] at he
        simp only [envL, Lf, upd] at ht ⊢
        by_cases h45 : t = 45
        · subst h45; simp [isVp] at ht
        · simp only [if_neg h45] at ht ⊢
          by_cases h7 : t = 7
          · subst h7; simpa using he.1
          · simp only [if_neg h7] at ht ⊢
            by_cases h8 : t = 8
            · subst h8; simpa using he.2.1
            · simp only [if_neg h8] at ht ⊢
              by_cases h9 : t = 9
              · subst h9; simpa using he.2.2.1
              · simp only [if_neg h9] at ht ⊢
                by_cases h11 : t = 11
                · subst h11; simpa using he.2.2.2.1
                · simp [h11, isVp] at ht
      rw [hfv] at hH
      refine wpIn_block ?_
      refine wpIn_seq ?_
      cases hxb : ieq x.i bay
      · refine wpIn_mono (CWR.of_cx (D := fun _ => none) G1_ok _ (fun e t => e = .exit 3 ∧ HasE t.env (Lf b7 b8 b9 b11) ∧ KeepBl t.heap ((17, ⟨58, x.ns⟩) :: fedBl s p bay L) ∧ t.heap 18 = none) _ (by kernel_rfl) ?_ l m w0 ro lam a w hs) ?_
        · clear hs hvp hvx
          rw [hfv]
          simp only [KeepBl] at hH
          repeat' first
            | (with_reducible refine gw_bool (fun _ => ?_) (fun _ => ?_))
            | (with_reducible refine condw_bool (fun _ => ?_) (fun _ => ?_))
            | simp [*, HasE, envL, Lf, KeepBl]
        rintro e a1 w1 ⟨s1, ro1, lam1, ⟨rfl, hE1, hH1, h18'⟩, hx1, hs1⟩
        refine ⟨_, ro1, _, ⟨_, View.forget _ _ 17, fun t ht => ?_, ?_⟩, hx1, hs1⟩
        · have := hvp t s1.env hE1 ht
          show scr 17 (s1.env t) = _
          rw [this]
          simp only [envL, Lf, upd] at ht ⊢
          repeat' (split; · rfl)
          rfl
        · rw [hfv] at hH1
          simp only [KeepBl] at hH1
          refine ⟨?_, ?_, ?_, ?_⟩
          · rw [hfv]; simp [KeepBl, St.forget, hH1, scrC, Stn.cs, Pos.cs, Vu.cs, nodK_scr]
          · simp [St.forget]
          · simp [St.forget, h18']
          · intro y hy
            rcases List.mem_append.1 hy with hy | hy
            · exact hpre y hy
            · simp at hy; subst hy; exact hxb
      · have hRx := hvx hxb
        clear hvx
        refine wpIn_mono (CWR.of_cx (D := fun _ => none) G1_ok _ (fun e t => e = .normal ∧ HasE t.env ((17, .ptr 17 0) :: Lf b7 b8 b9 b11) ∧ t.heap = Ht) _ (by kernel_rfl) ?_ l m w0 ro lam a w hs) ?_
        · clear hs hvp
          simp only [KeepBl] at hH
          repeat' first
            | (with_reducible refine gw_bool (fun _ => ?_) (fun _ => ?_))
            | (with_reducible refine condw_bool (fun _ => ?_) (fun _ => ?_))
            | simp [*, HasE, envL, Lf, KeepBl]
        rintro e a1 w1 ⟨s1, ro1, lam1, ⟨rfl, hE1, hH1⟩, hx1, hs1⟩
        replace hs1 := keep_env hs1 hE1
        rw [hH1] at hs1
        clear hs hE1 hH1
        simp only [KeepBl] at hH
        refine wpIn_seq (wpIn_seq (wpIn_mono (cwr_drawX G1_ok (Q := fun e t => e = .normal ∧ HasE t.env ((59, .bool (memN L x.a0 x.a1 == memN L x.c0 x.c1)) :: (17, .ptr 17 0) :: Lf b7 b8 b9 b11) ∧ t.heap = Ht) (by kernel_rfl) (by kernel_rfl) (by kernel_rfl) ?_ l m w0 ro1 lam1 a1 w1 hs1) ?_))
        · clear hs1 hvp
          repeat' first
            | (with_reducible refine gw_bool (fun _ => ?_) (fun _ => ?_))
            | (with_reducible refine condw_bool (fun _ => ?_) (fun _ => ?_))
            | simp [*, HasE, envL, Lf, Ed.ns]
        rintro e a2 w2 ⟨s2, ro2, lam2, ⟨rfl, hE2, hH2⟩, hx2, hs2⟩
        replace hs2 := keep_env hs2 hE2
        rw [hH2] at hs2
        clear hs1 hE2 hH2
        cases hq : (memN L x.a0 x.a1 == memN L x.c0 x.c1)
        · rw [hq] at hs2
          refine wpIn_mono (CWR.of_cx (D := fun _ => none) G1_ok _ (fun e t => e = .normal ∧ HasE t.env ((17, .ptr 17 0) :: Lf b7 b8 b9 b11) ∧ t.heap = Ht) _ (by kernel_rfl) ?_ l m w0 ro2 lam2 a2 w2 hs2) ?_
          · clear hs2 hvp
            repeat' first
              | (with_reducible refine gw_bool (fun _ => ?_) (fun _ => ?_))
              | (with_reducible refine condw_bool (fun _ => ?_) (fun _ => ?_))
              | simp [*, HasE, envL, Lf]
          rintro e a3 w3 ⟨s3, ro3, lam3, ⟨rfl, hE3, hH3⟩, hx3, hs3⟩
          replace hs3 := keep_env hs3 hE3
          rw [hH3] at hs3
          clear hs2 hE3 hH3
          have hRx2 : RR = reachF (some L) (edg v) (if memN L x.a0 x.a1 = true then x.r else x.l) := by rw [hRx, fedX, hq]; simp
          have hTre : ∀ a b : Int, Tre [.agg v.cs, .agg [.int .i64 a, .int .i64 b], .rset (L.map nodK)] = some (.bool (reachF (some L) (edg v) (a, b))) := fun a b => Tre_at2 (s := v.s) (p := v.p) (g := v.g) hrev
          refine wpIn_mono (CWR.of_cx (D := fun _ => none) G1_ok _ (fun e t => e = .ret ∧ HasE t.env (Lf b7 b8 b9 b11) ∧ t.heap 8 = some ⟨4, [.bool RR]⟩) _ (by kernel_rfl) ?_ l m w0 ro3 lam3 a3 w3 hs3) ?_
          · clear hs3 hvp hRx
            cases hmm : memN L x.a0 x.a1
            · rw [hmm, if_neg (by simp)] at hRx2
              have hT := hTre x.a0 x.a1
              rw [show reachF (some L) (edg v) (x.a0, x.a1) = RR from hRx2.symm] at hT
              clear hRx2 hTre hre
              simp only [Vu.cs, hv] at hT
              repeat' first
                | (with_reducible refine gw_bool (fun _ => ?_) (fun _ => ?_))
                | (with_reducible refine condw_bool (fun _ => ?_) (fun _ => ?_))
                | simp [*, HasE, envL, Lf, Ed.ns, Vu.cs, setsV]
            · rw [hmm, if_pos rfl] at hRx2
              have hT := hTre x.c0 x.c1
              rw [show reachF (some L) (edg v) (x.c0, x.c1) = RR from hRx2.symm] at hT
              clear hRx2 hTre hre
              simp only [Vu.cs, hv] at hT
              repeat' first
                | (with_reducible refine gw_bool (fun _ => ?_) (fun _ => ?_))
                | (with_reducible refine condw_bool (fun _ => ?_) (fun _ => ?_))
                | simp [*, HasE, envL, Lf, Ed.ns, Vu.cs, setsV]
          rintro e a4 w4 ⟨s4, ro4, lam4, ⟨rfl, hE4, hH4⟩, hx4, hs4⟩
          exact ⟨s4, ro4, lam4, ⟨s4, View.refl _ _, fun t ht => hvp t s4.env hE4 ht, rfl, hH4⟩, ((hx1.trans hx2).trans (hx3.trans hx4)), hs4⟩
        · rw [hq] at hs2
          have hRf : RR = false := by rw [hRx, fedX, hq]; rfl
          refine wpIn_mono (CWR.of_cx (D := fun _ => none) G1_ok _ (fun e t => e = .ret ∧ HasE t.env (Lf b7 b8 b9 b11) ∧ t.heap 8 = some ⟨4, [.bool false]⟩) _ (by kernel_rfl) ?_ l m w0 ro2 lam2 a2 w2 hs2) ?_
          · clear hs2 hvp hRx hRf
            repeat' first
              | (with_reducible refine gw_bool (fun _ => ?_) (fun _ => ?_))
              | (with_reducible refine condw_bool (fun _ => ?_) (fun _ => ?_))
              | simp [*, HasE, envL, Lf, setsV]
          rintro e a4 w4 ⟨s4, ro4, lam4, ⟨rfl, hE4, hH4⟩, hx4, hs4⟩
          rw [← hRf] at hH4
          exact ⟨s4, ro4, lam4, ⟨s4, View.refl _ _, fun t ht => hvp t s4.env hE4 ht, rfl, hH4⟩, ((hx1.trans hx2).trans hx4), hs4⟩
    · rintro D ro8 lam8 h W8 ⟨hK8, -, -, hall⟩ rj hDl
      have hsd := RJ.act rj ({ target := .collected D, args := #[] } :: a7.defers)
      have hmd := hm7.mark rj hDl
      refine .inl ⟨rfl, ?_, [D], ro8, lam8, _, keep_env hsd (L := [(8, .vptr b8 8 0)]) (by simp [HasE, envL, upd, Lf]), hmd, ?_, ?_⟩
      · rw [← hRR]; exact fedV_none fun x hx => hall ⟨x, hx⟩ (by simp)
      · simp [envL, upd]
      · rw [hfv] at hK8; exact hK8.2.2.2.1
    · rintro D c pre ro8 lam8 h W8 ⟨rfl, hh8⟩ rj hDl
      have hsd := RJ.act rj ({ target := .collected D, args := #[] } :: a7.defers)
      have hmd := hm7.mark rj hDl
      refine wpIn_ret (.inr ⟨rfl, MK.leaveC (asPtr hsd (t := 8) (b := b8) (key := 8) (off := 0) (by simp [envL, upd, Lf])) hmd hro ?_⟩)
      rw [Try.results22]
      simp [resL, resV, upd, hh8, loadV]
  · rintro e a w (⟨rfl, hRf, Ds, ro, lam, t, hs, hm, h8, hh8⟩ | ⟨rfl, hb⟩)
    · refine wpIn_seq (wpIn_mono (cw_inE (CW.of_cx (D := fun _ => none) G1_ok mixed _ (fun e t => e = .normal ∧ t.env 8 = .vptr b8 8 0 ∧ t.heap 8 = some ⟨4, [.bool false]⟩) _ (by kernel_rfl) ?_) hs hm) ?_)
      · clear hs hm
        obtain ⟨en, he⟩ := t
        simp only at h8 hh8
        repeat' first
          | (with_reducible refine gw_bool (fun _ => ?_) (fun _ => ?_))
          | (with_reducible refine condw_bool (fun _ => ?_) (fun _ => ?_))
          | simp [*, setsV]
      rintro e a2 w2 ⟨s2, ro2, lam2, ⟨rfl, h8', hh8'⟩, hs2, hm2⟩
      refine wpIn_ret ?_
      rw [hRf]
      refine MK.leaveC (asPtr hs2 h8') hm2 hro ?_
      rw [Try.results22]
      simp [resL, resV, upd, hh8', loadV]
    · exact hb
end Go.Proofs.Ytcbddoopmkhlfaa
