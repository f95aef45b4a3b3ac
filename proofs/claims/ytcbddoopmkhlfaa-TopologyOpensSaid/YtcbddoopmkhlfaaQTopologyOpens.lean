/-
  The law of zones that live.
  Positions: Resolve gives its memory.
  Views: look gives its groups; the groups are new memory.
  The law of breakers that open: what it needs.
  The law of breakers that open: the walk.
  TopologyOpens returns true for every input, and leaves the input as it was. No condition.
-/
import Derived.Test.YtcbddoopmkhlfaaJ8
import Derived.Test.YtcbddoopmkhlfaaJ5
import Derived.Test.YtcbddoopmkhlfaaJ7
import Derived.Test.YtcbddoopmkhlfaaJ6
import Derived.Test.YtcbddoopmkhlfaaRows
section
namespace Go.Proofs.Ytcbddoopmkhlfaa
open Go.Pv Go.RowKit
set_option linter.unusedSimpArgs false
set_option linter.unusedVariables false
set_option maxRecDepth 100000
set_option maxHeartbeats 4000000
attribute [-simp] Tclo_at Tgrp_at Tchk Tpchk TcI TcB Tclo Tgrp Tsid Tnod Tlook Tbnd TsidA Tre Tidx Tnms Tnmd Tobj Tlks Tbay Trck Trpc Tres TSd TBd Tnm Tlv Tfd Tfn Tlg Tgps Trg Trf Trsd Trnd Tar Tix Tcon

def Tzo : List V → Option V
  | [.agg a, .agg b] => (match unStn a, unPos b with
    | some s, some p => if okP s p = true then some (.list 2 ((zonF s p).map nd2)) else none
    | _, _ => none)
  | _ => none
theorem Tzo_at {s : Stn} {p : Pos} (h : okP s p = true) : Tzo [.agg [.str s.nm, .list 1 (s.bs.map s1), .list 5 (s.ls.map Ln.cs), .list 6 (s.ss.map Sr.cs), .list 12 (s.qs.map By.cs)], .agg [.list 1 (p.cl.map b1), .list 1 (p.lk.map r1)]] = some (.list 2 ((zonF s p).map nd2)) := by
  have e1 := unStn_cs s
  have e2 := unPos_cs p
  unfold Stn.cs at e1
  unfold Pos.cs at e2
  simp [Tzo, e1, e2, h]
theorem zo_tab : ∀ vs v, Tzo vs = some v → PCall Try.prog 24 vs v := by
  intro vs v h; unfold Tzo at h; split at h
  · split at h
    · rename_i h1 h2
      split at h
      · rename_i hl; cases h; rw [unStn_inv _ _ h1, unPos_inv _ _ h2]; exact Zones_ok hl
      · cases h
    · cases h
  · cases h
def Tot : List V → Option V
  | [.agg a, .agg b, .agg [.int .i64 k, .int .i64 o], .int .i64 i] => (match unStn a, unPos b with
    | some s, some p => if okP s p = true then some (nodV (othP s p k o i)) else none
    | _, _ => none)
  | _ => none
theorem Tot_at {s : Stn} {p : Pos} {k o i : Int} (h : okP s p = true) : Tot [.agg [.str s.nm, .list 1 (s.bs.map s1), .list 5 (s.ls.map Ln.cs), .list 6 (s.ss.map Sr.cs), .list 12 (s.qs.map By.cs)], .agg [.list 1 (p.cl.map b1), .list 1 (p.lk.map r1)], .agg [.int .i64 k, .int .i64 o], .int .i64 i] = some (nodV (othP s p k o i)) := by
  have e1 := unStn_cs s
  have e2 := unPos_cs p
  unfold Stn.cs at e1
  unfold Pos.cs at e2
  simp [Tot, e1, e2, h]
theorem ot_tab : ∀ vs v, Tot vs = some v → PCall Try.prog 31 vs v := by
  intro vs v h; unfold Tot at h; split at h
  · split at h
    · rename_i h1 h2
      split at h
      · rename_i hl; cases h; rw [unStn_inv _ _ h1, unPos_inv _ _ h2]; exact Other_ok hl _ _ _
      · cases h
    · cases h
  · cases h
def H1 : Tab := add 24 Tzo (add 31 Tot (G4))
theorem H1_at (f : FuncId) (vs : List V) : H1.at' f vs = if f = 24 then Tzo vs else if f = 31 then Tot vs else G4.at' f vs := rfl
theorem H1_fr (f : FuncId) : H1.fr f = if f = 24 then false else if f = 31 then false else G4.fr f := rfl
theorem H1_gb (f : FuncId) : H1.gb f = G4.gb f := rfl
theorem H1_gv (f : FuncId) (vs : List V) : H1.gv f vs = G4.gv f vs := rfl
attribute [simp] H1_at H1_fr H1_gb H1_gv Tot Tzo
theorem H1_ok : TabOK Try.prog H1 := by
  refine add_ok (add_ok (G4_ok) (by kernel_rfl) ?_) (by kernel_rfl) ?_
  · exact ot_tab
  · exact zo_tab
attribute [-simp] Tzo Tot
attribute [simp] Tzo_at Tot_at
theorem zon_ne {s : Stn} {p : Pos} (h : okP s p = true) : 1 ≤ (zonF s p).length := by
  have h0 := (fine_of (okP_iff h).1).nb0
  obtain ⟨x, hx, -⟩ := at_ex (l := grp s p) (i := 0) (by rw [grp_len]; omega)
  obtain ⟨u, hu, hu0, _⟩ := can_grp h 0 x hx
  have hx0 : (grp s p)[0]? = some ((0 : Nat) : Int) := by rw [hx, hu, show u = 0 by omega]
  have : ((1 : Int), ((0 : Nat) : Int)) ∈ zonF s p := by
    simp only [zonF, List.mem_append, zonG, List.mem_map, List.mem_filter, List.mem_range, beq_iff_eq]
    exact .inl ⟨0, ⟨by omega, hx0⟩, rfl⟩
  exact List.length_pos_of_mem this
theorem zon_len {s : Stn} {p : Pos} (h : okP s p = true) : (zonF s p).length ≤ 20 := by
  have h1 := (fine_of (okP_iff h).1).nb
  have h2 := (fine_of (okP_iff h).1).nl
  have := zonG_len (grp s p) s.bs.length
  rw [zonF, List.length_append, zonL_len]; omega
theorem life_at {s : Stn} {p : Pos} (h : okP s p = true) {z : Nd} (hz : z ∈ zonF s p) : ∃ (B : List Int) (F : Int → Bool), B.length ≤ 16 ∧ TBd [.agg [.str s.nm, .list 1 (s.bs.map s1), .list 5 (s.ls.map Ln.cs), .list 6 (s.ss.map Sr.cs), .list 12 (s.qs.map By.cs)], .agg [.list 1 (p.cl.map b1), .list 1 (p.lk.map r1)], .agg [.int .i64 z.1, .int .i64 z.2]] = some (.list 1 (B.map i1)) ∧ (∀ b : Int, Tfd [.agg [.str s.nm, .list 1 (s.bs.map s1), .list 5 (s.ls.map Ln.cs), .list 6 (s.ss.map Sr.cs), .list 12 (s.qs.map By.cs)], .agg [.list 1 (p.cl.map b1), .list 1 (p.lk.map r1)], .list 2 [[.int .i64 z.1, .int .i64 z.2]], .int .i64 b] = some (.bool (F b))) ∧ Tlv [.agg [.str s.nm, .list 1 (s.bs.map s1), .list 5 (s.ls.map Ln.cs), .list 6 (s.ss.map Sr.cs), .list 12 (s.qs.map By.cs)], .agg [.list 1 (p.cl.map b1), .list 1 (p.lk.map r1)], .agg [.int .i64 z.1, .int .i64 z.2]] = some (.bool (B.any F)) := by
  have hn := zon_mem hz
  have hb := TBd_at (k := z.1) (o := z.2) h
  have hl := Tlv_at (k := z.1) (o := z.2) h
  rw [hn] at hb
  rw [← life h hn] at hl
  refine ⟨_, fun b => fedF s p [z] b, ?_, hb, fun b => ?_, hl⟩
  · have := bnd_len s p (grp s p) (some z)
    have := (fine_of (okP_iff h).1).nq
    omega
  · have := Tfd_at (zs := [z]) (i := b) h (by simp)
    simpa only [List.map_cons, List.map_nil, nd2] using this
theorem any_step {B : List Int} {F : Int → Bool} {k : Nat} {b : Int} (h : B[k]? = some b) : (B.take (k + 1)).any F = ((B.take k).any F || F b) := by
  simp [take_snoc h]
theorem life_ok {s : Stn} {p : Pos} (h1 : lkB s = true) (h2 : lenB s p = true) : PCall Try.prog 8 [.agg s.cs, .agg p.cs] (.bool true) := by
  have hTf := Tfn_at h1 h2
  cases hf : fineF s p
  · rw [hf] at hTf
    clear h1 h2
    refine pcall_cx H1_ok mixed (fun id => if id = 16 then some ⟨[(5008, 49)], [12]⟩ else none) Try.func8 rfl Try.ntmps8 Try.results8 (by simp) (by kernel_rfl) ?_
    repeat' first
      | (with_reducible refine gw_bool (fun _ => ?_) (fun _ => ?_))
      | (with_reducible refine condw_bool (fun _ => ?_) (fun _ => ?_))
      | simp [*, Stn.cs, Pos.cs]
  rw [hf] at hTf
  have hok : okP s p = true := by simp only [fineF, Bool.and_eq_true] at hf; exact hf.2
  have hat : Hid (∀ z ∈ zonF s p, _) := show _ from fun z hz => life_at hok hz
  have hTz := Tzo_at hok
  have hm1 := zon_ne hok
  have hm2 := zon_len hok
  generalize zonF s p = L at hat hTz hm1 hm2
  obtain ⟨m, hm⟩ : ∃ m, L.length = m := ⟨_, rfl⟩
  rw [hm] at hm1 hm2
  have hm0 : ieq (m : Int) 0 = false := ieq_f (by omega)
  clear h1 h2 hf hok
  refine pcall_cx H1_ok mixed (fun id => if id = 16 then some ⟨[(5008, 49)], [12]⟩ else none) Try.func8 rfl Try.ntmps8 Try.results8 (by simp) (by kernel_rfl) ?_
  repeat' first
    | (with_reducible refine gw_bool (fun _ => ?_) (fun _ => ?_))
    | (with_reducible refine condw_bool (fun _ => ?_) (fun _ => ?_))
    | simp [*, Stn.cs, Pos.cs]
  refine lp_go (D := (fun id => if id = 16 then some ⟨[(5008, 49)], [12]⟩ else none)) H1_ok mixed (by kernel_rfl) [2, 3, 5] [2, 3, 49] (α := Nat) (fun i e h => i ≤ m ∧ e 6 = .int .i64 i) (fun i => m - i) 0 ?_ ?_
  · exact ⟨by omega, by simp⟩
  rintro i e h hk hkh ⟨hi, g7⟩
  simp [Keep] at hk
  simp [KeepH] at hkh
  clear hTf hTz
  by_cases hlt : i < m
  · obtain ⟨z, hz, hz'⟩ := at_ex (l := L) (i := i) (by omega)
    obtain ⟨B, F, hB, hTb, hTd, hTl⟩ := hat.out z (List.mem_of_getElem? hz)
    have f1 : ilt (i : Int) (m : Int) = true := ilt_t (by omega)
    have w1 : IntKind.i64.wrap ((i : Int) + 1) = ((i + 1 : Nat) : Int) := wrap_succ (by omega)
    obtain ⟨nB, hnB⟩ : ∃ n, B.length = n := ⟨_, rfl⟩
    rw [hnB] at hB
    obtain ⟨W, hW⟩ : ∃ W, B.any F = W := ⟨_, rfl⟩
    rw [hW] at hTl
    replace hW : Hid (_) := hW
    replace hTd : Hid (_) := hTd
    clear hat
    obtain ⟨z0, z1⟩ := z
    repeat' first
      | (with_reducible refine gw_bool (fun _ => ?_) (fun _ => ?_))
      | (with_reducible refine condw_bool (fun _ => ?_) (fun _ => ?_))
      | simp [*, nd2]
    refine lp_go (D := (fun id => if id = 16 then some ⟨[(5008, 49)], [12]⟩ else none)) H1_ok mixed (by kernel_rfl) [2, 3, 5, 6, 8, 22, 23, 24, 25, 28, 29, 30, 31, 32, 33, 34] [2, 3, 49] (α := Nat) (fun k e h => k ≤ nB ∧ e 9 = .int .i64 k ∧ e 7 = .bool ((B.take k).any F)) (fun k => nB - k) 0 ?_ ?_
    · exact ⟨by omega, by simp, by simp⟩
    have hk0 := hk
    have hkh0 := hkh
    have g70 := g7
    clear hk hkh g7
    rintro k e h hk hkh ⟨hkB, g9, g7⟩
    simp [Keep, hk0, hkh0, g70] at hk
    simp [KeepH, hk0, hkh0] at hkh
    by_cases hlk : k < nB
    · obtain ⟨b, hb, hb'⟩ := at_ex (l := B) (i := k) (by omega)
      have f2 : ilt (k : Int) (nB : Int) = true := ilt_t (by omega)
      have w2 : IntKind.i64.wrap ((k : Int) + 1) = ((k + 1 : Nat) : Int) := wrap_succ (by omega)
      have hst := any_step (F := F) hb
      have hT := hTd.out b
      clear hW hTd hTl hTb
      generalize F b = X at hst hT
      generalize (B.take k).any F = Y at hst g7
      cases Y
      · skip
        repeat' first
          | (with_reducible refine gw_bool (fun _ => ?_) (fun _ => ?_))
          | (with_reducible refine condw_bool (fun _ => ?_) (fun _ => ?_))
          | simp [*, nd2, i1]
        refine nxt_go (k + 1) ((View.forget _ _ 49)) (by omega) (by simp [*, Keep, St.forget, scr, scrC, usesC, usesA]) (by simp [*, KeepH, St.forget, scr, scrC]) ?_
        refine ⟨by omega, by simp [*, St.forget, scr, scrC], ?_⟩
        rw [hst]; simp [*, St.forget, scr, scrC]
      · skip
        repeat' first
          | (with_reducible refine gw_bool (fun _ => ?_) (fun _ => ?_))
          | (with_reducible refine condw_bool (fun _ => ?_) (fun _ => ?_))
          | simp [*, nd2, i1]
        refine nxt_go (k + 1) (View.refl _ _) (by omega) (by simp [*, Keep, St.forget, scr, scrC]) (by simp [*, KeepH, St.forget, scr, scrC]) ?_
        refine ⟨by omega, by simp [*, St.forget, scr, scrC], ?_⟩
        rw [hst]; simp [*, St.forget, scr, scrC]
    · have f2 : ilt (k : Int) (nB : Int) = false := ilt_f (by omega)
      have e2 : k = nB := by omega
      rw [e2, ← hnB, List.take_length, hW.out] at g7
      clear hW hTd
      cases W
      · skip
        repeat' first
          | (with_reducible refine gw_bool (fun _ => ?_) (fun _ => ?_))
          | (with_reducible refine condw_bool (fun _ => ?_) (fun _ => ?_))
          | simp [*, nd2]
        refine nxt_go (i + 1) (View.refl _ _) (by omega) (by simp [*, Keep, St.forget, scr, scrC]) (by simp [*, KeepH, St.forget, scr, scrC]) ?_
        exact ⟨by omega, by simp [*]⟩
      · skip
        repeat' first
          | (with_reducible refine gw_bool (fun _ => ?_) (fun _ => ?_))
          | (with_reducible refine condw_bool (fun _ => ?_) (fun _ => ?_))
          | simp [*, nd2]
        refine nxt_go (i + 1) (View.refl _ _) (by omega) (by simp [*, Keep, St.forget, scr, scrC]) (by simp [*, KeepH, St.forget, scr, scrC]) ?_
        exact ⟨by omega, by simp [*]⟩
  · have f1 : ilt (i : Int) (m : Int) = false := ilt_f (by omega)
    clear hat
    repeat' first
      | (with_reducible refine gw_bool (fun _ => ?_) (fun _ => ?_))
      | (with_reducible refine condw_bool (fun _ => ?_) (fun _ => ?_))
      | simp [*]
end Go.Proofs.Ytcbddoopmkhlfaa
end
section
namespace Go.Proofs.Ytcbddoopmkhlfaa
open Go.Pv Go.RowKit
set_option linter.unusedSimpArgs false
set_option linter.unusedVariables false
set_option maxRecDepth 100000
set_option maxHeartbeats 4000000
attribute [-simp] Tpchk TcI TcB

theorem cloneBg (x : Bool) (l : List Bool) (hl : l.length ≤ 1000) : PGive Try.prog 65 [.list 1 ((x :: l).map b1)] (.sl 5 0 (l.length + 1) 1) [(5, ⟨4, (x :: l).map V.bool⟩)] := by
  have f5 : (l.length + 1) * 1 ≤ 140737488355328 := by omega
  have f6 : l.length + 1 ≤ 9223372036854775807 := by omega
  refine pgive_cx noTab_ok mixed (fun _ => none) Try.func65 rfl Try.ntmps65 Try.results65 (by simp) (by kernel_rfl) ?_
  have f7 : l.length ≤ 140737488355327 := by omega
  repeat' first
    | (with_reducible refine gw_bool (fun _ => ?_) (fun _ => ?_))
    | (with_reducible refine condw_bool (fun _ => ?_) (fun _ => ?_))
    | simp [*, appendV, srcCells, flat_b1, b1, scrC, scrB_comp, List.map_map, Function.comp_def, ownC, KeepBl, closedB, inT, inA, inC, blkOf]
def TcBg : List V → Option (V × List (Nat × Blk))
  | [.list 1 xs] => (match decL unB1 xs with
    | some (x :: l) => if l.length ≤ 1000 then some (.sl 5 0 (l.length + 1) 1, [(5, ⟨4, (x :: l).map V.bool⟩)]) else none
    | _ => none)
  | _ => none
theorem TcBg_at {l : List Bool} (h0 : l ≠ []) (h : l.length ≤ 1000) : TcBg [.list 1 (l.map b1)] = some (.sl 5 0 l.length 1, [(5, ⟨4, l.map V.bool⟩)]) := by
  match l, h0 with
  | x :: l, _ =>
    have := decL_map unB1_cs (x :: l)
    have h1 : l.length ≤ 1000 := by simp at h; omega
    simp only [TcBg, this]
    simp [h1]
theorem cBg_tab : ∀ vs u bl, TcBg vs = some (u, bl) → PGive Try.prog 65 vs u bl := by
  intro vs u bl h; unfold TcBg at h; split at h
  · split at h
    · rename_i h1; split at h
      · rename_i hl; cases h; rw [decL_inv unB1_inv _ _ h1]; exact cloneBg _ _ hl
      · cases h
    · cases h
  · cases h
def DG : Tab := addG 66 TcI (addG 65 TcBg (D1))
theorem DG_at (f : FuncId) (vs : List V) : DG.at' f vs = D1.at' f vs := rfl
theorem DG_fr (f : FuncId) : DG.fr f = D1.fr f := rfl
theorem DG_gb (f : FuncId) : DG.gb f = if f = 66 then true else if f = 65 then true else D1.gb f := rfl
theorem DG_gv (f : FuncId) (vs : List V) : DG.gv f vs = if f = 66 then TcI vs else if f = 65 then TcBg vs else D1.gv f vs := rfl
attribute [simp] DG_at DG_fr DG_gb DG_gv TcBg TcI
theorem DG_ok : TabOK Try.prog DG := by
  refine addG_ok (addG_ok (D1_ok) (by kernel_rfl) ?_) (by kernel_rfl) ?_
  · exact cBg_tab
  · exact cI_tab
attribute [-simp] TcI TcBg
attribute [simp] TcBg_at
theorem resolveG_ok (p : Pos) (h0 : p.cl ≠ []) (h1 : p.cl.length ≤ 1000) (h2 : p.lk.length ≤ 1000) (h3 : ∀ l ∈ p.lk, l.length ≤ 1000) : PGive Try.prog 34 [.agg p.cs, .bool false] (.agg [.sl 150005 0 p.cl.length 1, .sl 43 0 p.lk.length 1]) [(150005, ⟨4, p.cl.map V.bool⟩), (43, ⟨47, (p.lk.map (fun l => l.map (resF 0))).map r0⟩)] := by
  obtain ⟨n, hn⟩ : ∃ n, p.lk.length = n := ⟨_, rfl⟩
  rw [hn] at h2
  have hTc := TcBg_at h0 h1
  obtain ⟨nc, hnc⟩ : ∃ n, p.cl.length = n := ⟨_, rfl⟩
  rw [hnc] at hTc h1
  rw [hn, hnc]
  clear h0
  have hpR := pure_r0 (p.lk.map (fun l => l.map (resF 0)))
  obtain ⟨RR, hRR⟩ : ∃ RR, (p.lk.map (fun l => l.map (resF 0))).map r0 = RR := ⟨_, rfl⟩
  rw [hRR] at hpR ⊢
  replace hRR : Hid ((p.lk.map (fun l => l.map (resF 0))).map r0 = RR) := hRR
  have hpB := pure_b1 p.cl
  have hBl : (p.cl.map V.bool).length = nc := by simp [hnc]
  have hhB : ∀ c, (p.cl.map V.bool).map (shC c) = p.cl.map V.bool := fun c => by rw [List.map_map]; rfl
  generalize p.cl.map V.bool = CB at hTc hpB hBl hhB ⊢
  have hsB : ∀ k, CB.map (scrC k) = CB := fun k => scrC_cells hpB
  have hbB : ∀ k b, CB.map (pubC k b) = CB := fun k b => pub_cells hpB
  refine pgive_cx DG_ok mixed (fun _ => none) Try.func34 rfl Try.ntmps34 Try.results34 (by simp) (by kernel_rfl) ?_
  repeat' first
    | (with_reducible refine gw_bool (fun _ => ?_) (fun _ => ?_))
    | (with_reducible refine condw_bool (fun _ => ?_) (fun _ => ?_))
    | simp [*, Pos.cs]
  refine lp_view (View.nilAt _ (t := 6) (o := 0) (key := 6) (key' := 43) (i := 1) (blk := ⟨38, [.sl 150005 0 nc 1, .nils]⟩) 1 47 (by simp) (by simp) (by simp) (by simp)) ?_
  refine lp_go (D := (fun _ => none)) DG_ok mixed (by kernel_rfl) [4, 5, 6, 17, 18] [2, 4, 42, 250005, 150005] (α := Nat) (fun i e h => i ≤ n ∧ e 19 = .int .i64 i ∧ h 6 = some ⟨38, [.sl 150005 0 nc 1, .sl 43 0 i 1]⟩ ∧ h 43 = some ⟨47, ((p.lk.take i).map (fun l => l.map (resF 0))).map r0⟩) (fun i => n - i) 0 ?_ ?_
  · refine ⟨by omega, by simp, by simp, by simp⟩
  · rintro i e h hk hkh ⟨hi, g7, g6, g43⟩
    simp [Keep] at hk
    simp [KeepH] at hkh
    by_cases hlt : i < n
    · obtain ⟨l, hl, hl'⟩ := at_ex (l := p.lk) (i := i) (by omega)
      have f1 : ilt (i : Int) (n : Int) = true := ilt_t (by omega)
      have w1 : IntKind.i64.wrap ((i : Int) + 1) = ((i + 1 : Nat) : Int) := wrap_succ (by omega)
      have hlm : l.length ≤ 1000 := h3 l (List.mem_of_getElem? hl)
      have f5 : (i + 1) * 24 ≤ 140737488355328 := by omega
      have f6 : i + 1 ≤ 9223372036854775807 := by omega
      have hnx : ((p.lk.take (i + 1)).map (fun l => l.map (resF 0))).map r0 = ((p.lk.take i).map (fun l => l.map (resF 0))).map r0 ++ [r0 (l.map (resF 0))] := by rw [take_snoc hl]; simp
      have hln : (((p.lk.take i).map (fun l => l.map (resF 0))).map r0).length = i := by simp; omega
      generalize hCC : ((p.lk.take i).map (fun l => l.map (resF 0))).map r0 = CC at g43 hnx hln
      have hpC : CC.any ownC = false := by rw [← hCC]; exact pure_r0 _
      have hsC : ∀ k, CC.map (scrC k) = CC := fun k => scrC_cells hpC
      have hbC : ∀ k b, CC.map (pubC k b) = CC := fun k b => pub_cells hpC
      replace hnx : Hid (((p.lk.take (i + 1)).map (fun l => l.map (resF 0))).map r0 = CC ++ [r0 (l.map (resF 0))]) := hnx
      clear hCC
      have hlt2 : i < p.lk.length := by omega
      cases l with
      | nil =>
        repeat' first
          | (with_reducible refine gw_bool (fun _ => ?_) (fun _ => ?_))
          | (with_reducible refine condw_bool (fun _ => ?_) (fun _ => ?_))
          | simp [*, r1, appendV, srcCells, St.forget, scr, scrC]
        refine lp_unroll (D := (fun _ => none)) DG_ok mixed (by kernel_rfl) ?_
        repeat' first
          | (with_reducible refine gw_bool (fun _ => ?_) (fun _ => ?_))
          | (with_reducible refine condw_bool (fun _ => ?_) (fun _ => ?_))
          | simp [*, r1, appendV, srcCells, St.forget, scr, scrC]
        refine nxt_go (i + 1) ((View.forget _ _ 42)) (by omega) (by simp [*, Keep, St.forget, scr, scrC]) (by simp [*, KeepH, St.forget, scr, scrC]) ?_
        refine ⟨by omega, ?_, ?_, ?_⟩
        · simp [*, St.forget, scr, scrC]
        · simp [*, St.forget, scr, scrC]
        · rw [hnx.out]; simp [*, St.forget, scr, scrC, r0]
      | cons x t =>
        have hlm' : t.length ≤ 1000 := by simp at hlm; omega
        obtain ⟨m, hm⟩ : ∃ m, t.length + 1 = m := ⟨_, rfl⟩
        have hmc : ((t.length : Int) + 1) = (m : Int) := by omega
        have hhl : (x :: t).length = m := hm
        repeat' first
          | (with_reducible refine gw_bool (fun _ => ?_) (fun _ => ?_))
          | (with_reducible refine condw_bool (fun _ => ?_) (fun _ => ?_))
          | simp [*, r1, appendV, srcCells, St.forget, scr, scrC]
        refine lp_go (D := (fun _ => none)) DG_ok mixed (by kernel_rfl) [4, 5, 6, 8, 17, 18, 19, 20, 21, 22, 23, 24, 25, 26] [2, 4, 6, 42, 43, 150005] (α := Nat) (fun j e h => j ≤ m ∧ e 27 = .int .i64 j ∧ h 250005 = some ⟨3, (half 0 (x :: t) j).map (V.int .i64)⟩) (fun j => m - j) 0 ?_ ?_
        · refine ⟨by omega, by simp, by simp [half]⟩
        · have hk0 := hk
          have hkh0 := hkh
          have g0 := g7
          clear hk hkh g7
          rintro j e h hk hkh ⟨hj, g7, gK⟩
          simp [Keep, hk0, hkh0, g0, hm, hmc] at hk
          simp [KeepH, hk0, hkh0, g6, g43] at hkh
          have hCl : (half 0 (x :: t) j).length = m := by rw [half_len _ _ _ (by omega)]; exact hm
          by_cases hjlt : j < m
          · obtain ⟨y, hy, -⟩ := at_ex (l := x :: t) (i := j) (by omega)
            have f2 : ilt (j : Int) (m : Int) = true := ilt_t (by omega)
            have w2 : IntKind.i64.wrap ((j : Int) + 1) = ((j + 1 : Nat) : Int) := wrap_succ (by omega)
            have hC1 := half_at (z := 0) hy
            cases hq : ieq y 2
            · have hnj : Hid (half 0 (x :: t) (j + 1) = half 0 (x :: t) j) := half_same hy hq
              generalize half 0 (x :: t) j = C at gK hCl hC1 hnj
              have hC2 : ∀ h : j < C.length, C[j] = y := fun h => by rw [List.getElem?_eq_getElem h] at hC1; exact Option.some.inj hC1
              clear hy hl hl' hnx
              repeat' first
                | (with_reducible refine gw_bool (fun _ => ?_) (fun _ => ?_))
                | (with_reducible refine condw_bool (fun _ => ?_) (fun _ => ?_))
                | simp [*, St.forget, scr, scrC]
              refine nxt_go (j + 1) (View.refl _ _) (by omega) (by simp [*, Keep, St.forget, scr, scrC]) (by simp [*, KeepH, St.forget, scr, scrC]) ?_
              refine ⟨by omega, by simp [*], ?_⟩
              rw [hnj.out]; simp [*]
            · have hnj : half 0 (x :: t) (j + 1) = (half 0 (x :: t) j).set j 0 := by rw [half_step hy]; simp [resF, hq]
              replace hnj : Hid (half 0 (x :: t) (j + 1) = (half 0 (x :: t) j).set j 0) := hnj
              generalize half 0 (x :: t) j = C at gK hCl hC1 hnj
              have hC2 : ∀ h : j < C.length, C[j] = y := fun h => by rw [List.getElem?_eq_getElem h] at hC1; exact Option.some.inj hC1
              clear hy hl hl' hnx
              have hj1 : j + 1 ≤ m := by omega
              repeat' first
                | (with_reducible refine gw_bool (fun _ => ?_) (fun _ => ?_))
                | (with_reducible refine condw_bool (fun _ => ?_) (fun _ => ?_))
                | simp [*, St.forget, scr, scrC, setsV]
              refine nxt_go (j + 1) (View.refl _ _) (by omega) (by simp [*, Keep, St.forget, scr, scrC]) (by simp [*, KeepH, St.forget, scr, scrC]) ?_
              refine ⟨by omega, by simp [*], ?_⟩
              rw [hnj.out]; simp [*, setsV, List.map_set]
          · have f2 : ilt (j : Int) (m : Int) = false := ilt_f (by omega)
            have e2 : j = (x :: t).length := by rw [hhl]; omega
            rw [e2, half_end] at gK
            rw [e2, half_end] at hCl
            have hch := chunks_i1 ((x :: t).map (resF 0))
            have hcp := pure_i1 ((x :: t).map (resF 0))
            rw [hCl] at hch
            have hnx' := hnx.out
            generalize (x :: t).map (resF 0) = C at gK hCl hch hnx' hcp
            replace hnx' : Hid (List.map r0 (List.map (fun l => List.map (resF 0) l) (List.take (i + 1) p.lk)) = CC ++ [r0 C]) := hnx'
            replace hch : Hid (chunks 1 m (C.map (V.int .i64)) = C.map i1) := hch
            have hcs : ∀ k, (C.map (V.int .i64)).map (scrC k) = C.map (V.int .i64) := fun k => scrC_cells hcp
            have hmm : m ≤ C.length := by omega
            clear hnx hl hl' e2
            repeat' first
              | (with_reducible refine gw_bool (fun _ => ?_) (fun _ => ?_))
              | (with_reducible refine condw_bool (fun _ => ?_) (fun _ => ?_))
              | simp [*, appendV, srcCells, St.forget, scr, scrC]
            refine nxt_go (i + 1) ((View.forget _ _ 42).trans (View.pub _ (key := 250005) (blk := ⟨3, C.map (V.int .i64)⟩) ?_ hcp)) (by omega) ?_ ?_ ?_
            · simp [*, St.forget, scrC, scrI_comp]
            · simp [*, Keep, St.forget, scr, scrC, St.pub, pubT, pubA, pubC]
            · simp [*, KeepH, St.forget, scr, scrC, St.pub, pubC]
            · refine ⟨by omega, ?_, ?_, ?_⟩
              · simp [*, St.forget, scr, scrC, St.pub, pubT, pubA, pubC]
              · simp [*, St.forget, scr, scrC, St.pub, pubC]
              · rw [hnx'.out]; simp [*, St.forget, scr, scrC, St.pub, pubC, r0, hch.out]
    · have f1 : ilt (i : Int) (n : Int) = false := ilt_f (by omega)
      have e1 : i = n := by omega
      subst e1
      have ht : p.lk.take i = p.lk := by rw [← hn]; exact List.take_length
      rw [ht, hRR.out] at g43
      clear hRR ht
      repeat' first
        | (with_reducible refine gw_bool (fun _ => ?_) (fun _ => ?_))
        | (with_reducible refine condw_bool (fun _ => ?_) (fun _ => ?_))
        | simp [*, Pos.cs, ownC, KeepBl, closedB, inT, inA, inC, blkOf]
end Go.Proofs.Ytcbddoopmkhlfaa
end
section
namespace Go.Proofs.Ytcbddoopmkhlfaa
open Go.Pv Go.RowKit
set_option linter.unusedSimpArgs false
set_option linter.unusedVariables false
set_option maxRecDepth 100000
set_option maxHeartbeats 4000000
attribute [-simp] Tclo_at Tgrp_at Tchk Tpchk TcI TcB Tclo Tgrp Tsid Tnod Tlook Tbnd Tres TSd TBd TcBg

theorem lookG_ok {s : Stn} {p : Pos} (h1 : chkF s = 0) (h2 : posE s p = 0) : PGive Try.prog 49 [.agg s.cs, .agg p.cs] (.tup [.agg [.str s.nm, .list 1 (s.bs.map s1), .list 5 (s.ls.map Ln.cs), .list 6 (s.ss.map Sr.cs), .list 12 (s.qs.map By.cs), .list 1 (p.cl.map b1), .list 1 (p.lk.map r1), .sl 39 0 s.bs.length 1], .bool true]) [(39, ⟨3, (grp s p).map (V.int .i64)⟩)] := by
  have hF := fine_of h1
  have hP := pfine_of h2
  have hw := wf_of hF hP
  have hlb := lenB_of hF hP
  obtain ⟨nb, hnb⟩ : ∃ n, s.bs.length = n := ⟨_, rfl⟩
  obtain ⟨n, hn⟩ : ∃ n, s.qs.length = n := ⟨_, rfl⟩
  have hn16 : n ≤ 16 := by have := hF.nq; omega
  have hnb4 : nb ≤ 4 := by have := hF.nb; omega
  have hkn : p.lk.length = n := by have := hP.nk; omega
  have hch := chunks_i1 (grp s p)
  have hpu := pure_i1 (grp s p)
  have hgl : (grp s p).length = nb := by rw [grp, grpN_len]; exact hnb
  obtain ⟨R, hR⟩ : ∃ R, grp s p = R := ⟨_, rfl⟩
  rw [hR] at hch hpu hgl
  rw [hR, hnb]
  rw [hgl] at hch
  replace hR : Hid (grpN s p n = R) := by rw [grp, hn] at hR; exact hR
  rw [hnb] at hw
  refine pgive_cx D4_ok mixed (fun _ => none) Try.func49 rfl Try.ntmps49 Try.results49 (by simp) (by kernel_rfl) ?_
  repeat' first
    | (with_reducible refine gw_bool (fun _ => ?_) (fun _ => ?_))
    | (with_reducible refine condw_bool (fun _ => ?_) (fun _ => ?_))
    | simp [*, Stn.cs, Pos.cs]
  refine lp_view (View.nilAt _ (t := 6) (o := 0) (key := 6) (key' := 39) (i := 7) (blk := ⟨81, [.str s.nm, .list 1 (s.bs.map s1), .list 5 (s.ls.map Ln.cs), .list 6 (s.ss.map Sr.cs), .list 12 (s.qs.map By.cs), .list 1 (p.cl.map b1), .list 1 (p.lk.map r1), .nils]⟩) 1 3 (by simp) (by simp) (by simp) (by simp)) ?_
  refine lp_go (D := (fun _ => none)) D4_ok mixed (by kernel_rfl) [2, 4, 6, 31] [2, 3, 4, 9, 38] (α := Nat) (fun i e h => i ≤ nb ∧ e 32 = .int .i64 i ∧ h 6 = some ⟨81, [.str s.nm, .list 1 (s.bs.map s1), .list 5 (s.ls.map Ln.cs), .list 6 (s.ss.map Sr.cs), .list 12 (s.qs.map By.cs), .list 1 (p.cl.map b1), .list 1 (p.lk.map r1), .sl 39 0 i 1]⟩ ∧ h 39 = some ⟨3, (ini0 i).map (V.int .i64)⟩) (fun i => nb - i) 0 ?_ ?_
  · refine ⟨by omega, by simp, by simp, by simp [ini0]⟩
  · rintro i e h hk hkh ⟨hi, g7, g6, g39⟩
    simp [Keep] at hk
    simp [KeepH] at hkh
    by_cases hlt : i < nb
    · have f1 : ilt (i : Int) (nb : Int) = true := ilt_t (by omega)
      have w1 : IntKind.i64.wrap ((i : Int) + 1) = ((i + 1 : Nat) : Int) := wrap_succ (by omega)
      have f5 : (i + 1) * 8 ≤ 140737488355328 := by omega
      have f6 : i + 1 ≤ 9223372036854775807 := by omega
      have hst : Hid (ini0 (i + 1) = ini0 i ++ [(i : Int)]) := ini0_step i
      have hl0 := ini0_len i
      generalize ini0 i = C at g39 hst hl0
      clear hR hch hpu hgl hw h2
      repeat' first
        | (with_reducible refine gw_bool (fun _ => ?_) (fun _ => ?_))
        | (with_reducible refine condw_bool (fun _ => ?_) (fun _ => ?_))
        | simp [*, appendV, srcCells, St.forget, scr, scrC, scrI_comp]
      refine nxt_go (i + 1) ((View.forget _ _ 38)) (by omega) (by simp [*, Keep, St.forget, scr, scrC]) (by simp [*, KeepH, St.forget, scr, scrC]) ?_
      refine ⟨by omega, by simp [*, St.forget, scr, scrC], by simp [*, St.forget, scr, scrC], ?_⟩
      rw [hst.out]; simp [*, St.forget, scr, scrC, scrI_comp]
    · have f1 : ilt (i : Int) (nb : Int) = false := ilt_f (by omega)
      have e1 : i = nb := by omega
      subst e1
      have hin : grpN s p 0 = ini0 i := by simp [grpN, hnb]
      rw [← hin] at g39
      clear hin
      repeat' first
        | (with_reducible refine gw_bool (fun _ => ?_) (fun _ => ?_))
        | (with_reducible refine condw_bool (fun _ => ?_) (fun _ => ?_))
        | simp [*]
      refine lp_go (D := (fun _ => none)) D4_ok mixed (by kernel_rfl) [4, 6, 43, 44] [2, 3, 4, 6, 9, 38] (α := Nat) (fun k e h => k ≤ n ∧ e 45 = .int .i64 k ∧ h 39 = some ⟨3, (grpN s p k).map (V.int .i64)⟩) (fun k => n - k) 0 ?_ ?_
      · exact ⟨by omega, by simp, by simp [*]⟩
      · have hk0 := hk
        have hkh0 := hkh
        clear hk hkh g7 g39
        rintro k e h hk hkh ⟨hki, g7, g39⟩
        simp [Keep, hk0, hkh0] at hk
        simp [KeepH, hk0, hkh0, g6] at hkh
        by_cases hlt : k < n
        · obtain ⟨b, hb, hb'⟩ := at_ex (l := s.qs) (i := k) (by omega)
          obtain ⟨l, hl, hl'⟩ := at_ex (l := p.lk) (i := k) (by omega)
          obtain ⟨hll, -⟩ := hP.row k b l hb hl
          obtain ⟨hbus, -, hb1, hb2⟩ := hF.lk b (List.mem_of_getElem? hb)
          have f1 : ilt (k : Int) (n : Int) = true := ilt_t (by omega)
          have w1 : IntKind.i64.wrap ((k : Int) + 1) = ((k + 1 : Nat) : Int) := wrap_succ (by omega)
          have hst : Hid (grpN s p (k + 1) = stG (grpN s p k) b l) := grpN_step hb hl
          have hGl : (grpN s p k).length = i := by rw [grpN_len]; exact hnb
          have hGc := chunks_i1 (grpN s p k)
          have hGp := pure_i1 (grpN s p k)
          rw [hGl] at hGc
          generalize grpN s p k = G at g39 hst hGl hGc hGp
          clear hR hch hpu hgl hw h2 h1
          have hGs := scr_i1 G
          have hGm : ∀ q : Nat, scrC q ∘ V.int .i64 = V.int .i64 := scrI_comp
          cases hk3 : ieq b.kind 3
          · obtain ⟨lks, hlk⟩ : ∃ lks, b.lks = lks := ⟨_, rfl⟩
            rw [hlk] at hll hbus hb1 hb2
            match lks, hb1, hb2 with
            | [a], _, _ =>
              have hnx : stG G b l = G := by simp [stG, hk3, hlk]
              rw [hnx] at hst
              clear hnx hbus
              repeat' first
                | (with_reducible refine gw_bool (fun _ => ?_) (fun _ => ?_))
                | (with_reducible refine condw_bool (fun _ => ?_) (fun _ => ?_))
                | simp [*, By.cs]
              refine nxt_go (k + 1) ((View.forget _ _ 9)) (by omega) (by simp [*, Keep, St.forget, scr, scrC]) (by simp [*, KeepH, St.forget, scr, scrC]) ?_
              refine ⟨by omega, by simp [*, St.forget, scr, scrC], ?_⟩
              rw [hst.out]; simp [*, St.forget, scr, scrC, scrI_comp]
            | [a, c], _, _ =>
              match l, hll with
              | [x, y], _ =>
                have hc0 : clF p k 0 = some (ieq x 1) := by simp [clF, hl]
                have hc1 : clF p k 1 = some (ieq y 1) := by simp [clF, hl]
                cases hx : ieq x 1
                · have hnx : stG G b [x, y] = G := by simp [stG, hk3, hlk, hx]
                  rw [hnx] at hst
                  rw [hx] at hc0
                  clear hnx hbus
                  repeat' first
                    | (with_reducible refine gw_bool (fun _ => ?_) (fun _ => ?_))
                    | (with_reducible refine condw_bool (fun _ => ?_) (fun _ => ?_))
                    | simp [*, By.cs]
                  refine nxt_go (k + 1) ((View.forget _ _ 9)) (by omega) (by simp [*, Keep, St.forget, scr, scrC]) (by simp [*, KeepH, St.forget, scr, scrC]) ?_
                  refine ⟨by omega, by simp [*, St.forget, scr, scrC], ?_⟩
                  rw [hst.out]; simp [*, St.forget, scr, scrC, scrI_comp]
                cases hy : ieq y 1
                · have hnx : stG G b [x, y] = G := by simp [stG, hk3, hlk, hx, hy]
                  rw [hnx] at hst
                  rw [hx] at hc0
                  rw [hy] at hc1
                  clear hnx hbus
                  repeat' first
                    | (with_reducible refine gw_bool (fun _ => ?_) (fun _ => ?_))
                    | (with_reducible refine condw_bool (fun _ => ?_) (fun _ => ?_))
                    | simp [*, By.cs]
                  refine nxt_go (k + 1) ((View.forget _ _ 9)) (by omega) (by simp [*, Keep, St.forget, scr, scrC]) (by simp [*, KeepH, St.forget, scr, scrC]) ?_
                  refine ⟨by omega, by simp [*, St.forget, scr, scrC], ?_⟩
                  rw [hst.out]; simp [*, St.forget, scr, scrC, scrI_comp]
                obtain ⟨u, hu⟩ := Int.eq_ofNat_of_zero_le (hbus a (by simp)).1
                obtain ⟨w, hwc⟩ := Int.eq_ofNat_of_zero_le (hbus c (by simp)).1
                have hub : u < i := by have := (hbus a (by simp)).2; omega
                have hwb : w < i := by have := (hbus c (by simp)).2; omega
                obtain ⟨ga, hga, -⟩ := at_ex (l := G) (i := u) (by omega)
                obtain ⟨gc, hgc, -⟩ := at_ex (l := G) (i := w) (by omega)
                have hga2 : ∀ h : u < G.length, G[u] = ga := fun h => by rw [List.getElem?_eq_getElem h] at hga; exact Option.some.inj hga
                have hgc2 : ∀ h : w < G.length, G[w] = gc := fun h => by rw [List.getElem?_eq_getElem h] at hgc; exact Option.some.inj hgc
                have hnx : stG G b [x, y] = G.map (mgF (min ga gc) (max ga gc)) := by simp [stG, hk3, hlk, hx, hy, merge, g0, gAt, hu, hwc, hga, hgc]
                rw [hnx] at hst
                rw [hx] at hc0
                rw [hy] at hc1
                clear hnx hbus
                have hcu : (u : Int) < (i : Int) := by omega
                have hcw : (w : Int) < (i : Int) := by omega
                obtain ⟨lo, hlo⟩ : ∃ lo, min ga gc = lo := ⟨_, rfl⟩
                obtain ⟨top, hto⟩ : ∃ top, max ga gc = top := ⟨_, rfl⟩
                rw [hlo, hto] at hst
                repeat' first
                  | (with_reducible refine gw_bool (fun _ => ?_) (fun _ => ?_))
                  | (with_reducible refine condw_bool (fun _ => ?_) (fun _ => ?_))
                  | simp [*, By.cs, Lk.cs]
                refine lp_go (D := (fun _ => none)) D4_ok mixed (by kernel_rfl) [4, 6, 8, 9, 10, 11, 12, 13, 43, 44, 45, 46, 47, 48, 49, 50, 51, 52, 53, 54, 55, 56, 57, 58, 59, 60, 61, 62, 63, 64, 65, 66, 67, 68, 69, 70, 71, 72, 73, 74, 75, 76, 77, 78, 79, 80, 81, 82, 83, 84, 85, 86, 87, 88, 89, 90, 91, 92, 93, 94, 95, 96, 97] [2, 3, 4, 6, 9, 38] (α := Nat) (fun j e h => j ≤ i ∧ e 98 = .int .i64 j ∧ h 39 = some ⟨3, (hG (mgF lo top) G j).map (V.int .i64)⟩) (fun j => i - j) 0 ?_ ?_
                · exact ⟨by omega, by simp, by simp [*, hG]⟩
                · have hk1 := hk
                  have hkh1 := hkh
                  have g71 := g7
                  clear hk hkh g7 g39
                  rintro j e h hk hkh ⟨hji, g7, g39⟩
                  simp [Keep, hk1, hkh1, g71, hlo, hto] at hk
                  simp [KeepH, hk1, hkh1] at hkh
                  have hCl : (hG (mgF lo top) G j).length = i := by rw [hG_len _ _ _ (by omega)]; exact hGl
                  clear hga hgc hga2 hgc2 hGs
                  by_cases hjlt : j < i
                  · obtain ⟨z, hz, -⟩ := at_ex (l := G) (i := j) (by omega)
                    have f2 : ilt (j : Int) (i : Int) = true := ilt_t (by omega)
                    have w2 : IntKind.i64.wrap ((j : Int) + 1) = ((j + 1 : Nat) : Int) := wrap_succ (by omega)
                    have hC1 := hG_at (f := mgF lo top) hz
                    have hj1 : j + 1 ≤ i := by omega
                    cases hq : ieq z top
                    · have hnj : Hid (hG (mgF lo top) G (j + 1) = hG (mgF lo top) G j) := hG_same hz (by simp [mgF, hq])
                      generalize hG (mgF lo top) G j = C at g39 hCl hC1 hnj
                      have hC2 : ∀ h : j < C.length, C[j] = z := fun h => by rw [List.getElem?_eq_getElem h] at hC1; exact Option.some.inj hC1
                      clear hz hst hGl hGc hGp
                      repeat' first
                        | (with_reducible refine gw_bool (fun _ => ?_) (fun _ => ?_))
                        | (with_reducible refine condw_bool (fun _ => ?_) (fun _ => ?_))
                        | simp [*, St.forget, scr, scrC]
                      refine nxt_go (j + 1) (View.refl _ _) (by omega) (by simp [*, Keep, St.forget, scr, scrC]) (by simp [*, KeepH, St.forget, scr, scrC]) ?_
                      refine ⟨by omega, by simp [*], ?_⟩
                      rw [hnj.out]; simp [*]
                    · have hnj : hG (mgF lo top) G (j + 1) = (hG (mgF lo top) G j).set j lo := by rw [hG_step hz]; simp [mgF, hq]
                      replace hnj : Hid (hG (mgF lo top) G (j + 1) = (hG (mgF lo top) G j).set j lo) := hnj
                      generalize hG (mgF lo top) G j = C at g39 hCl hC1 hnj
                      have hC2 : ∀ h : j < C.length, C[j] = z := fun h => by rw [List.getElem?_eq_getElem h] at hC1; exact Option.some.inj hC1
                      clear hz hst hGl hGc hGp
                      repeat' first
                        | (with_reducible refine gw_bool (fun _ => ?_) (fun _ => ?_))
                        | (with_reducible refine condw_bool (fun _ => ?_) (fun _ => ?_))
                        | simp [*, St.forget, scr, scrC, setsV]
                      refine nxt_go (j + 1) (View.refl _ _) (by omega) (by simp [*, Keep, St.forget, scr, scrC]) (by simp [*, KeepH, St.forget, scr, scrC]) ?_
                      refine ⟨by omega, by simp [*], ?_⟩
                      rw [hnj.out]; simp [*, setsV, List.map_set]
                  · have f2 : ilt (j : Int) (i : Int) = false := ilt_f (by omega)
                    have e2 : j = G.length := by omega
                    rw [e2, hG_end] at g39
                    clear e2 hCl
                    have hst' := hst.out
                    generalize G.map (mgF lo top) = C at g39 hst'
                    replace hst' : Hid (grpN s p (k + 1) = C) := hst'
                    clear hst hGl hGc hGp
                    repeat' first
                      | (with_reducible refine gw_bool (fun _ => ?_) (fun _ => ?_))
                      | (with_reducible refine condw_bool (fun _ => ?_) (fun _ => ?_))
                      | simp [*, St.forget, scr, scrC]
                    refine nxt_go (k + 1) ((View.forget _ _ 9)) (by omega) (by simp [*, Keep, St.forget, scr, scrC]) (by simp [*, KeepH, St.forget, scr, scrC]) ?_
                    refine ⟨by omega, by simp [*, St.forget, scr, scrC], ?_⟩
                    rw [hst'.out]; simp [*, St.forget, scr, scrC, scrI_comp]
          · have hnx : stG G b l = G := by simp [stG, hk3]
            rw [hnx] at hst
            clear hnx hbus
            repeat' first
              | (with_reducible refine gw_bool (fun _ => ?_) (fun _ => ?_))
              | (with_reducible refine condw_bool (fun _ => ?_) (fun _ => ?_))
              | simp [*, By.cs]
            refine nxt_go (k + 1) ((View.forget _ _ 9)) (by omega) (by simp [*, Keep, St.forget, scr, scrC]) (by simp [*, KeepH, St.forget, scr, scrC]) ?_
            refine ⟨by omega, by simp [*, St.forget, scr, scrC], ?_⟩
            rw [hst.out]; simp [*, St.forget, scr, scrC, scrI_comp]
        · have f1 : ilt (k : Int) (n : Int) = false := ilt_f (by omega)
          have e1 : k = n := by omega
          rw [e1, hR.out] at g39
          clear hR
          repeat' first
            | (with_reducible refine gw_bool (fun _ => ?_) (fun _ => ?_))
            | (with_reducible refine condw_bool (fun _ => ?_) (fun _ => ?_))
            | simp [*, Vu.cs, ownC, KeepBl, closedB, inT, inA, inC, blkOf]
def TlookG : List V → Option (V × List (Nat × Blk))
  | [.agg a, .agg b] => (match unStn a, unPos b with
    | some s, some p => if okP s p = true then some (.tup [.agg [.str s.nm, .list 1 (s.bs.map s1), .list 5 (s.ls.map Ln.cs), .list 6 (s.ss.map Sr.cs), .list 12 (s.qs.map By.cs), .list 1 (p.cl.map b1), .list 1 (p.lk.map r1), .sl 39 0 s.bs.length 1], .bool true], [(39, ⟨3, (grp s p).map (V.int .i64)⟩)]) else none
    | _, _ => none)
  | _ => none
theorem TlookG_at {s : Stn} {p : Pos} (h : okP s p = true) : TlookG [.agg [.str s.nm, .list 1 (s.bs.map s1), .list 5 (s.ls.map Ln.cs), .list 6 (s.ss.map Sr.cs), .list 12 (s.qs.map By.cs)], .agg [.list 1 (p.cl.map b1), .list 1 (p.lk.map r1)]] = some (.tup [.agg [.str s.nm, .list 1 (s.bs.map s1), .list 5 (s.ls.map Ln.cs), .list 6 (s.ss.map Sr.cs), .list 12 (s.qs.map By.cs), .list 1 (p.cl.map b1), .list 1 (p.lk.map r1), .sl 39 0 s.bs.length 1], .bool true], [(39, ⟨3, (grp s p).map (V.int .i64)⟩)]) := by
  have e1 := unStn_cs s
  have e2 := unPos_cs p
  unfold Stn.cs at e1
  unfold Pos.cs at e2
  simp [TlookG, e1, e2, h]
theorem lookG_tab : ∀ vs u bl, TlookG vs = some (u, bl) → PGive Try.prog 49 vs u bl := by
  intro vs u bl h; unfold TlookG at h; split at h
  · split at h
    · rename_i h1 h2
      split at h
      · rename_i hl
        cases h
        rw [unStn_inv _ _ h1, unPos_inv _ _ h2]
        obtain ⟨a, b⟩ := okP_iff hl
        exact lookG_ok a b
      · cases h
    · cases h
  · cases h
def DL : Tab := addG 49 TlookG (D4)
theorem DL_at (f : FuncId) (vs : List V) : DL.at' f vs = D4.at' f vs := rfl
theorem DL_fr (f : FuncId) : DL.fr f = D4.fr f := rfl
theorem DL_gb (f : FuncId) : DL.gb f = if f = 49 then true else D4.gb f := rfl
theorem DL_gv (f : FuncId) (vs : List V) : DL.gv f vs = if f = 49 then TlookG vs else D4.gv f vs := rfl
attribute [simp] DL_at DL_fr DL_gb DL_gv TlookG
theorem DL_ok : TabOK Try.prog DL := by
  refine addG_ok (D4_ok) (by kernel_rfl) ?_
  · exact lookG_tab
attribute [-simp] TlookG
attribute [simp] TlookG_at
theorem GroupsF_ok {s : Stn} {p : Pos} (h : okP s p = true) : PFresh Try.prog 33 [.agg s.cs, .agg p.cs] (.list 1 ((grp s p).map i1)) := by
  have hch := chunks_i1 (grp s p)
  have hpu := pure_i1 (grp s p)
  have hgl : (grp s p).length = s.bs.length := by rw [grp, grpN_len]
  have hT := TlookG_at h
  generalize grp s p = G at hT hch hpu hgl ⊢
  have hsh : ∀ c, shC c ∘ V.int .i64 = V.int .i64 := fun c => rfl
  have hpo : G.any (ownC ∘ V.int .i64) = false := by rw [← List.any_map]; exact hpu
  have hfl : (G.map i1).all (fun c => c.all flatC) = true := by simp [i1, flatC]
  rw [hgl] at hch
  clear h
  refine pfresh_cx DL_ok mixed (fun _ => none) Try.func33 rfl Try.ntmps33 Try.results33 (by simp) (by kernel_rfl) ?_
  repeat' first
    | (with_reducible refine gw_bool (fun _ => ?_) (fun _ => ?_))
    | (with_reducible refine condw_bool (fun _ => ?_) (fun _ => ?_))
    | simp [*, Stn.cs, Pos.cs, Vu.cs]
end Go.Proofs.Ytcbddoopmkhlfaa
end
section
namespace Go.Proofs.Ytcbddoopmkhlfaa
open Go.Pv Go.RowKit
set_option linter.unusedSimpArgs false
set_option linter.unusedVariables false
set_option maxRecDepth 100000
set_option maxHeartbeats 4000000
attribute [-simp] Tclo_at Tgrp_at Tchk Tpchk TcI TcB Tclo Tgrp Tsid Tnod Tlook Tbnd TsidA Tre Tidx Tnms Tnmd Tobj Tlks Tbay Trck Trpc Tres TSd TBd Tnm Tlv Tfd Tfn Tlg Tgps Trg Trf Trsd Trnd Tar Tix Tcon Tzo Tot TcBg TlookG

def TsamO : List V → Option V
  | [.list 1 xs, .list 1 ys] => (match decL unI1 xs, decL unI1 ys with
    | some l, some m => if l.length ≤ 1000000 ∧ l = m then some (.bool true) else none
    | _, _ => none)
  | _ => none
theorem TsamO_at {l : List Int} (h : l.length ≤ 1000000) : TsamO [.list 1 (l.map i1), .list 1 (l.map i1)] = some (.bool true) := by simp [TsamO, decL_map unI1_cs, h]
theorem samO_tab : ∀ vs v, TsamO vs = some v → PCall Try.prog 28 vs v := by
  intro vs v h; unfold TsamO at h; split at h
  · split at h
    · rename_i h1 h2
      split at h
      · rename_i hl; cases h; obtain ⟨hl, rfl⟩ := hl; rw [decL_inv unI1_inv _ _ h1, decL_inv unI1_inv _ _ h2]; exact same_ok _ hl
      · cases h
    · cases h
  · cases h
theorem gpsF_tab : ∀ vs v, Tgps vs = some v → PFresh Try.prog 33 vs v := by
  intro vs v h; unfold Tgps at h; split at h
  · split at h
    · rename_i h1 h2
      split at h
      · rename_i hl; cases h; rw [unStn_inv _ _ h1, unPos_inv _ _ h2]; exact GroupsF_ok hl
      · cases h
    · cases h
  · cases h
def TreG : List V → Option (V × List (Nat × Blk))
  | [.agg b, .bool false] => (match unPos b with
    | some p => if p.cl ≠ [] ∧ p.cl.length ≤ 1000 ∧ p.lk.length ≤ 1000 ∧ ∀ l ∈ p.lk, l.length ≤ 1000 then some (.agg [.sl 150005 0 p.cl.length 1, .sl 43 0 p.lk.length 1], [(150005, ⟨4, p.cl.map V.bool⟩), (43, ⟨47, (p.lk.map (fun l => l.map (resF 0))).map r0⟩)]) else none
    | none => none)
  | _ => none
theorem TreG_at {p : Pos} (h : p.cl ≠ [] ∧ p.cl.length ≤ 1000 ∧ p.lk.length ≤ 1000 ∧ ∀ l ∈ p.lk, l.length ≤ 1000) : TreG [.agg [.list 1 (p.cl.map b1), .list 1 (p.lk.map r1)], .bool false] = some (.agg [.sl 150005 0 p.cl.length 1, .sl 43 0 p.lk.length 1], [(150005, ⟨4, p.cl.map V.bool⟩), (43, ⟨47, (p.lk.map (fun l => l.map (resF 0))).map r0⟩)]) := by
  have e2 := unPos_cs p
  unfold Pos.cs at e2
  simp only [TreG, e2]
  exact if_pos h
theorem reG_tab : ∀ vs u bl, TreG vs = some (u, bl) → PGive Try.prog 34 vs u bl := by
  intro vs u bl h; unfold TreG at h; split at h
  · split at h
    · rename_i h1
      split at h
      · rename_i hl; cases h; rw [unPos_inv _ _ h1]; exact resolveG_ok _ hl.1 hl.2.1 hl.2.2.1 hl.2.2.2
      · cases h
    · cases h
  · cases h
def HO : Tab := addF 33 Tgps (add 28 TsamO (addG 34 TreG (H1)))
theorem HO_at (f : FuncId) (vs : List V) : HO.at' f vs = if f = 33 then Tgps vs else if f = 28 then TsamO vs else H1.at' f vs := rfl
theorem HO_fr (f : FuncId) : HO.fr f = if f = 33 then true else if f = 28 then false else H1.fr f := rfl
theorem HO_gb (f : FuncId) : HO.gb f = if f = 34 then true else H1.gb f := rfl
theorem HO_gv (f : FuncId) (vs : List V) : HO.gv f vs = if f = 34 then TreG vs else H1.gv f vs := rfl
attribute [simp] HO_at HO_fr HO_gb HO_gv Tgps TreG TsamO
theorem HO_ok : TabOK Try.prog HO := by
  refine addF_ok (add_ok (addG_ok (H1_ok) (by kernel_rfl) ?_) (by kernel_rfl) ?_) (by kernel_rfl) ?_
  · exact reG_tab
  · exact samO_tab
  · exact gpsF_tab
attribute [-simp] TsamO TreG Tgps
attribute [simp] TsamO_at
/-- All these are open. -/
def opnF (t : List Bool) (B : List Int) : List Bool := B.foldl (fun t b => t.set b.toNat false) t
theorem opnF_len (B : List Int) : ∀ t : List Bool, (opnF t B).length = t.length := by
  induction B with
  | nil => intro t; rfl
  | cons b B ih => intro t; show (opnF (t.set b.toNat false) B).length = _; rw [ih]; simp
theorem opnF_step {t : List Bool} {B : List Int} {j u : Nat} (h : B[j]? = some (u : Int)) : opnF t (B.take (j + 1)) = (opnF t (B.take j)).set u false := by
  simp [opnF, take_snoc h]
theorem opnF_keep (B : List Int) : ∀ (t : List Bool) (i : Nat), t[i]? = some false → (opnF t B)[i]? = some false := by
  induction B with
  | nil => intro t i h; exact h
  | cons b B ih =>
    intro t i h
    refine ih _ i ?_
    rw [List.getElem?_set]
    split
    · rename_i e; rw [if_pos (by subst e; exact (List.getElem?_eq_some_iff.1 h).1)]
    · exact h
theorem opnF_at (B : List Int) : ∀ (t : List Bool) (i : Nat), (i : Int) ∈ B → i < t.length → (opnF t B)[i]? = some false := by
  induction B with
  | nil => intro t i h; cases h
  | cons b B ih =>
    intro t i h hi
    rcases List.mem_cons.1 h with rfl | h
    · refine opnF_keep B _ i ?_
      simp [List.getElem?_set, hi]
    · exact ih _ i h (by simpa using hi)
/-- What the law asks of a zone. -/
theorem op_at {s : Stn} {p : Pos} (h : okP s p = true) (k : Nat) {z : Nd} (hz : z ∈ zonF s p) : ∃ (B : List Int) (X Y : Bool), B.length ≤ 16 ∧ (∀ b ∈ B, ∃ u : Nat, b = u ∧ u < p.cl.length) ∧ (X = true → Y = true) ∧
    TBd [.agg [.str s.nm, .list 1 (s.bs.map s1), .list 5 (s.ls.map Ln.cs), .list 6 (s.ss.map Sr.cs), .list 12 (s.qs.map By.cs)], .agg [.list 1 ((p.cl.set k false).map b1), .list 1 ((resP p false).lk.map r1)], .agg [.int .i64 z.1, .int .i64 z.2]] = some (.list 1 (B.map i1)) ∧
    TBd [.agg [.str s.nm, .list 1 (s.bs.map s1), .list 5 (s.ls.map Ln.cs), .list 6 (s.ss.map Sr.cs), .list 12 (s.qs.map By.cs)], .agg [.list 1 (p.cl.map b1), .list 1 (p.lk.map r1)], .agg [.int .i64 z.1, .int .i64 z.2]] = some (.list 1 (B.map i1)) ∧
    Tlv [.agg [.str s.nm, .list 1 (s.bs.map s1), .list 5 (s.ls.map Ln.cs), .list 6 (s.ss.map Sr.cs), .list 12 (s.qs.map By.cs)], .agg [.list 1 ((p.cl.set k false).map b1), .list 1 ((resP p false).lk.map r1)], .agg [.int .i64 z.1, .int .i64 z.2]] = some (.bool X) ∧
    Tlv [.agg [.str s.nm, .list 1 (s.bs.map s1), .list 5 (s.ls.map Ln.cs), .list 6 (s.ss.map Sr.cs), .list 12 (s.qs.map By.cs)], .agg [.list 1 (p.cl.map b1), .list 1 (p.lk.map r1)], .agg [.int .i64 z.1, .int .i64 z.2]] = some (.bool Y) ∧
    Tlv [.agg [.str s.nm, .list 1 (s.bs.map s1), .list 5 (s.ls.map Ln.cs), .list 6 (s.ss.map Sr.cs), .list 12 (s.qs.map By.cs)], .agg [.list 1 ((opnF p.cl B).map b1), .list 1 ((resP p false).lk.map r1)], .agg [.int .i64 z.1, .int .i64 z.2]] = some (.bool false) := by
  have hn := zon_mem hz
  have hnc := (pfine_of (okP_iff h).2).nc
  have hq := (fine_of (okP_iff h).1).nq
  have hl1 : (p.cl.set k false).length = p.cl.length := by simp
  have ok1 := ok_op h hl1
  have hb := TBd_at (k := z.1) (o := z.2) h
  rw [hn] at hb
  have hb1 := TBd_at (k := z.1) (o := z.2) ok1
  rw [grp_op h, hn, bnd_op h hl1] at hb1
  have hv := Tlv_at (k := z.1) (o := z.2) h
  have hv1 := Tlv_at (k := z.1) (o := z.2) ok1
  refine ⟨_, _, _, ?_, fun b hbm => ?_, fun hx => ?_, hb1, hb, hv1, hv, ?_⟩
  · have := bnd_len s p (grp s p) (some z); omega
  · obtain ⟨u, rfl, hu, _⟩ := bnd_mem.1 hbm
    exact ⟨u, rfl, by omega⟩
  · refine live_less h hl1 (fun i hi => ?_) hn hx
    rw [List.getElem?_set] at hi
    split at hi
    · split at hi <;> simp at hi
    · exact hi
  · have hl2 : (opnF p.cl (bndF s p (grp s p) (some z))).length = p.cl.length := opnF_len _ _
    have ok2 := ok_op h hl2
    have hv2 := Tlv_at (k := z.1) (o := z.2) ok2
    rw [live_none h hl2 hn (fun i hi => opnF_at _ _ _ hi (by obtain ⟨u, hu, hl, _⟩ := bnd_mem.1 hi; omega))] at hv2
    exact hv2
theorem rem_ex (bay : Int) {n : Nat} (hn : 1 ≤ n) (hm : n ≤ 16) : ∃ k : Nat, k < n ∧ ((ilt (bay.tmod n) 0 = true ∧ IntKind.i64.wrap (bay.tmod n + n) = (k : Int)) ∨ (ilt (bay.tmod n) 0 = false ∧ bay.tmod n = (k : Int))) := by
  have h1 := Int.tmod_lt_of_pos bay (show (0 : Int) < n by omega)
  have h2 := Int.lt_tmod_of_pos bay (show (0 : Int) < n by omega)
  generalize bay.tmod n = r at h1 h2
  by_cases h : r < 0
  · obtain ⟨k, hk⟩ := Int.eq_ofNat_of_zero_le (show 0 ≤ r + n by omega)
    exact ⟨k, by omega, .inl ⟨ilt_t h, by rw [hk]; exact wrap_id (by omega) (by omega)⟩⟩
  · obtain ⟨k, hk⟩ := Int.eq_ofNat_of_zero_le (show 0 ≤ r by omega)
    exact ⟨k, by omega, .inr ⟨ilt_f (by omega), hk⟩⟩
end Go.Proofs.Ytcbddoopmkhlfaa
end
section
namespace Go.Proofs.Ytcbddoopmkhlfaa
open Go.Pv Go.RowKit
set_option linter.unusedSimpArgs false
set_option linter.unusedVariables false
set_option maxRecDepth 100000
set_option maxHeartbeats 8000000
attribute [-simp] Tclo_at Tgrp_at Tchk Tpchk TcI TcB Tclo Tgrp Tsid Tnod Tlook Tbnd TsidA Tre Tidx Tnms Tnmd Tobj Tlks Tbay Trck Trpc Tres TSd TBd Tnm Tlv Tfd Tfn Tlg Tgps Trg Trf Trsd Trnd Tar Tix Tcon Tzo Tot TcBg TlookG TsamO TreG

theorem opens_ok {s : Stn} {p : Pos} (h1 : lkB s = true) (h2 : lenB s p = true) (bay : Int) : PCall Try.prog 13 [.agg s.cs, .agg p.cs, .int .i64 bay] (.bool true) := by
  have hTf := Tfn_at h1 h2
  cases hf : fineF s p
  · rw [hf] at hTf
    clear h1 h2
    refine pcall_cx HO_ok mixed (fun _ => none) Try.func13 rfl Try.ntmps13 Try.results13 (by simp) (by kernel_rfl) ?_
    repeat' first
      | (with_reducible refine gw_bool (fun _ => ?_) (fun _ => ?_))
      | (with_reducible refine condw_bool (fun _ => ?_) (fun _ => ?_))
      | simp [*, Stn.cs, Pos.cs]
  rw [hf] at hTf
  have hok : okP s p = true := by simp only [fineF, Bool.and_eq_true] at hf; exact hf.2
  have hnq := (fine_of (okP_iff hok).1).nq
  have hnc := (pfine_of (okP_iff hok).2).nc
  have hnk := (pfine_of (okP_iff hok).2).nk
  obtain ⟨n, hn⟩ : ∃ n, s.qs.length = n := ⟨_, rfl⟩
  rw [hn] at hnq hnc hnk
  cases hg : ieq (n : Int) 0
  case true =>
    clear h1 h2 hok hf
    refine pcall_cx HO_ok mixed (fun _ => none) Try.func13 rfl Try.ntmps13 Try.results13 (by simp) (by kernel_rfl) ?_
    repeat' first
      | (with_reducible refine gw_bool (fun _ => ?_) (fun _ => ?_))
      | (with_reducible refine condw_bool (fun _ => ?_) (fun _ => ?_))
      | simp [*, Stn.cs, Pos.cs]
  have hn1 : 1 ≤ n := by have := ieq_iff'.1 hg; omega
  have hsm := res_small hok
  have hTr := TreG_at (p := p) ⟨fun e => by rw [e] at hnc; simp at hnc; omega, hsm⟩
  rw [hnc, hnk] at hTr
  obtain ⟨k, hkn, hrem⟩ := rem_ex bay hn1 hnq
  have hat : Hid (∀ z ∈ zonF s p, _) := show _ from fun z hz => op_at hok k hz
  have hTz := Tzo_at hok
  have hm1 := zon_ne hok
  have hm2 := zon_len hok
  have hTg1 := Tgps_at hok
  have hTg2 := Tgps_at (ok_op hok (cl := p.cl) rfl)
  rw [grp_op hok] at hTg2
  have hgl : (grp s p).length ≤ 1000000 := by rw [grp_len]; have := (fine_of (okP_iff hok).1).nb; omega
  generalize grp s p = G at hTg1 hTg2 hgl
  generalize zonF s p = L at hat hTz hm1 hm2
  have hRk : (resP p false).lk = p.lk.map (fun l => l.map (resF 0)) := rfl
  simp only [opP, hRk] at hTg2 hat
  have hchR := chunks_r0 (p.lk.map (fun l => l.map (resF 0)))
  have hpR := pure_r0 (p.lk.map (fun l => l.map (resF 0)))
  rw [List.length_map, hnk] at hchR
  have hRl : ((p.lk.map (fun l => l.map (resF 0))).map r0).length = n := by simp [hnk]
  have hhR : ∀ c, ((p.lk.map (fun l => l.map (resF 0))).map r0).map (shC c) = (p.lk.map (fun l => l.map (resF 0))).map r0 := fun c => by rw [List.map_map]; rfl
  generalize p.lk.map (fun l => l.map (resF 0)) = R at hTr hTg2 hat hchR hpR hRl hhR
  generalize hRR : R.map r0 = RR at hTr hchR hpR hRl hhR
  have hsR : ∀ k, RR.map (scrC k) = RR := fun k => scrC_cells hpR
  have hbR : ∀ k b, RR.map (pubC k b) = RR := fun k b => pub_cells hpR
  have hpC : ∀ C : List Bool, (C.map V.bool).any ownC = false := fun C => pure_b1 C
  have hsC : ∀ (C : List Bool) k, (C.map V.bool).map (scrC k) = C.map V.bool := fun C k => scr_b1 C k
  have hbC : ∀ (C : List Bool) k b, (C.map V.bool).map (pubC k b) = C.map V.bool := fun C k b => pub_cells (pure_b1 C)
  have hhC : ∀ (C : List Bool) c, (C.map V.bool).map (shC c) = C.map V.bool := fun C c => by rw [List.map_map]; rfl
  have hchC : ∀ C : List Bool, C.length = n → chunks 1 n (C.map V.bool) = C.map b1 := fun C h => by rw [← h]; exact chunks_b1 C
  have hch0 := hchC p.cl hnc
  have hch1 := hchC (p.cl.set k false) (by simp [hnc])
  have hst0 : (p.cl.map V.bool).set k (.bool false) = (p.cl.set k false).map V.bool := by rw [List.map_set]
  have hCll : (p.cl.map V.bool).length = n := by simp [hnc]
  have hCl2 : ((p.cl.set k false).map V.bool).length = n := by simp [hnc]
  obtain ⟨m, hm⟩ : ∃ m, L.length = m := ⟨_, rfl⟩
  rw [hm] at hm1 hm2
  have hm0 : ilt 0 (m : Int) = true := ilt_t (by omega)
  have hn0 : n ≠ 0 := by omega
  have hkn1 : k + 1 ≤ n := by omega
  have hki : (k : Int) < (n : Int) := by omega
  have hk0' : ilt (k : Int) 0 = false := ilt_f (by omega)
  have hTs := TsamO_at (l := G) hgl
  have hTm : ∀ {C : List Bool} {B : List Int}, _ := fun {C : List Bool} {B : List Int} => opnF_len B C
  clear h1 h2 hf hok hsm hTm
  replace hchC : Hid (_) := hchC
  generalize hC2 : p.cl.set k false = C2 at hat hch1 hst0 hCl2
  refine pcall_cx HO_ok mixed (fun _ => none) Try.func13 rfl Try.ntmps13 Try.results13 (by simp) (by kernel_rfl) ?_
  rcases hrem with ⟨hr0, hr1⟩ | ⟨hr0, hr1⟩
  all_goals
    repeat' first
      | (with_reducible refine gw_bool (fun _ => ?_) (fun _ => ?_))
      | (with_reducible refine condw_bool (fun _ => ?_) (fun _ => ?_))
      | simp [*, Stn.cs, Pos.cs, St.forget, scr, scrC, setsV]
  all_goals refine lp_view (View.pub _ (key := 540005) (blk := ⟨4, C2.map V.bool⟩) (by simp) (hpC _)) ?_
  all_goals refine lp_view (View.pub _ (key := 390043) (blk := ⟨47, RR⟩) (by simp [*, St.pub, pubC]) hpR) ?_
  all_goals refine lp_go (D := (fun _ => none)) HO_ok mixed (by kernel_rfl) [3, 4, 7, 8] [3, 4, 7, 11, 1220005, 1070043] (α := Nat) (fun i e h => i ≤ m ∧ e 9 = .int .i64 i) (fun i => m - i) 0 ?_ ?_
  all_goals first
    | (exact ⟨by omega, by simp [St.pub, pubT, pubA, pubC]⟩)
    | skip
  all_goals
    rintro i e h hk hkh ⟨hi, g7⟩
    simp [Keep, St.pub, pubT, pubA, pubC, *] at hk
    simp [KeepH, St.pub, pubC, *] at hkh
    clear hTf hTz hTg1 hTg2 hr1
    by_cases hlt : i < m
  all_goals first
    | (
      have f1 : ilt (i : Int) (m : Int) = false := ilt_f (by omega)
      clear hat hchC
      repeat' first
        | (with_reducible refine gw_bool (fun _ => ?_) (fun _ => ?_))
        | (with_reducible refine condw_bool (fun _ => ?_) (fun _ => ?_))
        | simp [*]
      done)
    | skip
  all_goals
    obtain ⟨z, hz, hz'⟩ := at_ex (l := L) (i := i) (by omega)
    obtain ⟨B, X, Y, hB, hBu, hXY, t1, t2, t3, t4, t5⟩ := hat.out z (List.mem_of_getElem? hz)
    have f1 : ilt (i : Int) (m : Int) = true := ilt_t (by omega)
    have w1 : IntKind.i64.wrap ((i : Int) + 1) = ((i + 1 : Nat) : Int) := wrap_succ (by omega)
    have hTs := TsamO_at (l := B) (by omega)
    obtain ⟨nB, hnB⟩ : ∃ n, B.length = n := ⟨_, rfl⟩
    rw [hnB] at hB
    have ho0 : p.cl = opnF p.cl (B.take 0) := by simp [opnF]
    have hol : ∀ j, (opnF p.cl (B.take j)).length = n := fun j => by rw [opnF_len]; exact hnc
    have hos : ∀ (j u : Nat), B[j]? = some (u : Int) → opnF p.cl (B.take (j + 1)) = (opnF p.cl (B.take j)).set u false := fun j u hj => opnF_step hj
    have hoe : opnF p.cl (B.take nB) = opnF p.cl B := by rw [← hnB, List.take_length]
    replace ho0 : Hid (_) := ho0
    replace hol : Hid (_) := hol
    replace hos : Hid (_) := hos
    replace hoe : Hid (_) := hoe
    replace hBu : Hid (_) := hBu
    replace t5 : Hid (_) := t5
    clear hat
    obtain ⟨z0, z1⟩ := z
    have hXY' : (X && !Y) = false := by cases X <;> cases Y <;> simp_all
    clear hXY
    cases X <;> cases Y
  all_goals first
    | (exfalso; simp at hXY'; done)
    | skip
  all_goals
    clear hXY'
    repeat' first
      | (with_reducible refine gw_bool (fun _ => ?_) (fun _ => ?_))
      | (with_reducible refine condw_bool (fun _ => ?_) (fun _ => ?_))
      | simp [*, nd2]
  all_goals refine lp_go (D := (fun _ => none)) HO_ok mixed (by kernel_rfl) [3, 4, 7, 8, 9, 10, 11, 63, 64, 65, 66, 69, 70, 71, 72, 73, 74, 75, 76, 77, 78, 79, 80, 81, 82, 83, 84, 85, 86, 87, 88, 89, 90, 91, 92, 93, 94, 95, 96, 97, 98, 99, 100, 101, 102, 103, 104, 105, 106] [3, 4, 7, 11, 1070043] (α := Nat) (fun j e h => j ≤ nB ∧ e 12 = .int .i64 j ∧ h 1220005 = some ⟨4, (opnF p.cl (B.take j)).map V.bool⟩) (fun j => nB - j) 0 ?_ ?_
  all_goals first
    | (exact ⟨by omega, by simp, by rw [← ho0.out]; simp [*]⟩)
    | skip
  all_goals
    have hk0 := hk
    have hkh0 := hkh
    have g70 := g7
    clear hk hkh g7
    rintro j e h hk hkh ⟨hj, g12, gO⟩
    simp [Keep, hk0, hkh0, g70] at hk
    simp [KeepH, hk0, hkh0] at hkh
    by_cases hlj : j < nB
    · obtain ⟨b, hb, hb'⟩ := at_ex (l := B) (i := j) (by omega)
      obtain ⟨u, rfl, hu⟩ := hBu.out b (List.mem_of_getElem? hb)
      rw [hnc] at hu
      have f2 : ilt (j : Int) (nB : Int) = true := ilt_t (by omega)
      have w2 : IntKind.i64.wrap ((j : Int) + 1) = ((j + 1 : Nat) : Int) := wrap_succ (by omega)
      have hnx := hos.out j u hb
      have hCl := hol.out j
      generalize opnF p.cl (B.take j) = C at gO hnx hCl
      have hu0 : ilt (u : Int) 0 = false := ilt_f (by omega)
      have hu1 : ilt (u : Int) (n : Int) = true := ilt_t (by omega)
      have hu2 : u + 1 ≤ n := by omega
      have hCm : (C.map V.bool).length = n := by simp [hCl]
      replace hnx : Hid (_) := hnx
      clear hos hol hoe hBu t5 t1 t2 t3 t4 hTs ho0 hchC hch0 hch1 hst0 hCll hCl2
      repeat' first
        | (with_reducible refine gw_bool (fun _ => ?_) (fun _ => ?_))
        | (with_reducible refine condw_bool (fun _ => ?_) (fun _ => ?_))
        | simp [*, i1, setsV]
      refine nxt_go (j + 1) (View.refl _ _) (by omega) (by simp [*, Keep, St.forget, scr, scrC]) (by simp [*, KeepH, St.forget, scr, scrC]) ?_
      refine ⟨by omega, by simp [*], ?_⟩
      rw [hnx.out]; simp [*, List.map_set]
    · have f2 : ilt (j : Int) (nB : Int) = false := ilt_f (by omega)
      have e2 : j = nB := by omega
      rw [e2, hoe.out] at gO
      have hC := hchC.out (opnF p.cl B) (by rw [opnF_len]; exact hnc)
      have hCm : ((opnF p.cl B).map V.bool).length = n := by simp [opnF_len, hnc]
      have t6 := t5.out
      generalize opnF p.cl B = C at gO hC t6 hCm
      clear hos hol hoe hBu t5 t1 t2 t3 t4 hTs ho0 hchC
      repeat' first
        | (with_reducible refine gw_bool (fun _ => ?_) (fun _ => ?_))
        | (with_reducible refine condw_bool (fun _ => ?_) (fun _ => ?_))
        | simp [*, nd2]
      refine nxt_go (i + 1) ((View.forget _ _ 1070043).trans ((View.forget _ _ 1220005).trans (View.forget _ _ 11))) (by omega) (by simp [*, Keep, St.forget, scr, scrC, usesC, usesA, St.pub, pubT, pubA, pubC]) (by simp [*, KeepH, St.forget, scr, scrC, St.pub, pubC]) ?_
      exact ⟨by omega, by simp [*, St.forget, scr, scrC]⟩
end Go.Proofs.Ytcbddoopmkhlfaa
end
section
namespace Go.Proofs.Ytcbddoopmkhlfaa.topologyOpensDone
open Go.Pv Go.ChangeShapes Go.WideShapes Go.ChangeAt Go.RowKit
set_option linter.unusedVariables false

theorem law : ∀ us, HasAll [.struct [.str, .slice .str, .slice (.struct [.str, .struct [.int .i64, .int .i64], .struct [.int .i64, .int .i64]]), .slice (.struct [.str, .int .i64, .struct [.int .i64, .int .i64], .struct [.int .i64, .int .i64]]), .slice (.struct [.str, .int .i64, .int .i64, .int .i64, .struct [.int .i64, .int .i64], .slice (.struct [.int .i64, .int .i64]), .bool, .int .i64, .int .i64, .int .i64, .int .i64])], .struct [.slice .bool, .slice (.slice (.int .i64))], .int .i64] us → PCall Try.prog 13 us (.bool true) := by
  rintro us ⟨a, _, rfl, ha, b, _, rfl, hb, c, _, rfl, hc, rfl⟩
  obtain ⟨s, rfl, h1, _, hlk⟩ := has_stnL ha
  obtain ⟨p, rfl, h2, _⟩ := has_pos hb
  obtain ⟨x, rfl, -⟩ := has_int hc
  have hm : maxLen = 9223372036854775807 := by decide
  rw [hm] at h1 h2
  refine opens_ok hlk ?_ x
  simp only [lenB, Bool.and_eq_true, decide_eq_true_eq, List.all_eq_true]
  exact ⟨h1, h2⟩

theorem own : ownKnob Try.prog.godebug = none := by kernel_rfl
theorem laidOut : laidOutB Try.prog = true := by kernel_rfl
theorem spec_at (H : Type) : ∀ ds : List (DataW H), ds.length = 3 → Rows.topologyOpensSpec.fn H ds = { results := [.lit (.bool true)], args := ds } := by
  intro ds h
  rcases ds with _ | ⟨d0, _ | ⟨d1, _ | ⟨d2, _ | ⟨e, r⟩⟩⟩⟩
  all_goals first | rfl | (simp at h; done) | (simp at h; omega)

set_option maxRecDepth 100000 in
theorem lifted (os : Os) (started : os.Started) (H : Type) (enc : TypeId × Value → H) :
    ReturnsInHanded {} Try.checked os 13 .any (Rows.topologyOpensSpec.pre6 enc Try.prog Try.f13 Rows.topologyOpensRow.domain false) (Rows.topologyOpensSpec.post enc Try.prog Try.f13 false true false false) :=
  lift (C := Try.checked) (m := 9) own laidOut started (by kernel_rfl) Try.func13
    (ChangeSpec.witness6 (enc := enc) (C := Try.checked) false ⟨#[], #[.agg #[.string ⟨#[]⟩, .slice none 0 0, .slice none 0 0, .slice none 0 0, .slice none 0 0], .agg #[.slice none 0 0, .slice none 0 0], .int .i64 0], []⟩ 8 (by kernel_rfl) (by kernel_rfl) (by kernel_rfl) (by kernel_rfl))
    Try.params13 (by kernel_rfl) Try.underlying4 rfl (by kernel_rfl) (by kernel_rfl) (spec_at H) law

theorem over : Rows.topologyOpensRow.holds Try.pinned (OpenSpec.ofChange Rows.topologyOpensSpec) :=
  OpenClaim.holds_of_wide 13 Try.f13 rfl rfl rfl rfl rfl rfl rfl ⟨rfl, rfl, rfl, rfl, rfl⟩ rfl rfl rfl rfl rfl (by kernel_rfl) Try.func13 (by kernel_rfl)
    (of_decide_eq_true (by kernel_rfl)) (by unfold Func.isWrapper; first | (rw [if_pos (by decide +kernel)]; kernel_rfl) | (rw [if_neg (by decide +kernel)]; exact ⟨rfl, rfl⟩))
    (fun os started H enc _ => lifted os started H enc)

theorem proved : Rows.TopologyOpensSaid := over
end Go.Proofs.Ytcbddoopmkhlfaa.topologyOpensDone
end
