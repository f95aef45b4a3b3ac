/-
  The law of zones that live.
  The law of neighbours.
  TopologyNeighbours returns true for every input, and leaves the input as it was. No condition.
-/
import Derived.Test.YtcbddoopmkhlfaaJ8
import Derived.Test.YtcbddoopmkhlfaaJ5
import Derived.Test.YtcbddoopmkhlfaaRows
section
namespace Go.Proofs.Ytcbddoopmkhlfaa
open Go.Pv Go.RowKit
set_option linter.unusedSimpArgs false
set_option linter.unusedVariables false
set_option maxRecDepth 100000
set_option maxHeartbeats 4000000
attribute [-simp] Tclo_at Tgrp_at Tchk Tpchk TcI TcB Tclo Tgrp Tsid Tnod Tlook Tbnd TsidA Tre Tidx Tnms Tnmd Tobj Tlks Tbay Trck Trpc Tres TSd TBd Tnm Tlv Tfd Tfn Tlg Tgps Trg Trf Trsd Trnd Tar Tix Tcon

def Tzo : List V → Option V
  | [.agg a, .agg b] => (match unStn a, unPos b with
    | some s, some p => if okP s p = true then some (.list 2 ((zonF s p).map nd2)) else none
    | _, _ => none)
  | _ => none
theorem Tzo_at {s : Stn} {p : Pos} (h : okP s p = true) : Tzo [.agg [.str s.nm, .list 1 (s.bs.map s1), .list 5 (s.ls.map Ln.cs), .list 6 (s.ss.map Sr.cs), .list 12 (s.qs.map By.cs)], .agg [.list 1 (p.cl.map b1), .list 1 (p.lk.map r1)]] = some (.list 2 ((zonF s p).map nd2)) := by
  have e1 := unStn_cs s
  have e2 := unPos_cs p
  unfold Stn.cs at e1
  unfold Pos.cs at e2
  simp [Tzo, e1, e2, h]
theorem zo_tab : ∀ vs v, Tzo vs = some v → PCall Try.prog 24 vs v := by
  intro vs v h; unfold Tzo at h; split at h
  · split at h
    · rename_i h1 h2
      split at h
      · rename_i hl; cases h; rw [unStn_inv _ _ h1, unPos_inv _ _ h2]; exact Zones_ok hl
      · cases h
    · cases h
  · cases h
def Tot : List V → Option V
  | [.agg a, .agg b, .agg [.int .i64 k, .int .i64 o], .int .i64 i] => (match unStn a, unPos b with
    | some s, some p => if okP s p = true then some (nodV (othP s p k o i)) else none
    | _, _ => none)
  | _ => none
theorem Tot_at {s : Stn} {p : Pos} {k o i : Int} (h : okP s p = true) : Tot [.agg [.str s.nm, .list 1 (s.bs.map s1), .list 5 (s.ls.map Ln.cs), .list 6 (s.ss.map Sr.cs), .list 12 (s.qs.map By.cs)], .agg [.list 1 (p.cl.map b1), .list 1 (p.lk.map r1)], .agg [.int .i64 k, .int .i64 o], .int .i64 i] = some (nodV (othP s p k o i)) := by
  have e1 := unStn_cs s
  have e2 := unPos_cs p
  unfold Stn.cs at e1
  unfold Pos.cs at e2
  simp [Tot, e1, e2, h]
theorem ot_tab : ∀ vs v, Tot vs = some v → PCall Try.prog 31 vs v := by
  intro vs v h; unfold Tot at h; split at h
  · split at h
    · rename_i h1 h2
      split at h
      · rename_i hl; cases h; rw [unStn_inv _ _ h1, unPos_inv _ _ h2]; exact Other_ok hl _ _ _
      · cases h
    · cases h
  · cases h
def H1 : Tab := add 24 Tzo (add 31 Tot (G4))
theorem H1_at (f : FuncId) (vs : List V) : H1.at' f vs = if f = 24 then Tzo vs else if f = 31 then Tot vs else G4.at' f vs := rfl
theorem H1_fr (f : FuncId) : H1.fr f = if f = 24 then false else if f = 31 then false else G4.fr f := rfl
theorem H1_gb (f : FuncId) : H1.gb f = G4.gb f := rfl
theorem H1_gv (f : FuncId) (vs : List V) : H1.gv f vs = G4.gv f vs := rfl
attribute [simp] H1_at H1_fr H1_gb H1_gv Tot Tzo
theorem H1_ok : TabOK Try.prog H1 := by
  refine add_ok (add_ok (G4_ok) (by kernel_rfl) ?_) (by kernel_rfl) ?_
  · exact ot_tab
  · exact zo_tab
attribute [-simp] Tzo Tot
attribute [simp] Tzo_at Tot_at
theorem zon_ne {s : Stn} {p : Pos} (h : okP s p = true) : 1 ≤ (zonF s p).length := by
  have h0 := (fine_of (okP_iff h).1).nb0
  obtain ⟨x, hx, -⟩ := at_ex (l := grp s p) (i := 0) (by rw [grp_len]; omega)
  obtain ⟨u, hu, hu0, _⟩ := can_grp h 0 x hx
  have hx0 : (grp s p)[0]? = some ((0 : Nat) : Int) := by rw [hx, hu, show u = 0 by omega]
  have : ((1 : Int), ((0 : Nat) : Int)) ∈ zonF s p := by
    simp only [zonF, List.mem_append, zonG, List.mem_map, List.mem_filter, List.mem_range, beq_iff_eq]
    exact .inl ⟨0, ⟨by omega, hx0⟩, rfl⟩
  exact List.length_pos_of_mem this
theorem zon_len {s : Stn} {p : Pos} (h : okP s p = true) : (zonF s p).length ≤ 20 := by
  have h1 := (fine_of (okP_iff h).1).nb
  have h2 := (fine_of (okP_iff h).1).nl
  have := zonG_len (grp s p) s.bs.length
  rw [zonF, List.length_append, zonL_len]; omega
theorem life_at {s : Stn} {p : Pos} (h : okP s p = true) {z : Nd} (hz : z ∈ zonF s p) : ∃ (B : List Int) (F : Int → Bool), B.length ≤ 16 ∧ TBd [.agg [.str s.nm, .list 1 (s.bs.map s1), .list 5 (s.ls.map Ln.cs), .list 6 (s.ss.map Sr.cs), .list 12 (s.qs.map By.cs)], .agg [.list 1 (p.cl.map b1), .list 1 (p.lk.map r1)], .agg [.int .i64 z.1, .int .i64 z.2]] = some (.list 1 (B.map i1)) ∧ (∀ b : Int, Tfd [.agg [.str s.nm, .list 1 (s.bs.map s1), .list 5 (s.ls.map Ln.cs), .list 6 (s.ss.map Sr.cs), .list 12 (s.qs.map By.cs)], .agg [.list 1 (p.cl.map b1), .list 1 (p.lk.map r1)], .list 2 [[.int .i64 z.1, .int .i64 z.2]], .int .i64 b] = some (.bool (F b))) ∧ Tlv [.agg [.str s.nm, .list 1 (s.bs.map s1), .list 5 (s.ls.map Ln.cs), .list 6 (s.ss.map Sr.cs), .list 12 (s.qs.map By.cs)], .agg [.list 1 (p.cl.map b1), .list 1 (p.lk.map r1)], .agg [.int .i64 z.1, .int .i64 z.2]] = some (.bool (B.any F)) := by
  have hn := zon_mem hz
  have hb := TBd_at (k := z.1) (o := z.2) h
  have hl := Tlv_at (k := z.1) (o := z.2) h
  rw [hn] at hb
  rw [← life h hn] at hl
  refine ⟨_, fun b => fedF s p [z] b, ?_, hb, fun b => ?_, hl⟩
  · have := bnd_len s p (grp s p) (some z)
    have := (fine_of (okP_iff h).1).nq
    omega
  · have := Tfd_at (zs := [z]) (i := b) h (by simp)
    simpa only [List.map_cons, List.map_nil, nd2] using this
theorem any_step {B : List Int} {F : Int → Bool} {k : Nat} {b : Int} (h : B[k]? = some b) : (B.take (k + 1)).any F = ((B.take k).any F || F b) := by
  simp [take_snoc h]
theorem life_ok {s : Stn} {p : Pos} (h1 : lkB s = true) (h2 : lenB s p = true) : PCall Try.prog 8 [.agg s.cs, .agg p.cs] (.bool true) := by
  have hTf := Tfn_at h1 h2
  cases hf : fineF s p
  · rw [hf] at hTf
    clear h1 h2
    refine pcall_cx H1_ok mixed (fun id => if id = 16 then some ⟨[(5008, 49)], [12]⟩ else none) Try.func8 rfl Try.ntmps8 Try.results8 (by simp) (by kernel_rfl) ?_
    repeat' first
      | (with_reducible refine gw_bool (fun _ => ?_) (fun _ => ?_))
      | (with_reducible refine condw_bool (fun _ => ?_) (fun _ => ?_))
      | simp [*, Stn.cs, Pos.cs]
  rw [hf] at hTf
  have hok : okP s p = true := by simp only [fineF, Bool.and_eq_true] at hf; exact hf.2
  have hat : Hid (∀ z ∈ zonF s p, _) := show _ from fun z hz => life_at hok hz
  have hTz := Tzo_at hok
  have hm1 := zon_ne hok
  have hm2 := zon_len hok
  generalize zonF s p = L at hat hTz hm1 hm2
  obtain ⟨m, hm⟩ : ∃ m, L.length = m := ⟨_, rfl⟩
  rw [hm] at hm1 hm2
  have hm0 : ieq (m : Int) 0 = false := ieq_f (by omega)
  clear h1 h2 hf hok
  refine pcall_cx H1_ok mixed (fun id => if id = 16 then some ⟨[(5008, 49)], [12]⟩ else none) Try.func8 rfl Try.ntmps8 Try.results8 (by simp) (by kernel_rfl) ?_
  repeat' first
    | (with_reducible refine gw_bool (fun _ => ?_) (fun _ => ?_))
    | (with_reducible refine condw_bool (fun _ => ?_) (fun _ => ?_))
    | simp [*, Stn.cs, Pos.cs]
  refine lp_go (D := (fun id => if id = 16 then some ⟨[(5008, 49)], [12]⟩ else none)) H1_ok mixed (by kernel_rfl) [2, 3, 5] [2, 3, 49] (α := Nat) (fun i e h => i ≤ m ∧ e 6 = .int .i64 i) (fun i => m - i) 0 ?_ ?_
  · exact ⟨by omega, by simp⟩
  rintro i e h hk hkh ⟨hi, g7⟩
  simp [Keep] at hk
  simp [KeepH] at hkh
  clear hTf hTz
  by_cases hlt : i < m
  · obtain ⟨z, hz, hz'⟩ := at_ex (l := L) (i := i) (by omega)
    obtain ⟨B, F, hB, hTb, hTd, hTl⟩ := hat.out z (List.mem_of_getElem? hz)
    have f1 : ilt (i : Int) (m : Int) = true := ilt_t (by omega)
    have w1 : IntKind.i64.wrap ((i : Int) + 1) = ((i + 1 : Nat) : Int) := wrap_succ (by omega)
    obtain ⟨nB, hnB⟩ : ∃ n, B.length = n := ⟨_, rfl⟩
    rw [hnB] at hB
    obtain ⟨W, hW⟩ : ∃ W, B.any F = W := ⟨_, rfl⟩
    rw [hW] at hTl
    replace hW : Hid (_) := hW
    replace hTd : Hid (_) := hTd
    clear hat
    obtain ⟨z0, z1⟩ := z
    repeat' first
      | (with_reducible refine gw_bool (fun _ => ?_) (fun _ => ?_))
      | (with_reducible refine condw_bool (fun _ => ?_) (fun _ => ?_))
      | simp [*, nd2]
    refine lp_go (D := (fun id => if id = 16 then some ⟨[(5008, 49)], [12]⟩ else none)) H1_ok mixed (by kernel_rfl) [2, 3, 5, 6, 8, 22, 23, 24, 25, 28, 29, 30, 31, 32, 33, 34] [2, 3, 49] (α := Nat) (fun k e h => k ≤ nB ∧ e 9 = .int .i64 k ∧ e 7 = .bool ((B.take k).any F)) (fun k => nB - k) 0 ?_ ?_
    · exact ⟨by omega, by simp, by simp⟩
    have hk0 := hk
    have hkh0 := hkh
    have g70 := g7
    clear hk hkh g7
    rintro k e h hk hkh ⟨hkB, g9, g7⟩
    simp [Keep, hk0, hkh0, g70] at hk
    simp [KeepH, hk0, hkh0] at hkh
    by_cases hlk : k < nB
    · obtain ⟨b, hb, hb'⟩ := at_ex (l := B) (i := k) (by omega)
      have f2 : ilt (k : Int) (nB : Int) = true := ilt_t (by omega)
      have w2 : IntKind.i64.wrap ((k : Int) + 1) = ((k + 1 : Nat) : Int) := wrap_succ (by omega)
      have hst := any_step (F := F) hb
      have hT := hTd.out b
      clear hW hTd hTl hTb
      generalize F b = X at hst hT
      generalize (B.take k).any F = Y at hst g7
      cases Y
      · skip
        repeat' first
          | (with_reducible refine gw_bool (fun _ => ?_) (fun _ => ?_))
          | (with_reducible refine condw_bool (fun _ => ?_) (fun _ => ?_))
          | simp [*, nd2, i1]
        refine nxt_go (k + 1) ((View.forget _ _ 49)) (by omega) (by simp [*, Keep, St.forget, scr, scrC, usesC, usesA]) (by simp [*, KeepH, St.forget, scr, scrC]) ?_
        refine ⟨by omega, by simp [*, St.forget, scr, scrC], ?_⟩
        rw [hst]; simp [*, St.forget, scr, scrC]
      · skip
        repeat' first
          | (with_reducible refine gw_bool (fun _ => ?_) (fun _ => ?_))
          | (with_reducible refine condw_bool (fun _ => ?_) (fun _ => ?_))
          | simp [*, nd2, i1]
        refine nxt_go (k + 1) (View.refl _ _) (by omega) (by simp [*, Keep, St.forget, scr, scrC]) (by simp [*, KeepH, St.forget, scr, scrC]) ?_
        refine ⟨by omega, by simp [*, St.forget, scr, scrC], ?_⟩
        rw [hst]; simp [*, St.forget, scr, scrC]
    · have f2 : ilt (k : Int) (nB : Int) = false := ilt_f (by omega)
      have e2 : k = nB := by omega
      rw [e2, ← hnB, List.take_length, hW.out] at g7
      clear hW hTd
      cases W
      · skip
        repeat' first
          | (with_reducible refine gw_bool (fun _ => ?_) (fun _ => ?_))
          | (with_reducible refine condw_bool (fun _ => ?_) (fun _ => ?_))
          | simp [*, nd2]
        refine nxt_go (i + 1) (View.refl _ _) (by omega) (by simp [*, Keep, St.forget, scr, scrC]) (by simp [*, KeepH, St.forget, scr, scrC]) ?_
        exact ⟨by omega, by simp [*]⟩
      · skip
        repeat' first
          | (with_reducible refine gw_bool (fun _ => ?_) (fun _ => ?_))
          | (with_reducible refine condw_bool (fun _ => ?_) (fun _ => ?_))
          | simp [*, nd2]
        refine nxt_go (i + 1) (View.refl _ _) (by omega) (by simp [*, Keep, St.forget, scr, scrC]) (by simp [*, KeepH, St.forget, scr, scrC]) ?_
        exact ⟨by omega, by simp [*]⟩
  · have f1 : ilt (i : Int) (m : Int) = false := ilt_f (by omega)
    clear hat
    repeat' first
      | (with_reducible refine gw_bool (fun _ => ?_) (fun _ => ?_))
      | (with_reducible refine condw_bool (fun _ => ?_) (fun _ => ?_))
      | simp [*]
end Go.Proofs.Ytcbddoopmkhlfaa
end
section
namespace Go.Proofs.Ytcbddoopmkhlfaa
open Go.Pv Go.RowKit
set_option linter.unusedSimpArgs false
set_option linter.unusedVariables false
set_option maxRecDepth 100000
set_option maxHeartbeats 4000000
attribute [-simp] Tclo_at Tgrp_at Tchk Tpchk TcI TcB Tclo Tgrp Tsid Tnod Tlook Tbnd TsidA Tre Tidx Tnms Tnmd Tobj Tlks Tbay Trck Trpc Tres TSd TBd Tnm Tlv Tfd Tfn Tlg Tgps Trg Trf Trsd Trnd Tar Tix Tcon Tzo Tot

def ThasI : List V → Option V
  | [.list 1 xs, .int .i64 x] => (match decL unI1 xs with
    | some l => if l.length ≤ 1000000 ∧ x ∈ l then some (.bool true) else none
    | none => none)
  | _ => none
theorem ThasI_at {l : List Int} {x : Int} (h : l.length ≤ 1000000) (hx : x ∈ l) : ThasI [.list 1 (l.map i1), .int .i64 x] = some (.bool true) := by simp [ThasI, decL_map unI1_cs, h, hx]
theorem hasI_tab : ∀ vs v, ThasI vs = some v → PCall Try.prog 41 vs v := by
  intro vs v h; unfold ThasI at h; split at h
  · split at h
    · rename_i h1
      split at h
      · rename_i hl; cases h; rw [decL_inv unI1_inv _ _ h1]; exact hasI_ok _ _ hl.2 hl.1
      · cases h
    · cases h
  · cases h
def H2 : Tab := add 41 ThasI (H1)
theorem H2_at (f : FuncId) (vs : List V) : H2.at' f vs = if f = 41 then ThasI vs else H1.at' f vs := rfl
theorem H2_fr (f : FuncId) : H2.fr f = if f = 41 then false else H1.fr f := rfl
theorem H2_gb (f : FuncId) : H2.gb f = H1.gb f := rfl
theorem H2_gv (f : FuncId) (vs : List V) : H2.gv f vs = H1.gv f vs := rfl
attribute [simp] H2_at H2_fr H2_gb H2_gv ThasI
theorem H2_ok : TabOK Try.prog H2 := by
  refine add_ok (H1_ok) (by kernel_rfl) ?_
  · exact hasI_tab
attribute [-simp] ThasI
theorem nb_at {s : Stn} {p : Pos} (h : okP s p = true) {z : Nd} (hz : z ∈ zonF s p) : ∃ B : List Int, B.length ≤ 16 ∧ TBd [.agg [.str s.nm, .list 1 (s.bs.map s1), .list 5 (s.ls.map Ln.cs), .list 6 (s.ss.map Sr.cs), .list 12 (s.qs.map By.cs)], .agg [.list 1 (p.cl.map b1), .list 1 (p.lk.map r1)], .agg [.int .i64 z.1, .int .i64 z.2]] = some (.list 1 (B.map i1)) ∧ ∀ b ∈ B, Tot [.agg [.str s.nm, .list 1 (s.bs.map s1), .list 5 (s.ls.map Ln.cs), .list 6 (s.ss.map Sr.cs), .list 12 (s.qs.map By.cs)], .agg [.list 1 (p.cl.map b1), .list 1 (p.lk.map r1)], .agg [.int .i64 z.1, .int .i64 z.2], .int .i64 b] = some (nodV none) ∨ ∃ o : Nd, Tot [.agg [.str s.nm, .list 1 (s.bs.map s1), .list 5 (s.ls.map Ln.cs), .list 6 (s.ss.map Sr.cs), .list 12 (s.qs.map By.cs)], .agg [.list 1 (p.cl.map b1), .list 1 (p.lk.map r1)], .agg [.int .i64 z.1, .int .i64 z.2], .int .i64 b] = some (nodV (some o)) ∧ Tot [.agg [.str s.nm, .list 1 (s.bs.map s1), .list 5 (s.ls.map Ln.cs), .list 6 (s.ss.map Sr.cs), .list 12 (s.qs.map By.cs)], .agg [.list 1 (p.cl.map b1), .list 1 (p.lk.map r1)], .agg [.int .i64 o.1, .int .i64 o.2], .int .i64 b] = some (nodV (some z)) ∧ ∃ B2 : List Int, TBd [.agg [.str s.nm, .list 1 (s.bs.map s1), .list 5 (s.ls.map Ln.cs), .list 6 (s.ss.map Sr.cs), .list 12 (s.qs.map By.cs)], .agg [.list 1 (p.cl.map b1), .list 1 (p.lk.map r1)], .agg [.int .i64 o.1, .int .i64 o.2]] = some (.list 1 (B2.map i1)) ∧ ThasI [.list 1 (B2.map i1), .int .i64 b] = some (.bool true) := by
  have hn := zon_mem hz
  have hb := TBd_at (k := z.1) (o := z.2) h
  rw [hn] at hb
  have hq := (fine_of (okP_iff h).1).nq
  have hbl := bnd_len s p (grp s p)
  refine ⟨_, by have := hbl (some z); omega, hb, fun b hbm => ?_⟩
  obtain ⟨i, rfl, hi, _⟩ := bnd_mem.1 hbm
  obtain ⟨a0, a1, c0, c1, hS, -, -, -⟩ := sid_nodes h hi
  have hin := (bnd_at hi hS).1 hbm
  have hT := Tot_at (k := z.1) (o := z.2) (i := (i : Int)) h
  have hv : othP s p z.1 z.2 i = oth2F z [a0, a1, c0, c1] := by simp only [othP, hn, if_pos hbm, hS]
  rw [hv] at hT
  cases ho : oth2F z [a0, a1, c0, c1] with
  | none => rw [ho] at hT; exact .inl hT
  | some o =>
    rw [ho] at hT
    obtain ⟨h1, h2, h3⟩ := oth_back h hn hi hS hin ho
    have hm2 := (bnd_at (n := o) hi hS).2 h2
    have hT2 := Tot_at (k := o.1) (o := o.2) (i := (i : Int)) h
    have hv2 : othP s p o.1 o.2 i = oth2F o [a0, a1, c0, c1] := by simp only [othP, h1, if_pos hm2, hS]
    rw [hv2, h3] at hT2
    have hb2 := TBd_at (k := o.1) (o := o.2) h
    rw [h1] at hb2
    exact .inr ⟨o, hT, hT2, _, hb2, ThasI_at (by have := hbl (some o); omega) hm2⟩
theorem nbs_ok {s : Stn} {p : Pos} (h1 : lkB s = true) (h2 : lenB s p = true) : PCall Try.prog 12 [.agg s.cs, .agg p.cs] (.bool true) := by
  have hTf := Tfn_at h1 h2
  cases hf : fineF s p
  · rw [hf] at hTf
    clear h1 h2
    refine pcall_cx H2_ok mixed (fun id => if id = 15 then some ⟨[(15, 9)], []⟩ else if id = 17 then some ⟨[(12, 11)], []⟩ else none) Try.func12 rfl Try.ntmps12 Try.results12 (by simp) (by kernel_rfl) ?_
    repeat' first
      | (with_reducible refine gw_bool (fun _ => ?_) (fun _ => ?_))
      | (with_reducible refine condw_bool (fun _ => ?_) (fun _ => ?_))
      | simp [*, Stn.cs, Pos.cs]
  rw [hf] at hTf
  have hok : okP s p = true := by simp only [fineF, Bool.and_eq_true] at hf; exact hf.2
  have hat : Hid (∀ z ∈ zonF s p, _) := show _ from fun z hz => nb_at hok hz
  have hTz := Tzo_at hok
  have hm1 := zon_ne hok
  have hm2 := zon_len hok
  generalize zonF s p = L at hat hTz hm1 hm2
  obtain ⟨m, hm⟩ : ∃ m, L.length = m := ⟨_, rfl⟩
  rw [hm] at hm1 hm2
  have hm0 : ieq (m : Int) 0 = false := ieq_f (by omega)
  clear h1 h2 hf hok
  refine pcall_cx H2_ok mixed (fun id => if id = 15 then some ⟨[(15, 9)], []⟩ else if id = 17 then some ⟨[(12, 11)], []⟩ else none) Try.func12 rfl Try.ntmps12 Try.results12 (by simp) (by kernel_rfl) ?_
  repeat' first
    | (with_reducible refine gw_bool (fun _ => ?_) (fun _ => ?_))
    | (with_reducible refine condw_bool (fun _ => ?_) (fun _ => ?_))
    | simp [*, Stn.cs, Pos.cs]
  refine lp_go (D := (fun id => if id = 15 then some ⟨[(15, 9)], []⟩ else if id = 17 then some ⟨[(12, 11)], []⟩ else none)) H2_ok mixed (by kernel_rfl) [2, 3, 5] [2, 3, 9, 11] (α := Nat) (fun i e h => i ≤ m ∧ e 6 = .int .i64 i) (fun i => m - i) 0 ?_ ?_
  · exact ⟨by omega, by simp⟩
  rintro i e h hk hkh ⟨hi, g7⟩
  simp [Keep] at hk
  simp [KeepH] at hkh
  clear hTf hTz
  by_cases hlt : i < m
  · obtain ⟨z, hz, hz'⟩ := at_ex (l := L) (i := i) (by omega)
    obtain ⟨B, hB, hTb, hBt⟩ := hat.out z (List.mem_of_getElem? hz)
    have f1 : ilt (i : Int) (m : Int) = true := ilt_t (by omega)
    have w1 : IntKind.i64.wrap ((i : Int) + 1) = ((i + 1 : Nat) : Int) := wrap_succ (by omega)
    obtain ⟨nB, hnB⟩ : ∃ n, B.length = n := ⟨_, rfl⟩
    rw [hnB] at hB
    replace hBt : Hid (_) := hBt
    clear hat
    obtain ⟨z0, z1⟩ := z
    repeat' first
      | (with_reducible refine gw_bool (fun _ => ?_) (fun _ => ?_))
      | (with_reducible refine condw_bool (fun _ => ?_) (fun _ => ?_))
      | simp [*, nd2]
    refine lp_go (D := (fun id => if id = 15 then some ⟨[(15, 9)], []⟩ else if id = 17 then some ⟨[(12, 11)], []⟩ else none)) H2_ok mixed (by kernel_rfl) [2, 3, 5, 6, 7, 25, 26, 27, 28, 31, 32, 33, 34, 35, 36, 37] [2, 3, 9, 11] (α := Nat) (fun k e h => k ≤ nB ∧ e 8 = .int .i64 k) (fun k => nB - k) 0 ?_ ?_
    · exact ⟨by omega, by simp⟩
    have hk0 := hk
    have hkh0 := hkh
    have g70 := g7
    clear hk hkh g7
    rintro k e h hk hkh ⟨hkB, g9⟩
    simp [Keep, hk0, hkh0, g70] at hk
    simp [KeepH, hk0, hkh0] at hkh
    by_cases hlk : k < nB
    · obtain ⟨b, hb, hb'⟩ := at_ex (l := B) (i := k) (by omega)
      have f2 : ilt (k : Int) (nB : Int) = true := ilt_t (by omega)
      have w2 : IntKind.i64.wrap ((k : Int) + 1) = ((k + 1 : Nat) : Int) := wrap_succ (by omega)
      clear hTb
      rcases hBt.out b (List.mem_of_getElem? hb) with hT | ⟨⟨o0, o1⟩, hT, hT2, B2, hTb2, hTh⟩
      · clear hBt
        repeat' first
          | (with_reducible refine gw_bool (fun _ => ?_) (fun _ => ?_))
          | (with_reducible refine condw_bool (fun _ => ?_) (fun _ => ?_))
          | simp [*, nd2, i1, nodV, setsV]
        refine nxt_go (k + 1) ((View.forget _ _ 9)) (by omega) (by simp [*, Keep, St.forget, scr, scrC, usesC, usesA]) (by simp [*, KeepH, St.forget, scr, scrC]) ?_
        refine ⟨by omega, by simp [*, St.forget, scr, scrC]⟩
      · clear hBt
        repeat' first
          | (with_reducible refine gw_bool (fun _ => ?_) (fun _ => ?_))
          | (with_reducible refine condw_bool (fun _ => ?_) (fun _ => ?_))
          | simp [*, nd2, i1, nodV, setsV]
        refine nxt_go (k + 1) ((View.forget _ _ 11).trans ((View.forget _ _ 9))) (by omega) (by simp [*, Keep, St.forget, scr, scrC, usesC, usesA]) (by simp [*, KeepH, St.forget, scr, scrC]) ?_
        refine ⟨by omega, by simp [*, St.forget, scr, scrC]⟩
    · have f2 : ilt (k : Int) (nB : Int) = false := ilt_f (by omega)
      clear hBt
      repeat' first
        | (with_reducible refine gw_bool (fun _ => ?_) (fun _ => ?_))
        | (with_reducible refine condw_bool (fun _ => ?_) (fun _ => ?_))
        | simp [*]
      refine nxt_go (i + 1) (View.refl _ _) (by omega) (by simp [*, Keep, St.forget, scr, scrC]) (by simp [*, KeepH, St.forget, scr, scrC]) ?_
      exact ⟨by omega, by simp [*]⟩
  · have f1 : ilt (i : Int) (m : Int) = false := ilt_f (by omega)
    clear hat
    repeat' first
      | (with_reducible refine gw_bool (fun _ => ?_) (fun _ => ?_))
      | (with_reducible refine condw_bool (fun _ => ?_) (fun _ => ?_))
      | simp [*]
end Go.Proofs.Ytcbddoopmkhlfaa
end
section
namespace Go.Proofs.Ytcbddoopmkhlfaa.topologyNeighboursDone
open Go.Pv Go.ChangeShapes Go.WideShapes Go.ChangeAt Go.RowKit
set_option linter.unusedVariables false

theorem law : ∀ us, HasAll [.struct [.str, .slice .str, .slice (.struct [.str, .struct [.int .i64, .int .i64], .struct [.int .i64, .int .i64]]), .slice (.struct [.str, .int .i64, .struct [.int .i64, .int .i64], .struct [.int .i64, .int .i64]]), .slice (.struct [.str, .int .i64, .int .i64, .int .i64, .struct [.int .i64, .int .i64], .slice (.struct [.int .i64, .int .i64]), .bool, .int .i64, .int .i64, .int .i64, .int .i64])], .struct [.slice .bool, .slice (.slice (.int .i64))]] us → PCall Try.prog 12 us (.bool true) := by
  rintro us ⟨a, _, rfl, ha, b, _, rfl, hb, rfl⟩
  obtain ⟨s, rfl, h1, _, hlk⟩ := has_stnL ha
  obtain ⟨p, rfl, h2, _⟩ := has_pos hb
  have hm : maxLen = 9223372036854775807 := by decide
  rw [hm] at h1 h2
  refine nbs_ok hlk ?_
  simp only [lenB, Bool.and_eq_true, decide_eq_true_eq, List.all_eq_true]
  exact ⟨h1, h2⟩

theorem own : ownKnob Try.prog.godebug = none := by kernel_rfl
theorem laidOut : laidOutB Try.prog = true := by kernel_rfl
theorem spec_at (H : Type) : ∀ ds : List (DataW H), ds.length = 2 → Rows.topologyNeighboursSpec.fn H ds = { results := [.lit (.bool true)], args := ds } := by
  intro ds h
  rcases ds with _ | ⟨d0, _ | ⟨d1, _ | ⟨e, r⟩⟩⟩
  all_goals first | rfl | (simp at h; done) | (simp at h; omega)

set_option maxRecDepth 100000 in
theorem lifted (os : Os) (started : os.Started) (H : Type) (enc : TypeId × Value → H) :
    ReturnsInHanded {} Try.checked os 12 .any (Rows.topologyNeighboursSpec.pre6 enc Try.prog Try.f12 Rows.topologyNeighboursRow.domain false) (Rows.topologyNeighboursSpec.post enc Try.prog Try.f12 false true false false) :=
  lift (C := Try.checked) (m := 9) own laidOut started (by kernel_rfl) Try.func12
    (ChangeSpec.witness6 (enc := enc) (C := Try.checked) false ⟨#[], #[.agg #[.string ⟨#[]⟩, .slice none 0 0, .slice none 0 0, .slice none 0 0, .slice none 0 0], .agg #[.slice none 0 0, .slice none 0 0]], []⟩ 8 (by kernel_rfl) (by kernel_rfl) (by kernel_rfl) (by kernel_rfl))
    Try.params12 (by kernel_rfl) Try.underlying4 rfl (by kernel_rfl) (by kernel_rfl) (spec_at H) law

theorem over : Rows.topologyNeighboursRow.holds Try.pinned (OpenSpec.ofChange Rows.topologyNeighboursSpec) :=
  OpenClaim.holds_of_wide 12 Try.f12 rfl rfl rfl rfl rfl rfl rfl ⟨rfl, rfl, rfl, rfl, rfl⟩ rfl rfl rfl rfl rfl (by kernel_rfl) Try.func12 (by kernel_rfl)
    (of_decide_eq_true (by kernel_rfl)) (by unfold Func.isWrapper; first | (rw [if_pos (by decide +kernel)]; kernel_rfl) | (rw [if_neg (by decide +kernel)]; exact ⟨rfl, rfl⟩))
    (fun os started H enc _ => lifted os started H enc)

theorem proved : Rows.TopologyNeighboursSaid := over
end Go.Proofs.Ytcbddoopmkhlfaa.topologyNeighboursDone
end
