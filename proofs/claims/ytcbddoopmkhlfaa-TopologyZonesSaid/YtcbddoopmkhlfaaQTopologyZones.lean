/-
  The law of zones that live.
  The bay at the far end; the document's other zone, its groups.
  The law of zones.
  TopologyZones returns true for every input, and leaves the input as it was. No condition.
-/
import Derived.Test.YtcbddoopmkhlfaaJ8
import Derived.Test.YtcbddoopmkhlfaaJ6
import Derived.Test.YtcbddoopmkhlfaaRows
section
namespace Go.Proofs.Ytcbddoopmkhlfaa
open Go.Pv Go.RowKit
set_option linter.unusedSimpArgs false
set_option linter.unusedVariables false
set_option maxRecDepth 100000
set_option maxHeartbeats 4000000
attribute [-simp] Tclo_at Tgrp_at Tchk Tpchk TcI TcB Tclo Tgrp Tsid Tnod Tlook Tbnd TsidA Tre Tidx Tnms Tnmd Tobj Tlks Tbay Trck Trpc Tres TSd TBd Tnm Tlv Tfd Tfn Tlg Tgps Trg Trf Trsd Trnd Tar Tix Tcon

def Tzo : List V → Option V
  | [.agg a, .agg b] => (match unStn a, unPos b with
    | some s, some p => if okP s p = true then some (.list 2 ((zonF s p).map nd2)) else none
    | _, _ => none)
  | _ => none
theorem Tzo_at {s : Stn} {p : Pos} (h : okP s p = true) : Tzo [.agg [.str s.nm, .list 1 (s.bs.map s1), .list 5 (s.ls.map Ln.cs), .list 6 (s.ss.map Sr.cs), .list 12 (s.qs.map By.cs)], .agg [.list 1 (p.cl.map b1), .list 1 (p.lk.map r1)]] = some (.list 2 ((zonF s p).map nd2)) := by
  have e1 := unStn_cs s
  have e2 := unPos_cs p
  unfold Stn.cs at e1
  unfold Pos.cs at e2
  simp [Tzo, e1, e2, h]
theorem zo_tab : ∀ vs v, Tzo vs = some v → PCall Try.prog 24 vs v := by
  intro vs v h; unfold Tzo at h; split at h
  · split at h
    · rename_i h1 h2
      split at h
      · rename_i hl; cases h; rw [unStn_inv _ _ h1, unPos_inv _ _ h2]; exact Zones_ok hl
      · cases h
    · cases h
  · cases h
def Tot : List V → Option V
  | [.agg a, .agg b, .agg [.int .i64 k, .int .i64 o], .int .i64 i] => (match unStn a, unPos b with
    | some s, some p => if okP s p = true then some (nodV (othP s p k o i)) else none
    | _, _ => none)
  | _ => none
theorem Tot_at {s : Stn} {p : Pos} {k o i : Int} (h : okP s p = true) : Tot [.agg [.str s.nm, .list 1 (s.bs.map s1), .list 5 (s.ls.map Ln.cs), .list 6 (s.ss.map Sr.cs), .list 12 (s.qs.map By.cs)], .agg [.list 1 (p.cl.map b1), .list 1 (p.lk.map r1)], .agg [.int .i64 k, .int .i64 o], .int .i64 i] = some (nodV (othP s p k o i)) := by
  have e1 := unStn_cs s
  have e2 := unPos_cs p
  unfold Stn.cs at e1
  unfold Pos.cs at e2
  simp [Tot, e1, e2, h]
theorem ot_tab : ∀ vs v, Tot vs = some v → PCall Try.prog 31 vs v := by
  intro vs v h; unfold Tot at h; split at h
  · split at h
    · rename_i h1 h2
      split at h
      · rename_i hl; cases h; rw [unStn_inv _ _ h1, unPos_inv _ _ h2]; exact Other_ok hl _ _ _
      · cases h
    · cases h
  · cases h
def H1 : Tab := add 24 Tzo (add 31 Tot (G4))
theorem H1_at (f : FuncId) (vs : List V) : H1.at' f vs = if f = 24 then Tzo vs else if f = 31 then Tot vs else G4.at' f vs := rfl
theorem H1_fr (f : FuncId) : H1.fr f = if f = 24 then false else if f = 31 then false else G4.fr f := rfl
theorem H1_gb (f : FuncId) : H1.gb f = G4.gb f := rfl
theorem H1_gv (f : FuncId) (vs : List V) : H1.gv f vs = G4.gv f vs := rfl
attribute [simp] H1_at H1_fr H1_gb H1_gv Tot Tzo
theorem H1_ok : TabOK Try.prog H1 := by
  refine add_ok (add_ok (G4_ok) (by kernel_rfl) ?_) (by kernel_rfl) ?_
  · exact ot_tab
  · exact zo_tab
attribute [-simp] Tzo Tot
attribute [simp] Tzo_at Tot_at
theorem zon_ne {s : Stn} {p : Pos} (h : okP s p = true) : 1 ≤ (zonF s p).length := by
  have h0 := (fine_of (okP_iff h).1).nb0
  obtain ⟨x, hx, -⟩ := at_ex (l := grp s p) (i := 0) (by rw [grp_len]; omega)
  obtain ⟨u, hu, hu0, _⟩ := can_grp h 0 x hx
  have hx0 : (grp s p)[0]? = some ((0 : Nat) : Int) := by rw [hx, hu, show u = 0 by omega]
  have : ((1 : Int), ((0 : Nat) : Int)) ∈ zonF s p := by
    simp only [zonF, List.mem_append, zonG, List.mem_map, List.mem_filter, List.mem_range, beq_iff_eq]
    exact .inl ⟨0, ⟨by omega, hx0⟩, rfl⟩
  exact List.length_pos_of_mem this
theorem zon_len {s : Stn} {p : Pos} (h : okP s p = true) : (zonF s p).length ≤ 20 := by
  have h1 := (fine_of (okP_iff h).1).nb
  have h2 := (fine_of (okP_iff h).1).nl
  have := zonG_len (grp s p) s.bs.length
  rw [zonF, List.length_append, zonL_len]; omega
theorem life_at {s : Stn} {p : Pos} (h : okP s p = true) {z : Nd} (hz : z ∈ zonF s p) : ∃ (B : List Int) (F : Int → Bool), B.length ≤ 16 ∧ TBd [.agg [.str s.nm, .list 1 (s.bs.map s1), .list 5 (s.ls.map Ln.cs), .list 6 (s.ss.map Sr.cs), .list 12 (s.qs.map By.cs)], .agg [.list 1 (p.cl.map b1), .list 1 (p.lk.map r1)], .agg [.int .i64 z.1, .int .i64 z.2]] = some (.list 1 (B.map i1)) ∧ (∀ b : Int, Tfd [.agg [.str s.nm, .list 1 (s.bs.map s1), .list 5 (s.ls.map Ln.cs), .list 6 (s.ss.map Sr.cs), .list 12 (s.qs.map By.cs)], .agg [.list 1 (p.cl.map b1), .list 1 (p.lk.map r1)], .list 2 [[.int .i64 z.1, .int .i64 z.2]], .int .i64 b] = some (.bool (F b))) ∧ Tlv [.agg [.str s.nm, .list 1 (s.bs.map s1), .list 5 (s.ls.map Ln.cs), .list 6 (s.ss.map Sr.cs), .list 12 (s.qs.map By.cs)], .agg [.list 1 (p.cl.map b1), .list 1 (p.lk.map r1)], .agg [.int .i64 z.1, .int .i64 z.2]] = some (.bool (B.any F)) := by
  have hn := zon_mem hz
  have hb := TBd_at (k := z.1) (o := z.2) h
  have hl := Tlv_at (k := z.1) (o := z.2) h
  rw [hn] at hb
  rw [← life h hn] at hl
  refine ⟨_, fun b => fedF s p [z] b, ?_, hb, fun b => ?_, hl⟩
  · have := bnd_len s p (grp s p) (some z)
    have := (fine_of (okP_iff h).1).nq
    omega
  · have := Tfd_at (zs := [z]) (i := b) h (by simp)
    simpa only [List.map_cons, List.map_nil, nd2] using this
theorem any_step {B : List Int} {F : Int → Bool} {k : Nat} {b : Int} (h : B[k]? = some b) : (B.take (k + 1)).any F = ((B.take k).any F || F b) := by
  simp [take_snoc h]
theorem life_ok {s : Stn} {p : Pos} (h1 : lkB s = true) (h2 : lenB s p = true) : PCall Try.prog 8 [.agg s.cs, .agg p.cs] (.bool true) := by
  have hTf := Tfn_at h1 h2
  cases hf : fineF s p
  · rw [hf] at hTf
    clear h1 h2
    refine pcall_cx H1_ok mixed (fun id => if id = 16 then some ⟨[(5008, 49)], [12]⟩ else none) Try.func8 rfl Try.ntmps8 Try.results8 (by simp) (by kernel_rfl) ?_
    repeat' first
      | (with_reducible refine gw_bool (fun _ => ?_) (fun _ => ?_))
      | (with_reducible refine condw_bool (fun _ => ?_) (fun _ => ?_))
      | simp [*, Stn.cs, Pos.cs]
  rw [hf] at hTf
  have hok : okP s p = true := by simp only [fineF, Bool.and_eq_true] at hf; exact hf.2
  have hat : Hid (∀ z ∈ zonF s p, _) := show _ from fun z hz => life_at hok hz
  have hTz := Tzo_at hok
  have hm1 := zon_ne hok
  have hm2 := zon_len hok
  generalize zonF s p = L at hat hTz hm1 hm2
  obtain ⟨m, hm⟩ : ∃ m, L.length = m := ⟨_, rfl⟩
  rw [hm] at hm1 hm2
  have hm0 : ieq (m : Int) 0 = false := ieq_f (by omega)
  clear h1 h2 hf hok
  refine pcall_cx H1_ok mixed (fun id => if id = 16 then some ⟨[(5008, 49)], [12]⟩ else none) Try.func8 rfl Try.ntmps8 Try.results8 (by simp) (by kernel_rfl) ?_
  repeat' first
    | (with_reducible refine gw_bool (fun _ => ?_) (fun _ => ?_))
    | (with_reducible refine condw_bool (fun _ => ?_) (fun _ => ?_))
    | simp [*, Stn.cs, Pos.cs]
  refine lp_go (D := (fun id => if id = 16 then some ⟨[(5008, 49)], [12]⟩ else none)) H1_ok mixed (by kernel_rfl) [2, 3, 5] [2, 3, 49] (α := Nat) (fun i e h => i ≤ m ∧ e 6 = .int .i64 i) (fun i => m - i) 0 ?_ ?_
  · exact ⟨by omega, by simp⟩
  rintro i e h hk hkh ⟨hi, g7⟩
  simp [Keep] at hk
  simp [KeepH] at hkh
  clear hTf hTz
  by_cases hlt : i < m
  · obtain ⟨z, hz, hz'⟩ := at_ex (l := L) (i := i) (by omega)
    obtain ⟨B, F, hB, hTb, hTd, hTl⟩ := hat.out z (List.mem_of_getElem? hz)
    have f1 : ilt (i : Int) (m : Int) = true := ilt_t (by omega)
    have w1 : IntKind.i64.wrap ((i : Int) + 1) = ((i + 1 : Nat) : Int) := wrap_succ (by omega)
    obtain ⟨nB, hnB⟩ : ∃ n, B.length = n := ⟨_, rfl⟩
    rw [hnB] at hB
    obtain ⟨W, hW⟩ : ∃ W, B.any F = W := ⟨_, rfl⟩
    rw [hW] at hTl
    replace hW : Hid (_) := hW
    replace hTd : Hid (_) := hTd
    clear hat
    obtain ⟨z0, z1⟩ := z
    repeat' first
      | (with_reducible refine gw_bool (fun _ => ?_) (fun _ => ?_))
      | (with_reducible refine condw_bool (fun _ => ?_) (fun _ => ?_))
      | simp [*, nd2]
    refine lp_go (D := (fun id => if id = 16 then some ⟨[(5008, 49)], [12]⟩ else none)) H1_ok mixed (by kernel_rfl) [2, 3, 5, 6, 8, 22, 23, 24, 25, 28, 29, 30, 31, 32, 33, 34] [2, 3, 49] (α := Nat) (fun k e h => k ≤ nB ∧ e 9 = .int .i64 k ∧ e 7 = .bool ((B.take k).any F)) (fun k => nB - k) 0 ?_ ?_
    · exact ⟨by omega, by simp, by simp⟩
    have hk0 := hk
    have hkh0 := hkh
    have g70 := g7
    clear hk hkh g7
    rintro k e h hk hkh ⟨hkB, g9, g7⟩
    simp [Keep, hk0, hkh0, g70] at hk
    simp [KeepH, hk0, hkh0] at hkh
    by_cases hlk : k < nB
    · obtain ⟨b, hb, hb'⟩ := at_ex (l := B) (i := k) (by omega)
      have f2 : ilt (k : Int) (nB : Int) = true := ilt_t (by omega)
      have w2 : IntKind.i64.wrap ((k : Int) + 1) = ((k + 1 : Nat) : Int) := wrap_succ (by omega)
      have hst := any_step (F := F) hb
      have hT := hTd.out b
      clear hW hTd hTl hTb
      generalize F b = X at hst hT
      generalize (B.take k).any F = Y at hst g7
      cases Y
      · skip
        repeat' first
          | (with_reducible refine gw_bool (fun _ => ?_) (fun _ => ?_))
          | (with_reducible refine condw_bool (fun _ => ?_) (fun _ => ?_))
          | simp [*, nd2, i1]
        refine nxt_go (k + 1) ((View.forget _ _ 49)) (by omega) (by simp [*, Keep, St.forget, scr, scrC, usesC, usesA]) (by simp [*, KeepH, St.forget, scr, scrC]) ?_
        refine ⟨by omega, by simp [*, St.forget, scr, scrC], ?_⟩
        rw [hst]; simp [*, St.forget, scr, scrC]
      · skip
        repeat' first
          | (with_reducible refine gw_bool (fun _ => ?_) (fun _ => ?_))
          | (with_reducible refine condw_bool (fun _ => ?_) (fun _ => ?_))
          | simp [*, nd2, i1]
        refine nxt_go (k + 1) (View.refl _ _) (by omega) (by simp [*, Keep, St.forget, scr, scrC]) (by simp [*, KeepH, St.forget, scr, scrC]) ?_
        refine ⟨by omega, by simp [*, St.forget, scr, scrC], ?_⟩
        rw [hst]; simp [*, St.forget, scr, scrC]
    · have f2 : ilt (k : Int) (nB : Int) = false := ilt_f (by omega)
      have e2 : k = nB := by omega
      rw [e2, ← hnB, List.take_length, hW.out] at g7
      clear hW hTd
      cases W
      · skip
        repeat' first
          | (with_reducible refine gw_bool (fun _ => ?_) (fun _ => ?_))
          | (with_reducible refine condw_bool (fun _ => ?_) (fun _ => ?_))
          | simp [*, nd2]
        refine nxt_go (i + 1) (View.refl _ _) (by omega) (by simp [*, Keep, St.forget, scr, scrC]) (by simp [*, KeepH, St.forget, scr, scrC]) ?_
        exact ⟨by omega, by simp [*]⟩
      · skip
        repeat' first
          | (with_reducible refine gw_bool (fun _ => ?_) (fun _ => ?_))
          | (with_reducible refine condw_bool (fun _ => ?_) (fun _ => ?_))
          | simp [*, nd2]
        refine nxt_go (i + 1) (View.refl _ _) (by omega) (by simp [*, Keep, St.forget, scr, scrC]) (by simp [*, KeepH, St.forget, scr, scrC]) ?_
        exact ⟨by omega, by simp [*]⟩
  · have f1 : ilt (i : Int) (m : Int) = false := ilt_f (by omega)
    clear hat
    repeat' first
      | (with_reducible refine gw_bool (fun _ => ?_) (fun _ => ?_))
      | (with_reducible refine condw_bool (fun _ => ?_) (fun _ => ?_))
      | simp [*]
end Go.Proofs.Ytcbddoopmkhlfaa
end
section
namespace Go.Proofs.Ytcbddoopmkhlfaa
open Go.Pv Go.RowKit
set_option linter.unusedSimpArgs false
set_option linter.unusedVariables false
set_option maxRecDepth 100000
set_option maxHeartbeats 4000000
attribute [-simp] Tclo_at Tgrp_at Tchk Tpchk TcI TcB Tclo Tgrp Tsid Tnod Tlook Tbnd TsidA Tre Tidx Tnms Tnmd Tobj Tlks Tbay Trck Trpc Tres TSd TBd Tnm Tlv Tfd Tfn Tlg Tgps Trg Trf Trsd Trnd Tar Tix Tcon

/-- Is this bay the far end? -/
def farB (s : Stn) (o : Int) (k i : Nat) : Bool := match s.qs[i]? with
  | some b => !ieq (i : Int) (k : Int) && (ieq b.kind 1 && ieq b.ob o)
  | none => false
def farX (s : Stn) (o : Int) (k : Nat) : Int × Bool := match (List.range s.qs.length).find? (farB s o k) with
  | some i => ((i : Int), true)
  | none => (0, false)
def farF (s : Stn) (bay : Int) : Int × Bool :=
  if (ilt bay 0 || !ilt bay s.qs.length) = true then (0, false) else (match s.qs[bay.toNat]? with
    | some b => if ieq b.kind 1 = true then farX s b.ob bay.toNat else (bay, true)
    | none => (0, false))
def farW (x : Int × Bool) : V := .tup [.int .i64 x.1, .bool x.2]
theorem far_hit {s : Stn} {o : Int} {k i : Nat} (hi : i < s.qs.length) (h : farB s o k i = true) (hb : ∀ j, j < i → farB s o k j = false) : farX s o k = ((i : Int), true) := by
  have : (List.range s.qs.length).find? (farB s o k) = some i := by
    rw [List.find?_range_eq_some]
    exact ⟨h, by simpa using hi, fun j hj => by rw [hb j hj]; rfl⟩
  rw [farX, this]
theorem far_miss {s : Stn} {o : Int} {k : Nat} (hb : ∀ j, j < s.qs.length → farB s o k j = false) : farX s o k = (0, false) := by
  have : (List.range s.qs.length).find? (farB s o k) = none := by
    rw [List.find?_range_eq_none]
    exact fun i hi => by rw [hb i hi]; rfl
  rw [farX, this]
theorem Far_ok {s : Stn} {p : Pos} (h : okP s p = true) (bay : Int) : PCall Try.prog 37 [.agg s.cs, .agg p.cs, .int .i64 bay] (farW (farF s bay)) := by
  have hT := Tlook_at h
  have hn16 := (fine_of (okP_iff h).1).nq
  obtain ⟨n, hn⟩ : ∃ n, s.qs.length = n := ⟨_, rfl⟩
  rw [hn] at hn16
  generalize grp s p = G at hT
  clear h
  cases q0 : ilt bay 0
  case true =>
    have hv : farF s bay = (0, false) := by simp [farF, q0]
    rw [hv]
    clear hv
    refine pcall_cx HC_ok mixed (fun _ => none) Try.func37 rfl Try.ntmps37 Try.results37 (by simp) (by kernel_rfl) ?_
    repeat' first
      | (with_reducible refine gw_bool (fun _ => ?_) (fun _ => ?_))
      | (with_reducible refine condw_bool (fun _ => ?_) (fun _ => ?_))
      | simp [*, Stn.cs, Pos.cs, Vu.cs, farW]
  cases q1 : ilt bay (n : Int)
  · have hv : farF s bay = (0, false) := by simp [farF, q0, q1, hn]
    rw [hv]
    clear hv
    refine pcall_cx HC_ok mixed (fun _ => none) Try.func37 rfl Try.ntmps37 Try.results37 (by simp) (by kernel_rfl) ?_
    repeat' first
      | (with_reducible refine gw_bool (fun _ => ?_) (fun _ => ?_))
      | (with_reducible refine condw_bool (fun _ => ?_) (fun _ => ?_))
      | simp [*, Stn.cs, Pos.cs, Vu.cs, farW]
  obtain ⟨k, rfl⟩ := Int.eq_ofNat_of_zero_le (ilt_iff'.1 q0)
  have hk := ilt_iff.1 q1
  obtain ⟨b, hb, hb'⟩ := at_ex (l := s.qs) (i := k) (by omega)
  have hkn : k < n := by omega
  cases q2 : ieq b.kind 1
  · have hv : farF s k = ((k : Int), true) := by simp [farF, q0, q1, hn, hb, q2]
    rw [hv]
    clear hv
    refine pcall_cx HC_ok mixed (fun _ => none) Try.func37 rfl Try.ntmps37 Try.results37 (by simp) (by kernel_rfl) ?_
    repeat' first
      | (with_reducible refine gw_bool (fun _ => ?_) (fun _ => ?_))
      | (with_reducible refine condw_bool (fun _ => ?_) (fun _ => ?_))
      | simp [*, Stn.cs, Pos.cs, Vu.cs, farW, By.cs]
  have hv : farF s k = farX s b.ob k := by simp [farF, q0, q1, hn, hb, q2]
  rw [hv]
  clear hv
  have hhit : Hid (∀ i, i < n → farB s b.ob k i = true → (∀ j, j < i → farB s b.ob k j = false) → farX s b.ob k = ((i : Int), true)) := show _ from fun i hi => far_hit (by omega)
  have hmiss : Hid ((∀ j, j < n → farB s b.ob k j = false) → farX s b.ob k = (0, false)) := show _ from fun hb => far_miss (by rw [hn]; exact hb)
  generalize farX s b.ob k = R at hhit hmiss ⊢
  refine pcall_cx HC_ok mixed (fun _ => none) Try.func37 rfl Try.ntmps37 Try.results37 (by simp) (by kernel_rfl) ?_
  repeat' first
    | (with_reducible refine gw_bool (fun _ => ?_) (fun _ => ?_))
    | (with_reducible refine condw_bool (fun _ => ?_) (fun _ => ?_))
    | simp [*, Stn.cs, Pos.cs, Vu.cs, farW, By.cs]
  refine lp_go (D := (fun _ => none)) HC_ok mixed (by kernel_rfl) [2, 10, 42, 43] [3, 4, 8, 10, 12] (α := Nat) (fun i e h => i ≤ n ∧ e 44 = .int .i64 i ∧ Hid (∀ j, j < i → farB s b.ob k j = false)) (fun i => n - i) 0 ?_ ?_
  · exact ⟨by omega, by simp, show _ from fun j hj => by omega⟩
  rintro i e h hkk hkh ⟨hi, g7, hin⟩
  simp [Keep] at hkk
  simp [KeepH] at hkh
  clear hT
  by_cases hlt : i < n
  · obtain ⟨c, hc, hc'⟩ := at_ex (l := s.qs) (i := i) (by omega)
    have f1 : ilt (i : Int) (n : Int) = true := ilt_t (by omega)
    have w1 : IntKind.i64.wrap ((i : Int) + 1) = ((i + 1 : Nat) : Int) := wrap_succ (by omega)
    have hf : farB s b.ob k i = (!ieq (i : Int) (k : Int) && (ieq c.kind 1 && ieq c.ob b.ob)) := by simp [farB, hc]
    have hnx : farB s b.ob k i = false → Hid (∀ j, j < i + 1 → farB s b.ob k j = false) := fun hh => show _ from fun j hj => by
      by_cases e : j = i
      · subst e; exact hh
      · exact hin.out j (by omega)
    have hy : farB s b.ob k i = true → R = ((i : Int), true) := fun hh => hhit.out i hlt hh hin.out
    clear hin hhit hmiss
    cases r1 : ieq (i : Int) (k : Int)
    · cases r2 : ieq c.kind 1
      · have hq := hnx (by rw [hf, r1, r2]; rfl)
        clear hnx hy hf
        repeat' first
          | (with_reducible refine gw_bool (fun _ => ?_) (fun _ => ?_))
          | (with_reducible refine condw_bool (fun _ => ?_) (fun _ => ?_))
          | simp [*, By.cs]
        refine nxt_go (i + 1) ((View.forget _ _ 12)) (by omega) (by simp [*, Keep, St.forget, scr, scrC]) (by simp [*, KeepH, St.forget, scr, scrC]) ?_
        exact ⟨by omega, by simp [*, St.forget, scr, scrC], hq⟩
      · cases r3 : ieq c.ob b.ob
        · have hq := hnx (by rw [hf, r1, r2, r3]; rfl)
          clear hnx hy hf
          repeat' first
            | (with_reducible refine gw_bool (fun _ => ?_) (fun _ => ?_))
            | (with_reducible refine condw_bool (fun _ => ?_) (fun _ => ?_))
            | simp [*, By.cs]
          refine nxt_go (i + 1) ((View.forget _ _ 12)) (by omega) (by simp [*, Keep, St.forget, scr, scrC]) (by simp [*, KeepH, St.forget, scr, scrC]) ?_
          exact ⟨by omega, by simp [*, St.forget, scr, scrC], hq⟩
        · have hq := hy (by rw [hf, r1, r2, r3]; rfl)
          clear hnx hy hf
          repeat' first
            | (with_reducible refine gw_bool (fun _ => ?_) (fun _ => ?_))
            | (with_reducible refine condw_bool (fun _ => ?_) (fun _ => ?_))
            | simp [*, By.cs, farW]
    · have hq := hnx (by rw [hf, r1]; rfl)
      clear hnx hy hf
      repeat' first
        | (with_reducible refine gw_bool (fun _ => ?_) (fun _ => ?_))
        | (with_reducible refine condw_bool (fun _ => ?_) (fun _ => ?_))
        | simp [*, By.cs]
      refine nxt_go (i + 1) ((View.forget _ _ 12)) (by omega) (by simp [*, Keep, St.forget, scr, scrC]) (by simp [*, KeepH, St.forget, scr, scrC]) ?_
      exact ⟨by omega, by simp [*, St.forget, scr, scrC], hq⟩
  · have f1 : ilt (i : Int) (n : Int) = false := ilt_f (by omega)
    have hR := hmiss.out (by have := hin.out; rwa [show i = n by omega] at this)
    clear hin hhit hmiss
    repeat' first
      | (with_reducible refine gw_bool (fun _ => ?_) (fun _ => ?_))
      | (with_reducible refine condw_bool (fun _ => ?_) (fun _ => ?_))
      | simp [*, farW]
theorem rFar_ok {s : Stn} {p : Pos} (h : okP s p = true) (bay : Int) : PCall Try.prog 38 [.agg s.cs, .agg p.cs, .int .i64 bay] (farW (farF s bay)) := by
  have hT := Trf_at (lkB_of (okP_iff h).1) (lenB_ok h)
  rw [h] at hT
  have hn16 := (fine_of (okP_iff h).1).nq
  obtain ⟨n, hn⟩ : ∃ n, s.qs.length = n := ⟨_, rfl⟩
  rw [hn] at hn16
  clear h
  cases q0 : ilt bay 0
  case true =>
    have hv : farF s bay = (0, false) := by simp [farF, q0]
    rw [hv]
    clear hv
    refine pcall_cx E11_ok mixed (fun _ => none) Try.func38 rfl Try.ntmps38 Try.results38 (by simp) (by kernel_rfl) ?_
    repeat' first
      | (with_reducible refine gw_bool (fun _ => ?_) (fun _ => ?_))
      | (with_reducible refine condw_bool (fun _ => ?_) (fun _ => ?_))
      | simp [*, Stn.cs, Pos.cs, farW]
  cases q1 : ilt bay (n : Int)
  · have hv : farF s bay = (0, false) := by simp [farF, q0, q1, hn]
    rw [hv]
    clear hv
    refine pcall_cx E11_ok mixed (fun _ => none) Try.func38 rfl Try.ntmps38 Try.results38 (by simp) (by kernel_rfl) ?_
    repeat' first
      | (with_reducible refine gw_bool (fun _ => ?_) (fun _ => ?_))
      | (with_reducible refine condw_bool (fun _ => ?_) (fun _ => ?_))
      | simp [*, Stn.cs, Pos.cs, farW]
  obtain ⟨k, rfl⟩ := Int.eq_ofNat_of_zero_le (ilt_iff'.1 q0)
  have hk := ilt_iff.1 q1
  obtain ⟨b, hb, hb'⟩ := at_ex (l := s.qs) (i := k) (by omega)
  have hkn : k < n := by omega
  cases q2 : ieq b.kind 1
  · have hv : farF s k = ((k : Int), true) := by simp [farF, q0, q1, hn, hb, q2]
    rw [hv]
    clear hv
    refine pcall_cx E11_ok mixed (fun _ => none) Try.func38 rfl Try.ntmps38 Try.results38 (by simp) (by kernel_rfl) ?_
    repeat' first
      | (with_reducible refine gw_bool (fun _ => ?_) (fun _ => ?_))
      | (with_reducible refine condw_bool (fun _ => ?_) (fun _ => ?_))
      | simp [*, Stn.cs, Pos.cs, farW, By.cs]
  have hv : farF s k = farX s b.ob k := by simp [farF, q0, q1, hn, hb, q2]
  rw [hv]
  clear hv
  have hhit : Hid (∀ i, i < n → farB s b.ob k i = true → (∀ j, j < i → farB s b.ob k j = false) → farX s b.ob k = ((i : Int), true)) := show _ from fun i hi => far_hit (by omega)
  have hmiss : Hid ((∀ j, j < n → farB s b.ob k j = false) → farX s b.ob k = (0, false)) := show _ from fun hb => far_miss (by rw [hn]; exact hb)
  generalize farX s b.ob k = R at hhit hmiss ⊢
  refine pcall_cx E11_ok mixed (fun _ => none) Try.func38 rfl Try.ntmps38 Try.results38 (by simp) (by kernel_rfl) ?_
  repeat' first
    | (with_reducible refine gw_bool (fun _ => ?_) (fun _ => ?_))
    | (with_reducible refine condw_bool (fun _ => ?_) (fun _ => ?_))
    | simp [*, Stn.cs, Pos.cs, farW, By.cs]
  refine lp_go (D := (fun _ => none)) E11_ok mixed (by kernel_rfl) [2, 3, 8] [3, 4, 8] (α := Nat) (fun i e h => i ≤ n ∧ e 9 = .int .i64 i ∧ Hid (∀ j, j < i → farB s b.ob k j = false)) (fun i => n - i) 0 ?_ ?_
  · exact ⟨by omega, by simp, show _ from fun j hj => by omega⟩
  rintro i e h hkk hkh ⟨hi, g7, hin⟩
  simp [Keep] at hkk
  simp [KeepH] at hkh
  clear hT
  by_cases hlt : i < n
  · obtain ⟨c, hc, hc'⟩ := at_ex (l := s.qs) (i := i) (by omega)
    have f1 : ilt (i : Int) (n : Int) = true := ilt_t (by omega)
    have w1 : IntKind.i64.wrap ((i : Int) + 1) = ((i + 1 : Nat) : Int) := wrap_succ (by omega)
    have hf : farB s b.ob k i = (!ieq (i : Int) (k : Int) && (ieq c.kind 1 && ieq c.ob b.ob)) := by simp [farB, hc]
    have hnx : farB s b.ob k i = false → Hid (∀ j, j < i + 1 → farB s b.ob k j = false) := fun hh => show _ from fun j hj => by
      by_cases e : j = i
      · subst e; exact hh
      · exact hin.out j (by omega)
    have hy : farB s b.ob k i = true → R = ((i : Int), true) := fun hh => hhit.out i hlt hh hin.out
    clear hin hhit hmiss
    cases r2 : ieq c.kind 1
    · have hq := hnx (by rw [hf, r2]; simp)
      clear hnx hy hf
      repeat' first
        | (with_reducible refine gw_bool (fun _ => ?_) (fun _ => ?_))
        | (with_reducible refine condw_bool (fun _ => ?_) (fun _ => ?_))
        | simp [*, By.cs]
      refine nxt_go (i + 1) (View.refl _ _) (by omega) (by simp [*, Keep, St.forget, scr, scrC]) (by simp [*, KeepH, St.forget, scr, scrC]) ?_
      exact ⟨by omega, by simp [*, St.forget, scr, scrC], hq⟩
    · cases r3 : ieq c.ob b.ob
      · have hq := hnx (by rw [hf, r2, r3]; simp)
        clear hnx hy hf
        repeat' first
          | (with_reducible refine gw_bool (fun _ => ?_) (fun _ => ?_))
          | (with_reducible refine condw_bool (fun _ => ?_) (fun _ => ?_))
          | simp [*, By.cs]
        refine nxt_go (i + 1) (View.refl _ _) (by omega) (by simp [*, Keep, St.forget, scr, scrC]) (by simp [*, KeepH, St.forget, scr, scrC]) ?_
        exact ⟨by omega, by simp [*, St.forget, scr, scrC], hq⟩
      · cases r1 : ieq (i : Int) (k : Int)
        · have hq := hy (by rw [hf, r1, r2, r3]; rfl)
          clear hnx hy hf
          repeat' first
            | (with_reducible refine gw_bool (fun _ => ?_) (fun _ => ?_))
            | (with_reducible refine condw_bool (fun _ => ?_) (fun _ => ?_))
            | simp [*, By.cs, farW]
        · have hq := hnx (by rw [hf, r1]; rfl)
          clear hnx hy hf
          repeat' first
            | (with_reducible refine gw_bool (fun _ => ?_) (fun _ => ?_))
            | (with_reducible refine condw_bool (fun _ => ?_) (fun _ => ?_))
            | simp [*, By.cs]
          refine nxt_go (i + 1) (View.refl _ _) (by omega) (by simp [*, Keep, St.forget, scr, scrC]) (by simp [*, KeepH, St.forget, scr, scrC]) ?_
          exact ⟨by omega, by simp [*, St.forget, scr, scrC], hq⟩
  · have f1 : ilt (i : Int) (n : Int) = false := ilt_f (by omega)
    have hR := hmiss.out (by have := hin.out; rwa [show i = n by omega] at this)
    clear hin hhit hmiss
    repeat' first
      | (with_reducible refine gw_bool (fun _ => ?_) (fun _ => ?_))
      | (with_reducible refine condw_bool (fun _ => ?_) (fun _ => ?_))
      | simp [*, farW]
theorem rGroups_ok {s : Stn} {p : Pos} (h : okP s p = true) : PCall Try.prog 39 [.agg s.cs, .agg p.cs] (.list 1 ((grp s p).map i1)) := by
  have hT := Trf_at (lkB_of (okP_iff h).1) (lenB_ok h)
  rw [h] at hT
  refine pcall_cx E11_ok mixed (fun _ => none) Try.func39 rfl Try.ntmps39 Try.results39 (by simp) (by kernel_rfl) ?_
  repeat' first
    | (with_reducible refine gw_bool (fun _ => ?_) (fun _ => ?_))
    | (with_reducible refine condw_bool (fun _ => ?_) (fun _ => ?_))
    | simp [*, Stn.cs, Pos.cs]
end Go.Proofs.Ytcbddoopmkhlfaa
end
section
namespace Go.Proofs.Ytcbddoopmkhlfaa
open Go.Pv Go.RowKit
set_option linter.unusedSimpArgs false
set_option linter.unusedVariables false
set_option maxRecDepth 100000
set_option maxHeartbeats 4000000
attribute [-simp] Tclo_at Tgrp_at Tchk Tpchk TcI TcB Tclo Tgrp Tsid Tnod Tlook Tbnd TsidA Tre Tidx Tnms Tnmd Tobj Tlks Tbay Trck Trpc Tres TSd TBd Tnm Tlv Tfd Tfn Tlg Tgps Trg Trf Trsd Trnd Tar Tix Tcon Tzo Tot

def TsamI : List V → Option V
  | [.list 1 xs, .list 1 ys] => (match decL unI1 xs, decL unI1 ys with
    | some l, some m => if l.length ≤ 1000000 ∧ l = m then some (.bool true) else none
    | _, _ => none)
  | _ => none
theorem TsamI_at {l : List Int} (h : l.length ≤ 1000000) : TsamI [.list 1 (l.map i1), .list 1 (l.map i1)] = some (.bool true) := by simp [TsamI, decL_map unI1_cs, h]
theorem samI_tab : ∀ vs v, TsamI vs = some v → PCall Try.prog 28 vs v := by
  intro vs v h; unfold TsamI at h; split at h
  · split at h
    · rename_i h1 h2
      split at h
      · rename_i hl; cases h; obtain ⟨hl, rfl⟩ := hl; rw [decL_inv unI1_inv _ _ h1, decL_inv unI1_inv _ _ h2]; exact same_ok _ hl
      · cases h
    · cases h
  · cases h
def TsamZ : List V → Option V
  | [.list 2 xs, .list 2 ys] => (match decL unN2 xs, decL unN2 ys with
    | some l, some m => if l.length ≤ 1000000 ∧ l = m then some (.bool true) else none
    | _, _ => none)
  | _ => none
theorem TsamZ_at {l : List Nd} (h : l.length ≤ 1000000) : TsamZ [.list 2 (l.map nd2), .list 2 (l.map nd2)] = some (.bool true) := by simp [TsamZ, decL_map unN2_cs, h]
theorem samZ_tab : ∀ vs v, TsamZ vs = some v → PCall Try.prog 40 vs v := by
  intro vs v h; unfold TsamZ at h; split at h
  · split at h
    · rename_i h1 h2
      split at h
      · rename_i hl; cases h; obtain ⟨hl, rfl⟩ := hl; rw [decL_inv unN2_inv _ _ h1, decL_inv unN2_inv _ _ h2]; exact samez_ok _ hl
      · cases h
    · cases h
  · cases h
def Tfar : List V → Option V
  | [.agg a, .agg b, .int .i64 i] => (match unStn a, unPos b with
    | some s, some p => if okP s p = true then some (farW (farF s i)) else none
    | _, _ => none)
  | _ => none
theorem Tfar_at {s : Stn} {p : Pos} {i : Int} (h : okP s p = true) : Tfar [.agg [.str s.nm, .list 1 (s.bs.map s1), .list 5 (s.ls.map Ln.cs), .list 6 (s.ss.map Sr.cs), .list 12 (s.qs.map By.cs)], .agg [.list 1 (p.cl.map b1), .list 1 (p.lk.map r1)], .int .i64 i] = some (farW (farF s i)) := by
  have e1 := unStn_cs s
  have e2 := unPos_cs p
  unfold Stn.cs at e1
  unfold Pos.cs at e2
  simp [Tfar, e1, e2, h]
theorem far_tab : ∀ vs v, Tfar vs = some v → PCall Try.prog 37 vs v := by
  intro vs v h; unfold Tfar at h; split at h
  · split at h
    · rename_i h1 h2
      split at h
      · rename_i hl; cases h; rw [unStn_inv _ _ h1, unPos_inv _ _ h2]; exact Far_ok hl _
      · cases h
    · cases h
  · cases h
theorem rfar_tab : ∀ vs v, Tfar vs = some v → PCall Try.prog 38 vs v := by
  intro vs v h; unfold Tfar at h; split at h
  · split at h
    · rename_i h1 h2
      split at h
      · rename_i hl; cases h; rw [unStn_inv _ _ h1, unPos_inv _ _ h2]; exact rFar_ok hl _
      · cases h
    · cases h
  · cases h
theorem rzo_tab : ∀ vs v, Tzo vs = some v → PCall Try.prog 27 vs v := by
  intro vs v h; unfold Tzo at h; split at h
  · split at h
    · rename_i h1 h2
      split at h
      · rename_i hl; cases h; rw [unStn_inv _ _ h1, unPos_inv _ _ h2]; exact rZones_ok hl
      · cases h
    · cases h
  · cases h
theorem rgps_tab : ∀ vs v, Tgps vs = some v → PCall Try.prog 39 vs v := by
  intro vs v h; unfold Tgps at h; split at h
  · split at h
    · rename_i h1 h2
      split at h
      · rename_i hl; cases h; rw [unStn_inv _ _ h1, unPos_inv _ _ h2]; exact rGroups_ok hl
      · cases h
    · cases h
  · cases h
theorem rsd2_tab : ∀ vs v, TSd vs = some v → PCall Try.prog 36 vs v := by
  intro vs v h; unfold TSd at h; split at h
  · split at h
    · rename_i h1 h2
      split at h
      · rename_i hl
        split at h
        · rename_i S hS
          cases h
          rw [unStn_inv _ _ h1, unPos_inv _ _ h2]
          exact rSides_ok hl _ _ hS
        · cases h
      · cases h
    · cases h
  · cases h
def H3 : Tab := add 35 TSd (add 36 TSd (add 37 Tfar (add 38 Tfar (add 27 Tzo (add 39 Tgps (add 28 TsamI (add 40 TsamZ (H1))))))))
theorem H3_at (f : FuncId) (vs : List V) : H3.at' f vs = if f = 35 then TSd vs else if f = 36 then TSd vs else if f = 37 then Tfar vs else if f = 38 then Tfar vs else if f = 27 then Tzo vs else if f = 39 then Tgps vs else if f = 28 then TsamI vs else if f = 40 then TsamZ vs else H1.at' f vs := rfl
theorem H3_fr (f : FuncId) : H3.fr f = if f = 35 then false else if f = 36 then false else if f = 37 then false else if f = 38 then false else if f = 27 then false else if f = 39 then false else if f = 28 then false else if f = 40 then false else H1.fr f := rfl
theorem H3_gb (f : FuncId) : H3.gb f = H1.gb f := rfl
theorem H3_gv (f : FuncId) (vs : List V) : H3.gv f vs = H1.gv f vs := rfl
attribute [simp] H3_at H3_fr H3_gb H3_gv TSd Tfar Tgps TsamI TsamZ Tzo
theorem H3_ok : TabOK Try.prog H3 := by
  refine add_ok (add_ok (add_ok (add_ok (add_ok (add_ok (add_ok (add_ok (H1_ok) (by kernel_rfl) ?_) (by kernel_rfl) ?_) (by kernel_rfl) ?_) (by kernel_rfl) ?_) (by kernel_rfl) ?_) (by kernel_rfl) ?_) (by kernel_rfl) ?_) (by kernel_rfl) ?_
  · exact samZ_tab
  · exact samI_tab
  · exact rgps_tab
  · exact rzo_tab
  · exact rfar_tab
  · exact far_tab
  · exact rsd2_tab
  · exact Sd_tab
attribute [-simp] TsamI TsamZ Tfar TSd Tzo Tgps
attribute [simp] TsamI_at TsamZ_at Tfar_at
theorem sidF_ex {s : Stn} {p : Pos} (h : okP s p = true) (i : Int) : ∃ a0 a1 c0 c1, sidF s p (grp s p) i = some [a0, a1, c0, c1] := by
  by_cases hi : 0 ≤ i ∧ i < s.qs.length
  · obtain ⟨k, rfl⟩ := Int.eq_ofNat_of_zero_le hi.1
    obtain ⟨a0, a1, c0, c1, hS, -⟩ := sid_nodes h (i := k) (by omega)
    exact ⟨a0, a1, c0, c1, hS⟩
  · exact ⟨0, 0, 0, 0, by rw [sidF, if_pos (wfg_of h), if_neg hi]⟩
theorem zones_ok {s : Stn} {p : Pos} (h1 : lkB s = true) (h2 : lenB s p = true) (bay : Int) : PCall Try.prog 11 [.agg s.cs, .agg p.cs, .int .i64 bay] (.bool true) := by
  have hTf := Tfn_at h1 h2
  cases hf : fineF s p
  · rw [hf] at hTf
    clear h1 h2
    refine pcall_cx H3_ok mixed (fun _ => none) Try.func11 rfl Try.ntmps11 Try.results11 (by simp) (by kernel_rfl) ?_
    repeat' first
      | (with_reducible refine gw_bool (fun _ => ?_) (fun _ => ?_))
      | (with_reducible refine condw_bool (fun _ => ?_) (fun _ => ?_))
      | simp [*, Stn.cs, Pos.cs]
  rw [hf] at hTf
  have hok : okP s p = true := by simp only [fineF, Bool.and_eq_true] at hf; exact hf.2
  have hTz := Tzo_at hok
  have hm2 := zon_len hok
  generalize zonF s p = L at hTz hm2
  have hLl : L.length ≤ 1000000 := by omega
  have hTg := Tgps_at hok
  have hgl : (grp s p).length ≤ 1000000 := by rw [grp_len]; have := (fine_of (okP_iff hok).1).nb; omega
  obtain ⟨a0, a1, c0, c1, hS⟩ := sidF_ex hok bay
  have hTs := TSd_at hok hS
  have hTr := Tfar_at (i := bay) hok
  generalize farF s bay = X at hTr
  obtain ⟨x0, x1⟩ := X
  simp only [farW] at hTr
  generalize grp s p = G at hTg hgl
  simp only [List.map_cons, List.map_nil] at hTs
  clear h1 h2 hf hok hS
  cases x1
  · refine pcall_cx H3_ok mixed (fun _ => none) Try.func11 rfl Try.ntmps11 Try.results11 (by simp) (by kernel_rfl) ?_
    repeat' first
      | (with_reducible refine gw_bool (fun _ => ?_) (fun _ => ?_))
      | (with_reducible refine condw_bool (fun _ => ?_) (fun _ => ?_))
      | (refine lp_unroll (D := (fun _ => none)) H3_ok mixed (by kernel_rfl) ?_)
      | simp [*, Stn.cs, Pos.cs, setsV]
  · refine pcall_cx H3_ok mixed (fun _ => none) Try.func11 rfl Try.ntmps11 Try.results11 (by simp) (by kernel_rfl) ?_
    repeat' first
      | (with_reducible refine gw_bool (fun _ => ?_) (fun _ => ?_))
      | (with_reducible refine condw_bool (fun _ => ?_) (fun _ => ?_))
      | (refine lp_unroll (D := (fun _ => none)) H3_ok mixed (by kernel_rfl) ?_)
      | simp [*, Stn.cs, Pos.cs, setsV]
end Go.Proofs.Ytcbddoopmkhlfaa
end
section
namespace Go.Proofs.Ytcbddoopmkhlfaa.topologyZonesDone
open Go.Pv Go.ChangeShapes Go.WideShapes Go.ChangeAt Go.RowKit
set_option linter.unusedVariables false

theorem law : ∀ us, HasAll [.struct [.str, .slice .str, .slice (.struct [.str, .struct [.int .i64, .int .i64], .struct [.int .i64, .int .i64]]), .slice (.struct [.str, .int .i64, .struct [.int .i64, .int .i64], .struct [.int .i64, .int .i64]]), .slice (.struct [.str, .int .i64, .int .i64, .int .i64, .struct [.int .i64, .int .i64], .slice (.struct [.int .i64, .int .i64]), .bool, .int .i64, .int .i64, .int .i64, .int .i64])], .struct [.slice .bool, .slice (.slice (.int .i64))], .int .i64] us → PCall Try.prog 11 us (.bool true) := by
  rintro us ⟨a, _, rfl, ha, b, _, rfl, hb, c, _, rfl, hc, rfl⟩
  obtain ⟨s, rfl, h1, _, hlk⟩ := has_stnL ha
  obtain ⟨p, rfl, h2, _⟩ := has_pos hb
  obtain ⟨x, rfl, -⟩ := has_int hc
  have hm : maxLen = 9223372036854775807 := by decide
  rw [hm] at h1 h2
  refine zones_ok hlk ?_ x
  simp only [lenB, Bool.and_eq_true, decide_eq_true_eq, List.all_eq_true]
  exact ⟨h1, h2⟩

theorem own : ownKnob Try.prog.godebug = none := by kernel_rfl
theorem laidOut : laidOutB Try.prog = true := by kernel_rfl
theorem spec_at (H : Type) : ∀ ds : List (DataW H), ds.length = 3 → Rows.topologyZonesSpec.fn H ds = { results := [.lit (.bool true)], args := ds } := by
  intro ds h
  rcases ds with _ | ⟨d0, _ | ⟨d1, _ | ⟨d2, _ | ⟨e, r⟩⟩⟩⟩
  all_goals first | rfl | (simp at h; done) | (simp at h; omega)

set_option maxRecDepth 100000 in
theorem lifted (os : Os) (started : os.Started) (H : Type) (enc : TypeId × Value → H) :
    ReturnsInHanded {} Try.checked os 11 .any (Rows.topologyZonesSpec.pre6 enc Try.prog Try.f11 Rows.topologyZonesRow.domain false) (Rows.topologyZonesSpec.post enc Try.prog Try.f11 false true false false) :=
  lift (C := Try.checked) (m := 9) own laidOut started (by kernel_rfl) Try.func11
    (ChangeSpec.witness6 (enc := enc) (C := Try.checked) false ⟨#[], #[.agg #[.string ⟨#[]⟩, .slice none 0 0, .slice none 0 0, .slice none 0 0, .slice none 0 0], .agg #[.slice none 0 0, .slice none 0 0], .int .i64 0], []⟩ 8 (by kernel_rfl) (by kernel_rfl) (by kernel_rfl) (by kernel_rfl))
    Try.params11 (by kernel_rfl) Try.underlying4 rfl (by kernel_rfl) (by kernel_rfl) (spec_at H) law

theorem over : Rows.topologyZonesRow.holds Try.pinned (OpenSpec.ofChange Rows.topologyZonesSpec) :=
  OpenClaim.holds_of_wide 11 Try.f11 rfl rfl rfl rfl rfl rfl rfl ⟨rfl, rfl, rfl, rfl, rfl⟩ rfl rfl rfl rfl rfl (by kernel_rfl) Try.func11 (by kernel_rfl)
    (of_decide_eq_true (by kernel_rfl)) (by unfold Func.isWrapper; first | (rw [if_pos (by decide +kernel)]; kernel_rfl) | (rw [if_neg (by decide +kernel)]; exact ⟨rfl, rfl⟩))
    (fun os started H enc _ => lifted os started H enc)

theorem proved : Rows.TopologyZonesSaid := over
end Go.Proofs.Ytcbddoopmkhlfaa.topologyZonesDone
end
