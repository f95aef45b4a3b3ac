/-
  The document's sides, nodes and boundaries.
-/
import Derived.Test.YtcbddoopmkhlfaaSt24
namespace Go.Proofs.Ytcbddoopmkhlfaa
open Go.Pv Go.RowKit
set_option linter.unusedSimpArgs false
set_option linter.unusedVariables false
set_option maxRecDepth 100000
set_option maxHeartbeats 4000000
attribute [-simp] Tclo_at Tgrp_at Tchk Tpchk TcI TcB Tclo Tgrp Tsid Tnod Tlook Tbnd Tidx Tnms Tnmd Tobj Tlks Tbay Trck Trpc Tres TSd TBd

/-! ### what a valid diagram's bays are -/
theorem erQ_of {s : Stn} (h : chkF s = 0) : erQ s = 0 := by
  unfold chkF at h
  split at h
  · split at h
    · cases h
    · exact h
  · cases h
theorem bay_zero {s : Stn} (h : chkF s = 0) {i : Nat} {b : By} (hb : s.qs[i]? = some b) : byE (SQ s i) b = 0 := by
  have h1 := (nx_zero (erQ_of h)).2
  have := firstN_zero h1 i (List.getElem?_eq_some_iff.1 hb).1
  simpa [eQ, hb] using this
theorem obj_zero {s : Stn} (h : chkF s = 0) {i : Nat} {b : By} (hb : s.qs[i]? = some b) : objE s.ls.length s.ss.length b = 0 := by
  have h0 := bay_zero h hb
  rw [byE_of] at h0
  split at h0
  · rw [byE1_of] at h0
    split at h0
    · rename_i h1; exact h1
    · rename_i h1; exact (h1 h0).elim
  · rename_i h1; exact (h1 h0).elim
theorem kind_of {s : Stn} (h : chkF s = 0) {i : Nat} {b : By} (hb : s.qs[i]? = some b) : ieq b.kind 1 = true ∨ (ieq b.kind 1 = false ∧ ieq b.kind 2 = true) ∨ (ieq b.kind 1 = false ∧ ieq b.kind 2 = false ∧ ieq b.kind 3 = true) := by
  have h0 := obj_zero h hb
  unfold objE cntF at h0
  cases h1 : ieq b.kind 1
  · cases h2 : ieq b.kind 2
    · cases h3 : ieq b.kind 3
      · simp [h1, h2, h3] at h0
      · exact .inr (.inr ⟨rfl, rfl, rfl⟩)
    · exact .inr (.inl ⟨rfl, rfl⟩)
  · exact .inl rfl
/-! ### sides -/
def Trg : List V → Option V
  | [.agg a, .agg b] => (match unStn a, unPos b with
    | some s, some p => if okP s p = true then some (.list 1 ((grp s p).map i1)) else none
    | _, _ => none)
  | _ => none
theorem Trg_at {s : Stn} {p : Pos} (h : okP s p = true) : Trg [.agg [.str s.nm, .list 1 (s.bs.map s1), .list 5 (s.ls.map Ln.cs), .list 6 (s.ss.map Sr.cs), .list 12 (s.qs.map By.cs)], .agg [.list 1 (p.cl.map b1), .list 1 (p.lk.map r1)]] = some (.list 1 ((grp s p).map i1)) := by
  have e1 := unStn_cs s
  have e2 := unPos_cs p
  unfold Stn.cs at e1
  unfold Pos.cs at e2
  simp [Trg, e1, e2, h]
theorem rg_tab : ∀ vs v, Trg vs = some v → PCall Try.prog 61 vs v := by
  intro vs v h; unfold Trg at h; split at h
  · split at h
    · rename_i h1 h2
      split at h
      · rename_i hl
        cases h
        rw [unStn_inv _ _ h1, unPos_inv _ _ h2]
        obtain ⟨a, b⟩ := okP_iff hl
        exact rgroups_ok a b
      · cases h
    · cases h
  · cases h
def Trf : List V → Option V
  | [.agg a, .agg b] => (match unStn a, unPos b with
    | some s, some p => if lkB s = true ∧ lenB s p = true then some (.bool (okP s p)) else none
    | _, _ => none)
  | _ => none
theorem Trf_at {s : Stn} {p : Pos} (h1 : lkB s = true) (h2 : lenB s p = true) : Trf [.agg [.str s.nm, .list 1 (s.bs.map s1), .list 5 (s.ls.map Ln.cs), .list 6 (s.ss.map Sr.cs), .list 12 (s.qs.map By.cs)], .agg [.list 1 (p.cl.map b1), .list 1 (p.lk.map r1)]] = some (.bool (okP s p)) := by
  have e1 := unStn_cs s
  have e2 := unPos_cs p
  unfold Stn.cs at e1
  unfold Pos.cs at e2
  simp [Trf, e1, e2, h1, h2]
theorem rf_tab : ∀ vs v, Trf vs = some v → PCall Try.prog 53 vs v := by
  intro vs v h; unfold Trf at h; split at h
  · split at h
    · rename_i h1 h2
      split at h
      · rename_i hl
        cases h
        rw [unStn_inv _ _ h1, unPos_inv _ _ h2]
        exact rfine_ok hl.1 hl.2
      · cases h
    · cases h
  · cases h
def E9 : Tab := add 61 Trg (add 53 Trf (E8))
theorem E9_at (f : FuncId) (vs : List V) : E9.at' f vs = if f = 61 then Trg vs else if f = 53 then Trf vs else E8.at' f vs := rfl
theorem E9_fr (f : FuncId) : E9.fr f = if f = 61 then false else if f = 53 then false else E8.fr f := rfl
theorem E9_gb (f : FuncId) : E9.gb f = E8.gb f := rfl
theorem E9_gv (f : FuncId) (vs : List V) : E9.gv f vs = E8.gv f vs := rfl
attribute [simp] E9_at E9_fr E9_gb E9_gv Trf Trg
theorem E9_ok : TabOK Try.prog E9 := by
  refine add_ok (add_ok (E8_ok) (by kernel_rfl) ?_) (by kernel_rfl) ?_
  · exact rf_tab
  · exact rg_tab
attribute [-simp] Trg Trf
attribute [simp] Trg_at Trf_at
theorem lkB_of {s : Stn} (h : chkF s = 0) : lkB s = true := by
  have hF := fine_of h
  exact List.all_eq_true.2 fun b hb => by
    have := (hF.lk b hb).2.2.2
    simp; omega
theorem lenB_ok {s : Stn} {p : Pos} (h : okP s p = true) : lenB s p = true := by
  obtain ⟨a, b⟩ := okP_iff h
  exact lenB_of (fine_of a) (pfine_of b)
theorem rsides_in {s : Stn} {p : Pos} (h : okP s p = true) (i : Nat) (b : By) (l : List Int) (hb : s.qs[i]? = some b) (hl : p.lk[i]? = some l) : PCall Try.prog 56 [.agg s.cs, .agg p.cs, .int .i64 i] (.agg ((sid (grp s p) b l).map (V.int .i64))) := by
  obtain ⟨c1, c2⟩ := okP_iff h
  have hF := fine_of c1
  have hP := pfine_of c2
  obtain ⟨hi, hb'⟩ := get_of hb
  obtain ⟨hi2, hl'⟩ := get_of hl
  obtain ⟨hll, -⟩ := hP.row i b l hb hl
  obtain ⟨hbus, hk2, hb1, hb2⟩ := hF.lk b (List.mem_of_getElem? hb)
  have hgl : (grp s p).length = s.bs.length := by rw [grp, grpN_len]
  rw [← hgl] at hbus
  have hkd := kind_of c1 hb
  clear c1 c2 hF hP
  obtain ⟨n, hn⟩ : ∃ n, s.qs.length = n := ⟨_, rfl⟩
  obtain ⟨n2, hn2⟩ : ∃ n, p.lk.length = n := ⟨_, rfl⟩
  rw [hn] at hi
  rw [hn2] at hi2
  have hTg := Trg_at h
  generalize hG : grp s p = G at hbus hTg hgl
  clear hgl hG h
  obtain ⟨ng, hng⟩ : ∃ n, G.length = n := ⟨_, rfl⟩
  rw [hng] at hbus
  have hGi : ∀ x : Int, 0 ≤ x ∧ x < ng → ∃ (u : Nat) (g : Int), x = u ∧ u < ng ∧ (∀ h : u < G.length, G[u] = g) ∧ g0 G (u : Int) = g := fun x hx => by
    obtain ⟨u, rfl⟩ := Int.eq_ofNat_of_zero_le hx.1
    have hu : u < G.length := by omega
    refine ⟨u, G[u], rfl, by omega, fun _ => rfl, ?_⟩
    simp [g0, gAt, hu]
  cases h3 : ieq b.kind 3
  · have hs : sid G b l = [(fstN G ((b.lks.zip l).find? hit)).1, (fstN G ((b.lks.zip l).find? hit)).2, if ieq b.kind 1 = true then 2 else 3, b.ob] := by simp [sid, h3]
    rw [hs]
    clear hs
    have hk12 : ieq b.kind 2 = !ieq b.kind 1 := by
      rcases hkd with h1 | ⟨h1, h2⟩ | ⟨_, _, h4⟩
      · rw [h1]; have := ieq_iff.1 h1; rw [this]; rfl
      · rw [h1, h2]; rfl
      · rw [h3] at h4; cases h4
    clear hkd hk2
    obtain ⟨lks, hlk⟩ : ∃ lks, b.lks = lks := ⟨_, rfl⟩
    rw [hlk] at hll hbus hb1 hb2 ⊢
    match lks, hb1, hb2 with
    | [a], _, _ =>
      match l, hll with
      | [x], _ =>
        obtain ⟨u, gu, ha, hu, hGu, hg0⟩ := hGi _ (hbus a (by simp))
        clear hGi hbus
        have hcu : (u : Int) < (ng : Int) := by omega
        cases k1 : ieq b.kind 1 <;> cases hx : ieq x 1
        all_goals rw [k1] at hk12
        all_goals simp only [Bool.not_false, Bool.not_true] at hk12
        all_goals
          refine pcall_cx E9_ok mixed (fun _ => none) Try.func56 rfl Try.ntmps56 Try.results56 (by simp) (by kernel_rfl) ?_
        all_goals
          repeat' first
            | (with_reducible refine gw_bool (fun _ => ?_) (fun _ => ?_))
            | (with_reducible refine condw_bool (fun _ => ?_) (fun _ => ?_))
            | (refine lp_unroll (D := (fun _ => none)) E9_ok mixed (by kernel_rfl) ?_)
            | simp [*, Stn.cs, Pos.cs, By.cs, Lk.cs, r1, i1, hit, fstN, setsV]
    | [a, c], _, _ =>
      match l, hll with
      | [x, y], _ =>
        obtain ⟨u, gu, ha, hu, hGu, hg0⟩ := hGi _ (hbus a (by simp))
        obtain ⟨v, gv, hc, hv, hGv, hg1⟩ := hGi _ (hbus c (by simp))
        clear hGi hbus
        have hcu : (u : Int) < (ng : Int) := by omega
        have hcv : (v : Int) < (ng : Int) := by omega
        cases k1 : ieq b.kind 1 <;> cases hx : ieq x 1 <;> cases hy : ieq y 1
        all_goals rw [k1] at hk12
        all_goals simp only [Bool.not_false, Bool.not_true] at hk12
        all_goals
          refine pcall_cx E9_ok mixed (fun _ => none) Try.func56 rfl Try.ntmps56 Try.results56 (by simp) (by kernel_rfl) ?_
        all_goals
          repeat' first
            | (with_reducible refine gw_bool (fun _ => ?_) (fun _ => ?_))
            | (with_reducible refine condw_bool (fun _ => ?_) (fun _ => ?_))
            | (refine lp_unroll (D := (fun _ => none)) E9_ok mixed (by kernel_rfl) ?_)
            | simp [*, Stn.cs, Pos.cs, By.cs, Lk.cs, r1, i1, hit, fstN, setsV]
  · have hk2' := hk2 h3
    clear hkd hk2
    obtain ⟨lks, hlk⟩ : ∃ lks, b.lks = lks := ⟨_, rfl⟩
    rw [hlk] at hk2' hbus
    match lks, hk2' with
    | [a, c], _ =>
      obtain ⟨u, gu, ha, hu, hGu, hg0⟩ := hGi _ (hbus a (by simp))
      obtain ⟨v, gv, hc, hv, hGv, hg1⟩ := hGi _ (hbus c (by simp))
      clear hGi hbus
      have hcu : (u : Int) < (ng : Int) := by omega
      have hcv : (v : Int) < (ng : Int) := by omega
      have hs : sid G b l = [1, gu, 1, gv] := by simp [sid, h3, hlk, ha, hc, hg0, hg1]
      rw [hs]
      clear hs
      refine pcall_cx E9_ok mixed (fun _ => none) Try.func56 rfl Try.ntmps56 Try.results56 (by simp) (by kernel_rfl) ?_
      repeat' first
        | (with_reducible refine gw_bool (fun _ => ?_) (fun _ => ?_))
        | (with_reducible refine condw_bool (fun _ => ?_) (fun _ => ?_))
        | simp [*, Stn.cs, Pos.cs, By.cs, Lk.cs, i1]
/-! ### nodes -/
def nodA : Option (Int × Int) → V
  | some x => .agg [.int .i64 x.1, .int .i64 x.2]
  | none => .agg [.int .i64 0, .int .i64 0]
theorem rnode_ok {s : Stn} {p : Pos} (h : okP s p = true) (k o : Int) : PCall Try.prog 55 [.agg s.cs, .agg p.cs, .agg [.int .i64 k, .int .i64 o]] (nodA (nodF s (grp s p) k o)) := by
  obtain ⟨nb, hnb⟩ : ∃ n, s.bs.length = n := ⟨_, rfl⟩
  obtain ⟨nl, hnl⟩ : ∃ n, s.ls.length = n := ⟨_, rfl⟩
  have hgl : (grp s p).length = nb := by rw [grp, grpN_len]; exact hnb
  have hTg := Trg_at h
  generalize hG : grp s p = G at hTg hgl ⊢
  clear hG h
  obtain ⟨N, hN⟩ : ∃ N, nodF s G k o = N := ⟨_, rfl⟩
  rw [hN]
  unfold nodF at hN
  rw [hnb, hnl] at hN
  cases k1 : ieq k 1
  · rw [k1] at hN
    cases k2 : ieq k 2
    · have hN' : N = none := by rw [← hN]; simp [k2]
      clear hN
      refine pcall_cx E9_ok mixed (fun _ => none) Try.func55 rfl Try.ntmps55 Try.results55 (by simp) (by kernel_rfl) ?_
      repeat' first
        | (with_reducible refine gw_bool (fun _ => ?_) (fun _ => ?_))
        | (with_reducible refine condw_bool (fun _ => ?_) (fun _ => ?_))
        | simp [*, Stn.cs, Pos.cs, nodA]
    · cases o0 : ilt o 0
      · cases o1 : ilt o nl
        · have hN' : N = none := by rw [← hN]; simp [k2, o0, o1]
          clear hN
          refine pcall_cx E9_ok mixed (fun _ => none) Try.func55 rfl Try.ntmps55 Try.results55 (by simp) (by kernel_rfl) ?_
          repeat' first
            | (with_reducible refine gw_bool (fun _ => ?_) (fun _ => ?_))
            | (with_reducible refine condw_bool (fun _ => ?_) (fun _ => ?_))
            | simp [*, Stn.cs, Pos.cs, nodA]
        · have hN' : N = some (2, o) := by rw [← hN]; simp [k2, o0, o1]
          clear hN
          refine pcall_cx E9_ok mixed (fun _ => none) Try.func55 rfl Try.ntmps55 Try.results55 (by simp) (by kernel_rfl) ?_
          repeat' first
            | (with_reducible refine gw_bool (fun _ => ?_) (fun _ => ?_))
            | (with_reducible refine condw_bool (fun _ => ?_) (fun _ => ?_))
            | simp [*, Stn.cs, Pos.cs, nodA]
      · have hN' : N = none := by rw [← hN]; simp [k2, o0]
        clear hN
        refine pcall_cx E9_ok mixed (fun _ => none) Try.func55 rfl Try.ntmps55 Try.results55 (by simp) (by kernel_rfl) ?_
        repeat' first
          | (with_reducible refine gw_bool (fun _ => ?_) (fun _ => ?_))
          | (with_reducible refine condw_bool (fun _ => ?_) (fun _ => ?_))
          | simp [*, Stn.cs, Pos.cs, nodA]
  · have k2 : ieq k 2 = false := by
      have : k = 1 := by simpa [ieq] using k1
      subst this; decide
    cases o0 : ilt o 0
    · cases o1 : ilt o nb
      · have hN' : N = none := by rw [← hN]; simp [k1, k2, o0, o1]
        clear hN
        refine pcall_cx E9_ok mixed (fun _ => none) Try.func55 rfl Try.ntmps55 Try.results55 (by simp) (by kernel_rfl) ?_
        repeat' first
          | (with_reducible refine gw_bool (fun _ => ?_) (fun _ => ?_))
          | (with_reducible refine condw_bool (fun _ => ?_) (fun _ => ?_))
          | simp [*, Stn.cs, Pos.cs, nodA]
      · have a0 := ilt_iff'.1 o0
        have a1 := ilt_iff.1 o1
        obtain ⟨u, rfl⟩ := Int.eq_ofNat_of_zero_le (show 0 ≤ o by omega)
        have hu : u < G.length := by omega
        obtain ⟨gx, hgx⟩ : ∃ gx, G[u] = gx := ⟨_, rfl⟩
        have hN' : N = some (1, gx) := by
          rw [← hN]; simp only [o0, o1, k1]; simp [g0, gAt, hu, hgx]
        clear hN
        have hcu : (u : Int) < (nb : Int) := by omega
        have hub : u < nb := by omega
        refine pcall_cx E9_ok mixed (fun _ => none) Try.func55 rfl Try.ntmps55 Try.results55 (by simp) (by kernel_rfl) ?_
        repeat' first
          | (with_reducible refine gw_bool (fun _ => ?_) (fun _ => ?_))
          | (with_reducible refine condw_bool (fun _ => ?_) (fun _ => ?_))
          | simp [*, Stn.cs, Pos.cs, nodA, i1]
    · have hN' : N = none := by rw [← hN]; simp [k1, k2, o0]
      clear hN
      refine pcall_cx E9_ok mixed (fun _ => none) Try.func55 rfl Try.ntmps55 Try.results55 (by simp) (by kernel_rfl) ?_
      repeat' first
        | (with_reducible refine gw_bool (fun _ => ?_) (fun _ => ?_))
        | (with_reducible refine condw_bool (fun _ => ?_) (fun _ => ?_))
        | simp [*, Stn.cs, Pos.cs, nodA]
end Go.Proofs.Ytcbddoopmkhlfaa
