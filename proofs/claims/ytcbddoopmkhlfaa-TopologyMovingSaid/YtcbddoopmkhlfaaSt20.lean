/-
  The document's diagrams: a bay, and the whole check.
-/
import Derived.Test.YtcbddoopmkhlfaaSt19
namespace Go.Proofs.Ytcbddoopmkhlfaa
open Go.Pv Go.RowKit
set_option linter.unusedSimpArgs false
set_option linter.unusedVariables false
set_option maxRecDepth 100000
set_option maxHeartbeats 4000000
attribute [-simp] Tclo_at Tgrp_at Tchk Tpchk TcI TcB Tclo Tgrp Tsid Tnod Tlook Tbnd Tidx Tnms Tnmd

def Tobj : List V → Option V
  | [.agg a, .agg c] => (match unStn a, unBy c with
    | some s, some b => if s.ls.length ≤ 1000 ∧ s.ss.length ≤ 1000 then some (.int .i64 (objE s.ls.length s.ss.length b)) else none
    | _, _ => none)
  | _ => none
theorem Tobj_at {s : Stn} {b : By} (h1 : s.ls.length ≤ 1000) (h2 : s.ss.length ≤ 1000) : Tobj [.agg [.str s.nm, .list 1 (s.bs.map s1), .list 5 (s.ls.map Ln.cs), .list 6 (s.ss.map Sr.cs), .list 12 (s.qs.map By.cs)], .agg [.str b.nm, .int .i64 b.kind, .int .i64 b.ob, .int .i64 b.en, .int .i64 b.zr, .int .i64 b.zx, .list 2 (b.lks.map Lk.cs), .bool b.cl, .int .i64 b.ct, .int .i64 b.vt, .int .i64 b.sat, .int .i64 b.tr]] = some (.int .i64 (objE s.ls.length s.ss.length b)) := by
  have e1 := unStn_cs s
  unfold Stn.cs at e1
  have e2 := unBy_cs b
  unfold By.cs at e2
  simp only [Tobj, e1, e2]
  exact if_pos ⟨h1, h2⟩
theorem obj_tab : ∀ vs v, Tobj vs = some v → PCall Try.prog 95 vs v := by
  intro vs v h; unfold Tobj at h; split at h
  · split at h
    · rename_i h1 h2
      split at h
      · rename_i hl; cases h; rw [unStn_inv _ _ h1, unBy_inv _ _ h2]; exact robject_ok _ _ hl.1 hl.2
      · cases h
    · cases h
  · cases h
def Tlks : List V → Option V
  | [.agg a, .agg c] => (match unStn a, unBy c with
    | some s, some b => if s.bs.length ≤ 1000 ∧ b.lks.length ≤ 9223372036854775807 then some (.int .i64 (lksE s.bs.length b.kind b.lks)) else none
    | _, _ => none)
  | _ => none
theorem Tlks_at {s : Stn} {b : By} (h1 : s.bs.length ≤ 1000) (h2 : b.lks.length ≤ 9223372036854775807) : Tlks [.agg [.str s.nm, .list 1 (s.bs.map s1), .list 5 (s.ls.map Ln.cs), .list 6 (s.ss.map Sr.cs), .list 12 (s.qs.map By.cs)], .agg [.str b.nm, .int .i64 b.kind, .int .i64 b.ob, .int .i64 b.en, .int .i64 b.zr, .int .i64 b.zx, .list 2 (b.lks.map Lk.cs), .bool b.cl, .int .i64 b.ct, .int .i64 b.vt, .int .i64 b.sat, .int .i64 b.tr]] = some (.int .i64 (lksE s.bs.length b.kind b.lks)) := by
  have e1 := unStn_cs s
  unfold Stn.cs at e1
  have e2 := unBy_cs b
  unfold By.cs at e2
  simp only [Tlks, e1, e2]
  exact if_pos ⟨h1, h2⟩
theorem lks_tab : ∀ vs v, Tlks vs = some v → PCall Try.prog 97 vs v := by
  intro vs v h; unfold Tlks at h; split at h
  · split at h
    · rename_i h1 h2
      split at h
      · rename_i hl; cases h; rw [unStn_inv _ _ h1, unBy_inv _ _ h2]; exact rlinks_ok _ _ hl.1 hl.2
      · cases h
    · cases h
  · cases h
theorem rranges_tab : ∀ vs v, Tranges vs = some v → PCall Try.prog 96 vs v := by
  intro vs v h; unfold Tranges at h; split at h
  · simp only [Option.map_eq_some_iff] at h
    obtain ⟨b, hb, rfl⟩ := h
    rw [unBy_inv _ _ hb]
    exact rranges_ok _
  · cases h
def E5 : Tab := add 95 Tobj (add 97 Tlks (add 96 Tranges (E4)))
theorem E5_at (f : FuncId) (vs : List V) : E5.at' f vs = if f = 95 then Tobj vs else if f = 97 then Tlks vs else if f = 96 then Tranges vs else E4.at' f vs := rfl
theorem E5_fr (f : FuncId) : E5.fr f = if f = 95 then false else if f = 97 then false else if f = 96 then false else E4.fr f := rfl
theorem E5_gb (f : FuncId) : E5.gb f = E4.gb f := rfl
theorem E5_gv (f : FuncId) (vs : List V) : E5.gv f vs = E4.gv f vs := rfl
attribute [simp] E5_at E5_fr E5_gb E5_gv Tlks Tobj Tranges
theorem E5_ok : TabOK Try.prog E5 := by
  refine add_ok (add_ok (add_ok (E4_ok) (by kernel_rfl) ?_) (by kernel_rfl) ?_) (by kernel_rfl) ?_
  · exact rranges_tab
  · exact lks_tab
  · exact obj_tab
attribute [-simp] Tobj Tlks
attribute [simp] Tobj_at Tlks_at
theorem byE1_of (nb nl ns : Int) (qs : List By) (b : By) : byE1 nb nl ns qs b = if objE nl ns b = 0 then (if rngF b = true then (if qs.any (cflF b) = true then 12 else lksE nb b.kind b.lks) else 2) else objE nl ns b := by
  unfold byE1 byE0 objE
  cases hc : cntF nl ns b.kind with
  | none => simp [ieq]
  | some c =>
    simp only
    cases hw : withinF b.ob 0 (IntKind.i64.wrap (c - 1))
    · simp [ieq]
    · cases hr : rngF b
      · simp [ieq]
      · cases hq : qs.any (cflF b) <;> simp [ieq]
theorem rbay_ok (s : Stn) (i : Nat) (b : By) (hb : s.qs[i]? = some b) (h1 : s.bs.length ≤ 100) (h2 : s.ls.length ≤ 100) (h3 : s.ss.length ≤ 100) (h4 : s.qs.length ≤ 100) (h5 : b.lks.length ≤ 9223372036854775807) : PCall Try.prog 82 [.agg s.cs, .int .i64 i] (.int .i64 (byE1 s.bs.length s.ls.length s.ss.length (s.qs.take i) b)) := by
  rw [byE1_of]
  obtain ⟨hi, hb'⟩ := get_of hb
  have g1 : s.bs.length ≤ 1000 := by omega
  have g2 : s.ls.length ≤ 1000 := by omega
  have g3 : s.ss.length ≤ 1000 := by omega
  have hTo := Tobj_at (b := b) g2 g3
  have hTl := Tlks_at (b := b) g1 h5
  obtain ⟨eo, heo⟩ : ∃ eo, objE s.ls.length s.ss.length b = eo := ⟨_, rfl⟩
  obtain ⟨el, hel⟩ : ∃ el, lksE s.bs.length b.kind b.lks = el := ⟨_, rfl⟩
  rw [heo] at hTo ⊢
  rw [hel] at hTl ⊢
  obtain ⟨nq, hnq⟩ : ∃ n, s.qs.length = n := ⟨_, rfl⟩
  clear heo hel g1 g2 g3
  cases h0 : ieq eo 0
  · have : ¬ (eo = 0) := ieq_iff'.1 h0
    rw [if_neg this]
    clear this
    refine pcall_cx E5_ok mixed (fun _ => none) Try.func82 rfl Try.ntmps82 Try.results82 (by simp) (by kernel_rfl) ?_
    repeat' first
      | (with_reducible refine gw_bool (fun _ => ?_) (fun _ => ?_))
      | (with_reducible refine condw_bool (fun _ => ?_) (fun _ => ?_))
      | simp [*, Stn.cs, By.cs]
  have e0 : eo = 0 := ieq_iff.1 h0
  rw [if_pos e0]
  clear e0
  cases hr : rngF b
  · rw [if_neg (by simp)]
    refine pcall_cx E5_ok mixed (fun _ => none) Try.func82 rfl Try.ntmps82 Try.results82 (by simp) (by kernel_rfl) ?_
    repeat' first
      | (with_reducible refine gw_bool (fun _ => ?_) (fun _ => ?_))
      | (with_reducible refine condw_bool (fun _ => ?_) (fun _ => ?_))
      | simp [*, Stn.cs, By.cs]
  rw [if_pos rfl]
  have hcf : ∀ y : By, (ieq y.kind b.kind && (ieq y.ob b.ob && ieq y.en b.en)) = (ieq b.kind y.kind && (ieq b.ob y.ob && ieq b.en y.en)) := fun y => by rw [ieq_comm y.kind, ieq_comm y.ob, ieq_comm y.en]
  obtain ⟨R, hR⟩ : ∃ R, (if (s.qs.take i).any (cflF b) = true then 12 else el) = R := ⟨_, rfl⟩
  rw [hR]
  have hR1 : (s.qs.take i).any (cflF b) = true → R = 12 := fun h => by rw [← hR, if_pos h]
  have hR2 : (s.qs.take i).any (cflF b) = false → R = el := fun h => by rw [← hR, if_neg (by rw [h]; simp)]
  clear hR
  cases k3 : ieq b.kind 3
  · have hcfl : ∀ y : By, cflF b y = (ieq y.kind b.kind && (ieq y.ob b.ob && ieq y.en b.en)) := fun y => by rw [cflF, k3, hcf]; rfl
    replace hcfl : Hid (∀ y : By, cflF b y = (ieq y.kind b.kind && (ieq y.ob b.ob && ieq y.en b.en))) := hcfl
    replace hR1 : Hid ((s.qs.take i).any (cflF b) = true → R = 12) := hR1
    replace hR2 : Hid ((s.qs.take i).any (cflF b) = false → R = el) := hR2
    clear hcf
    refine pcall_cx E5_ok mixed (fun _ => none) Try.func82 rfl Try.ntmps82 Try.results82 (by simp) (by kernel_rfl) ?_
    repeat' first
      | (with_reducible refine gw_bool (fun _ => ?_) (fun _ => ?_))
      | (with_reducible refine condw_bool (fun _ => ?_) (fun _ => ?_))
      | simp [*, Stn.cs, By.cs]
    refine lp_go (D := (fun _ => none)) E5_ok mixed (by kernel_rfl) [1, 2, 5] [2, 5] (α := Nat) (fun k e h => k ≤ i ∧ e 7 = .int .i64 k ∧ Hid ((s.qs.take k).any (cflF b) = false)) (fun k => i - k) 0 ?_ ?_
    · exact ⟨by omega, by simp, show _ = _ by simp⟩
    rintro k e h hk hkh ⟨hki, g7, hinv⟩
    simp [Keep] at hk
    simp [KeepH] at hkh
    by_cases hlt : k < i
    · obtain ⟨y, hy, hy'⟩ := at_ex (l := s.qs) (i := k) (by omega)
      have f1 : ilt (k : Int) (i : Int) = true := ilt_t (by omega)
      have w1 : IntKind.i64.wrap ((k : Int) + 1) = ((k + 1 : Nat) : Int) := wrap_succ (by omega)
      have hkn : k < nq := by omega
      have hnext : (s.qs.take (k + 1)).any (cflF b) = cflF b y := by
        rw [take_snoc hy, List.any_append, hinv.out]; simp
      have hcy := hcfl.out y
      cases q1 : ieq y.kind b.kind <;> cases q2 : ieq y.ob b.ob <;> cases q3 : ieq y.en b.en
      all_goals rw [q1, q2, q3] at hcy
      all_goals simp only [Bool.false_and, Bool.and_false, Bool.and_true, Bool.true_and] at hcy
      all_goals rw [hcy] at hnext
      all_goals first
        | (have hq : Hid ((s.qs.take (k + 1)).any (cflF b) = false) := hnext
           clear hnext hcy hinv hcfl hR1 hR2 hTo hTl)
        | (have hRc := hR1.out (by
             rw [List.any_eq_true]
             exact ⟨y, List.mem_of_getElem? (i := k) (by rw [List.getElem?_take, if_pos hlt]; exact hy), hcy⟩)
           clear hnext hcy hinv hcfl hR1 hR2 hTo hTl
           subst hRc)
      all_goals
        repeat' first
          | (with_reducible refine gw_bool (fun _ => ?_) (fun _ => ?_))
          | (with_reducible refine condw_bool (fun _ => ?_) (fun _ => ?_))
          | simp [*, By.cs]
      all_goals refine nxt_go (k + 1) (View.refl _ _) (by omega) (by simp [*, Keep, St.forget, scr, scrC]) (by simp [*, KeepH, St.forget, scr, scrC]) ?_
      all_goals exact ⟨by omega, by simp [*], hq⟩
    · have f1 : ilt (k : Int) (i : Int) = false := ilt_f (by omega)
      have e1 : k = i := by omega
      have hRc := hR2.out (by rw [← e1]; exact hinv.out)
      clear hinv hcfl hR1 hR2
      subst hRc
      repeat' first
        | (with_reducible refine gw_bool (fun _ => ?_) (fun _ => ?_))
        | (with_reducible refine condw_bool (fun _ => ?_) (fun _ => ?_))
        | simp [*]
  · have hRc := hR2 (by rw [List.any_eq_false]; intro y _; simp [cflF, k3])
    clear hR1 hR2 hcf
    subst hRc
    refine pcall_cx E5_ok mixed (fun _ => none) Try.func82 rfl Try.ntmps82 Try.results82 (by simp) (by kernel_rfl) ?_
    repeat' first
      | (with_reducible refine gw_bool (fun _ => ?_) (fun _ => ?_))
      | (with_reducible refine condw_bool (fun _ => ?_) (fun _ => ?_))
      | simp [*, Stn.cs, By.cs]
    refine lp_unroll (D := (fun _ => none)) E5_ok mixed (by kernel_rfl) ?_
    cases f1 : ilt 0 (i : Int)
    · skip
      repeat' first
        | (with_reducible refine gw_bool (fun _ => ?_) (fun _ => ?_))
        | (with_reducible refine condw_bool (fun _ => ?_) (fun _ => ?_))
        | simp [*]
    · skip
      repeat' first
        | (with_reducible refine gw_bool (fun _ => ?_) (fun _ => ?_))
        | (with_reducible refine condw_bool (fun _ => ?_) (fun _ => ?_))
        | simp [*]
end Go.Proofs.Ytcbddoopmkhlfaa
