/-
  Lists of sections are equal; the laws' guards.
  The section that contains a bus: a search through a function value.
  The section that contains a bus.
  The normal position; values that are nil.
  The bus image's sanity check.
  The bus image's sanity check.
  The law of sections.
-/
import Derived.Test.YtjhmphkdkclbjaaJ6
import Derived.Test.YtjhmphkdkclbjaaJ3
section
namespace Go.Proofs.Ytjhmphkdkclbjaa
open Go.Pv Go.RowKit
set_option linter.unusedSimpArgs false
set_option linter.unusedVariables false
set_option maxRecDepth 100000
set_option maxHeartbeats 8000000
attribute [-simp] Tclo_at Tgrp_at Tchk Tpchk TcI TcB Tclo Tgrp Tsid Tnod Tlook Tbnd Tres TSd TBd Tix Tcon Tgps Tsg Tmv Tidx Tnms Tnmd Tobj Tlks Tbay Trck Trpc Trg Trf Trsd Trnd Tar

def smallSc (L : List Sc) : Bool := decide (L.length ≤ 1000) && L.all (fun x => decide (x.bu.length ≤ 1000) && decide (x.me.length ≤ 1000))
theorem sameS_ok (L : List Sc) (hL : smallSc L = true) : PCall Try.prog 14 [.list 3 (L.map Sc.cs), .list 3 (L.map Sc.cs)] (.bool true) := by
  simp only [smallSc, Bool.and_eq_true, decide_eq_true_eq, List.all_eq_true] at hL
  obtain ⟨hl, hx⟩ := hL
  obtain ⟨n, hn⟩ : ∃ n, L.length = n := ⟨_, rfl⟩
  rw [hn] at hl
  refine pcall_cx noTab_ok mixed (fun _ => none) Try.func14 rfl Try.ntmps14 Try.results14 (by simp) (by kernel_rfl) ?_
  repeat' first
    | (with_reducible refine gw_bool (fun _ => ?_) (fun _ => ?_))
    | (with_reducible refine condw_bool (fun _ => ?_) (fun _ => ?_))
    | simp [*]
  refine lp_go (D := (fun _ => none)) noTab_ok mixed (by kernel_rfl) [0, 1, 14] [] (α := Nat) (fun i e h => i ≤ n ∧ e 15 = .int .i64 i) (fun i => n - i) 0 ?_ ?_
  · exact ⟨by omega, by simp⟩
  rintro i e h hk hkh ⟨hi, g7⟩
  simp [Keep] at hk
  simp [KeepH] at hkh
  by_cases hlt : i < n
  · obtain ⟨x, hx1, hx2⟩ := at_ex (l := L) (i := i) (by omega)
    obtain ⟨hb, hm⟩ := hx x (List.mem_of_getElem? hx1)
    have f1 : ilt (i : Int) (n : Int) = true := ilt_t (by omega)
    have w1 : IntKind.i64.wrap ((i : Int) + 1) = ((i + 1 : Nat) : Int) := wrap_succ (by omega)
    obtain ⟨nb, hnb⟩ : ∃ n, x.bu.length = n := ⟨_, rfl⟩
    obtain ⟨nm, hnm⟩ : ∃ n, x.me.length = n := ⟨_, rfl⟩
    rw [hnb] at hb
    rw [hnm] at hm
    cases hmv : x.mv
    all_goals
      repeat' first
        | (with_reducible refine gw_bool (fun _ => ?_) (fun _ => ?_))
        | (with_reducible refine condw_bool (fun _ => ?_) (fun _ => ?_))
        | simp [*, Sc.cs]
    all_goals refine lp_go (D := (fun _ => none)) noTab_ok mixed (by kernel_rfl) [0, 1, 5, 14, 15, 16, 17, 18, 19, 20, 21, 22, 23, 24, 25, 26, 27, 28, 29, 30, 31, 32, 33, 34, 35, 36, 37, 38, 39, 40, 41, 42, 43, 44, 45, 46, 47, 48, 49, 50, 51, 52, 53, 54, 55, 56, 57, 58, 59, 60, 61, 62, 63, 64] [] (α := Nat) (fun k e h => k ≤ nb ∧ e 65 = .int .i64 k) (fun k => nb - k) 0 ?_ ?_
    all_goals first
      | (exact ⟨by omega, by simp⟩)
      | skip
    all_goals
      have hk0 := hk
      have hkh0 := hkh
      have g70 := g7
      clear hk hkh g7
      rintro k e h hk hkh ⟨hkn, g65⟩
      simp [Keep, hk0, hkh0, g70] at hk
      simp [KeepH, hk0, hkh0] at hkh
      by_cases hkl : k < nb
      · obtain ⟨y, hy, hy'⟩ := at_ex (l := x.bu) (i := k) (by omega)
        have f2 : ilt (k : Int) (nb : Int) = true := ilt_t (by omega)
        have w2 : IntKind.i64.wrap ((k : Int) + 1) = ((k + 1 : Nat) : Int) := wrap_succ (by omega)
        repeat' first
          | (with_reducible refine gw_bool (fun _ => ?_) (fun _ => ?_))
          | (with_reducible refine condw_bool (fun _ => ?_) (fun _ => ?_))
          | simp [*, Sc.cs, i1]
        refine nxt_go (k + 1) (View.refl _ _) (by omega) (by simp [*, Keep, St.forget, scr, scrC]) (by simp [*, KeepH, St.forget, scr, scrC]) ?_
        exact ⟨by omega, by simp [*]⟩
      · have f2 : ilt (k : Int) (nb : Int) = false := ilt_f (by omega)
        repeat' first
          | (with_reducible refine gw_bool (fun _ => ?_) (fun _ => ?_))
          | (with_reducible refine condw_bool (fun _ => ?_) (fun _ => ?_))
          | simp [*, Sc.cs]
        refine lp_go (D := (fun _ => none)) noTab_ok mixed (by kernel_rfl) [0, 1, 5, 14, 15, 90, 91] [] (α := Nat) (fun k e h => k ≤ nm ∧ e 92 = .int .i64 k) (fun k => nm - k) 0 ?_ ?_
        · exact ⟨by omega, by simp⟩
        have hk1 := hk
        clear hk hkh g65 hkl hkn
        rintro d e h hk hkh ⟨hdn, g92⟩
        simp [Keep, hk1] at hk
        simp [KeepH] at hkh
        by_cases hdl : d < nm
        · obtain ⟨y, hy, hy'⟩ := at_ex (l := x.me) (i := d) (by omega)
          have f3 : ilt (d : Int) (nm : Int) = true := ilt_t (by omega)
          have w3 : IntKind.i64.wrap ((d : Int) + 1) = ((d + 1 : Nat) : Int) := wrap_succ (by omega)
          repeat' first
            | (with_reducible refine gw_bool (fun _ => ?_) (fun _ => ?_))
            | (with_reducible refine condw_bool (fun _ => ?_) (fun _ => ?_))
            | simp [*, Sc.cs, p2]
          refine nxt_go (d + 1) (View.refl _ _) (by omega) (by simp [*, Keep, St.forget, scr, scrC]) (by simp [*, KeepH, St.forget, scr, scrC]) ?_
          exact ⟨by omega, by simp [*]⟩
        · have f3 : ilt (d : Int) (nm : Int) = false := ilt_f (by omega)
          repeat' first
            | (with_reducible refine gw_bool (fun _ => ?_) (fun _ => ?_))
            | (with_reducible refine condw_bool (fun _ => ?_) (fun _ => ?_))
            | simp [*]
          refine nxt_go (i + 1) (View.refl _ _) (by omega) (by simp [*, Keep, St.forget, scr, scrC]) (by simp [*, KeepH, St.forget, scr, scrC]) ?_
          exact ⟨by omega, by simp [*]⟩
  · have f1 : ilt (i : Int) (n : Int) = false := ilt_f (by omega)
    repeat' first
      | (with_reducible refine gw_bool (fun _ => ?_) (fun _ => ?_))
      | (with_reducible refine condw_bool (fun _ => ?_) (fun _ => ?_))
      | simp [*]
def smallF (s : Stn) (p : Pos) : Bool := !ilt 20 (s.qs.length : Int) && (!ilt 10 (s.bs.length : Int) && (!ilt 10 (s.ls.length : Int) && !ilt 20 (p.lk.length : Int)))
theorem small33_ok (s : Stn) (p : Pos) : PCall Try.prog 10 [.agg s.cs, .agg p.cs] (.bool (smallF s p)) := by
  refine pcall_cx noTab_ok mixed (fun _ => none) Try.func10 rfl Try.ntmps10 Try.results10 (by simp) (by kernel_rfl) ?_
  repeat' first
    | (with_reducible refine gw_bool (fun _ => ?_) (fun _ => ?_))
    | (with_reducible refine condw_bool (fun _ => ?_) (fun _ => ?_))
    | simp [*, Stn.cs, Pos.cs, smallF]
theorem small36_ok (s : Stn) (p : Pos) : PCall Try.prog 34 [.agg s.cs, .agg p.cs] (.bool (smallF s p)) := by
  refine pcall_cx noTab_ok mixed (fun _ => none) Try.func34 rfl Try.ntmps34 Try.results34 (by simp) (by kernel_rfl) ?_
  repeat' first
    | (with_reducible refine gw_bool (fun _ => ?_) (fun _ => ?_))
    | (with_reducible refine condw_bool (fun _ => ?_) (fun _ => ?_))
    | simp [*, Stn.cs, Pos.cs, smallF]
end Go.Proofs.Ytjhmphkdkclbjaa
end
section
namespace Go.Proofs.Ytjhmphkdkclbjaa
open Go.Pv Go.RowKit
set_option linter.unusedSimpArgs false
set_option linter.unusedVariables false
set_option maxRecDepth 100000
set_option maxHeartbeats 4000000
attribute [-simp] Tclo_at Tgrp_at Tchk Tpchk TcI TcB Tclo Tgrp Tsid Tnod Tlook Tbnd Tres TSd TBd Tix

/-! ### statements beside a block that is only read -/
def CWB (b0 : Nat) (o0 : Obj) (n : Nat) (c : Code) (Q : Exit → St → Prop) (st : St) : Prop :=
  ∀ (w0 : Base) (ro : Nat → Prop) (lam : Lam) (a : Act) (w : World), ro b0 → w.heap[b0]? = some o0 → Sim w0 n ro lam st a w →
    c.wp Try.prog (fun e a' w' => ∃ st' ro' lam', (ro' b0 ∧ w'.heap[b0]? = some o0) ∧ Q e st' ∧ Ext w0 ro ro' ∧ Sim w0 n ro' lam' st' a' w') a w
section
variable {b0 : Nat} {o0 : Obj} {n : Nat} {c x y : Code} {Q : Exit → St → Prop} {K : St → Prop} {st : St}
theorem keepB {w0 : Base} {ro ro' : Nat → Prop} {lam lam' : Lam} {st' : St} {a a' : Act} {w w' : World} (hb : ro b0) (hw : w.heap[b0]? = some o0) (hs : Sim w0 n ro lam st a w) (hs' : Sim ⟨w, ownB lam, a.defers⟩ n ro' lam' st' a' w') : w'.heap[b0]? = some o0 := by
  rw [← hw]
  refine hs'.below.block b0 (hs.rolt b0 hb) ?_
  rintro ⟨key, hk⟩
  exact (hs.ob hk).2.2 hb
theorem CWB.of_cw (h : CW Try.prog n c Q st) : CWB b0 o0 n c Q st := by
  intro w0 ro lam a w hb hw hs
  refine wp_mono (h ⟨w, ownB lam, a.defers⟩ ro lam a w hs.rebase) ?_
  rintro e a' w' ⟨st', ro', lam', hq, hx, hs'⟩
  exact ⟨st', ro', lam', ⟨hx.1 b0 hb, keepB hb hw hs hs'⟩, hq, hx.unbase hs, hs.unbase hs'⟩
theorem CWB.mono {Q' : Exit → St → Prop} (h : CWB b0 o0 n c Q st) (hq : ∀ e s, Q e s → Q' e s) : CWB b0 o0 n c Q' st :=
  fun w0 ro lam a w hb hw hs => wp_mono (h w0 ro lam a w hb hw hs) fun _ _ _ ⟨st', ro', lam', h0, h1, h2, h3⟩ => ⟨st', ro', lam', h0, hq _ _ h1, h2, h3⟩
def NxB (b0 : Nat) (o0 : Obj) (n : Nat) (c : Code) (Q : Exit → St → Prop) : Exit → St → Prop
  | .normal, st => CWB b0 o0 n c Q st
  | e, st => Q e st
theorem cwb_seq (h : CWB b0 o0 n x (NxB b0 o0 n y Q) st) : CWB b0 o0 n (.seq x y) Q st := by
  intro w0 ro lam a w hb hw hs
  refine wp_seq (wp_mono (h w0 ro lam a w hb hw hs) fun e a' w' hh => ?_)
  obtain ⟨st', ro', lam', ⟨b1, b2⟩, h1, h2, h3⟩ := hh
  cases e with
  | normal =>
    refine wp_mono (h1 w0 ro' lam' a' w' b1 b2 h3) fun e a'' w'' hh => ?_
    obtain ⟨st'', ro'', lam'', k0, k1, k2, k3⟩ := hh
    exact ⟨st'', ro'', lam'', k0, k1, h2.trans k2, k3⟩
  | _ => exact ⟨st', ro', lam', ⟨b1, b2⟩, h1, h2, h3⟩
theorem cwb_cut (hx : CWB b0 o0 n x (fun e s => e = .normal ∧ K s) st) (hy : ∀ s, K s → CWB b0 o0 n y Q s) : CWB b0 o0 n (.seq x y) Q st :=
  cwb_seq (hx.mono fun e s ⟨h1, h2⟩ => by subst h1; exact hy s h2)
theorem cwb_block {id : Nat} (h : CWB b0 o0 n c (Bk id Q) st) : CWB b0 o0 n (.block id c) Q st := by
  intro w0 ro lam a w hb hw hs
  refine wp_block (wp_mono (h w0 ro lam a w hb hw hs) fun e a' w' hh => ?_)
  obtain ⟨st', ro', lam', h0, h1, h2, h3⟩ := hh
  cases e with
  | exit id' =>
    simp only [Bk] at h1
    simp only [Exit.inBlock]
    split at h1
    · rename_i hi; rw [if_pos hi]; exact ⟨st', ro', lam', h0, h1, h2, h3⟩
    · rename_i hi; rw [if_neg hi]; exact ⟨st', ro', lam', h0, h1, h2, h3⟩
  | _ => exact ⟨st', ro', lam', h0, h1, h2, h3⟩
def LHB (b0 : Nat) (o0 : Obj) (n : Nat) (c : Code) (Q : Exit → St → Prop) (st : St) : Prop :=
  ∀ (w0 : Base) (ro : Nat → Prop) (lam : Lam) (a : Act) (w : World), ro b0 → w.heap[b0]? = some o0 → Sim w0 n ro lam st a w → ∀ (b : Frame) (kk : List Item) (cs : List Frame),
    ∃ e a' w', (∃ st' ro' lam', (ro' b0 ∧ w'.heap[b0]? = some o0) ∧ Q e st' ∧ Ext w0 ro ro' ∧ Sim w0 n ro' lam' st' a' w') ∧ Arrives Try.prog (lone (b.at a (.code c :: .inLoop c :: kk)) cs w) b kk cs e a' w'
theorem LHB.cw (h : LHB b0 o0 n c Q st) : CWB b0 o0 n (.loop c) Q st := fun w0 ro lam a w hb hw hs b kk cs =>
  let ⟨e, a', w', hq, harr⟩ := h w0 ro lam a w hb hw hs b kk cs
  ⟨e, a', w', hq, .of_steps (.one step_loop) harr⟩
def LuB (b0 : Nat) (o0 : Obj) (n : Nat) (c : Code) (Q : Exit → St → Prop) : Exit → St → Prop
  | .normal, s => LHB b0 o0 n c Q s
  | e, s => Q e s
theorem LHB.unroll (h : CWB b0 o0 n c (LuB b0 o0 n c Q) st) : LHB b0 o0 n c Q st := fun w0 ro lam a w hb hw hs b kk cs => by
  obtain ⟨e, a2, w2, ⟨s2, ro2, lam2, ⟨b1, b2⟩, hq, hext2, hs2⟩, harr⟩ := h w0 ro lam a w hb hw hs b (.inLoop c :: kk) cs
  cases e with
  | normal =>
    obtain ⟨e', a', w', ⟨s3, ro3, lam3, h0, hq', hext3, hs3⟩, harr'⟩ := hq w0 ro2 lam2 a2 w2 b1 b2 hs2 b kk cs
    exact ⟨e', a', w', ⟨s3, ro3, lam3, h0, hq', hext2.trans hext3, hs3⟩, .of_steps (Steps.trans harr (.one step_inLoop)) harr'⟩
  | exit id => exact ⟨_, a2, w2, ⟨s2, ro2, lam2, ⟨b1, b2⟩, hq, hext2, hs2⟩, .pass (x := .inLoop c) rfl (fun _ _ => .inl (by simp)) harr⟩
  | goto l => exact ⟨_, a2, w2, ⟨s2, ro2, lam2, ⟨b1, b2⟩, hq, hext2, hs2⟩, .pass (x := .inLoop c) rfl (fun _ _ => .inl (by simp)) harr⟩
  | ret => exact ⟨_, a2, w2, ⟨s2, ro2, lam2, ⟨b1, b2⟩, hq, hext2, hs2⟩, .pass (x := .inLoop c) rfl (fun _ _ => .inl (by simp)) harr⟩
  | panic ch => exact ⟨_, a2, w2, ⟨s2, ro2, lam2, ⟨b1, b2⟩, hq, hext2, hs2⟩, .pass (x := .inLoop c) rfl (fun _ _ => .inl (by simp)) harr⟩
  | outgrown => exact ⟨_, a2, w2, ⟨s2, ro2, lam2, ⟨b1, b2⟩, hq, hext2, hs2⟩, .pass (x := .inLoop c) rfl (fun _ _ => .inl (by simp)) harr⟩
theorem LHB.up (I : Nat → St → Prop) (m : Nat) (round : ∀ k s, I k s → CWB b0 o0 n c (fun e s' => (e = .normal ∧ k < m ∧ I (k + 1) s') ∨ (e ≠ .normal ∧ Q e s')) s) : ∀ (d k : Nat) (s : St), m - k = d → I k s → LHB b0 o0 n c Q s := by
  intro d
  induction d with
  | zero =>
    intro k s hd hI
    refine LHB.unroll ((round k s hI).mono fun e s' hh => ?_)
    rcases hh with ⟨_, h1, _⟩ | ⟨h1, h2⟩
    · omega
    · cases e with
      | normal => exact (h1 rfl).elim
      | _ => exact h2
  | succ d ih =>
    intro k s hd hI
    refine LHB.unroll ((round k s hI).mono fun e s' hh => ?_)
    rcases hh with ⟨rfl, h1, h2⟩ | ⟨h1, h2⟩
    · exact ih (k + 1) s' (by omega) h2
    · cases e with
      | normal => exact (h1 rfl).elim
      | _ => exact h2
theorem eg_wp {Γ : Tab} (hΓ : TabOK Try.prog Γ) {w0 : Base} {ops : Array Oper} {QQ : Exit → Act → World → Prop} {rest : List Oper} : ∀ (l' : List Oper) (st : St) (ro : Nat → Prop) (lam : Lam) (a : Act) (w : World), l'.all (fun o => fits n o.dst) = true →
    egX Try.prog Γ ops l' K st → Sim w0 n ro lam st a w → (∀ st' a' ro' lam' w', K st' → Ext w0 ro ro' → Sim w0 n ro' lam' st' a' w' → wpList Try.prog ops QQ rest a' w') → wpList Try.prog ops QQ (l' ++ rest) a w
  | [], st, ro, lam, a, w, _, h, hs, hK => hK _ _ _ _ _ h (Ext.refl _ _) hs
  | o :: l', st, ro, lam, a, w, hf, h, hs, hK => by
    simp only [List.all_cons, Bool.and_eq_true] at hf
    show if Region.wanted o (yielded ops a.tmps) then o.wp Try.prog a w (wpList Try.prog ops QQ (l' ++ rest)) QQ ∨ (o.asks Try.prog a w ∧ LetsOut QQ) else wpList Try.prog ops QQ (l' ++ rest) (a.put o.dst undef) w
    simp only [egX] at h
    cases hw : wantV ops st o.guard with
    | none => rw [hw] at h; exact h.elim
    | some b =>
      rw [hw] at h
      rw [wantV_sound hs hw]
      cases b with
      | true =>
        rw [if_pos rfl]
        exact .inl (swX_sound hΓ hs hf.1 h fun st' a' ro' lam' w' k hx hs' => eg_wp hΓ l' st' ro' lam' a' w' hf.2 k hs' fun st2 a2 ro2 lam2 w2 k e hs2 => hK st2 a2 ro2 lam2 w2 k (hx.trans e) hs2)
      | false =>
        rw [if_neg (by simp)]
        exact eg_wp hΓ l' _ ro lam _ w hf.2 h (hs.put hf.1 (.pure _ _ .undef)) hK
end
/-! ### the search -/
def atB (L : List Sc) (bus : Int) (i : Nat) : Bool := match L[i]? with
  | some x => decide (bus ∈ x.bu)
  | none => false
def atF (L : List Sc) (bus : Int) : Int := match (List.range L.length).find? (atB L bus) with
  | some i => i
  | none => -1
theorem at_hit {L : List Sc} {bus : Int} {i : Nat} (hi : i < L.length) (h : atB L bus i = true) (hb : ∀ j, j < i → atB L bus j = false) : atF L bus = i := by
  have : (List.range L.length).find? (atB L bus) = some i := by
    rw [List.find?_range_eq_some]
    exact ⟨h, by simpa using hi, fun j hj => by rw [hb j hj]; rfl⟩
  rw [atF, this]
theorem at_miss {L : List Sc} {bus : Int} (hb : ∀ j, j < L.length → atB L bus j = false) : atF L bus = -1 := by
  have : (List.range L.length).find? (atB L bus) = none := by
    rw [List.find?_range_eq_none]
    exact fun i hi => by rw [hb i hi]; rfl
  rw [atF, this]
def HF : Tab := add 58 Tcon (noTab)
theorem HF_at (f : FuncId) (vs : List V) : HF.at' f vs = if f = 58 then Tcon vs else noTab.at' f vs := rfl
theorem HF_fr (f : FuncId) : HF.fr f = if f = 58 then false else noTab.fr f := rfl
theorem HF_gb (f : FuncId) : HF.gb f = noTab.gb f := rfl
theorem HF_gv (f : FuncId) (vs : List V) : HF.gv f vs = noTab.gv f vs := rfl
attribute [simp] HF_at HF_fr HF_gb HF_gv Tcon
theorem HF_ok : TabOK Try.prog HF := by
  refine add_ok (noTab_ok) (by kernel_rfl) ?_
  · exact con_tab
attribute [-simp] Tcon
theorem at1_ok (x : Sc) (bus : Int) (h : x.bu.length ≤ 1000000) : PCall Try.prog 57 [.agg x.cs, .rp [.int .i64 bus]] (.bool (decide (bus ∈ x.bu))) := by
  have hT := Tcon_at (x := bus) h
  refine pcall_cx HF_ok mixed (fun _ => none) Try.func57 rfl Try.ntmps57 Try.results57 (by simp) (by kernel_rfl) ?_
  repeat' first
    | (with_reducible refine gw_bool (fun _ => ?_) (fun _ => ?_))
    | (with_reducible refine condw_bool (fun _ => ?_) (fun _ => ?_))
    | simp [*, Sc.cs]
def cloV (b0 : Nat) : Value := .func (.func 57) #[] #[.pointer (some ⟨b0, 0, none⟩)]
theorem idxS_ok (L : List Sc) (bus : Int) (hL : L.length ≤ 1000000) (hx : ∀ x ∈ L, x.bu.length ≤ 1000000) (b0 : Nat) (o0 : Obj) (hP : ∀ (w : World) (ro : Nat → Prop), ro b0 → w.heap[b0]? = some o0 → R0 w ro (.rp [.int .i64 bus]) (.pointer (some ⟨b0, 0, none⟩)))
    (W : World) (ro : Nat → Prop) (X : Value) (hro : ∀ b, ro b → b < W.heap.size) (hb : ro b0) (hw : W.heap[b0]? = some o0) (hX : R0 W ro (.list 3 (L.map Sc.cs)) X) :
    Calls Try.prog 56 #[X, cloV b0] W fun e W' => e = .returned (.int .i64 (atF L bus)) ∧ Below W.heap.size W W' := by
  refine calls_of_wp Try.func56 rfl ?_
  rw [Try.ntmps56]
  have hs := sim_ini (n := 19) (w := W) (ro := ro) (args := #[X, cloV b0]) (vs := [.list 3 (L.map Sc.cs), .val (cloV b0)]) hro rfl (by simp) (fun j c x hc hx => by
    match j with
    | 0 => simp at hc hx; subst hc; subst hx; exact hX
    | 1 => simp at hc hx; subst hc; subst hx; exact .val _
    | j + 2 => simp at hc)
  obtain ⟨F, hF⟩ : ∃ F, cloV b0 = F := ⟨_, rfl⟩
  rw [hF] at hs ⊢
  obtain ⟨n, hn⟩ : ∃ n, L.length = n := ⟨_, rfl⟩
  rw [hn] at hL
  refine wp_mono ((?_ : CWB b0 o0 19 _ (fun e s => e = .ret ∧ s.env 4 = .int .i64 (atF L bus)) _) (.of W) ro _ _ W hb hw hs) ?_
  · clear hs hX hro hw
    refine cwb_cut (K := fun s => s.env 0 = .list 3 (L.map Sc.cs) ∧ s.env 1 = .val F) (.of_cw (CW.of_cx (D := fun _ => none) noTab_ok mixed _ _ _ (by kernel_rfl) ?_)) ?_
    · skip
      repeat' first
        | (with_reducible refine gw_bool (fun _ => ?_) (fun _ => ?_))
        | (with_reducible refine condw_bool (fun _ => ?_) (fun _ => ?_))
        | simp [*]
    rintro ⟨e, h⟩ ⟨e0, e1⟩
    simp only at e0 e1
    refine cwb_seq ?_
    refine cwb_cut (K := fun s => s.env 0 = .list 3 (L.map Sc.cs) ∧ s.env 1 = .val F ∧ s.env 7 = .int .i64 n ∧ s.env 8 = .int .i64 (0 : Nat)) (.of_cw (CW.of_cx (D := fun _ => none) noTab_ok mixed _ _ _ (by kernel_rfl) ?_)) ?_
    · skip
      repeat' first
        | (with_reducible refine gw_bool (fun _ => ?_) (fun _ => ?_))
        | (with_reducible refine condw_bool (fun _ => ?_) (fun _ => ?_))
        | simp [*]
    clear e0 e1 e h
    intro s hs0
    refine cwb_block ?_
    refine LHB.cw (LHB.up (fun k s => k ≤ n ∧ s.env 0 = .list 3 (L.map Sc.cs) ∧ s.env 1 = .val F ∧ s.env 7 = .int .i64 n ∧ s.env 8 = .int .i64 k ∧ ∀ j, j < k → atB L bus j = false) n ?_ _ 0 s rfl ⟨by omega, hs0.1, hs0.2.1, hs0.2.2.1, hs0.2.2.2, fun j hj => by omega⟩)
    clear hs0 s
    rintro k ⟨e, h⟩ ⟨hk, e0, e1, e7, e8, hbef⟩
    simp only at e0 e1 e7 e8
    replace hbef : Hid (∀ j, j < k → atB L bus j = false) := hbef
    by_cases hlt : k < n
    · have f1 : ilt (k : Int) (n : Int) = true := ilt_t (by omega)
      have w1 : IntKind.i64.wrap ((k : Int) + 1) = ((k + 1 : Nat) : Int) := wrap_succ (by omega)
      refine cwb_cut (K := fun s => s.env 0 = .list 3 (L.map Sc.cs) ∧ s.env 1 = .val F ∧ s.env 7 = .int .i64 n ∧ s.env 8 = .int .i64 k ∧ s.env 9 = .bool true) (.of_cw (CW.of_cx (D := fun _ => none) noTab_ok mixed _ _ _ (by kernel_rfl) ?_)) ?_
      · skip
        repeat' first
          | (with_reducible refine gw_bool (fun _ => ?_) (fun _ => ?_))
          | (with_reducible refine condw_bool (fun _ => ?_) (fun _ => ?_))
          | simp [*]
      clear e0 e1 e7 e8 e h
      rintro ⟨e, h⟩ ⟨e0, e1, e7, e8, e9⟩
      simp only at e0 e1 e7 e8 e9
      refine cwb_cut (K := fun s => s.env 0 = .list 3 (L.map Sc.cs) ∧ s.env 1 = .val F ∧ s.env 7 = .int .i64 n ∧ s.env 8 = .int .i64 k) (.of_cw (CW.of_cx (D := fun _ => none) noTab_ok mixed _ _ _ (by kernel_rfl) ?_)) ?_
      · skip
        repeat' first
          | (with_reducible refine gw_bool (fun _ => ?_) (fun _ => ?_))
          | (with_reducible refine condw_bool (fun _ => ?_) (fun _ => ?_))
          | simp [*]
      clear e0 e1 e7 e8 e9 e h
      rintro ⟨e, h⟩ ⟨e0, e1, e7, e8⟩
      simp only at e0 e1 e7 e8
      obtain ⟨x, hx1, hx2⟩ := at_ex (l := L) (i := k) (by omega)
      have hat : atB L bus k = decide (bus ∈ x.bu) := by simp [atB, hx1]
      refine cwb_seq (cwb_block ?_)
      refine cwb_cut (K := fun s => s.env 0 = .list 3 (L.map Sc.cs) ∧ s.env 1 = .val F ∧ s.env 5 = .int .i64 k ∧ s.env 7 = .int .i64 n ∧ s.env 8 = .int .i64 k) (.of_cw (CW.of_cx (D := fun _ => none) noTab_ok mixed _ _ _ (by kernel_rfl) ?_)) ?_
      · skip
        repeat' first
          | (with_reducible refine gw_bool (fun _ => ?_) (fun _ => ?_))
          | (with_reducible refine condw_bool (fun _ => ?_) (fun _ => ?_))
          | simp [*]
      clear e0 e1 e7 e8 e h
      rintro ⟨e, h⟩ ⟨e0, e1, e5, e7, e8⟩
      simp only at e0 e1 e5 e7 e8
      refine cwb_cut (K := fun s => s.env 0 = .list 3 (L.map Sc.cs) ∧ s.env 1 = .val F ∧ s.env 5 = .int .i64 k ∧ s.env 7 = .int .i64 n ∧ s.env 8 = .int .i64 k ∧ s.env 16 = .bool (decide (bus ∈ x.bu))) ?_ ?_
      · intro w0 ro lam a w hb' hw' hs
        refine wp_region_list ?_
        rw [← List.take_append_drop 5 (Array.toList _)]
        have hs1 := hs.rebase
        refine eg_wp noTab_ok (n := 19) (K := fun s => s.env 0 = .list 3 (L.map Sc.cs) ∧ s.env 1 = .val F ∧ s.env 5 = .int .i64 k ∧ s.env 7 = .int .i64 n ∧ s.env 8 = .int .i64 k ∧ s.env 11 = .val F ∧ s.env 15 = .agg x.cs) _ _ _ _ _ _ (by kernel_rfl) ?_ hs1 ?_
        · clear hs hs1
          repeat' first
            | (with_reducible refine gw_bool (fun _ => ?_) (fun _ => ?_))
            | (with_reducible refine condw_bool (fun _ => ?_) (fun _ => ?_))
            | simp [*, Sc.cs]
        rintro ⟨e2, h2⟩ a2 ro2 lam2 w2 ⟨q0, q1, q5, q7, q8, q11, q15⟩ hx2 hs2
        simp only at q0 q1 q5 q7 q8 q11 q15
        have hb2 : ro2 b0 := hx2.1 b0 hb'
        have hw2 : w2.heap[b0]? = some o0 := keepB hb' hw' hs hs2
        refine wpList_plain rfl fun KK hKK => ?_
        have hv11 : a2.eval (.tmp 11) = F := getD_val (show R w2 ro2 lam2 (.val F) _ from by have : R w2 ro2 lam2 (e2 11) _ := hs2.env 11; rwa [q11] at this)
        have hv15 : R w2 ro2 lam2 (.agg x.cs) (a2.tmps.getD 15 Go.undef) := by have : R w2 ro2 lam2 (e2 15) _ := hs2.env 15; rwa [q15] at this
        refine callv_wp (g := 57) (fs := #[]) (cs := #[.pointer (some ⟨b0, 0, none⟩)]) rfl (by rw [hv11, ← hF]; rfl) (by kernel_rfl) ?_
        have hargs : (#[] ++ (#[Operand.tmp 15] : Array Operand).map a2.eval ++ #[Value.pointer (some ⟨b0, 0, none⟩)] : Array Value) = #[a2.tmps.getD 15 Go.undef, .pointer (some ⟨b0, 0, none⟩)] := by
          simp [Act.eval]
        rw [hargs]
        refine (at1_ok x bus (hx x (List.mem_of_getElem? hx1)) w2 ro2 _ hs2.rolt rfl (fun j c y hc hy => ?_)).mono ?_
        · match j with
          | 0 => cases hc; cases hy; exact hv15.pureA (by simp [Sc.cs, ownA, ownC])
          | 1 => cases hc; cases hy; exact hP _ _ hb2 hw2
          | j + 2 => simp at hc
        · rintro e' w3 ⟨rv, ro3, rfl, hb3, hup, hdn, hlt3, hr3⟩
          have hrv : rv = .bool (decide (bus ∈ x.bu)) := by cases hr3; rfl
          subst hrv
          refine ⟨_, rfl, hKK _ _ ?_⟩
          have hs3 : Sim ⟨w, ownB lam, a.defers⟩ 19 ro2 lam2 ((⟨e2, h2⟩ : St).put (some 16) (.bool (decide (bus ∈ x.bu)))) (a2.put (some 16) (.bool (decide (bus ∈ x.bu)))) w3 := (hs2.world hb3).put (by decide) (.pure _ _ (.bool _))
          exact ⟨_, ro2, lam2, ⟨hb2, keepB hb' hw' hs hs3⟩, ⟨rfl, by simpa [St.put, upd] using q0, by simpa [St.put, upd] using q1, by simpa [St.put, upd] using q5, by simpa [St.put, upd] using q7, by simpa [St.put, upd] using q8, by simp [St.put, upd]⟩, hx2.unbase hs, hs.unbase hs3⟩
      clear e0 e1 e5 e7 e8 e h
      rintro ⟨e, h⟩ ⟨e0, e1, e5, e7, e8, e16⟩
      simp only at e0 e1 e5 e7 e8 e16
      cases hq : decide (bus ∈ x.bu)
      · rw [hq] at e16 hat
        refine (CWB.of_cw (CW.of_cx (D := fun _ => none) noTab_ok mixed _ (fun e s => e = .normal ∧ s.env 0 = .list 3 (L.map Sc.cs) ∧ s.env 1 = .val F ∧ s.env 7 = .int .i64 n ∧ s.env 8 = .int .i64 k) _ (by kernel_rfl) ?_)).mono ?_
        · skip
          repeat' first
            | (with_reducible refine gw_bool (fun _ => ?_) (fun _ => ?_))
            | (with_reducible refine condw_bool (fun _ => ?_) (fun _ => ?_))
            | simp [*]
        rintro e' ⟨e, h⟩ ⟨rfl, q0, q1, q7, q8⟩
        simp only at q0 q1 q7 q8
        refine CWB.mono (.of_cw (CW.of_cx (D := fun _ => none) noTab_ok mixed _ (fun e s => e = .normal ∧ s.env 0 = .list 3 (L.map Sc.cs) ∧ s.env 1 = .val F ∧ s.env 7 = .int .i64 n ∧ s.env 8 = .int .i64 (k + 1 : Nat)) _ (by kernel_rfl) ?_)) ?_
        · clear e0 e1 e5 e7 e8 e16
          repeat' first
            | (with_reducible refine gw_bool (fun _ => ?_) (fun _ => ?_))
            | (with_reducible refine condw_bool (fun _ => ?_) (fun _ => ?_))
            | simp [*]
        rintro e'' s ⟨rfl, p0, p1, p7, p8⟩
        exact .inl ⟨rfl, hlt, by omega, p0, p1, p7, p8, fun j hj => by
          by_cases e : j = k
          · subst e; exact hat
          · exact hbef.out j (by omega)⟩
      · rw [hq] at e16 hat
        have hr := at_hit (L := L) (bus := bus) (by omega) hat hbef.out
        refine (CWB.of_cw (CW.of_cx (D := fun _ => none) noTab_ok mixed _ (fun e s => e = .ret ∧ s.env 4 = .int .i64 (atF L bus)) _ (by kernel_rfl) ?_)).mono ?_
        · rw [hr]
          clear hr
          repeat' first
            | (with_reducible refine gw_bool (fun _ => ?_) (fun _ => ?_))
            | (with_reducible refine condw_bool (fun _ => ?_) (fun _ => ?_))
            | simp [*]
        rintro e' s ⟨rfl, q4⟩
        exact .inr ⟨by simp, rfl, q4⟩
    · have f1 : ilt (k : Int) (n : Int) = false := ilt_f (by omega)
      have hr := at_miss (L := L) (bus := bus) (fun j hj => hbef.out j (by omega))
      refine cwb_cut (K := fun s => s.env 9 = .bool false) (.of_cw (CW.of_cx (D := fun _ => none) noTab_ok mixed _ _ _ (by kernel_rfl) ?_)) ?_
      · skip
        repeat' first
          | (with_reducible refine gw_bool (fun _ => ?_) (fun _ => ?_))
          | (with_reducible refine condw_bool (fun _ => ?_) (fun _ => ?_))
          | simp [*]
      clear e0 e1 e7 e8 e h
      rintro ⟨e, h⟩ e9
      simp only at e9
      refine cwb_seq ((CWB.of_cw (CW.of_cx (D := fun _ => none) noTab_ok mixed _ (fun e s => e = .exit 0) _ (by kernel_rfl) ?_)).mono ?_)
      · skip
        repeat' first
          | (with_reducible refine gw_bool (fun _ => ?_) (fun _ => ?_))
          | (with_reducible refine condw_bool (fun _ => ?_) (fun _ => ?_))
          | simp [*]
      clear e9 e h
      rintro e' s rfl
      refine .inr ⟨by simp, ?_⟩
      show NxB b0 o0 19 _ _ .normal s
      refine CWB.of_cw (CW.of_cx (D := fun _ => none) noTab_ok mixed _ _ _ (by kernel_rfl) ?_)
      rw [hr]
      obtain ⟨e, h⟩ := s
      repeat' first
        | (with_reducible refine gw_bool (fun _ => ?_) (fun _ => ?_))
        | (with_reducible refine condw_bool (fun _ => ?_) (fun _ => ?_))
        | simp [*]
  · rintro e a' w' ⟨st', ro', lam', -, ⟨rfl, h4⟩, hext, hs'⟩
    have hv4 : a'.tmps.getD 4 Go.undef = .int .i64 (atF L bus) := by
      have := hs'.env 4
      rw [h4] at this
      exact this.int_inv
    exact ⟨hs'.dfr, _, res_one rfl hv4, rfl, hs'.below.below⟩
end Go.Proofs.Ytjhmphkdkclbjaa
end
section
namespace Go.Proofs.Ytjhmphkdkclbjaa
open Go.Pv Go.RowKit
set_option linter.unusedSimpArgs false
set_option linter.unusedVariables false
set_option maxRecDepth 100000
set_option maxHeartbeats 4000000
attribute [-simp] Tclo_at Tgrp_at Tchk Tpchk TcI TcB Tclo Tgrp Tsid Tnod Tlook Tbnd Tres TSd TBd Tix Tcon

theorem mkfunc_wp {o : Oper} {f : FuncId} {cs : Array Operand} {a : Act} {w : World} {next : Act → World → Prop} {Q : Exit → Act → World → Prop} (ho : o.op = .makeFunc (.func f) #[] cs) (h : next (a.put o.dst (.func (.func f) #[] (cs.map a.eval))) w) : o.wp Try.prog a w next Q := by
  unfold Oper.wp execOp
  simp only [ho, Instr.makeFunc, Sem.run_pure, Sem.run_bind, Result.andThen_ok, Oper.upon]
  have he : (#[] : Array Operand).map a.eval = #[] := by simp
  rw [he]; exact h
theorem assign_wp {o : Oper} {t : Nat} {a : Act} {w : World} {next : Act → World → Prop} {Q : Exit → Act → World → Prop} (ho : o.op = .assign (.tmp t)) (h : next (a.put o.dst (a.tmps.getD t Go.undef)) w) : o.wp Try.prog a w next Q := by
  unfold Oper.wp execOp
  simp only [ho, Sem.run_pure, Oper.upon]
  exact h
theorem cw_cut {n : Nat} {x y : Code} {Q : Exit → St → Prop} {K : St → Prop} {st : St} (hx : CW Try.prog n x (fun e s => e = .normal ∧ K s) st) (hy : ∀ s, K s → CW Try.prog n y Q s) : CW Try.prog n (.seq x y) Q st :=
  cw_seq (hx.mono fun e s ⟨h1, h2⟩ => by subst h1; exact hy s h2)
theorem cw_view {n : Nat} {c : Code} {Q : Exit → St → Prop} {st st' : St} (hv : View n st st') (h : CW Try.prog n c Q st') : CW Try.prog n c Q st := fun w0 ro lam a w hs => by
  obtain ⟨ro1, lam1, e1, h1⟩ := hv w0 ro lam a w hs
  refine wp_mono (h w0 ro1 lam1 a w h1) ?_
  rintro e a' w' ⟨st', ro', lam', hq, hx, hs'⟩
  exact ⟨st', ro', lam', hq, e1.trans hx, hs'⟩
theorem pcall_of2 {f : FuncId} {fn : Func} {c : Code} {vs : List V} {v : V} {n : Nat} {rs : Array ResultVar} (hf : Try.prog.funcs[f]? = some fn) (hb : fn.body = some c) (hn : fn.ntmps = n) (hrs : fn.results = rs) (hvs : vs.length ≤ n) (h : CW Try.prog n c (Fin Try.prog rs.toList (fun u => u = v)) ⟨ini 0 vs, fun _ => none⟩) : PCall Try.prog f vs v := by
  subst hn; subst hrs
  exact pcall_of hf hb hvs h
theorem At_ok (L : List Sc) (bus : Int) (hL : L.length ≤ 1000000) (hx : ∀ x ∈ L, x.bu.length ≤ 1000000) : PCall Try.prog 19 [.list 3 (L.map Sc.cs), .int .i64 bus] (.int .i64 (atF L bus)) := by
  refine pcall_of2 Try.func19 rfl Try.ntmps19 Try.results19 (by simp) ?_
  refine cw_cut (K := fun s => s.env 0 = .list 3 (L.map Sc.cs) ∧ s.env 3 = .ptr 3 0 ∧ s.heap 3 = some ⟨3, [.int .i64 bus]⟩) ?_ ?_
  · refine CW.of_cx (D := (fun _ => none)) noTab_ok mixed _ _ _ (by kernel_rfl) ?_
    repeat' first
      | (with_reducible refine gw_bool (fun _ => ?_) (fun _ => ?_))
      | (with_reducible refine condw_bool (fun _ => ?_) (fun _ => ?_))
      | simp [*]
  rintro ⟨e, h⟩ ⟨e0, e3, h3⟩
  simp only at e0 e3 h3
  refine cw_cut (K := fun s => s.env 4 = .int .i64 (atF L bus)) ?_ ?_
  · intro w0 ro lam a w hs
    refine wp_region_list ?_
    rw [← List.take_append_drop 1 (Array.toList _)]
    refine eg_wp noTab_ok (n := 8) (K := fun s => s.env 5 = .list 3 (L.map Sc.cs) ∧ s.env 3 = .ptr 3 0 ∧ s.heap 3 = some ⟨3, [.int .i64 bus]⟩) _ _ _ _ _ _ (by kernel_rfl) ?_ hs.rebase ?_
    · clear hs
      repeat' first
        | (with_reducible refine gw_bool (fun _ => ?_) (fun _ => ?_))
        | (with_reducible refine condw_bool (fun _ => ?_) (fun _ => ?_))
        | simp [*]
    rintro ⟨e2, h2⟩ a2 ro2 lam2 w2 ⟨q5, q3, q⟩ hx2 hs2
    simp only at q5 q3 q
    have p3 : R w2 ro2 lam2 (e2 3) _ := hs2.env 3
    rw [q3] at p3
    obtain ⟨b, m, hl, hp⟩ := p3.ptr_inv
    have hown := hs2.own 3 b m hl
    obtain ⟨arr, ha, hP⟩ : ∃ arr : Obj, w2.heap[b]? = some arr ∧ ∀ (w' : World) (ro' : Nat → Prop), ro' b → w'.heap[b]? = some arr → R0 w' ro' (.rp [.int .i64 bus]) (.pointer (some ⟨b, 0, none⟩)) := by
      rcases hs2.heap 3 _ q with ⟨hv, _⟩ | ⟨b', o, hv, _⟩ | ⟨b', m', arr, hl', hw', hsz, hle, hr⟩
      · rw [hl] at hv; cases hv
      · rw [hl] at hv; cases hv
      · rw [hl] at hl'
        simp only [Option.some.injEq, Prod.mk.injEq] at hl'
        obtain ⟨rfl, rfl⟩ := hl'
        refine ⟨_, hw', fun w' ro' hb' hw2 => ?_⟩
        have h0 : 0 < arr.size := by have : 1 ≤ m := hle; omega
        have hc0 : arr[0] = .int .i64 bus := by
          have := hr 0 _ _ rfl (Array.getElem?_eq_getElem h0)
          exact this.int_inv
        refine .rp _ _ (fun _ => .int .i64 bus) hb' (fun j c hc => ?_) (fun j c hc => ?_)
        · match j with
          | 0 => simp [World.cell?, Addr.add, hw2, h0, hc0]
          | j + 1 => simp at hc
        · match j with
          | 0 => simp at hc; subst hc; exact .int _ _
          | j + 1 => simp at hc
    refine wpList_plain rfl fun K2 hK2 => mkfunc_wp rfl (hK2 _ _ ?_)
    have hev : (#[Operand.tmp 3] : Array Operand).map a2.eval = #[.pointer (some ⟨b, 0, none⟩)] := by
      simp only [List.map_toArray, List.map_cons, List.map_nil]
      show #[a2.tmps.getD 3 Go.undef] = _
      rw [hp]
    rw [hev]
    have hs3 := hs2.put (d := some 6) (v := .val (cloV b)) (x := cloV b) (by decide) (.pure _ _ (.val _))
    refine wpList_plain rfl fun K3 hK3 => call_wp rfl (by kernel_rfl) ?_
    have hX : R w2 ro2 lam2 (.list 3 (L.map Sc.cs)) ((a2.put (some 6) (cloV b)).tmps.getD 5 Go.undef) := by
      have := hs3.env 5
      simpa [St.put, upd, q5] using this
    have hF6 : (a2.put (some 6) (cloV b)).tmps.getD 6 Go.undef = cloV b := by
      have := hs3.env 6
      exact getD_val (show R w2 ro2 lam2 (.val (cloV b)) _ by simpa [St.put, upd] using this)
    have hargs : (#[Operand.tmp 5, .tmp 6] : Array Operand).map (a2.put (some 6) (cloV b)).eval = #[(a2.put (some 6) (cloV b)).tmps.getD 5 Go.undef, cloV b] := by
      simp only [List.map_toArray, List.map_cons, List.map_nil]
      show #[_, (a2.put (some 6) (cloV b)).tmps.getD 6 Go.undef] = _
      rw [hF6]; rfl
    have hcall := idxS_ok L bus hL hx b arr hP w2 (fun x => ro2 x ∨ x = b) _ (fun x hx => by
      rcases hx with hx | rfl
      · exact hs2.rolt x hx
      · exact hown.2.1) (.inr rfl) ha ((hX.pureC rfl).mono (fun _ _ => rfl) (fun _ h => .inl h))
    show Calls Try.prog _ ((#[Operand.tmp 5, .tmp 6] : Array Operand).map (a2.put (some 6) (cloV b)).eval) w2 _
    rw [hargs]
    refine hcall.mono ?_
    rintro e' w3 ⟨rfl, hb3⟩
    refine ⟨_, rfl, hK3 _ _ ?_⟩
    have hs4 := (hs3.world hb3).put (d := some 7) (v := .int .i64 (atF L bus)) (x := .int .i64 (atF L bus)) (by decide) (.pure _ _ (.int _ _))
    have he7 : (((⟨e2, h2⟩ : St).put (some 6) (.val (cloV b))).put (some 7) (.int .i64 (atF L bus))).env 7 = .int .i64 (atF L bus) := by simp [St.put, upd]
    refine wpList_plain rfl fun K4 hK4 => assign_wp rfl (hK4 _ _ ?_)
    have hg7 : R w3 ro2 lam2 (.int .i64 (atF L bus)) (((a2.put (some 6) (cloV b)).put (some 7) (.int .i64 (atF L bus))).tmps.getD 7 Go.undef) := by
      have := hs4.env 7
      rwa [he7] at this
    have hs5 := hs4.put (d := some 4) (v := .int .i64 (atF L bus)) (by decide) hg7
    exact ⟨_, ro2, lam2, ⟨rfl, by simp [St.put, upd]⟩, hx2.unbase hs, hs.unbase hs5⟩
  rintro ⟨e, h⟩ e4
  simp only at e4
  refine CW.of_cx (D := (fun _ => none)) noTab_ok mixed _ _ _ (by kernel_rfl) ?_
  repeat' first
    | (with_reducible refine gw_bool (fun _ => ?_) (fun _ => ?_))
    | (with_reducible refine condw_bool (fun _ => ?_) (fun _ => ?_))
    | simp [*]
end Go.Proofs.Ytjhmphkdkclbjaa
end
section
namespace Go.Proofs.Ytjhmphkdkclbjaa
open Go.Pv Go.RowKit
set_option linter.unusedSimpArgs false
set_option linter.unusedVariables false
set_option maxRecDepth 100000
set_option maxHeartbeats 4000000
attribute [-simp] Tclo_at Tgrp_at Tchk Tpchk TcI TcB Tclo Tgrp Tsid Tnod Tlook Tbnd Tres TSd TBd Tix

def psL (b : By) : List Int := b.lks.map Lk.pos
def normP (s : Stn) : Pos := ⟨s.qs.map By.cl, s.qs.map psL⟩
theorem normal_ok {s : Stn} (h1 : chkF s = 0) : PCall Try.prog 24 [.agg s.cs] (.agg (normP s).cs) := by
  have hF := fine_of h1
  obtain ⟨n, hn⟩ : ∃ n, s.qs.length = n := ⟨_, rfl⟩
  have hn16 : n ≤ 16 := by have := hF.nq; omega
  have hc1 := chunks_b1 (s.qs.map By.cl)
  have hp1 := pure_b1 (s.qs.map By.cl)
  have hc2 := chunks_r0 (s.qs.map psL)
  have hp2 := pure_r0 (s.qs.map psL)
  rw [List.length_map, hn] at hc1 hc2
  have hres : (normP s).cs = [.list 1 ((s.qs.map By.cl).map b1), .list 1 ((s.qs.map psL).map r1)] := rfl
  rw [hres]
  clear hres
  obtain ⟨A, hA⟩ : ∃ A, (s.qs.map By.cl).map V.bool = A := ⟨_, rfl⟩
  obtain ⟨B, hB⟩ : ∃ B, (s.qs.map psL).map r0 = B := ⟨_, rfl⟩
  obtain ⟨A', hA'⟩ : ∃ A', (s.qs.map By.cl).map b1 = A' := ⟨_, rfl⟩
  obtain ⟨B', hB'⟩ : ∃ B', (s.qs.map psL).map r1 = B' := ⟨_, rfl⟩
  rw [hA] at hc1 hp1
  rw [hB] at hc2 hp2
  rw [hA'] at hc1 ⊢
  rw [hB'] at hc2 ⊢
  have hAl : A.length = n := by rw [← hA]; simp [hn]
  have hBl : B.length = n := by rw [← hB]; simp [hn]
  replace hA : Hid (((s.qs.take n).map By.cl).map V.bool = A) := by rw [← hn, List.take_length]; exact hA
  replace hB : Hid (((s.qs.take n).map psL).map r0 = B) := by rw [← hn, List.take_length]; exact hB
  clear hA' hB'
  refine pcall_cx D5_ok mixed (fun _ => none) Try.func24 rfl Try.ntmps24 Try.results24 (by simp) (by kernel_rfl) ?_
  repeat' first
    | (with_reducible refine gw_bool (fun _ => ?_) (fun _ => ?_))
    | (with_reducible refine condw_bool (fun _ => ?_) (fun _ => ?_))
    | simp [*, Stn.cs]
  refine lp_view (View.nilAt _ (t := 3) (o := 0) (key := 3) (key' := 38) (i := 0) (blk := ⟨31, [.nils, .nils]⟩) 1 4 (by simp) (by simp) (by simp) (by simp)) ?_
  refine lp_view (View.nilAt _ (t := 3) (o := 0) (key := 3) (key' := 44) (i := 1) (blk := ⟨31, [.sl 38 0 0 1, .nils]⟩) 1 42 (by simp) (by simp) (by simp) (by simp)) ?_
  refine lp_go (D := (fun _ => none)) D5_ok mixed (by kernel_rfl) [2, 3, 14, 15] [1, 2, 5, 8, 30, 31, 37, 43] (α := Nat) (fun i e h => i ≤ n ∧ e 16 = .int .i64 i ∧ h 3 = some ⟨31, [.sl 38 0 i 1, .sl 44 0 i 1]⟩ ∧ h 38 = some ⟨4, ((s.qs.take i).map By.cl).map V.bool⟩ ∧ h 44 = some ⟨42, ((s.qs.take i).map psL).map r0⟩) (fun i => n - i) 0 ?_ ?_
  · exact ⟨by omega, by simp, by simp, by simp, by simp⟩
  rintro i e h hk hkh ⟨hi, g7, g3, g38, g44⟩
  simp [Keep] at hk
  simp [KeepH] at hkh
  by_cases hlt : i < n
  · obtain ⟨b, hb, hb'⟩ := at_ex (l := s.qs) (i := i) (by omega)
    obtain ⟨-, -, hl1, hl2⟩ := hF.lk b (List.mem_of_getElem? hb)
    have f1 : ilt (i : Int) (n : Int) = true := ilt_t (by omega)
    have w1 : IntKind.i64.wrap ((i : Int) + 1) = ((i + 1 : Nat) : Int) := wrap_succ (by omega)
    have hx1 : Hid (((s.qs.take (i + 1)).map By.cl).map V.bool = ((s.qs.take i).map By.cl).map V.bool ++ [V.bool b.cl]) := show _ = _ by rw [take_snoc hb]; simp
    have hx2 : Hid (((s.qs.take (i + 1)).map psL).map r0 = ((s.qs.take i).map psL).map r0 ++ [r0 (psL b)]) := show _ = _ by rw [take_snoc hb]; simp
    have hCl : (((s.qs.take i).map By.cl).map V.bool).length = i := by simp; omega
    have hDl : (((s.qs.take i).map psL).map r0).length = i := by simp; omega
    have hCp := pure_b1 ((s.qs.take i).map By.cl)
    have hDp := pure_r0 ((s.qs.take i).map psL)
    generalize ((s.qs.take i).map By.cl).map V.bool = C at g38 hx1 hCl hCp
    generalize ((s.qs.take i).map psL).map r0 = D at g44 hx2 hDl hDp
    have hCs : ∀ k, C.map (scrC k) = C := fun k => scrC_cells hCp
    have hDs : ∀ k, D.map (scrC k) = D := fun k => scrC_cells hDp
    have hCb : ∀ k b, C.map (pubC k b) = C := fun k b => pub_cells hCp
    have hDb : ∀ k b, D.map (pubC k b) = D := fun k b => pub_cells hDp
    have f5 : (i + 1) * 24 ≤ 140737488355328 := by omega
    have f6 : i + 1 ≤ 9223372036854775807 := by omega
    have f7 : i + 1 ≤ 140737488355328 := by omega
    obtain ⟨m, hm⟩ : ∃ m, b.lks.length = m := ⟨_, rfl⟩
    rw [hm] at hl1 hl2
    clear hA hB hc1 hc2 hp1 hp2
    repeat' first
      | (with_reducible refine gw_bool (fun _ => ?_) (fun _ => ?_))
      | (with_reducible refine condw_bool (fun _ => ?_) (fun _ => ?_))
      | simp [*, By.cs]
    refine lp_view (View.nilOwn _ (t := 6) (key := 31) 1 3 (by simp) (by simp [*])) ?_
    refine lp_go (D := (fun _ => none)) D5_ok mixed (by kernel_rfl) [2, 3, 5, 14, 15, 16, 17, 18, 19, 20, 21, 22] [1, 2, 3, 5, 8, 30, 37, 38, 43, 44] (α := Nat) (fun j e h => j ≤ m ∧ e 23 = .int .i64 j ∧ e 6 = .sl 31 0 j 1 ∧ h 31 = some ⟨3, ((b.lks.take j).map Lk.pos).map (V.int .i64)⟩) (fun j => m - j) 0 ?_ ?_
    · exact ⟨by omega, by simp, by simp, by simp⟩
    have hk0 := hk
    have hkh0 := hkh
    have g70 := g7
    clear hk hkh g7
    rintro j e h hk hkh ⟨hj, g7, g6, g31⟩
    simp [Keep, hk0, hkh0, g70] at hk
    simp [KeepH, hk0, hkh0, g3, g38, g44] at hkh
    by_cases hjlt : j < m
    · obtain ⟨x, hx, hx'⟩ := at_ex (l := b.lks) (i := j) (by omega)
      have f2 : ilt (j : Int) (m : Int) = true := ilt_t (by omega)
      have w2 : IntKind.i64.wrap ((j : Int) + 1) = ((j + 1 : Nat) : Int) := wrap_succ (by omega)
      have hy : Hid (((b.lks.take (j + 1)).map Lk.pos).map (V.int .i64) = ((b.lks.take j).map Lk.pos).map (V.int .i64) ++ [V.int .i64 x.pos]) := show _ = _ by rw [take_snoc hx]; simp
      have hEl : (((b.lks.take j).map Lk.pos).map (V.int .i64)).length = j := by simp; omega
      have hEp := pure_i1 ((b.lks.take j).map Lk.pos)
      generalize ((b.lks.take j).map Lk.pos).map (V.int .i64) = E at g31 hy hEl hEp
      have hEs : ∀ k, E.map (scrC k) = E := fun k => scrC_cells hEp
      have q5 : (j + 1) * 8 ≤ 140737488355328 := by omega
      have q6 : j + 1 ≤ 9223372036854775807 := by omega
      clear hx1 hx2 hb hb'
      repeat' first
        | (with_reducible refine gw_bool (fun _ => ?_) (fun _ => ?_))
        | (with_reducible refine condw_bool (fun _ => ?_) (fun _ => ?_))
        | simp [*, Lk.cs, appendV, srcCells, St.forget, scr, scrC]
      refine nxt_go (j + 1) ((View.forget _ _ 30).trans (View.forget _ _ 8)) (by omega) (by simp [*, Keep, St.forget, scr, scrC, usesC, usesA]) (by simp [*, KeepH, St.forget, scr, scrC]) ?_
      refine ⟨by omega, by simp [*, St.forget, scr, scrC], by simp [*, St.forget, scr, scrC], ?_⟩
      rw [hy.out]; simp [*, St.forget, scr, scrC]
    · have f2 : ilt (j : Int) (m : Int) = false := ilt_f (by omega)
      have e2 : j = b.lks.length := by omega
      have hch := chunks_i1 (psL b)
      have hcp := pure_i1 (psL b)
      have hpl : (psL b).length = m := by simp [psL, hm]
      rw [hpl] at hch
      rw [e2, List.take_length] at g31
      rw [e2, hm] at g6
      have g31' : h 31 = some ⟨3, (psL b).map (V.int .i64)⟩ := g31
      have hx2' := hx2.out
      clear g31 e2 hx2
      generalize psL b = E at g31' hch hcp hpl hx2'
      replace hx2' : Hid (((s.qs.take (i + 1)).map psL).map r0 = D ++ [r0 E]) := hx2'
      replace hch : Hid (chunks 1 m (E.map (V.int .i64)) = E.map i1) := hch
      have hcs : ∀ k, (E.map (V.int .i64)).map (scrC k) = E.map (V.int .i64) := fun k => scrC_cells hcp
      have hmm : m ≤ E.length := by omega
      clear hb hb'
      repeat' first
        | (with_reducible refine gw_bool (fun _ => ?_) (fun _ => ?_))
        | (with_reducible refine condw_bool (fun _ => ?_) (fun _ => ?_))
        | simp [*, appendV, srcCells, St.forget, scr, scrC]
      refine nxt_go (i + 1) ((View.forget _ _ 37).trans ((View.forget _ _ 43).trans ((View.forget _ _ 5).trans (View.pub _ (key := 31) (blk := ⟨3, E.map (V.int .i64)⟩) ?_ hcp)))) (by omega) ?_ ?_ ?_
      · simp [*, St.forget, scrC, scrI_comp]
      · simp [*, Keep, St.forget, scr, scrC, St.pub, pubT, pubA, pubC]
      · simp [*, KeepH, St.forget, scr, scrC, St.pub, pubC]
      · refine ⟨by omega, ?_, ?_, ?_, ?_⟩
        · simp [*, St.forget, scr, scrC, St.pub, pubT, pubA, pubC]
        · simp [*, St.forget, scr, scrC, St.pub, pubC]
        · rw [hx1.out]; simp [*, St.forget, scr, scrC, St.pub, pubC]
        · rw [hx2'.out]; simp [*, St.forget, scr, scrC, St.pub, pubC, r0, hch.out]
  · have f1 : ilt (i : Int) (n : Int) = false := ilt_f (by omega)
    have e1 : i = n := by omega
    rw [e1, hA.out] at g38
    rw [e1, hB.out] at g44
    rw [e1] at g3
    clear hA hB
    repeat' first
      | (with_reducible refine gw_bool (fun _ => ?_) (fun _ => ?_))
      | (with_reducible refine condw_bool (fun _ => ?_) (fun _ => ?_))
      | simp [*, setsV]
def Tnm : List V → Option V
  | [.agg a] => (match unStn a with
    | some s => if chkF s = 0 then some (.agg (normP s).cs) else none
    | none => none)
  | _ => none
theorem Tnm_at {s : Stn} (h : chkF s = 0) : Tnm [.agg [.str s.nm, .list 1 (s.bs.map s1), .list 5 (s.ls.map Ln.cs), .list 6 (s.ss.map Sr.cs), .list 12 (s.qs.map By.cs)]] = some (.agg (normP s).cs) := by
  have e1 := unStn_cs s
  unfold Stn.cs at e1
  simp [Tnm, e1, h]
theorem nm_tab : ∀ vs v, Tnm vs = some v → PCall Try.prog 24 vs v := by
  intro vs v h; unfold Tnm at h; split at h
  · split at h
    · rename_i h1
      split at h
      · rename_i hl; cases h; rw [unStn_inv _ _ h1]; exact normal_ok hl
      · cases h
    · cases h
  · cases h

theorem Wk.agg {us us' : List V} (h : WkL us us') : Wk (.agg us) (.agg us') := by
  intro w ro x hx
  cases hx with
  | agg _ arr hl hr =>
    refine .agg _ _ (by rw [hl, h.1]) fun j c x hc hx => ?_
    have hj : j < us.length := by rw [h.1]; exact (List.getElem?_eq_some_iff.1 hc).1
    exact h.2 j _ c (List.getElem?_eq_getElem hj) hc w ro x (hr j _ x (List.getElem?_eq_getElem hj) hx)
def nz (k : Nat) : V → V
  | .nils => .list k []
  | v => v
theorem wk_nz (k : Nat) (v : V) : Wk v (nz k v) := by
  unfold nz
  split
  · exact Wk.nils k
  · exact Wk.refl _
/-- A diagram, a position, whose lists may be nil. -/
def nzS : V → V
  | .agg [a, b, c, d, e] => .agg [a, nz 1 b, nz 5 c, nz 6 d, nz 12 e]
  | v => v
def nzP : V → V
  | .agg [a, b] => .agg [nz 1 a, nz 1 b]
  | v => v
theorem wk_nzS (v : V) : Wk v (nzS v) := by
  unfold nzS
  split
  · exact Wk.agg (.cons (Wk.refl _) (.cons (wk_nz _ _) (.cons (wk_nz _ _) (.cons (wk_nz _ _) (.cons (wk_nz _ _) .nil)))))
  · exact Wk.refl _
theorem wk_nzP (v : V) : Wk v (nzP v) := by
  unfold nzP
  split
  · exact Wk.agg (.cons (wk_nz _ _) (.cons (wk_nz _ _) .nil))
  · exact Wk.refl _
theorem nz_nils (k : Nat) : nz k .nils = .list k [] := rfl
theorem nz_list (k j : Nat) (l : List (List V)) : nz k (.list j l) = .list j l := rfl
end Go.Proofs.Ytjhmphkdkclbjaa
end
section
namespace Go.Proofs.Ytjhmphkdkclbjaa
open Go.Pv Go.RowKit
set_option linter.unusedSimpArgs false
set_option linter.unusedVariables false
set_option maxRecDepth 100000
set_option maxHeartbeats 4000000
attribute [-simp] Tclo_at Tgrp_at Tchk Tpchk TcI TcB Tclo Tgrp Tsid Tnod Tlook Tbnd Tres TSd TBd Tix Tcon Tgps Tsg Tmv Tidx Tnms Tnmd Tobj Tlks Tbay Trck Trpc Trg Trf Trsd Trnd Tar

theorem Of_ok {s : Stn} {p : Pos} (hl : lenB s p = true) : PCall Try.prog 12 [.agg s.cs, .agg p.cs] (ofW s p) := by
  cases h : okP s p
  · exact Of_bad hl h
  · exact Of_good h
def Tof : List V → Option V
  | [A, B] => (match nzS A, nzP B with
    | .agg a, .agg b => (match unStn a, unPos b with
      | some s, some p => if lenB s p = true then some (ofW s p) else none
      | _, _ => none)
    | _, _ => none)
  | _ => none
theorem Tof_at {s : Stn} {p : Pos} (h : lenB s p = true) : Tof [.agg [.str s.nm, .list 1 (s.bs.map s1), .list 5 (s.ls.map Ln.cs), .list 6 (s.ss.map Sr.cs), .list 12 (s.qs.map By.cs)], .agg [.list 1 (p.cl.map b1), .list 1 (p.lk.map r1)]] = some (ofW s p) := by
  have e1 := unStn_cs s
  have e2 := unPos_cs p
  unfold Stn.cs at e1
  unfold Pos.cs at e2
  simp [Tof, nzS, nzP, nz, e1, e2, h]
theorem of_tab : ∀ vs v, Tof vs = some v → PCall Try.prog 12 vs v := by
  intro vs v h; unfold Tof at h; split at h
  · rename_i A B
    split at h
    · rename_i h1 h2
      split at h
      · rename_i h3 h4
        split at h
        · rename_i hl
          cases h
          refine (Of_ok hl).weaken (.cons (fun w ro x hx => ?_) (.cons (fun w ro x hx => ?_) .nil)) (Wk.refl _)
          · rw [← unStn_inv _ _ h3, ← h1]; exact wk_nzS A w ro x hx
          · rw [← unPos_inv _ _ h4, ← h2]; exact wk_nzP B w ro x hx
        · cases h
      · cases h
    · cases h
  · cases h
def bA (n : UInt8) : ByteArray := ⟨#[n]⟩
def st2 : Stn := ⟨bA 115, [bA 97, bA 98], [], [⟨bA 103, 10, 0, 1, 0, 1⟩], [⟨bA 113, 2, 0, 0, 0, 0, [⟨0, 1⟩, ⟨1, 0⟩], true, 1, 1, 0, 1⟩]⟩
theorem two33_ok : PCall Try.prog 23 [] (.agg st2.cs) := by
  have h : PCall Try.prog 23 [] (.agg [.str (bA 115), .list 1 (st2.bs.map s1), .nils, .list 6 (st2.ss.map Sr.cs), .list 12 (st2.qs.map By.cs)]) := by
    refine pcall_of2 Try.func23 rfl Try.ntmps23 Try.results23 (by simp) ?_
    refine cw_cut (K := fun s => s.env 0 = .ptr 0 0 ∧ s.heap 0 = some ⟨27, [.str ⟨#[]⟩, .nils, .nils, .nils, .nils]⟩ ∧ ∀ k, k ≠ 0 → s.heap k = none) ?_ ?_
    · refine CW.of_cx (D := (fun _ => none)) noTab_ok mixed _ _ _ (by kernel_rfl) ?_
      repeat' first
        | (with_reducible refine gw_bool (fun _ => ?_) (fun _ => ?_))
        | (with_reducible refine condw_bool (fun _ => ?_) (fun _ => ?_))
        | simp [*]
      all_goals (intro k hk; simp [upd, hk])
    rintro ⟨e, h⟩ ⟨e0, h0, hn⟩
    simp only at e0 h0 hn
    have n1 := hn 1 (by decide)
    have n3 := hn 3 (by decide)
    have n7 := hn 7 (by decide)
    have n10 := hn 10 (by decide)
    have n12 := hn 12 (by decide)
    clear hn
    refine cw_cut (K := fun s => s.env 0 = .ptr 0 0 ∧ s.heap 0 = some ⟨27, [.str ⟨#[]⟩, .nils, .nils, .nils, .nils]⟩ ∧ s.env 1 = .ptr 1 0 ∧ s.heap 1 = some ⟨51, [.int .i64 0, .int .i64 1]⟩ ∧ s.heap 3 = none ∧ s.heap 7 = none ∧ s.heap 10 = none ∧ s.heap 12 = none) ?_ ?_
    · refine CW.of_cx (D := (fun _ => none)) noTab_ok mixed _ _ _ (by kernel_rfl) ?_
      repeat' first
        | (with_reducible refine gw_bool (fun _ => ?_) (fun _ => ?_))
        | (with_reducible refine condw_bool (fun _ => ?_) (fun _ => ?_))
        | simp [*, setsV]
    clear e0 h0 n1 n3 n7 n10 n12 e h
    rintro ⟨e, h⟩ ⟨e0, h0, e1, h1, n3, n7, n10, n12⟩
    simp only at e0 h0 e1 h1 n3 n7 n10 n12
    refine cw_cut (K := fun s => s.env 0 = .ptr 0 0 ∧ s.heap 0 = some ⟨27, [.str (bA 115), .sl 3 0 2 1, .nils, .sl 7 0 1 6, .sl 12 0 1 12]⟩ ∧ s.heap 3 = some ⟨9, [.str (bA 97), .str (bA 98)]⟩ ∧ s.heap 7 = some ⟨96, [.str (bA 103), .int .i64 10, .int .i64 0, .int .i64 1, .int .i64 0, .int .i64 1]⟩ ∧ s.heap 10 = some ⟨84, [.int .i64 0, .int .i64 1, .int .i64 1, .int .i64 0]⟩ ∧ s.heap 12 = some ⟨54, [.str (bA 113), .int .i64 2, .int .i64 0, .int .i64 0, .int .i64 0, .int .i64 0, .sl 10 0 2 2, .bool true, .int .i64 1, .int .i64 1, .int .i64 0, .int .i64 1]⟩) ?_ ?_
    · refine CW.of_cx (D := (fun _ => none)) noTab_ok mixed _ _ _ (by kernel_rfl) ?_
      repeat' first
        | (with_reducible refine gw_bool (fun _ => ?_) (fun _ => ?_))
        | (with_reducible refine condw_bool (fun _ => ?_) (fun _ => ?_))
        | simp [*, setsV, bA]
    clear e0 h0 e1 h1 n3 n7 n10 n12 e h
    rintro ⟨e, h⟩ ⟨e0, h0, h3, h7, h10, h12⟩
    simp only at e0 h0 h3 h7 h10 h12
    refine cw_view (View.pub _ (key := 10) (blk := ⟨84, [.int .i64 0, .int .i64 1, .int .i64 1, .int .i64 0]⟩) h10 rfl) ?_
    refine cw_view (View.pub _ (key := 12) (blk := ⟨54, [.str (bA 113), .int .i64 2, .int .i64 0, .int .i64 0, .int .i64 0, .int .i64 0, .list 2 [[.int .i64 0, .int .i64 1], [.int .i64 1, .int .i64 0]], .bool true, .int .i64 1, .int .i64 1, .int .i64 0, .int .i64 1]⟩) (by simp [St.pub, pubC, h12, chunks]) rfl) ?_
    refine cw_view (View.pub _ (key := 3) (blk := ⟨9, [.str (bA 97), .str (bA 98)]⟩) (by simp [St.pub, pubC, h3]) rfl) ?_
    refine cw_view (View.pub _ (key := 7) (blk := ⟨96, [.str (bA 103), .int .i64 10, .int .i64 0, .int .i64 1, .int .i64 0, .int .i64 1]⟩) (by simp [St.pub, pubC, h7]) rfl) ?_
    refine CW.of_cx (D := (fun _ => none)) noTab_ok mixed _ _ _ (by kernel_rfl) ?_
    repeat' first
      | (with_reducible refine gw_bool (fun _ => ?_) (fun _ => ?_))
      | (with_reducible refine condw_bool (fun _ => ?_) (fun _ => ?_))
      | simp [*, St.pub, pubC, pubA, pubT, chunks, st2, s1, Sr.cs, By.cs, Lk.cs]
  exact h.weaken .nil (Wk.agg (.cons (Wk.refl _) (.cons (Wk.refl _) (.cons (Wk.nils 5) (.cons (Wk.refl _) (.cons (Wk.refl _) .nil))))))
end Go.Proofs.Ytjhmphkdkclbjaa
end
section
namespace Go.Proofs.Ytjhmphkdkclbjaa
open Go.Pv Go.RowKit
set_option linter.unusedSimpArgs false
set_option linter.unusedVariables false
set_option maxRecDepth 100000
set_option maxHeartbeats 4000000
attribute [-simp] Tclo_at Tgrp_at Tchk Tpchk TcI TcB Tclo Tgrp Tsid Tnod Tlook Tbnd Tres TSd TBd Tix Tcon Tgps Tsg Tmv Tidx Tnms Tnmd Tobj Tlks Tbay Trck Trpc Trg Trf Trsd Trnd Tar

theorem cw_split {Γ : Tab} (hΓ : TabOK Try.prog Γ) {n id : Nat} {ops : Array Oper} {Q : Exit → St → Prop} {st : St} (k : Nat) (K : St → Prop) (hf : ops.toList.all (fun o => fits n o.dst) = true) (h1 : egX Try.prog Γ ops (ops.toList.take k) K st) (h2 : ∀ s, K s → ∃ s', View n s s' ∧ egX Try.prog Γ ops (ops.toList.drop k) (Q .normal) s') : CW Try.prog n (.region id ops false) Q st := by
  intro w0 ro lam a w hs
  refine wp_region_list ?_
  have hf1 : (ops.toList.take k).all (fun o => fits n o.dst) = true := List.all_eq_true.2 fun o ho => List.all_eq_true.1 hf o (List.mem_of_mem_take ho)
  have hf2 : (ops.toList.drop k).all (fun o => fits n o.dst) = true := List.all_eq_true.2 fun o ho => List.all_eq_true.1 hf o (List.mem_of_mem_drop ho)
  have key := eg_wp hΓ (rest := ops.toList.drop k) (ops := ops) (QQ := fun e a' w' => ∃ st' ro' lam', Q e st' ∧ Ext w0 ro ro' ∧ Sim w0 n ro' lam' st' a' w') (ops.toList.take k) st ro lam a w hf1 h1 hs (by
    rintro s a1 ro1 lam1 w1 hk hx hs1
    obtain ⟨s', hv, h3⟩ := h2 s hk
    obtain ⟨ro2, lam2, e2, hs2⟩ := hv w0 ro1 lam1 a1 w1 hs1
    have := eg_wp hΓ (rest := []) (ops := ops) (QQ := fun e a' w' => ∃ st' ro' lam', Q e st' ∧ Ext w0 ro ro' ∧ Sim w0 n ro' lam' st' a' w') (ops.toList.drop k) s' ro2 lam2 a1 w1 hf2 h3 hs2 (fun st' a' ro' lam' w' hk hx' hs' => ⟨st', ro', lam', hk, (hx.trans (e2.trans hx')), hs'⟩)
    simpa using this)
  rwa [List.take_append_drop] at key
def Ttwo : List V → Option V
  | [] => some (.agg st2.cs)
  | _ => none
theorem two_tab : ∀ vs v, Ttwo vs = some v → PCall Try.prog 23 vs v := by
  intro vs v h; unfold Ttwo at h; split at h
  · cases h; exact two33_ok
  · cases h
def Tat : List V → Option V
  | [.list 3 xs, .int .i64 b] => (match decL unSc xs with
    | some L => if smallSc L = true then some (.int .i64 (atF L b)) else none
    | none => none)
  | _ => none
theorem Tat_at {L : List Sc} {b : Int} (h : smallSc L = true) : Tat [.list 3 (L.map Sc.cs), .int .i64 b] = some (.int .i64 (atF L b)) := by simp [Tat, decL_map unSc_cs, h]
theorem at_tab : ∀ vs v, Tat vs = some v → PCall Try.prog 19 vs v := by
  intro vs v h; unfold Tat at h; split at h
  · split at h
    · rename_i h1
      split at h
      · rename_i hl; cases h; rw [decL_inv unSc_inv _ _ h1]
        simp only [smallSc, Bool.and_eq_true, decide_eq_true_eq, List.all_eq_true] at hl
        exact At_ok _ _ (by omega) (fun x hx => by have := (hl.2 x hx).1; omega)
      · cases h
    · cases h
  · cases h
def HK : Tab := add 23 Ttwo (add 12 Tof (add 24 Tnm (add 19 Tat (HS))))
theorem HK_at (f : FuncId) (vs : List V) : HK.at' f vs = if f = 23 then Ttwo vs else if f = 12 then Tof vs else if f = 24 then Tnm vs else if f = 19 then Tat vs else HS.at' f vs := rfl
theorem HK_fr (f : FuncId) : HK.fr f = if f = 23 then false else if f = 12 then false else if f = 24 then false else if f = 19 then false else HS.fr f := rfl
theorem HK_gb (f : FuncId) : HK.gb f = HS.gb f := rfl
theorem HK_gv (f : FuncId) (vs : List V) : HK.gv f vs = HS.gv f vs := rfl
attribute [simp] HK_at HK_fr HK_gb HK_gv Tat Tnm Tof Ttwo
theorem HK_ok : TabOK Try.prog HK := by
  refine add_ok (add_ok (add_ok (add_ok (HS_ok) (by kernel_rfl) ?_) (by kernel_rfl) ?_) (by kernel_rfl) ?_) (by kernel_rfl) ?_
  · exact at_tab
  · exact nm_tab
  · exact of_tab
  · exact two_tab
attribute [-simp] Ttwo Tof Tnm Tat
def po1 : Pos := ⟨[true], [[1, 2]]⟩
def po2 : Pos := normP st2
def sx1 : List Sc := [⟨[0, 1], [(0, 1)], true⟩]
def sx2 : List Sc := [⟨[0], [(0, 1)], false⟩, ⟨[1], [], false⟩]
theorem st2_chk : chkF st2 = 0 := by kernel_rfl
theorem of1 : ofW st2 po1 = .tup [.list 3 (sx1.map Sc.cs), .int .i64 0] := by kernel_rfl
theorem of2 : ofW st2 po2 = .tup [.list 3 (sx2.map Sc.cs), .int .i64 0] := by kernel_rfl
theorem at21 : atF sx2 1 = 1 := by kernel_rfl
theorem known33_ok : PCall Try.prog 11 [] (.bool true) := by
  have hT0 : Ttwo [] = some (.agg st2.cs) := rfl
  have hT1 := Tof_at (s := st2) (p := po1) (by kernel_rfl)
  have hT2 := Tof_at (s := st2) (p := po2) (by kernel_rfl)
  have hTn := Tnm_at st2_chk
  have hTa := Tat_at (L := sx2) (b := 1) (by kernel_rfl)
  rw [of1] at hT1
  rw [of2] at hT2
  rw [at21] at hTa
  rw [show normP st2 = po2 from rfl] at hTn
  generalize po2 = P2 at hT2 hTn
  generalize st2 = X at hT0 hT1 hT2 hTn
  simp only [Stn.cs] at hT0
  simp only [Pos.cs] at hTn
  simp only [po1, sx1, sx2, List.map_cons, List.map_nil, Sc.cs, i1, p2, r1, b1] at hT1 hT2 hTa
  refine pcall_of2 Try.func11 rfl Try.ntmps11 Try.results11 (by simp) ?_
  refine cw_cut (K := fun s => ∀ k, s.heap k = none) ?_ ?_
  · refine CW.of_cx (D := (fun _ => none)) HK_ok mixed _ _ _ (by kernel_rfl) ?_
    repeat' first
      | (with_reducible refine gw_bool (fun _ => ?_) (fun _ => ?_))
      | (with_reducible refine condw_bool (fun _ => ?_) (fun _ => ?_))
      | simp [*]
  rintro ⟨e, h⟩ hn
  simp only at hn
  have n1 := hn 1
  have n9 := hn 9
  have n10 := hn 10
  have n11 := hn 11
  clear hn
  refine cw_cut (K := fun s => s.env 1 = .ptr 1 0 ∧ s.heap 1 = some ⟨27, X.cs⟩ ∧ s.heap 9 = none ∧ s.heap 10 = none ∧ s.heap 11 = none) ?_ ?_
  · refine CW.of_cx (D := (fun _ => none)) HK_ok mixed _ _ _ (by kernel_rfl) ?_
    repeat' first
      | (with_reducible refine gw_bool (fun _ => ?_) (fun _ => ?_))
      | (with_reducible refine condw_bool (fun _ => ?_) (fun _ => ?_))
      | simp [*, setsV, Stn.cs]
  clear n1 n9 n10 n11 e h
  rintro ⟨e, h⟩ ⟨e1, h1, n9, n10, n11⟩
  simp only at e1 h1 n9 n10 n11
  refine cw_cut (K := fun s => s.env 1 = .ptr 1 0 ∧ s.heap 1 = some ⟨27, X.cs⟩ ∧ s.env 2 = .list 3 [[.list 1 [[.int .i64 0], [.int .i64 1]], .list 2 [[.int .i64 0, .int .i64 1]], .bool true]] ∧ s.env 3 = .int .i64 0) ?_ ?_
  · refine cw_split HK_ok 5 (fun s => s.env 1 = .ptr 1 0 ∧ s.env 8 = .agg X.cs ∧ s.env 12 = .agg [.sl 9 0 1 1, .sl 11 0 1 1] ∧ s.heap 1 = some ⟨27, X.cs⟩ ∧ s.heap 9 = some ⟨4, [.bool true]⟩ ∧ s.heap 10 = some ⟨3, [.int .i64 1, .int .i64 2]⟩ ∧ s.heap 11 = some ⟨42, [.sl 10 0 2 1]⟩) (by kernel_rfl) ?_ ?_
    · clear hT1 hT2 hTn hTa
      repeat' first
        | (with_reducible refine gw_bool (fun _ => ?_) (fun _ => ?_))
        | (with_reducible refine condw_bool (fun _ => ?_) (fun _ => ?_))
        | simp [*, Stn.cs]
    clear e1 h1 n9 n10 n11 e h
    rintro ⟨e, h⟩ ⟨e1, e8, e12, h1, h9, h10, h11⟩
    simp only at e1 e8 e12 h1 h9 h10 h11
    refine ⟨_, (View.pub _ (key := 10) (blk := ⟨3, [.int .i64 1, .int .i64 2]⟩) h10 rfl).trans ((View.pub _ (key := 11) (blk := ⟨42, [.list 1 [[.int .i64 1], [.int .i64 2]]]⟩) (by simp [St.pub, pubC, h11, chunks]) rfl).trans (View.pub _ (key := 9) (blk := ⟨4, [.bool true]⟩) (by simp [St.pub, pubC, h9]) rfl)), ?_⟩
    clear hT2 hTn hTa
    repeat' first
      | (with_reducible refine gw_bool (fun _ => ?_) (fun _ => ?_))
      | (with_reducible refine condw_bool (fun _ => ?_) (fun _ => ?_))
      | simp [*, Stn.cs, St.pub, pubC, pubA, pubT, chunks]
  clear e1 h1 n9 n10 n11 e h
  rintro ⟨e, h⟩ ⟨e1, h1, e2, e3⟩
  simp only at e1 h1 e2 e3
  clear hT1 hT0
  refine CW.of_cx (D := (fun _ => none)) HK_ok mixed _ _ _ (by kernel_rfl) ?_
  repeat' first
    | (with_reducible refine gw_bool (fun _ => ?_) (fun _ => ?_))
    | (with_reducible refine condw_bool (fun _ => ?_) (fun _ => ?_))
    | simp [*, Stn.cs]
end Go.Proofs.Ytjhmphkdkclbjaa
end
section
namespace Go.Proofs.Ytjhmphkdkclbjaa
open Go.Pv Go.RowKit
set_option linter.unusedSimpArgs false
set_option linter.unusedVariables false
set_option maxRecDepth 100000
set_option maxHeartbeats 4000000
attribute [-simp] Tclo_at Tgrp_at Tchk Tpchk TcI TcB Tclo Tgrp Tsid Tnod Tlook Tbnd Tres TSd TBd Tix Tcon Tgps Tsg Tmv Tidx Tnms Tnmd Tobj Tlks Tbay Trck Trpc Trg Trf Trsd Trnd Tar Ttwo Tof Tnm Tat

theorem rOf_ok {s : Stn} {p : Pos} (hk : lkB s = true) (hl : lenB s p = true) : PCall Try.prog 13 [.agg s.cs, .agg p.cs] (ofW s p) := by
  cases h : okP s p
  · exact rOf_bad hk hl h
  · exact rOf_good h
def Trof : List V → Option V
  | [.agg a, .agg b] => (match unStn a, unPos b with
    | some s, some p => if lkB s = true ∧ lenB s p = true then some (ofW s p) else none
    | _, _ => none)
  | _ => none
theorem Trof_at {s : Stn} {p : Pos} (hk : lkB s = true) (h : lenB s p = true) : Trof [.agg [.str s.nm, .list 1 (s.bs.map s1), .list 5 (s.ls.map Ln.cs), .list 6 (s.ss.map Sr.cs), .list 12 (s.qs.map By.cs)], .agg [.list 1 (p.cl.map b1), .list 1 (p.lk.map r1)]] = some (ofW s p) := by
  have e1 := unStn_cs s
  have e2 := unPos_cs p
  unfold Stn.cs at e1
  unfold Pos.cs at e2
  simp [Trof, e1, e2, h, hk]
theorem rof_tab : ∀ vs v, Trof vs = some v → PCall Try.prog 13 vs v := by
  intro vs v h; unfold Trof at h; split at h
  · split at h
    · rename_i h1 h2
      split at h
      · rename_i hl; cases h; rw [unStn_inv _ _ h1, unPos_inv _ _ h2]; exact rOf_ok hl.1 hl.2
      · cases h
    · cases h
  · cases h
noncomputable section
open Classical in
def Tsm : List V → Option V := fun vs => if ∃ L, smallSc L = true ∧ vs = [.list 3 (L.map Sc.cs), .list 3 (L.map Sc.cs)] then some (.bool true) else none
theorem Tsm_at {L : List Sc} (h : smallSc L = true) : Tsm [.list 3 (L.map Sc.cs), .list 3 (L.map Sc.cs)] = some (.bool true) := by
  unfold Tsm; rw [if_pos ⟨L, h, rfl⟩]
theorem sm_tab : ∀ vs v, Tsm vs = some v → PCall Try.prog 14 vs v := by
  intro vs v h; unfold Tsm at h; split at h
  · rename_i hx
    obtain ⟨L, hL, rfl⟩ := hx
    cases h; exact sameS_ok L hL
  · cases h
def Tsl : List V → Option V
  | [.agg a, .agg b] => (match unStn a, unPos b with
    | some s, some p => some (.bool (smallF s p))
    | _, _ => none)
  | _ => none
theorem Tsl_at {s : Stn} {p : Pos} : Tsl [.agg [.str s.nm, .list 1 (s.bs.map s1), .list 5 (s.ls.map Ln.cs), .list 6 (s.ss.map Sr.cs), .list 12 (s.qs.map By.cs)], .agg [.list 1 (p.cl.map b1), .list 1 (p.lk.map r1)]] = some (.bool (smallF s p)) := by
  have e1 := unStn_cs s
  have e2 := unPos_cs p
  unfold Stn.cs at e1
  unfold Pos.cs at e2
  simp [Tsl, e1, e2]
theorem sl_tab : ∀ vs v, Tsl vs = some v → PCall Try.prog 10 vs v := by
  intro vs v h; unfold Tsl at h; split at h
  · split at h
    · rename_i h1 h2
      cases h; rw [unStn_inv _ _ h1, unPos_inv _ _ h2]; exact small33_ok _ _
    · cases h
  · cases h
def Tk33 : List V → Option V
  | [] => some (.bool true)
  | _ => none
theorem k33_tab : ∀ vs v, Tk33 vs = some v → PCall Try.prog 11 vs v := by
  intro vs v h; unfold Tk33 at h; split at h
  · cases h; exact known33_ok
  · cases h
def HL : Tab := add 13 Trof (add 14 Tsm (add 10 Tsl (add 11 Tk33 (HK))))
theorem HL_at (f : FuncId) (vs : List V) : HL.at' f vs = if f = 13 then Trof vs else if f = 14 then Tsm vs else if f = 10 then Tsl vs else if f = 11 then Tk33 vs else HK.at' f vs := rfl
theorem HL_fr (f : FuncId) : HL.fr f = if f = 13 then false else if f = 14 then false else if f = 10 then false else if f = 11 then false else HK.fr f := rfl
theorem HL_gb (f : FuncId) : HL.gb f = HK.gb f := rfl
theorem HL_gv (f : FuncId) (vs : List V) : HL.gv f vs = HK.gv f vs := rfl
attribute [simp] HL_at HL_fr HL_gb HL_gv Tk33 Trof Tsl Tsm
theorem HL_ok : TabOK Try.prog HL := by
  refine add_ok (add_ok (add_ok (add_ok (HK_ok) (by kernel_rfl) ?_) (by kernel_rfl) ?_) (by kernel_rfl) ?_) (by kernel_rfl) ?_
  · exact k33_tab
  · exact sl_tab
  · exact sm_tab
  · exact rof_tab
attribute [-simp] Trof Tsm Tsl Tk33
theorem smallSc_mk {L : List Sc} (h : L.length ≤ 1000) (hx : ∀ x ∈ L, x.bu.length ≤ 1000 ∧ x.me.length ≤ 1000) : smallSc L = true := by
  simp only [smallSc, Bool.and_eq_true, decide_eq_true_eq, List.all_eq_true]
  exact ⟨h, hx⟩
theorem ofF_small {s : Stn} {p : Pos} (h : smallF s p = true) : smallSc (ofF s p) = true := by
  simp only [smallF, Bool.and_eq_true, Bool.not_eq_true', ilt] at h
  obtain ⟨h1, h2, _, _⟩ := h
  have h1' : s.qs.length ≤ 20 := by simp at h1; omega
  have h2' : s.bs.length ≤ 10 := by simp at h2; omega
  unfold ofF
  split
  · have hl := secN_len s p (resP p true) (grp s (resP p true)) s.bs.length
    refine smallSc_mk (by rw [secF]; omega) fun x hx => ?_
    rw [secF] at hx
    simp only [secN, List.mem_map] at hx
    obtain ⟨i, _, rfl⟩ := hx
    have hg : (grp s (resP p true)).length = s.bs.length := by rw [grp, grpN_len]
    have hb := busN_len (grp s (resP p true)) i (grp s (resP p true)).length
    simp only [secX, memF, List.length_map]
    refine ⟨by omega, ?_⟩
    cases hn : nodF s (grp s (resP p true)) 1 (i : Int) with
    | none => simp [bndF]
    | some nd =>
      have := bndN_len s (resP p true) (grp s (resP p true)) nd s.qs.length
      simp only [bndF]; omega
  · simp [smallSc]
theorem sections_ok {s : Stn} {p : Pos} (hk : lkB s = true) (hl : lenB s p = true) : PCall Try.prog 3 [.agg s.cs, .agg p.cs] (.bool true) := by
  have t1 := @Tsl_at s p
  have t2 : Tk33 [] = some (.bool true) := rfl
  have t3 := Tof_at hl
  have t4 := Trof_at hk hl
  cases hs : smallF s p
  · rw [hs] at t1
    clear t3 t4
    refine pcall_cx HL_ok mixed (fun _ => none) Try.func3 rfl Try.ntmps3 Try.results3 (by simp) (by kernel_rfl) ?_
    repeat' first
      | (with_reducible refine gw_bool (fun _ => ?_) (fun _ => ?_))
      | (with_reducible refine condw_bool (fun _ => ?_) (fun _ => ?_))
      | simp [*, Stn.cs, Pos.cs]
  · have t5 := Tsm_at (ofF_small hs)
    rw [hs] at t1
    simp only [ofW] at t3 t4
    generalize ofF s p = L at t3 t4 t5
    generalize ofE s p = E at t3 t4
    refine pcall_cx HL_ok mixed (fun _ => none) Try.func3 rfl Try.ntmps3 Try.results3 (by simp) (by kernel_rfl) ?_
    repeat' first
      | (with_reducible refine gw_bool (fun _ => ?_) (fun _ => ?_))
      | (with_reducible refine condw_bool (fun _ => ?_) (fun _ => ?_))
      | simp [*, Stn.cs, Pos.cs]
end
end Go.Proofs.Ytjhmphkdkclbjaa
end
