/-
  The document's positions: the check.
-/
import Derived.Test.YtcbddoopmkhlfaaSt21
namespace Go.Proofs.Ytcbddoopmkhlfaa
open Go.Pv Go.RowKit
set_option linter.unusedSimpArgs false
set_option linter.unusedVariables false
set_option maxRecDepth 100000
set_option maxHeartbeats 4000000
attribute [-simp] Tclo_at Tgrp_at Tchk Tpchk TcI TcB Tclo Tgrp Tsid Tnod Tlook Tbnd Tidx Tnms Tnmd Tobj Tlks Tbay

def lkB (s : Stn) : Bool := s.qs.all (fun b => decide (b.lks.length ≤ 9223372036854775807))
def Trck : List V → Option V
  | [.agg a] => (match unStn a with
    | some s => if lkB s = true then some (.int .i64 (chkF s)) else none
    | none => none)
  | _ => none
theorem Trck_at {s : Stn} (h : lkB s = true) : Trck [.agg [.str s.nm, .list 1 (s.bs.map s1), .list 5 (s.ls.map Ln.cs), .list 6 (s.ss.map Sr.cs), .list 12 (s.qs.map By.cs)]] = some (.int .i64 (chkF s)) := by
  have e1 := unStn_cs s
  unfold Stn.cs at e1
  simp [Trck, e1, h]
theorem rck_tab : ∀ vs v, Trck vs = some v → PCall Try.prog 44 vs v := by
  intro vs v h; unfold Trck at h; split at h
  · split at h
    · rename_i h1
      split at h
      · rename_i hl; cases h; rw [unStn_inv _ _ h1]
        exact rcheck_ok _ (fun b hb => by simpa using List.all_eq_true.1 hl b hb)
      · cases h
    · cases h
  · cases h
def E7 : Tab := add 44 Trck (E6)
theorem E7_at (f : FuncId) (vs : List V) : E7.at' f vs = if f = 44 then Trck vs else E6.at' f vs := rfl
theorem E7_fr (f : FuncId) : E7.fr f = if f = 44 then false else E6.fr f := rfl
theorem E7_gb (f : FuncId) : E7.gb f = E6.gb f := rfl
theorem E7_gv (f : FuncId) (vs : List V) : E7.gv f vs = E6.gv f vs := rfl
attribute [simp] E7_at E7_fr E7_gb E7_gv Trck
theorem E7_ok : TabOK Try.prog E7 := by
  refine add_ok (E6_ok) (by kernel_rfl) ?_
  · exact rck_tab
attribute [-simp] Trck
attribute [simp] Trck_at
theorem okL_of (k x : Int) : okL k x = !(ilt x 0 || (ilt 2 x || (ieq k 3 && !ieq x 1))) := by
  unfold okL
  cases h0 : ilt x 0
  · cases h2 : ilt 2 x
    · have a := ilt_iff'.1 h0
      have b := ilt_iff'.1 h2
      rcases (show x = 0 ∨ x = 1 ∨ x = 2 by omega) with rfl | rfl | rfl
      all_goals cases ieq k 3 <;> rfl
    · have b := ilt_iff.1 h2
      rw [ieq_f (show x ≠ 1 by omega), ieq_f (show x ≠ 0 by omega), ieq_f (show x ≠ 2 by omega)]; simp
  · have b := ilt_iff.1 h0
    rw [ieq_f (show x ≠ 1 by omega), ieq_f (show x ≠ 0 by omega), ieq_f (show x ≠ 2 by omega)]; simp
theorem rpchk_ok (s : Stn) (p : Pos) (hm : s.qs.length ≤ 9223372036854775807) (hp : ∀ l ∈ p.lk, l.length ≤ 9223372036854775807) : PCall Try.prog 45 [.agg s.cs, .agg p.cs] (.int .i64 (posE s p)) := by
  obtain ⟨n, hn⟩ : ∃ n, s.qs.length = n := ⟨_, rfl⟩
  obtain ⟨n1, hn1⟩ : ∃ n, p.cl.length = n := ⟨_, rfl⟩
  obtain ⟨n2, hn2⟩ : ∃ n, p.lk.length = n := ⟨_, rfl⟩
  rw [hn] at hm
  cases c1 : ieq (n1 : Int) (n : Int)
  · have he : posE s p = 3 := by simp [posE, hn, hn1, hn2, c1]
    rw [he]
    refine pcall_cx E7_ok mixed (fun _ => none) Try.func45 rfl Try.ntmps45 Try.results45 (by simp) (by kernel_rfl) ?_
    repeat' first
      | (with_reducible refine gw_bool (fun _ => ?_) (fun _ => ?_))
      | (with_reducible refine condw_bool (fun _ => ?_) (fun _ => ?_))
      | simp [*, Stn.cs, Pos.cs]
  cases c2 : ieq (n2 : Int) (n : Int)
  · have he : posE s p = 3 := by simp [posE, hn, hn1, hn2, c1, c2]
    rw [he]
    refine pcall_cx E7_ok mixed (fun _ => none) Try.func45 rfl Try.ntmps45 Try.results45 (by simp) (by kernel_rfl) ?_
    repeat' first
      | (with_reducible refine gw_bool (fun _ => ?_) (fun _ => ?_))
      | (with_reducible refine condw_bool (fun _ => ?_) (fun _ => ?_))
      | simp [*, Stn.cs, Pos.cs]
  have hn12 : n2 = n := by
    have : (n2 : Int) = (n : Int) := by simpa only [ieq, beq_iff_eq] using c2
    omega
  obtain ⟨A, hA⟩ : ∃ A, (List.range n).all (lenOk s p) = A := ⟨_, rfl⟩
  obtain ⟨B, hB⟩ : ∃ B, (List.range n).all (rowOk s p) = B := ⟨_, rfl⟩
  have he : posE s p = if A = false then 3 else if B = false then 16 else 0 := by simp only [posE, hn, hn1, hn2, c1, c2, hA, hB]; simp
  rw [he]
  clear he
  replace hA : Hid ((List.range n).all (lenOk s p) = A) := hA
  replace hB : Hid ((List.range n).all (rowOk s p) = B) := hB
  refine pcall_cx E7_ok mixed (fun _ => none) Try.func45 rfl Try.ntmps45 Try.results45 (by simp) (by kernel_rfl) ?_
  repeat' first
    | (with_reducible refine gw_bool (fun _ => ?_) (fun _ => ?_))
    | (with_reducible refine condw_bool (fun _ => ?_) (fun _ => ?_))
    | simp [*, Stn.cs, Pos.cs]
  refine lp_go (D := (fun _ => none)) E7_ok mixed (by kernel_rfl) [2, 3] [2, 3] (α := Nat) (fun i e h => i ≤ n ∧ e 5 = .int .i64 i ∧ Hid ((List.range i).all (lenOk s p) = true)) (fun i => n - i) 0 ?_ ?_
  · exact ⟨by omega, rfl, show _ = _ by simp⟩
  · rintro i e h hk hkh ⟨hi, g7, hinv⟩
    simp [Keep] at hk
    simp [KeepH] at hkh
    by_cases hlt : i < n
    · obtain ⟨b, hb, hb'⟩ := at_ex (l := s.qs) (i := i) (by omega)
      obtain ⟨l, hl, hl'⟩ := at_ex (l := p.lk) (i := i) (by omega)
      have f1 : ilt (i : Int) (n : Int) = true := ilt_t (by omega)
      have w1 : IntKind.i64.wrap ((i : Int) + 1) = ((i + 1 : Nat) : Int) := wrap_succ (by omega)
      have hg : lenOk s p i = ieq (l.length : Int) (b.lks.length : Int) := by simp [lenOk, hb, hl]
      obtain ⟨m1, hm1⟩ : ∃ m, l.length = m := ⟨_, rfl⟩
      obtain ⟨m2, hm2⟩ : ∃ m, b.lks.length = m := ⟨_, rfl⟩
      rw [hm1, hm2] at hg
      have hlt2 : i < n2 := by omega
      cases hq : ieq (m1 : Int) (m2 : Int)
      · rw [hq] at hg
        have hall : A = false := by rw [← hA.out]; exact all_false hlt hg
        clear hinv hg hA hB
        repeat' first
          | (with_reducible refine gw_bool (fun _ => ?_) (fun _ => ?_))
          | (with_reducible refine condw_bool (fun _ => ?_) (fun _ => ?_))
          | simp [*, By.cs, r1]
      · rw [hq] at hg
        have hq' : Hid ((List.range (i + 1)).all (lenOk s p) = true) := all_step hinv.out hg
        clear hinv hg
        repeat' first
          | (with_reducible refine gw_bool (fun _ => ?_) (fun _ => ?_))
          | (with_reducible refine condw_bool (fun _ => ?_) (fun _ => ?_))
          | simp [*, By.cs, r1]
        refine nxt_go (i + 1) (View.refl _ _) (by omega) (by simp [*, Keep, St.forget, scr, scrC]) (by simp [*, KeepH, St.forget, scr, scrC]) ?_
        refine ⟨by omega, ?_, hq'⟩; simp [*]
    · have f1 : ilt (i : Int) (n : Int) = false := ilt_f (by omega)
      have e1 : i = n := by omega
      have hLen : Hid ((List.range n).all (lenOk s p) = true) := by
        have := hinv.out
        rwa [e1] at this
      have hAt : A = true := by rw [← hA.out]; exact hLen.out
      clear hinv hA
      repeat' first
        | (with_reducible refine gw_bool (fun _ => ?_) (fun _ => ?_))
        | (with_reducible refine condw_bool (fun _ => ?_) (fun _ => ?_))
        | simp [*]
      refine lp_go (D := (fun _ => none)) E7_ok mixed (by kernel_rfl) [2, 3] [2, 3] (α := Nat) (fun i e h => i ≤ n ∧ e 6 = .int .i64 i ∧ Hid ((List.range i).all (rowOk s p) = true)) (fun i => n - i) 0 ?_ ?_
      · exact ⟨by omega, by simp, show _ = _ by simp⟩
      · have hk0 := hk
        have hkh0 := hkh
        clear hk hkh g7
        rintro i e h hk hkh ⟨hi, g7, hinv⟩
        simp [Keep, hk0, hkh0] at hk
        simp [KeepH, hk0, hkh0] at hkh
        by_cases hlt : i < n
        · obtain ⟨b, hb, hb'⟩ := at_ex (l := s.qs) (i := i) (by omega)
          obtain ⟨l, hl, hl'⟩ := at_ex (l := p.lk) (i := i) (by omega)
          have f1 : ilt (i : Int) (n : Int) = true := ilt_t (by omega)
          have w1 : IntKind.i64.wrap ((i : Int) + 1) = ((i + 1 : Nat) : Int) := wrap_succ (by omega)
          have hg : rowOk s p i = l.all (okL b.kind) := by simp [rowOk, hb, hl]
          have hlm : l.length ≤ 9223372036854775807 := hp l (List.mem_of_getElem? hl)
          obtain ⟨m1, hm1⟩ : ∃ m, l.length = m := ⟨_, rfl⟩
          rw [hm1] at hlm
          have hlt2 : i < n2 := by omega
          replace hg : Hid (rowOk s p i = l.all (okL b.kind)) := hg
          repeat' first
            | (with_reducible refine gw_bool (fun _ => ?_) (fun _ => ?_))
            | (with_reducible refine condw_bool (fun _ => ?_) (fun _ => ?_))
            | simp [*, By.cs, r1]
          refine lp_go (D := (fun _ => none)) E7_ok mixed (by kernel_rfl) [2, 3, 6, 46, 47, 48, 49, 50] [2, 3] (α := Nat) (fun j e h => j ≤ m1 ∧ e 7 = .int .i64 j ∧ Hid ((l.take j).all (okL b.kind) = true)) (fun j => m1 - j) 0 ?_ ?_
          · exact ⟨by omega, by simp, show _ = _ by simp⟩
          · have hk0 := hk
            have hkh0 := hkh
            have g0 := g7
            clear hk hkh g7
            rintro j e h hk hkh ⟨hj, g7, hjnv⟩
            simp [Keep, hk0, hkh0, g0] at hk
            simp [KeepH, hk0, hkh0] at hkh
            by_cases hjlt : j < m1
            · obtain ⟨x, hx, hx'⟩ := at_ex (l := l) (i := j) (by omega)
              have f2 : ilt (j : Int) (m1 : Int) = true := ilt_t (by omega)
              have w2 : IntKind.i64.wrap ((j : Int) + 1) = ((j + 1 : Nat) : Int) := wrap_succ (by omega)
              have hok : okL b.kind x = !(ilt x 0 || (ilt 2 x || (ieq b.kind 3 && !ieq x 1))) := okL_of _ _
              cases ho : okL b.kind x
              · rw [ho] at hok
                have hBf : B = false := by
                  rw [← hB.out]
                  refine all_false hlt ?_
                  rw [hg.out, Bool.eq_false_iff]
                  intro hc
                  have := List.all_eq_true.1 hc x (List.mem_of_getElem? hx)
                  rw [ho] at this; cases this
                clear hg hjnv hinv hB hLen ho
                replace hok : Hid (false = !(ilt x 0 || (ilt 2 x || (ieq b.kind 3 && !ieq x 1)))) := hok
                repeat' first
                  | (with_reducible refine gw_bool (fun _ => ?_) (fun _ => ?_))
                  | (with_reducible refine condw_bool (fun _ => ?_) (fun _ => ?_))
                  | simp [*, i1, r1, By.cs]
                all_goals (exfalso; have hok := hok.out; simp [*] at hok; done)
              · have hq' : Hid ((l.take (j + 1)).all (okL b.kind) = true) := by
                  show _ = _
                  rw [take_snoc hx, List.all_append, hjnv.out]; simp [ho]
                rw [ho] at hok
                clear hjnv ho
                replace hok : Hid (true = !(ilt x 0 || (ilt 2 x || (ieq b.kind 3 && !ieq x 1)))) := hok
                repeat' first
                  | (with_reducible refine gw_bool (fun _ => ?_) (fun _ => ?_))
                  | (with_reducible refine condw_bool (fun _ => ?_) (fun _ => ?_))
                  | simp [*, i1, r1, By.cs]
                all_goals first
                  | (exfalso; have hok := hok.out; simp [*] at hok; done)
                  | skip
                all_goals refine nxt_go (j + 1) (View.refl _ _) (by omega) (by simp [*, Keep, St.forget, scr, scrC]) (by simp [*, KeepH, St.forget, scr, scrC]) ?_
                all_goals (refine ⟨by omega, ?_, hq'⟩; simp [*])
            · have f2 : ilt (j : Int) (m1 : Int) = false := ilt_f (by omega)
              have e2 : j = m1 := by omega
              have hq' : Hid ((List.range (i + 1)).all (rowOk s p) = true) := by
                refine all_step hinv.out ?_
                rw [hg.out]
                have := hjnv.out
                rwa [e2, ← hm1, List.take_length] at this
              clear hjnv hinv hg
              repeat' first
                | (with_reducible refine gw_bool (fun _ => ?_) (fun _ => ?_))
                | (with_reducible refine condw_bool (fun _ => ?_) (fun _ => ?_))
                | simp [*, r1]
              refine nxt_go (i + 1) (View.refl _ _) (by omega) (by simp [*, Keep, St.forget, scr, scrC]) (by simp [*, KeepH, St.forget, scr, scrC]) ?_
              refine ⟨by omega, ?_, hq'⟩; simp [*]
        · have f1 : ilt (i : Int) (n : Int) = false := ilt_f (by omega)
          have e1 : i = n := by omega
          have hBt : B = true := by
            have := hinv.out
            rw [e1] at this
            rw [← hB.out]; exact this
          clear hinv hB hLen
          repeat' first
            | (with_reducible refine gw_bool (fun _ => ?_) (fun _ => ?_))
            | (with_reducible refine condw_bool (fun _ => ?_) (fun _ => ?_))
            | simp [*, r1]
def Trpc : List V → Option V
  | [.agg a, .agg b] => (match unStn a, unPos b with
    | some s, some p => if lenB s p = true then some (.int .i64 (posE s p)) else none
    | _, _ => none)
  | _ => none
theorem Trpc_at {s : Stn} {p : Pos} (h : lenB s p = true) : Trpc [.agg [.str s.nm, .list 1 (s.bs.map s1), .list 5 (s.ls.map Ln.cs), .list 6 (s.ss.map Sr.cs), .list 12 (s.qs.map By.cs)], .agg [.list 1 (p.cl.map b1), .list 1 (p.lk.map r1)]] = some (.int .i64 (posE s p)) := by
  have e1 := unStn_cs s
  have e2 := unPos_cs p
  unfold Stn.cs at e1
  unfold Pos.cs at e2
  simp [Trpc, e1, e2, h]
theorem rpc_tab : ∀ vs v, Trpc vs = some v → PCall Try.prog 45 vs v := by
  intro vs v h; unfold Trpc at h; split at h
  · split at h
    · rename_i h1 h2
      split at h
      · rename_i hl
        cases h
        rw [unStn_inv _ _ h1, unPos_inv _ _ h2]
        simp only [lenB, Bool.and_eq_true, decide_eq_true_eq, List.all_eq_true] at hl
        exact rpchk_ok _ _ hl.1 hl.2
      · cases h
    · cases h
  · cases h
def E8 : Tab := add 45 Trpc (E7)
theorem E8_at (f : FuncId) (vs : List V) : E8.at' f vs = if f = 45 then Trpc vs else E7.at' f vs := rfl
theorem E8_fr (f : FuncId) : E8.fr f = if f = 45 then false else E7.fr f := rfl
theorem E8_gb (f : FuncId) : E8.gb f = E7.gb f := rfl
theorem E8_gv (f : FuncId) (vs : List V) : E8.gv f vs = E7.gv f vs := rfl
attribute [simp] E8_at E8_fr E8_gb E8_gv Trpc
theorem E8_ok : TabOK Try.prog E8 := by
  refine add_ok (E7_ok) (by kernel_rfl) ?_
  · exact rpc_tab
attribute [-simp] Trpc
attribute [simp] Trpc_at
theorem rfine_ok {s : Stn} {p : Pos} (h1 : lkB s = true) (h2 : lenB s p = true) : PCall Try.prog 53 [.agg s.cs, .agg p.cs] (.bool (okP s p)) := by
  cases e1 : ieq (chkF s) 0
  · have hk : okP s p = false := by have := ieq_iff'.1 e1; simp [okP, this]
    refine pcall_cx E8_ok mixed (fun _ => none) Try.func53 rfl Try.ntmps53 Try.results53 (by simp) (by kernel_rfl) ?_
    repeat' first
      | (with_reducible refine gw_bool (fun _ => ?_) (fun _ => ?_))
      | (with_reducible refine condw_bool (fun _ => ?_) (fun _ => ?_))
      | simp [*, Stn.cs, Pos.cs]
  cases e2 : ieq (posE s p) 0
  · have hk : okP s p = false := by have := ieq_iff'.1 e2; simp [okP, this]
    refine pcall_cx E8_ok mixed (fun _ => none) Try.func53 rfl Try.ntmps53 Try.results53 (by simp) (by kernel_rfl) ?_
    repeat' first
      | (with_reducible refine gw_bool (fun _ => ?_) (fun _ => ?_))
      | (with_reducible refine condw_bool (fun _ => ?_) (fun _ => ?_))
      | simp [*, Stn.cs, Pos.cs]
  have hk : okP s p = true := by simp [okP, ieq_iff.1 e1, ieq_iff.1 e2]
  refine pcall_cx E8_ok mixed (fun _ => none) Try.func53 rfl Try.ntmps53 Try.results53 (by simp) (by kernel_rfl) ?_
  repeat' first
    | (with_reducible refine gw_bool (fun _ => ?_) (fun _ => ?_))
    | (with_reducible refine condw_bool (fun _ => ?_) (fun _ => ?_))
    | simp [*, Stn.cs, Pos.cs]
end Go.Proofs.Ytcbddoopmkhlfaa
