/-
  The targets of breaker failure protection: the law.
-/
import Derived.Test.YtcbddoopmkhlfaaSt27
import Derived.Test.YtcbddoopmkhlfaaSt17
namespace Go.Proofs.Ytcbddoopmkhlfaa
open Go.Pv Go.RowKit
set_option linter.unusedSimpArgs false
set_option linter.unusedVariables false
set_option maxRecDepth 100000
set_option maxHeartbeats 4000000
attribute [-simp] Tclo_at Tgrp_at Tchk Tpchk TcI TcB Tclo Tgrp Tsid Tnod Tlook Tbnd Tidx Tnms Tnmd Tobj Tlks Tbay Trck Trpc Tres TSd TBd Trg Trf Trsd Trnd Tar Ttg

def Trtg : List V → Option V
  | [.agg a, .agg b, .list 1 x] => (match unStn a, unPos b, decL unB1 x with
    | some s, some p, some f => if lkB s = true ∧ lenB s p = true ∧ f.length ≤ 9223372036854775807 then some (.list 1 ((tgtF s p f).map b1)) else none
    | _, _, _ => none)
  | _ => none
theorem Trtg_at {s : Stn} {p : Pos} {f : List Bool} (h0 : lkB s = true) (h : lenB s p = true) (hf : f.length ≤ 9223372036854775807) : Trtg [.agg [.str s.nm, .list 1 (s.bs.map s1), .list 5 (s.ls.map Ln.cs), .list 6 (s.ss.map Sr.cs), .list 12 (s.qs.map By.cs)], .agg [.list 1 (p.cl.map b1), .list 1 (p.lk.map r1)], .list 1 (f.map b1)] = some (.list 1 ((tgtF s p f).map b1)) := by
  have e1 := unStn_cs s
  have e2 := unPos_cs p
  unfold Stn.cs at e1
  unfold Pos.cs at e2
  simp [Trtg, e1, e2, decL_map unB1_cs, h0, h, hf]
theorem rtg_tab : ∀ vs v, Trtg vs = some v → PFresh Try.prog 18 vs v := by
  intro vs v h; unfold Trtg at h; split at h
  · split at h
    · rename_i h1 h2 h3
      split at h
      · rename_i hl; cases h; rw [unStn_inv _ _ h1, unPos_inv _ _ h2, decL_inv unB1_inv _ _ h3]; exact rtargets_ok _ _ _ hl.1 hl.2.1 hl.2.2
      · cases h
    · cases h
  · cases h
def E13 : Tab := addF 17 Ttg (addF 18 Trtg (add 15 Ttrue (E12)))
theorem E13_at (f : FuncId) (vs : List V) : E13.at' f vs = if f = 17 then Ttg vs else if f = 18 then Trtg vs else if f = 15 then Ttrue vs else E12.at' f vs := rfl
theorem E13_fr (f : FuncId) : E13.fr f = if f = 17 then true else if f = 18 then true else if f = 15 then false else E12.fr f := rfl
theorem E13_gb (f : FuncId) : E13.gb f = E12.gb f := rfl
theorem E13_gv (f : FuncId) (vs : List V) : E13.gv f vs = E12.gv f vs := rfl
attribute [simp] E13_at E13_fr E13_gb E13_gv Trtg Ttg Ttrue
theorem E13_ok : TabOK Try.prog E13 := by
  refine addF_ok (addF_ok (add_ok (E12_ok) (by kernel_rfl) ?_) (by kernel_rfl) ?_) (by kernel_rfl) ?_
  · intro vs v h; unfold Ttrue at h; split at h
    · cases h; apply known32_ok
    · cases h
  · exact rtg_tab
  · exact tg_tab
attribute [-simp] Ttg Trtg
attribute [simp] Ttg_at Trtg_at
theorem tlaw_ok (s : Stn) (p : Pos) (f : List Bool) (hlk : lkB s = true) (hl : lenB s p = true) (hf : f.length ≤ 9223372036854775807) : PCall Try.prog 4 [.agg s.cs, .agg p.cs, .list 1 (f.map b1)] (.bool true) := by
  obtain ⟨nf, hnf⟩ : ∃ n, f.length = n := ⟨_, rfl⟩
  obtain ⟨n, hn⟩ : ∃ n, s.qs.length = n := ⟨_, rfl⟩
  obtain ⟨nb, hnb⟩ : ∃ n, s.bs.length = n := ⟨_, rfl⟩
  have hT1 := Ttg_at hl hf
  have hT2 := Trtg_at hlk hl hf
  have hTl : (tgtF s p f).length ≤ 16 := by
    unfold tgtF
    split
    · rename_i h
      rw [tgN_len]; exact (fine_of (okP_iff h.1).1).nq
    · simp
  generalize tgtF s p f = T at hT1 hT2 hTl
  obtain ⟨m, hm⟩ : ∃ m, T.length = m := ⟨_, rfl⟩
  rw [hm] at hTl
  clear hlk hl hf
  cases e1 : ilt 20 (n : Int)
  case true =>
    refine pcall_cx E13_ok mixed (fun _ => none) Try.func4 rfl Try.ntmps4 Try.results4 (by simp) (by kernel_rfl) ?_
    repeat' first
      | (with_reducible refine gw_bool (fun _ => ?_) (fun _ => ?_))
      | (with_reducible refine condw_bool (fun _ => ?_) (fun _ => ?_))
      | simp [*, Stn.cs, Pos.cs]
  cases e2 : ilt 10 (nb : Int)
  case true =>
    refine pcall_cx E13_ok mixed (fun _ => none) Try.func4 rfl Try.ntmps4 Try.results4 (by simp) (by kernel_rfl) ?_
    repeat' first
      | (with_reducible refine gw_bool (fun _ => ?_) (fun _ => ?_))
      | (with_reducible refine condw_bool (fun _ => ?_) (fun _ => ?_))
      | simp [*, Stn.cs, Pos.cs]
  cases e3 : ilt 20 (nf : Int)
  case true =>
    refine pcall_cx E13_ok mixed (fun _ => none) Try.func4 rfl Try.ntmps4 Try.results4 (by simp) (by kernel_rfl) ?_
    repeat' first
      | (with_reducible refine gw_bool (fun _ => ?_) (fun _ => ?_))
      | (with_reducible refine condw_bool (fun _ => ?_) (fun _ => ?_))
      | simp [*, Stn.cs, Pos.cs]
  refine pcall_cx E13_ok mixed (fun _ => none) Try.func4 rfl Try.ntmps4 Try.results4 (by simp) (by kernel_rfl) ?_
  repeat' first
    | (with_reducible refine gw_bool (fun _ => ?_) (fun _ => ?_))
    | (with_reducible refine condw_bool (fun _ => ?_) (fun _ => ?_))
    | simp [*, Stn.cs, Pos.cs]
  refine lp_go (D := (fun _ => none)) E13_ok mixed (by kernel_rfl) [7, 8, 40] [3, 4] (α := Nat) (fun i e h => i ≤ m ∧ e 41 = .int .i64 i) (fun i => m - i) 0 ?_ ?_
  · exact ⟨by omega, by simp⟩
  rintro i e h hk hkh ⟨hi, g7⟩
  simp [Keep] at hk
  simp [KeepH] at hkh
  clear hT1 hT2
  by_cases hlt : i < m
  · obtain ⟨t, ht, ht'⟩ := at_ex (l := T) (i := i) (by omega)
    have f1 : ilt (i : Int) (m : Int) = true := ilt_t (by omega)
    have w1 : IntKind.i64.wrap ((i : Int) + 1) = ((i + 1 : Nat) : Int) := wrap_succ (by omega)
    cases t
    all_goals
      repeat' first
        | (with_reducible refine gw_bool (fun _ => ?_) (fun _ => ?_))
        | (with_reducible refine condw_bool (fun _ => ?_) (fun _ => ?_))
        | simp [*, b1]
    all_goals refine nxt_go (i + 1) (View.refl _ _) (by omega) (by simp [*, Keep, St.forget, scr, scrC]) (by simp [*, KeepH, St.forget, scr, scrC]) ?_
    all_goals exact ⟨by omega, by simp [*]⟩
  · have f1 : ilt (i : Int) (m : Int) = false := ilt_f (by omega)
    repeat' first
      | (with_reducible refine gw_bool (fun _ => ?_) (fun _ => ?_))
      | (with_reducible refine condw_bool (fun _ => ?_) (fun _ => ?_))
      | simp [*]
/-! ### reading a diagram -/
theorem has_byL {cs : List V} (h : HasC (.struct [.str, .int .i64, .int .i64, .int .i64, .struct [.int .i64, .int .i64], .slice (.struct [.int .i64, .int .i64]), .bool, .int .i64, .int .i64, .int .i64, .int .i64]) cs) : ∃ x : By, cs = x.cs ∧ x.lks.length ≤ maxLen := by
  simp only [HasL, HasC] at h
  obtain ⟨_, _, rfl, ⟨nm, rfl, _⟩, _, _, rfl, ⟨k, rfl, _⟩, _, _, rfl, ⟨o, rfl, _⟩, _, _, rfl, ⟨en, rfl, _⟩, _, _, rfl, ⟨_, _, rfl, ⟨a, rfl, _⟩, _, _, rfl, ⟨b, rfl, _⟩, rfl⟩, _, _, rfl, ⟨xs, rfl, hxl, hx⟩, _, _, rfl, ⟨cl, rfl⟩, _, _, rfl, ⟨ct, rfl, _⟩, _, _, rfl, ⟨vt, rfl, _⟩, _, _, rfl, ⟨sa, rfl, _⟩, _, _, rfl, ⟨tr, rfl, _⟩, rfl⟩ := h
  obtain ⟨l, rfl⟩ := rows_of (enc := Lk.cs) (xs := xs) fun x hx2 => has_lk (by simpa only [HasL, HasC] using hx x hx2)
  exact ⟨⟨nm, k, o, en, a, b, l, cl, ct, vt, sa, tr⟩, rfl, by simpa using hxl⟩
theorem has_stnL {u : V} (h : HasV (.struct [.str, .slice .str, .slice (.struct [.str, .struct [.int .i64, .int .i64], .struct [.int .i64, .int .i64]]), .slice (.struct [.str, .int .i64, .struct [.int .i64, .int .i64], .struct [.int .i64, .int .i64]]), .slice (.struct [.str, .int .i64, .int .i64, .int .i64, .struct [.int .i64, .int .i64], .slice (.struct [.int .i64, .int .i64]), .bool, .int .i64, .int .i64, .int .i64, .int .i64])]) u) : ∃ s : Stn, u = .agg s.cs ∧ s.qs.length ≤ maxLen ∧ s.bs.length ≤ maxLen ∧ lkB s = true := by
  have h' : ∃ cs, u = .agg cs ∧ HasL [.str, .slice .str, .slice (.struct [.str, .struct [.int .i64, .int .i64], .struct [.int .i64, .int .i64]]), .slice (.struct [.str, .int .i64, .struct [.int .i64, .int .i64], .struct [.int .i64, .int .i64]]), .slice (.struct [.str, .int .i64, .int .i64, .int .i64, .struct [.int .i64, .int .i64], .slice (.struct [.int .i64, .int .i64]), .bool, .int .i64, .int .i64, .int .i64, .int .i64])] cs := by simpa only [HasV] using h
  clear h
  obtain ⟨cs, rfl, h⟩ := h'
  unfold HasL at h
  obtain ⟨a1, b1, rfl, ha1, h⟩ := h
  unfold HasL at h
  obtain ⟨a2, b2, rfl, ha2, h⟩ := h
  unfold HasL at h
  obtain ⟨a3, b3, rfl, ha3, h⟩ := h
  unfold HasL at h
  obtain ⟨a4, b4, rfl, ha4, h⟩ := h
  unfold HasL at h
  obtain ⟨a5, b5, rfl, ha5, h⟩ := h
  unfold HasL at h
  subst h
  unfold HasC at ha1 ha2 ha3 ha4 ha5
  obtain ⟨nm, rfl, _⟩ := ha1
  obtain ⟨x2, rfl, hl2, hx2⟩ := ha2
  obtain ⟨x3, rfl, _, hx3⟩ := ha3
  obtain ⟨x4, rfl, _, hx4⟩ := ha4
  obtain ⟨x5, rfl, hl5, hx5⟩ := ha5
  obtain ⟨bs, rfl⟩ := rows_of (enc := s1) fun x hx => has_s1 (hx2 x hx)
  obtain ⟨ls, rfl⟩ := rows_of (enc := Ln.cs) fun x hx => has_ln (hx3 x hx)
  obtain ⟨ss, rfl⟩ := rows_of (enc := Sr.cs) fun x hx => has_sr (hx4 x hx)
  obtain ⟨qs, rfl⟩ := rows_of (enc := By.cs) fun x hx => by obtain ⟨y, hy, _⟩ := has_byL (hx5 x hx); exact ⟨y, hy⟩
  refine ⟨⟨nm, bs, ls, ss, qs⟩, rfl, by simpa using hl5, by simpa using hl2, List.all_eq_true.2 fun q hq => ?_⟩
  obtain ⟨z, hz, hzl⟩ := has_byL (hx5 q.cs (List.mem_map.2 ⟨q, hq, rfl⟩))
  have : q = z := by
    have := unBy_cs q
    rw [hz, unBy_cs] at this
    exact (Option.some.inj this).symm
  have hm : maxLen = 9223372036854775807 := by decide
  rw [this]; simp only [decide_eq_true_eq]; rw [← hm]; exact hzl
end Go.Proofs.Ytcbddoopmkhlfaa
