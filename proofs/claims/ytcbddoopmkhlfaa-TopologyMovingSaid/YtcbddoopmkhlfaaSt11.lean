/-
  Views: closed, group, sides, node.
-/
import Derived.Test.YtcbddoopmkhlfaaSt10
namespace Go.Proofs.Ytcbddoopmkhlfaa
open Go.Pv Go.RowKit
set_option linter.unusedSimpArgs false
set_option linter.unusedVariables false
set_option maxRecDepth 100000
set_option maxHeartbeats 2000000

/-- A view. -/
structure Vu where
  s : Stn
  p : Pos
  g : List Int
def Vu.cs (v : Vu) : List V := [.str v.s.nm, .list 1 (v.s.bs.map s1), .list 5 (v.s.ls.map Ln.cs), .list 6 (v.s.ss.map Sr.cs), .list 12 (v.s.qs.map By.cs), .list 1 (v.p.cl.map b1), .list 1 (v.p.lk.map r1), .list 1 (v.g.map i1)]
def unVu : List V → Option Vu
  | [.str nm, .list 1 bs, .list 5 ls, .list 6 ss, .list 12 qs, .list 1 a, .list 1 b, .list 1 g] => (match decL unS1 bs, decL unLn ls, decL unSr ss, decL unBy qs, decL unB1 a, decL unR1 b, decL unI1 g with
    | some bs, some ls, some ss, some qs, some a, some b, some g => some ⟨⟨nm, bs, ls, ss, qs⟩, ⟨a, b⟩, g⟩
    | _, _, _, _, _, _, _ => none)
  | _ => none
theorem unVu_cs (v : Vu) : unVu v.cs = some v := by simp [unVu, Vu.cs, decL_map unS1_cs, decL_map unLn_cs, decL_map unSr_cs, decL_map unBy_cs, decL_map unB1_cs, decL_map unR1_cs, decL_map unI1_cs]
theorem unVu_inv : ∀ c a, unVu c = some a → c = Vu.cs a := by
  intro c a h; unfold unVu at h; split at h
  · split at h
    · rename_i h1 h2 h3 h4 h5 h6 h7
      cases h
      rw [decL_inv unS1_inv _ _ h1, decL_inv unLn_inv _ _ h2, decL_inv unSr_inv _ _ h3, decL_inv unBy_inv _ _ h4, decL_inv unB1_inv _ _ h5, decL_inv unR1_inv _ _ h6, decL_inv unI1_inv _ _ h7]; rfl
    · cases h
  · cases h
theorem get_of {α : Type} {l : List α} {i : Nat} {x : α} (h : l[i]? = some x) : ∃ hi : i < l.length, l[i] = x := List.getElem?_eq_some_iff.1 h
/-! ### closed, group -/
theorem closed_ok (v : Vu) (i j : Nat) (l : List Int) (x : Int) (hl : v.p.lk[i]? = some l) (hx : l[j]? = some x) : PCall Try.prog 83 [.agg v.cs, .int .i64 i, .int .i64 j] (.bool (ieq x 1)) := by
  obtain ⟨hi, hl'⟩ := get_of hl
  obtain ⟨hj, hx'⟩ := get_of hx
  refine pcall_cx noTab_ok mixed (fun _ => none) Try.func83 rfl Try.ntmps83 Try.results83 (by simp) (by kernel_rfl) ?_
  repeat' first
    | (with_reducible refine gw_bool (fun _ => ?_) (fun _ => ?_))
    | (with_reducible refine condw_bool (fun _ => ?_) (fun _ => ?_))
    | simp [*, Vu.cs, r1, i1]
theorem group_ok (v : Vu) (j : Nat) (x : Int) (hx : v.g[j]? = some x) : PCall Try.prog 84 [.agg v.cs, .int .i64 j] (.agg [.int .i64 1, .int .i64 x]) := by
  obtain ⟨hj, hx'⟩ := get_of hx
  refine pcall_cx noTab_ok mixed (fun _ => none) Try.func84 rfl Try.ntmps84 Try.results84 (by simp) (by kernel_rfl) ?_
  repeat' first
    | (with_reducible refine gw_bool (fun _ => ?_) (fun _ => ?_))
    | (with_reducible refine condw_bool (fun _ => ?_) (fun _ => ?_))
    | simp [*, Vu.cs, i1]
def clF (p : Pos) (b k : Int) : Option Bool := if 0 ≤ b ∧ 0 ≤ k then (match p.lk[b.toNat]? with
  | some l => (match l[k.toNat]? with
    | some x => some (ieq x 1)
    | none => none)
  | none => none) else none
def Tclo : List V → Option V
  | [.agg c, .int .i64 b, .int .i64 k] => (match unVu c with
    | some v => (match clF v.p b k with
      | some x => some (.bool x)
      | none => none)
    | none => none)
  | _ => none
theorem Tclo_at {v : Vu} {b k : Int} {x : Bool} (h : clF v.p b k = some x) : Tclo [.agg [.str v.s.nm, .list 1 (v.s.bs.map s1), .list 5 (v.s.ls.map Ln.cs), .list 6 (v.s.ss.map Sr.cs), .list 12 (v.s.qs.map By.cs), .list 1 (v.p.cl.map b1), .list 1 (v.p.lk.map r1), .list 1 (v.g.map i1)], .int .i64 b, .int .i64 k] = some (.bool x) := by
  have := unVu_cs v
  unfold Vu.cs at this
  simp [Tclo, this, h]
theorem clo_tab : ∀ vs v, Tclo vs = some v → PCall Try.prog 83 vs v := by
  intro vs v h; unfold Tclo at h; split at h
  · split at h
    · rename_i hv
      split at h
      · rename_i hc
        cases h
        unfold clF at hc
        split at hc
        · rename_i b k w x hbk
          split at hc
          · rename_i l hl
            split at hc
            · rename_i y hy
              cases hc
              rw [unVu_inv _ _ hv]
              obtain ⟨i, rfl⟩ := Int.eq_ofNat_of_zero_le hbk.1
              obtain ⟨j, rfl⟩ := Int.eq_ofNat_of_zero_le hbk.2
              exact closed_ok _ i j l y (by simpa using hl) (by simpa using hy)
            · cases hc
          · cases hc
        · cases hc
      · cases h
    · cases h
  · cases h
def gAt (g : List Int) (b : Int) : Option Int := if 0 ≤ b then g[b.toNat]? else none
def Tgrp : List V → Option V
  | [.agg c, .int .i64 b] => (match unVu c with
    | some v => (match gAt v.g b with
      | some x => some (.agg [.int .i64 1, .int .i64 x])
      | none => none)
    | none => none)
  | _ => none
theorem Tgrp_at {v : Vu} {b : Int} {x : Int} (h : gAt v.g b = some x) : Tgrp [.agg [.str v.s.nm, .list 1 (v.s.bs.map s1), .list 5 (v.s.ls.map Ln.cs), .list 6 (v.s.ss.map Sr.cs), .list 12 (v.s.qs.map By.cs), .list 1 (v.p.cl.map b1), .list 1 (v.p.lk.map r1), .list 1 (v.g.map i1)], .int .i64 b] = some (.agg [.int .i64 1, .int .i64 x]) := by
  have := unVu_cs v
  unfold Vu.cs at this
  simp [Tgrp, this, h]
theorem grp_tab : ∀ vs v, Tgrp vs = some v → PCall Try.prog 84 vs v := by
  intro vs v h; unfold Tgrp at h; split at h
  · split at h
    · rename_i hv
      split at h
      · rename_i hc
        cases h
        unfold gAt at hc
        split at hc
        · rename_i hb
          rw [unVu_inv _ _ hv]
          obtain ⟨i, rfl⟩ := Int.eq_ofNat_of_zero_le hb
          exact group_ok _ i _ (by simpa using hc)
        · cases hc
      · cases h
    · cases h
  · cases h
def D3 : Tab := add 83 Tclo (add 84 Tgrp (D2))
theorem D3_at (f : FuncId) (vs : List V) : D3.at' f vs = if f = 83 then Tclo vs else if f = 84 then Tgrp vs else D2.at' f vs := rfl
theorem D3_fr (f : FuncId) : D3.fr f = if f = 83 then false else if f = 84 then false else D2.fr f := rfl
theorem D3_gb (f : FuncId) : D3.gb f = D2.gb f := rfl
theorem D3_gv (f : FuncId) (vs : List V) : D3.gv f vs = D2.gv f vs := rfl
attribute [simp] D3_at D3_fr D3_gb D3_gv Tclo Tgrp
theorem D3_ok : TabOK Try.prog D3 := by
  refine add_ok (add_ok (D2_ok) (by kernel_rfl) ?_) (by kernel_rfl) ?_
  · exact grp_tab
  · exact clo_tab
attribute [-simp] Tclo Tgrp
attribute [simp] Tclo_at Tgrp_at
/-! ### which views are well made -/
def wfR (n : Nat) (b : By) (l : List Int) : Bool := decide (l.length = b.lks.length) && (b.lks.all (fun k => decide (0 ≤ k.bus ∧ k.bus < n)) && (!ieq b.kind 3 || decide (2 ≤ b.lks.length)))
def wfG (s : Stn) (p : Pos) (n : Nat) : Bool := decide (s.qs.length ≤ 1000) && (decide (p.lk.length = s.qs.length) && (s.qs.zip p.lk).all (fun x => wfR n x.1 x.2 && decide (x.1.lks.length ≤ 1000)))
theorem wf_at {s : Stn} {p : Pos} {n i : Nat} {b : By} (h : wfG s p n = true) (hb : s.qs[i]? = some b) : ∃ l, p.lk[i]? = some l ∧ l.length = b.lks.length ∧ (∀ k ∈ b.lks, 0 ≤ k.bus ∧ k.bus < n) ∧ (ieq b.kind 3 = true → 2 ≤ b.lks.length) ∧ b.lks.length ≤ 1000 := by
  simp only [wfG, Bool.and_eq_true, decide_eq_true_eq] at h
  obtain ⟨h0, h1, h2⟩ := h
  obtain ⟨hi, _⟩ := get_of hb
  obtain ⟨l, hl, _⟩ := at_ex (l := p.lk) (i := i) (by omega)
  have hz : (s.qs.zip p.lk)[i]? = some (b, l) := by simp [List.getElem?_zip_eq_some, hb, hl]
  have := List.all_eq_true.1 h2 _ (List.mem_of_getElem? hz)
  simp only [wfR, Bool.and_eq_true, decide_eq_true_eq, List.all_eq_true, Bool.or_eq_true, Bool.not_eq_true'] at this
  obtain ⟨⟨h3, h4, h5⟩, h6⟩ := this
  refine ⟨l, hl, h3, h4, fun hk => ?_, h6⟩
  rcases h5 with h5 | h5
  · rw [hk] at h5; cases h5
  · exact h5
theorem gAt_ex {g : List Int} {b : Int} (h : 0 ≤ b ∧ b < g.length) : ∃ x, gAt g b = some x := by
  obtain ⟨x, hx, _⟩ := at_ex (l := g) (i := b.toNat) (by omega)
  exact ⟨x, by simp [gAt, h.1, hx]⟩
/-! ### sides -/
def g0 (g : List Int) (b : Int) : Int := (gAt g b).getD 0
def hit (x : Lk × Int) : Bool := ieq x.2 1
def fstN (g : List Int) : Option (Lk × Int) → Int × Int
  | some x => (1, g0 g x.1.bus)
  | none => (0, 0)
/-- The two nodes of a bay: their kinds and numbers. -/
def sid (g : List Int) (b : By) (l : List Int) : List Int :=
  if ieq b.kind 3 = true then (match b.lks with
    | a :: c :: _ => [1, g0 g a.bus, 1, g0 g c.bus]
    | _ => [0, 0, 0, 0])
  else [(fstN g ((b.lks.zip l).find? hit)).1, (fstN g ((b.lks.zip l).find? hit)).2, if ieq b.kind 1 = true then 2 else 3, b.ob]
theorem sides_in (v : Vu) (i : Nat) (b : By) (l : List Int) (hw : wfG v.s v.p v.g.length = true) (hb : v.s.qs[i]? = some b) (hl : v.p.lk[i]? = some l) : PCall Try.prog 64 [.agg v.cs, .int .i64 i] (.agg ((sid v.g b l).map (V.int .i64))) := by
  obtain ⟨l', hl2, hll, hbus, hk2, hlen⟩ := wf_at hw hb
  rw [hl] at hl2
  cases hl2
  obtain ⟨hi, hb'⟩ := get_of hb
  obtain ⟨hi2, hl'⟩ := get_of hl
  have hn : v.s.qs.length ≤ 1000 := by simp only [wfG, Bool.and_eq_true, decide_eq_true_eq] at hw; exact hw.1
  obtain ⟨n, hnn⟩ : ∃ n, v.s.qs.length = n := ⟨_, rfl⟩
  rw [hnn] at hi hn
  have f0 : ilt (i : Int) 0 = false := ilt_f (by omega)
  have f1 : ilt (i : Int) (n : Int) = true := ilt_t (by omega)
  cases h3 : ieq b.kind 3
  · have hs : sid v.g b l = [(fstN v.g ((b.lks.zip l).find? hit)).1, (fstN v.g ((b.lks.zip l).find? hit)).2, if ieq b.kind 1 = true then 2 else 3, b.ob] := by simp [sid, h3]
    obtain ⟨F, hF⟩ : ∃ F, (b.lks.zip l).find? hit = F := ⟨_, rfl⟩
    rw [hs, hF]
    clear hs
    replace hF : Hid ((b.lks.zip l).find? hit = F) := hF
    obtain ⟨m, hm⟩ : ∃ m, b.lks.length = m := ⟨_, rfl⟩
    rw [hm] at hll hlen
    cases h1 : ieq b.kind 1
    all_goals
      refine pcall_cx D3_ok mixed (fun _ => none) Try.func64 rfl Try.ntmps64 Try.results64 (by simp) (by kernel_rfl) ?_
    all_goals
      repeat' first
        | (with_reducible refine gw_bool (fun _ => ?_) (fun _ => ?_))
        | (with_reducible refine condw_bool (fun _ => ?_) (fun _ => ?_))
        | simp [*, Vu.cs, By.cs]
    all_goals refine lp_go (D := (fun _ => none)) D3_ok mixed (by kernel_rfl) [1, 2, 4, 6, 56, 57] [2, 4, 5, 6, 8] (α := Nat) (fun j e h => j ≤ m ∧ e 58 = .int .i64 j ∧ Hid (((b.lks.zip l).drop j).find? hit = F)) (fun j => m - j) 0 ?_ ?_
    all_goals first
      | exact ⟨by omega, by simp, by simpa using hF⟩
      | skip
    all_goals
      rintro j e h hk hkh ⟨hj, g7, hinv⟩
      simp [Keep] at hk
      simp [KeepH] at hkh
      clear hF
      by_cases hlt : j < m
      · obtain ⟨a, ha, ha'⟩ := at_ex (l := b.lks) (i := j) (by omega)
        obtain ⟨x, hx, hx'⟩ := at_ex (l := l) (i := j) (by omega)
        have f2 : ilt (j : Int) (m : Int) = true := ilt_t (by omega)
        have w2 : IntKind.i64.wrap ((j : Int) + 1) = ((j + 1 : Nat) : Int) := wrap_succ (by omega)
        have hz : (b.lks.zip l)[j]? = some (a, x) := by simp [List.getElem?_zip_eq_some, ha, hx]
        have hd : (b.lks.zip l).drop j = (a, x) :: (b.lks.zip l).drop (j + 1) := by
          obtain ⟨hh, he⟩ := get_of hz
          rw [List.drop_eq_getElem_cons hh, he]
        have hcl : clF v.p i j = some (ieq x 1) := by simp [clF, hl, hx]
        obtain ⟨gx, hgx⟩ := gAt_ex (hbus a (List.mem_of_getElem? ha))
        have hin := hinv.out
        rw [hd] at hin
        clear hinv hd hz
        cases hq : ieq x 1
        · have hnx : Hid (((b.lks.zip l).drop (j + 1)).find? hit = F) := by
            rw [List.find?_cons] at hin
            simp only [hit, hq] at hin
            exact hin
          rw [hq] at hcl
          clear hin
          repeat' first
            | (with_reducible refine gw_bool (fun _ => ?_) (fun _ => ?_))
            | (with_reducible refine condw_bool (fun _ => ?_) (fun _ => ?_))
            | simp [*, By.cs, Lk.cs]
          refine nxt_go (j + 1) ((View.forget _ _ 8)) (by omega) (by simp [*, Keep, St.forget, scr, scrC]) (by simp [*, KeepH, St.forget, scr, scrC]) ?_
          refine ⟨by omega, ?_, hnx⟩; simp [*, St.forget, scr, scrC]
        · have hFx : F = some (a, x) := by
            rw [List.find?_cons] at hin
            simp only [hit, hq] at hin
            exact hin.symm
          rw [hq] at hcl
          clear hin
          repeat' first
            | (with_reducible refine gw_bool (fun _ => ?_) (fun _ => ?_))
            | (with_reducible refine condw_bool (fun _ => ?_) (fun _ => ?_))
            | simp [*, By.cs, Lk.cs, fstN, g0]
      · have f2 : ilt (j : Int) (m : Int) = false := ilt_f (by omega)
        have hFn : F = none := by
          have := hinv.out
          rw [List.drop_eq_nil_of_le (by simp; omega)] at this
          exact this.symm
        clear hinv
        repeat' first
          | (with_reducible refine gw_bool (fun _ => ?_) (fun _ => ?_))
          | (with_reducible refine condw_bool (fun _ => ?_) (fun _ => ?_))
          | simp [*, fstN]
  · have h2 := hk2 h3
    obtain ⟨lks, hlk⟩ : ∃ lks, b.lks = lks := ⟨_, rfl⟩
    rw [hlk] at h2 hbus
    match lks, h2 with
    | a :: c :: t, _ =>
      obtain ⟨ga, hga⟩ := gAt_ex (hbus a (by simp))
      obtain ⟨gc, hgc⟩ := gAt_ex (hbus c (by simp))
      have hs : sid v.g b l = [1, ga, 1, gc] := by simp [sid, h3, hlk, g0, hga, hgc]
      rw [hs]
      clear hs hbus
      refine pcall_cx D3_ok mixed (fun _ => none) Try.func64 rfl Try.ntmps64 Try.results64 (by simp) (by kernel_rfl) ?_
      repeat' first
        | (with_reducible refine gw_bool (fun _ => ?_) (fun _ => ?_))
        | (with_reducible refine condw_bool (fun _ => ?_) (fun _ => ?_))
        | simp [*, Vu.cs, By.cs, Lk.cs]
theorem sides_out (v : Vu) (i : Int) (hn : v.s.qs.length ≤ 1000) (hi : ¬ (0 ≤ i ∧ i < v.s.qs.length)) : PCall Try.prog 64 [.agg v.cs, .int .i64 i] (.agg [.int .i64 0, .int .i64 0, .int .i64 0, .int .i64 0]) := by
  obtain ⟨n, hnn⟩ : ∃ n, v.s.qs.length = n := ⟨_, rfl⟩
  rw [hnn] at hi hn
  cases f0 : ilt i 0
  · have f1 : ilt i (n : Int) = false := ilt_f (by have := ilt_iff'.1 f0; omega)
    refine pcall_cx D3_ok mixed (fun _ => none) Try.func64 rfl Try.ntmps64 Try.results64 (by simp) (by kernel_rfl) ?_
    repeat' first
      | (with_reducible refine gw_bool (fun _ => ?_) (fun _ => ?_))
      | (with_reducible refine condw_bool (fun _ => ?_) (fun _ => ?_))
      | simp [*, Vu.cs]
  · skip
    refine pcall_cx D3_ok mixed (fun _ => none) Try.func64 rfl Try.ntmps64 Try.results64 (by simp) (by kernel_rfl) ?_
    repeat' first
      | (with_reducible refine gw_bool (fun _ => ?_) (fun _ => ?_))
      | (with_reducible refine condw_bool (fun _ => ?_) (fun _ => ?_))
      | simp [*, Vu.cs]
end Go.Proofs.Ytcbddoopmkhlfaa
