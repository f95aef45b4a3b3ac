/-
  Positions: Resolve.
-/
import Derived.Test.YtcbddoopmkhlfaaSt9
namespace Go.Proofs.Ytcbddoopmkhlfaa
open Go.Pv Go.RowKit
set_option linter.unusedSimpArgs false
set_option linter.unusedVariables false
set_option maxRecDepth 100000
set_option maxHeartbeats 2000000

def lenB (s : Stn) (p : Pos) : Bool := decide (s.qs.length ≤ 9223372036854775807) && p.lk.all (fun l => decide (l.length ≤ 9223372036854775807))
def Tpchk : List V → Option V
  | [.agg a, .agg b] => (match unStn a, unPos b with
    | some s, some p => if lenB s p = true then some (.int .i64 (posE s p)) else none
    | _, _ => none)
  | _ => none
theorem Tpchk_at {s : Stn} {p : Pos} (h : lenB s p = true) : Tpchk [.agg s.cs, .agg p.cs] = some (.int .i64 (posE s p)) := by simp [Tpchk, unStn_cs, unPos_cs, h]
theorem pchk_tab : ∀ vs v, Tpchk vs = some v → PCall Try.prog 19 vs v := by
  intro vs v h; unfold Tpchk at h; split at h
  · split at h
    · rename_i h1 h2
      split at h
      · rename_i hl
        cases h
        rw [unStn_inv _ _ h1, unPos_inv _ _ h2]
        simp only [lenB, Bool.and_eq_true, decide_eq_true_eq, List.all_eq_true] at hl
        exact pchk_ok _ _ hl.1 hl.2
      · cases h
    · cases h
  · cases h
def TcI : List V → Option (V × List (Nat × Blk))
  | [.list 1 xs] => (match decL unI1 xs with
    | some [] => some (.list 1 [], [])
    | some (x :: l) => if l.length ≤ 1000 then some (.sl 5 0 (l.length + 1) 1, [(5, ⟨3, (x :: l).map (V.int .i64)⟩)]) else none
    | none => none)
  | _ => none
theorem TcI_nil : TcI [.list 1 []] = some (.list 1 [], []) := rfl
theorem TcI_cons {x : Int} {l : List Int} (h : l.length ≤ 1000) : TcI [.list 1 (i1 x :: l.map i1)] = some (.sl 5 0 (l.length + 1) 1, [(5, ⟨3, V.int .i64 x :: l.map (V.int .i64)⟩)]) := by
  have := decL_map unI1_cs (x :: l)
  simp only [List.map_cons] at this
  simp [TcI, this, h]
theorem cI_tab : ∀ vs u bl, TcI vs = some (u, bl) → PGive Try.prog 66 vs u bl := by
  intro vs u bl h; unfold TcI at h; split at h
  · split at h
    · rename_i h1; cases h; rw [decL_inv unI1_inv _ _ h1]; exact cloneIe
    · rename_i h1; split at h
      · rename_i hl; cases h; rw [decL_inv unI1_inv _ _ h1]; exact cloneI1 _ _ hl
      · cases h
    · cases h
  · cases h
def TcB : List V → Option V
  | [.list 1 xs] => (match decL unB1 xs with
    | some l => if l.length ≤ 1000 then some (.list 1 (l.map b1)) else none
    | none => none)
  | _ => none
theorem TcB_at {l : List Bool} (h : l.length ≤ 1000) : TcB [.list 1 (l.map b1)] = some (.list 1 (l.map b1)) := by simp [TcB, decL_map unB1_cs, h]
theorem cB_tab : ∀ vs v, TcB vs = some v → PCall Try.prog 65 vs v := by
  intro vs v h; unfold TcB at h; split at h
  · split at h
    · rename_i h1; split at h
      · rename_i hl; cases h; rw [decL_inv unB1_inv _ _ h1]; exact cloneB_ok _ hl
      · cases h
    · cases h
  · cases h
def D2 : Tab := add 19 Tpchk (add 65 TcB (addG 66 TcI (D1)))
theorem D2_at (f : FuncId) (vs : List V) : D2.at' f vs = if f = 19 then Tpchk vs else if f = 65 then TcB vs else D1.at' f vs := rfl
theorem D2_fr (f : FuncId) : D2.fr f = if f = 19 then false else if f = 65 then false else D1.fr f := rfl
theorem D2_gb (f : FuncId) : D2.gb f = if f = 66 then true else D1.gb f := rfl
theorem D2_gv (f : FuncId) (vs : List V) : D2.gv f vs = if f = 66 then TcI vs else D1.gv f vs := rfl
attribute [simp] D2_at D2_fr D2_gb D2_gv TcB TcI Tpchk
theorem D2_ok : TabOK Try.prog D2 := by
  refine add_ok (add_ok (addG_ok (D1_ok) (by kernel_rfl) ?_) (by kernel_rfl) ?_) (by kernel_rfl) ?_
  · exact cI_tab
  · exact cB_tab
  · exact pchk_tab
attribute [-simp] Tpchk TcI TcB
attribute [simp] Tpchk_at TcI_nil TcI_cons TcB_at
def resF (z x : Int) : Int := if ieq x 2 = true then z else x
def resZ (c : Bool) : Int := if c = true then 1 else 0
def resP (p : Pos) (c : Bool) : Pos := ⟨p.cl, p.lk.map (fun l => l.map (resF (resZ c)))⟩
def r0 (l : List Int) : V := .list 1 (l.map i1)
theorem chunks_r0 (l : List (List Int)) : chunks 1 l.length (l.map r0) = l.map r1 := by
  have := flat_chunks (sz := 1) (enc := r1) (fun _ => rfl) l
  rw [← this]
  congr 1
  induction l with
  | nil => rfl
  | cons a l ih => simp [r1, r0]; exact ih (flat_chunks (sz := 1) (enc := r1) (fun _ => rfl) l)
theorem pure_r0 (l : List (List Int)) : (l.map r0).any ownC = false := by
  induction l with
  | nil => rfl
  | cons a l ih => simp [r0, ownC]
theorem scr_r0 (l : List (List Int)) (k : Nat) : (l.map r0).map (scrC k) = l.map r0 := scrC_cells (pure_r0 l)
theorem pub_r0 (l : List (List Int)) (k : Nat) (b : Blk) : (l.map r0).map (pubC k b) = l.map r0 := pub_cells (pure_r0 l)
/-- A row half way. -/
def half (z : Int) (l : List Int) (j : Nat) : List Int := (l.take j).map (resF z) ++ l.drop j
theorem half_len (z : Int) (l : List Int) (j : Nat) (h : j ≤ l.length) : (half z l j).length = l.length := by simp [half]; omega
theorem half_at {z : Int} {l : List Int} {j : Nat} {x : Int} (h : l[j]? = some x) : (half z l j)[j]? = some x := by
  have hj : j < l.length := (List.getElem?_eq_some_iff.1 h).1
  simp [half, List.getElem?_append, List.length_take, Nat.min_eq_left (Nat.le_of_lt hj), h]
theorem half_step {z : Int} {l : List Int} {j : Nat} {x : Int} (h : l[j]? = some x) : half z l (j + 1) = (half z l j).set j (resF z x) := by
  have hj : j < l.length := (List.getElem?_eq_some_iff.1 h).1
  have e : l.drop j = x :: l.drop (j + 1) := by
    rw [List.drop_eq_getElem_cons hj]; congr 1
    exact (List.getElem?_eq_some_iff.1 h).2
  simp only [half, take_snoc h, e]
  rw [List.set_append_right _ _ (by simp [Nat.min_eq_left (Nat.le_of_lt hj)])]
  simp [Nat.min_eq_left (Nat.le_of_lt hj)]
theorem half_same {z : Int} {l : List Int} {j : Nat} {x : Int} (h : l[j]? = some x) (h2 : ieq x 2 = false) : half z l (j + 1) = half z l j := by
  rw [half_step h]
  have h3 := half_at (z := z) h
  simp only [resF, h2]
  apply List.ext_getElem?
  intro i
  rw [List.getElem?_set]
  split
  · rename_i e; subst e; simp at h3 ⊢; split
    · exact h3.symm
    · rename_i hh; exact (hh (List.getElem?_eq_some_iff.1 h3).1).elim
  · rfl
theorem half_end (z : Int) (l : List Int) : half z l l.length = l.map (resF z) := by simp [half]
theorem resolve_ok (p : Pos) (c : Bool) (h1 : p.cl.length ≤ 1000) (h2 : p.lk.length ≤ 1000) (h3 : ∀ l ∈ p.lk, l.length ≤ 1000) : PCall Try.prog 34 [.agg p.cs, .bool c] (.agg (resP p c).cs) := by
  obtain ⟨n, hn⟩ : ∃ n, p.lk.length = n := ⟨_, rfl⟩
  rw [hn] at h2
  cases c
  · have hres : resP p false = ⟨p.cl, p.lk.map (fun l => l.map (resF 0))⟩ := rfl
    rw [hres]
    clear hres
    have hend := chunks_r0 (p.lk.map (fun l => l.map (resF 0)))
    rw [List.length_map, hn] at hend
    replace hend : Hid (chunks 1 n ((p.lk.map (fun l => l.map (resF 0))).map r0) = (p.lk.map (fun l => l.map (resF 0))).map r1) := hend
    refine pcall_cx D2_ok mixed (fun _ => none) Try.func34 rfl Try.ntmps34 Try.results34 (by simp) (by kernel_rfl) ?_
    repeat' first
      | (with_reducible refine gw_bool (fun _ => ?_) (fun _ => ?_))
      | (with_reducible refine condw_bool (fun _ => ?_) (fun _ => ?_))
      | simp [*, Pos.cs]
    refine lp_view (View.nilAt _ (t := 6) (o := 0) (key := 6) (key' := 43) (i := 1) (blk := ⟨38, [.list 1 (p.cl.map b1), .nils]⟩) 1 47 (by simp) (by simp) (by simp) (by simp)) ?_
    refine lp_go (D := (fun _ => none)) D2_ok mixed (by kernel_rfl) [4, 5, 6, 17, 18] [2, 4, 42, 250005] (α := Nat) (fun i e h => i ≤ n ∧ e 19 = .int .i64 i ∧ h 6 = some ⟨38, [.list 1 (p.cl.map b1), .sl 43 0 i 1]⟩ ∧ h 43 = some ⟨47, ((p.lk.take i).map (fun l => l.map (resF 0))).map r0⟩) (fun i => n - i) 0 ?_ ?_
    · refine ⟨by omega, by simp, by simp, by simp⟩
    · rintro i e h hk hkh ⟨hi, g7, g6, g43⟩
      simp [Keep] at hk
      simp [KeepH] at hkh
      by_cases hlt : i < n
      · obtain ⟨l, hl, hl'⟩ := at_ex (l := p.lk) (i := i) (by omega)
        have f1 : ilt (i : Int) (n : Int) = true := ilt_t (by omega)
        have w1 : IntKind.i64.wrap ((i : Int) + 1) = ((i + 1 : Nat) : Int) := wrap_succ (by omega)
        have hlm : l.length ≤ 1000 := h3 l (List.mem_of_getElem? hl)
        have f5 : (i + 1) * 24 ≤ 140737488355328 := by omega
        have f6 : i + 1 ≤ 9223372036854775807 := by omega
        have hnx : ((p.lk.take (i + 1)).map (fun l => l.map (resF 0))).map r0 = ((p.lk.take i).map (fun l => l.map (resF 0))).map r0 ++ [r0 (l.map (resF 0))] := by rw [take_snoc hl]; simp
        have hln : (((p.lk.take i).map (fun l => l.map (resF 0))).map r0).length = i := by simp; omega
        generalize hCC : ((p.lk.take i).map (fun l => l.map (resF 0))).map r0 = CC at g43 hnx hln
        have hpC : CC.any ownC = false := by rw [← hCC]; exact pure_r0 _
        have hsC : ∀ k, CC.map (scrC k) = CC := fun k => scrC_cells hpC
        have hbC : ∀ k b, CC.map (pubC k b) = CC := fun k b => pub_cells hpC
        replace hnx : Hid (((p.lk.take (i + 1)).map (fun l => l.map (resF 0))).map r0 = CC ++ [r0 (l.map (resF 0))]) := hnx
        clear hCC
        have hlt2 : i < p.lk.length := by omega
        cases l with
        | nil =>
          repeat' first
            | (with_reducible refine gw_bool (fun _ => ?_) (fun _ => ?_))
            | (with_reducible refine condw_bool (fun _ => ?_) (fun _ => ?_))
            | simp [*, r1, appendV, srcCells, St.forget, scr, scrC]
          refine lp_unroll (D := (fun _ => none)) D2_ok mixed (by kernel_rfl) ?_
          repeat' first
            | (with_reducible refine gw_bool (fun _ => ?_) (fun _ => ?_))
            | (with_reducible refine condw_bool (fun _ => ?_) (fun _ => ?_))
            | simp [*, r1, appendV, srcCells, St.forget, scr, scrC]
          refine nxt_go (i + 1) ((View.forget _ _ 42)) (by omega) (by simp [*, Keep, St.forget, scr, scrC]) (by simp [*, KeepH, St.forget, scr, scrC]) ?_
          refine ⟨by omega, ?_, ?_, ?_⟩
          · simp [*, St.forget, scr, scrC]
          · simp [*, St.forget, scr, scrC]
          · rw [hnx.out]; simp [*, St.forget, scr, scrC, r0]
        | cons x t =>
          have hlm' : t.length ≤ 1000 := by simp at hlm; omega
          obtain ⟨m, hm⟩ : ∃ m, t.length + 1 = m := ⟨_, rfl⟩
          have hmc : ((t.length : Int) + 1) = (m : Int) := by omega
          have hhl : (x :: t).length = m := hm
          repeat' first
            | (with_reducible refine gw_bool (fun _ => ?_) (fun _ => ?_))
            | (with_reducible refine condw_bool (fun _ => ?_) (fun _ => ?_))
            | simp [*, r1, appendV, srcCells, St.forget, scr, scrC]
          refine lp_go (D := (fun _ => none)) D2_ok mixed (by kernel_rfl) [4, 5, 6, 8, 17, 18, 19, 20, 21, 22, 23, 24, 25, 26] [2, 4, 6, 42, 43] (α := Nat) (fun j e h => j ≤ m ∧ e 27 = .int .i64 j ∧ h 250005 = some ⟨3, (half 0 (x :: t) j).map (V.int .i64)⟩) (fun j => m - j) 0 ?_ ?_
          · refine ⟨by omega, by simp, by simp [half]⟩
          · have hk0 := hk
            have hkh0 := hkh
            have g0 := g7
            clear hk hkh g7
            rintro j e h hk hkh ⟨hj, g7, gK⟩
            simp [Keep, hk0, hkh0, g0, hm, hmc] at hk
            simp [KeepH, hk0, hkh0, g6, g43] at hkh
            have hCl : (half 0 (x :: t) j).length = m := by rw [half_len _ _ _ (by omega)]; exact hm
            by_cases hjlt : j < m
            · obtain ⟨y, hy, -⟩ := at_ex (l := x :: t) (i := j) (by omega)
              have f2 : ilt (j : Int) (m : Int) = true := ilt_t (by omega)
              have w2 : IntKind.i64.wrap ((j : Int) + 1) = ((j + 1 : Nat) : Int) := wrap_succ (by omega)
              have hC1 := half_at (z := 0) hy
              cases hq : ieq y 2
              · have hnj : Hid (half 0 (x :: t) (j + 1) = half 0 (x :: t) j) := half_same hy hq
                generalize half 0 (x :: t) j = C at gK hCl hC1 hnj
                have hC2 : ∀ h : j < C.length, C[j] = y := fun h => by rw [List.getElem?_eq_getElem h] at hC1; exact Option.some.inj hC1
                clear hy hl hl' hnx
                repeat' first
                  | (with_reducible refine gw_bool (fun _ => ?_) (fun _ => ?_))
                  | (with_reducible refine condw_bool (fun _ => ?_) (fun _ => ?_))
                  | simp [*, St.forget, scr, scrC]
                refine nxt_go (j + 1) (View.refl _ _) (by omega) (by simp [*, Keep, St.forget, scr, scrC]) (by simp [*, KeepH, St.forget, scr, scrC]) ?_
                refine ⟨by omega, by simp [*], ?_⟩
                rw [hnj.out]; simp [*]
              · have hnj : half 0 (x :: t) (j + 1) = (half 0 (x :: t) j).set j 0 := by rw [half_step hy]; simp [resF, hq]
                replace hnj : Hid (half 0 (x :: t) (j + 1) = (half 0 (x :: t) j).set j 0) := hnj
                generalize half 0 (x :: t) j = C at gK hCl hC1 hnj
                have hC2 : ∀ h : j < C.length, C[j] = y := fun h => by rw [List.getElem?_eq_getElem h] at hC1; exact Option.some.inj hC1
                clear hy hl hl' hnx
                have hj1 : j + 1 ≤ m := by omega
                repeat' first
                  | (with_reducible refine gw_bool (fun _ => ?_) (fun _ => ?_))
                  | (with_reducible refine condw_bool (fun _ => ?_) (fun _ => ?_))
                  | simp [*, St.forget, scr, scrC, setsV]
                refine nxt_go (j + 1) (View.refl _ _) (by omega) (by simp [*, Keep, St.forget, scr, scrC]) (by simp [*, KeepH, St.forget, scr, scrC]) ?_
                refine ⟨by omega, by simp [*], ?_⟩
                rw [hnj.out]; simp [*, setsV, List.map_set]
            · have f2 : ilt (j : Int) (m : Int) = false := ilt_f (by omega)
              have e2 : j = (x :: t).length := by rw [hhl]; omega
              rw [e2, half_end] at gK
              rw [e2, half_end] at hCl
              have hch := chunks_i1 ((x :: t).map (resF 0))
              have hcp := pure_i1 ((x :: t).map (resF 0))
              rw [hCl] at hch
              have hnx' := hnx.out
              generalize (x :: t).map (resF 0) = C at gK hCl hch hnx' hcp
              replace hnx' : Hid (List.map r0 (List.map (fun l => List.map (resF 0) l) (List.take (i + 1) p.lk)) = CC ++ [r0 C]) := hnx'
              replace hch : Hid (chunks 1 m (C.map (V.int .i64)) = C.map i1) := hch
              have hcs : ∀ k, (C.map (V.int .i64)).map (scrC k) = C.map (V.int .i64) := fun k => scrC_cells hcp
              have hmm : m ≤ C.length := by omega
              clear hnx hl hl' e2
              repeat' first
                | (with_reducible refine gw_bool (fun _ => ?_) (fun _ => ?_))
                | (with_reducible refine condw_bool (fun _ => ?_) (fun _ => ?_))
                | simp [*, appendV, srcCells, St.forget, scr, scrC]
              refine nxt_go (i + 1) ((View.forget _ _ 42).trans (View.pub _ (key := 250005) (blk := ⟨3, C.map (V.int .i64)⟩) ?_ hcp)) (by omega) ?_ ?_ ?_
              · simp [*, St.forget, scrC, scrI_comp]
              · simp [*, Keep, St.forget, scr, scrC, St.pub, pubT, pubA, pubC]
              · simp [*, KeepH, St.forget, scr, scrC, St.pub, pubC]
              · refine ⟨by omega, ?_, ?_, ?_⟩
                · simp [*, St.forget, scr, scrC, St.pub, pubT, pubA, pubC]
                · simp [*, St.forget, scr, scrC, St.pub, pubC]
                · rw [hnx'.out]; simp [*, St.forget, scr, scrC, St.pub, pubC, r0, hch.out]
      · have f1 : ilt (i : Int) (n : Int) = false := ilt_f (by omega)
        have e1 : i = n := by omega
        subst e1
        have ht : p.lk.take i = p.lk := by rw [← hn]; exact List.take_length
        rw [ht] at g43
        have hpu := pure_r0 (p.lk.map (fun l => l.map (resF 0)))
        have hed := hend.out
        have hln : ((p.lk.map (fun l => l.map (resF 0))).map r0).length = i := by simp; omega
        generalize hCC : (p.lk.map (fun l => l.map (resF 0))).map r0 = CC at g43 hpu hed hln
        clear hend hCC ht
        repeat' first
          | (with_reducible refine gw_bool (fun _ => ?_) (fun _ => ?_))
          | (with_reducible refine condw_bool (fun _ => ?_) (fun _ => ?_))
          | simp [*, Pos.cs]
        all_goals trace_state
  · have hres : resP p true = ⟨p.cl, p.lk.map (fun l => l.map (resF 1))⟩ := rfl
    rw [hres]
    clear hres
    have hend := chunks_r0 (p.lk.map (fun l => l.map (resF 1)))
    rw [List.length_map, hn] at hend
    replace hend : Hid (chunks 1 n ((p.lk.map (fun l => l.map (resF 1))).map r0) = (p.lk.map (fun l => l.map (resF 1))).map r1) := hend
    refine pcall_cx D2_ok mixed (fun _ => none) Try.func34 rfl Try.ntmps34 Try.results34 (by simp) (by kernel_rfl) ?_
    repeat' first
      | (with_reducible refine gw_bool (fun _ => ?_) (fun _ => ?_))
      | (with_reducible refine condw_bool (fun _ => ?_) (fun _ => ?_))
      | simp [*, Pos.cs]
    refine lp_view (View.nilAt _ (t := 6) (o := 0) (key := 6) (key' := 43) (i := 1) (blk := ⟨38, [.list 1 (p.cl.map b1), .nils]⟩) 1 47 (by simp) (by simp) (by simp) (by simp)) ?_
    refine lp_go (D := (fun _ => none)) D2_ok mixed (by kernel_rfl) [4, 5, 6, 17, 18] [2, 4, 42, 250005] (α := Nat) (fun i e h => i ≤ n ∧ e 19 = .int .i64 i ∧ h 6 = some ⟨38, [.list 1 (p.cl.map b1), .sl 43 0 i 1]⟩ ∧ h 43 = some ⟨47, ((p.lk.take i).map (fun l => l.map (resF 1))).map r0⟩) (fun i => n - i) 0 ?_ ?_
    · refine ⟨by omega, by simp, by simp, by simp⟩
    · rintro i e h hk hkh ⟨hi, g7, g6, g43⟩
      simp [Keep] at hk
      simp [KeepH] at hkh
      by_cases hlt : i < n
      · obtain ⟨l, hl, hl'⟩ := at_ex (l := p.lk) (i := i) (by omega)
        have f1 : ilt (i : Int) (n : Int) = true := ilt_t (by omega)
        have w1 : IntKind.i64.wrap ((i : Int) + 1) = ((i + 1 : Nat) : Int) := wrap_succ (by omega)
        have hlm : l.length ≤ 1000 := h3 l (List.mem_of_getElem? hl)
        have f5 : (i + 1) * 24 ≤ 140737488355328 := by omega
        have f6 : i + 1 ≤ 9223372036854775807 := by omega
        have hnx : ((p.lk.take (i + 1)).map (fun l => l.map (resF 1))).map r0 = ((p.lk.take i).map (fun l => l.map (resF 1))).map r0 ++ [r0 (l.map (resF 1))] := by rw [take_snoc hl]; simp
        have hln : (((p.lk.take i).map (fun l => l.map (resF 1))).map r0).length = i := by simp; omega
        generalize hCC : ((p.lk.take i).map (fun l => l.map (resF 1))).map r0 = CC at g43 hnx hln
        have hpC : CC.any ownC = false := by rw [← hCC]; exact pure_r0 _
        have hsC : ∀ k, CC.map (scrC k) = CC := fun k => scrC_cells hpC
        have hbC : ∀ k b, CC.map (pubC k b) = CC := fun k b => pub_cells hpC
        replace hnx : Hid (((p.lk.take (i + 1)).map (fun l => l.map (resF 1))).map r0 = CC ++ [r0 (l.map (resF 1))]) := hnx
        clear hCC
        have hlt2 : i < p.lk.length := by omega
        cases l with
        | nil =>
          repeat' first
            | (with_reducible refine gw_bool (fun _ => ?_) (fun _ => ?_))
            | (with_reducible refine condw_bool (fun _ => ?_) (fun _ => ?_))
            | simp [*, r1, appendV, srcCells, St.forget, scr, scrC]
          refine lp_unroll (D := (fun _ => none)) D2_ok mixed (by kernel_rfl) ?_
          repeat' first
            | (with_reducible refine gw_bool (fun _ => ?_) (fun _ => ?_))
            | (with_reducible refine condw_bool (fun _ => ?_) (fun _ => ?_))
            | simp [*, r1, appendV, srcCells, St.forget, scr, scrC]
          refine nxt_go (i + 1) ((View.forget _ _ 42)) (by omega) (by simp [*, Keep, St.forget, scr, scrC]) (by simp [*, KeepH, St.forget, scr, scrC]) ?_
          refine ⟨by omega, ?_, ?_, ?_⟩
          · simp [*, St.forget, scr, scrC]
          · simp [*, St.forget, scr, scrC]
          · rw [hnx.out]; simp [*, St.forget, scr, scrC, r0]
        | cons x t =>
          have hlm' : t.length ≤ 1000 := by simp at hlm; omega
          obtain ⟨m, hm⟩ : ∃ m, t.length + 1 = m := ⟨_, rfl⟩
          have hmc : ((t.length : Int) + 1) = (m : Int) := by omega
          have hhl : (x :: t).length = m := hm
          repeat' first
            | (with_reducible refine gw_bool (fun _ => ?_) (fun _ => ?_))
            | (with_reducible refine condw_bool (fun _ => ?_) (fun _ => ?_))
            | simp [*, r1, appendV, srcCells, St.forget, scr, scrC]
          refine lp_go (D := (fun _ => none)) D2_ok mixed (by kernel_rfl) [4, 5, 6, 8, 17, 18, 19, 20, 21, 22, 23, 24, 25, 26] [2, 4, 6, 42, 43] (α := Nat) (fun j e h => j ≤ m ∧ e 27 = .int .i64 j ∧ h 250005 = some ⟨3, (half 1 (x :: t) j).map (V.int .i64)⟩) (fun j => m - j) 0 ?_ ?_
          · refine ⟨by omega, by simp, by simp [half]⟩
          · have hk0 := hk
            have hkh0 := hkh
            have g0 := g7
            clear hk hkh g7
            rintro j e h hk hkh ⟨hj, g7, gK⟩
            simp [Keep, hk0, hkh0, g0, hm, hmc] at hk
            simp [KeepH, hk0, hkh0, g6, g43] at hkh
            have hCl : (half 1 (x :: t) j).length = m := by rw [half_len _ _ _ (by omega)]; exact hm
            by_cases hjlt : j < m
            · obtain ⟨y, hy, -⟩ := at_ex (l := x :: t) (i := j) (by omega)
              have f2 : ilt (j : Int) (m : Int) = true := ilt_t (by omega)
              have w2 : IntKind.i64.wrap ((j : Int) + 1) = ((j + 1 : Nat) : Int) := wrap_succ (by omega)
              have hC1 := half_at (z := 1) hy
              cases hq : ieq y 2
              · have hnj : Hid (half 1 (x :: t) (j + 1) = half 1 (x :: t) j) := half_same hy hq
                generalize half 1 (x :: t) j = C at gK hCl hC1 hnj
                have hC2 : ∀ h : j < C.length, C[j] = y := fun h => by rw [List.getElem?_eq_getElem h] at hC1; exact Option.some.inj hC1
                clear hy hl hl' hnx
                repeat' first
                  | (with_reducible refine gw_bool (fun _ => ?_) (fun _ => ?_))
                  | (with_reducible refine condw_bool (fun _ => ?_) (fun _ => ?_))
                  | simp [*, St.forget, scr, scrC]
                refine nxt_go (j + 1) (View.refl _ _) (by omega) (by simp [*, Keep, St.forget, scr, scrC]) (by simp [*, KeepH, St.forget, scr, scrC]) ?_
                refine ⟨by omega, by simp [*], ?_⟩
                rw [hnj.out]; simp [*]
              · have hnj : half 1 (x :: t) (j + 1) = (half 1 (x :: t) j).set j 1 := by rw [half_step hy]; simp [resF, hq]
                replace hnj : Hid (half 1 (x :: t) (j + 1) = (half 1 (x :: t) j).set j 1) := hnj
                generalize half 1 (x :: t) j = C at gK hCl hC1 hnj
                have hC2 : ∀ h : j < C.length, C[j] = y := fun h => by rw [List.getElem?_eq_getElem h] at hC1; exact Option.some.inj hC1
                clear hy hl hl' hnx
                have hj1 : j + 1 ≤ m := by omega
                repeat' first
                  | (with_reducible refine gw_bool (fun _ => ?_) (fun _ => ?_))
                  | (with_reducible refine condw_bool (fun _ => ?_) (fun _ => ?_))
                  | simp [*, St.forget, scr, scrC, setsV]
                refine nxt_go (j + 1) (View.refl _ _) (by omega) (by simp [*, Keep, St.forget, scr, scrC]) (by simp [*, KeepH, St.forget, scr, scrC]) ?_
                refine ⟨by omega, by simp [*], ?_⟩
                rw [hnj.out]; simp [*, setsV, List.map_set]
            · have f2 : ilt (j : Int) (m : Int) = false := ilt_f (by omega)
              have e2 : j = (x :: t).length := by rw [hhl]; omega
              rw [e2, half_end] at gK
              rw [e2, half_end] at hCl
              have hch := chunks_i1 ((x :: t).map (resF 1))
              have hcp := pure_i1 ((x :: t).map (resF 1))
              rw [hCl] at hch
              have hnx' := hnx.out
              generalize (x :: t).map (resF 1) = C at gK hCl hch hnx' hcp
              replace hnx' : Hid (List.map r0 (List.map (fun l => List.map (resF 1) l) (List.take (i + 1) p.lk)) = CC ++ [r0 C]) := hnx'
              replace hch : Hid (chunks 1 m (C.map (V.int .i64)) = C.map i1) := hch
              have hcs : ∀ k, (C.map (V.int .i64)).map (scrC k) = C.map (V.int .i64) := fun k => scrC_cells hcp
              have hmm : m ≤ C.length := by omega
              clear hnx hl hl' e2
              repeat' first
                | (with_reducible refine gw_bool (fun _ => ?_) (fun _ => ?_))
                | (with_reducible refine condw_bool (fun _ => ?_) (fun _ => ?_))
                | simp [*, appendV, srcCells, St.forget, scr, scrC]
              refine nxt_go (i + 1) ((View.forget _ _ 42).trans (View.pub _ (key := 250005) (blk := ⟨3, C.map (V.int .i64)⟩) ?_ hcp)) (by omega) ?_ ?_ ?_
              · simp [*, St.forget, scrC, scrI_comp]
              · simp [*, Keep, St.forget, scr, scrC, St.pub, pubT, pubA, pubC]
              · simp [*, KeepH, St.forget, scr, scrC, St.pub, pubC]
              · refine ⟨by omega, ?_, ?_, ?_⟩
                · simp [*, St.forget, scr, scrC, St.pub, pubT, pubA, pubC]
                · simp [*, St.forget, scr, scrC, St.pub, pubC]
                · rw [hnx'.out]; simp [*, St.forget, scr, scrC, St.pub, pubC, r0, hch.out]
      · have f1 : ilt (i : Int) (n : Int) = false := ilt_f (by omega)
        have e1 : i = n := by omega
        subst e1
        have ht : p.lk.take i = p.lk := by rw [← hn]; exact List.take_length
        rw [ht] at g43
        have hpu := pure_r0 (p.lk.map (fun l => l.map (resF 1)))
        have hed := hend.out
        have hln : ((p.lk.map (fun l => l.map (resF 1))).map r0).length = i := by simp; omega
        generalize hCC : (p.lk.map (fun l => l.map (resF 1))).map r0 = CC at g43 hpu hed hln
        clear hend hCC ht
        repeat' first
          | (with_reducible refine gw_bool (fun _ => ?_) (fun _ => ?_))
          | (with_reducible refine condw_bool (fun _ => ?_) (fun _ => ?_))
          | simp [*, Pos.cs]
        all_goals trace_state
end Go.Proofs.Ytcbddoopmkhlfaa
