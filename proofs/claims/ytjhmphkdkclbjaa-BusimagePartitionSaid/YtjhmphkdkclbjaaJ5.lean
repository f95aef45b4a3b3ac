/-
  Positions: Resolve.
  Views: closed, group, sides, node.
  Views: node, boundary.
  Views: look.
  Views: look.
  Targets of breaker failure protection.
  The document's diagrams: names and ranges.
  The document's diagrams: a bay's object, ranges and links.
  The document's diagrams: a bay, and the whole check.
  The document's diagrams: the whole check.
  The document's positions: the check.
  Reading diagrams and positions out of arguments.
-/
import Derived.Test.YtjhmphkdkclbjaaJ4
import Derived.Laws.StructEq
section
namespace Go.Proofs.Ytjhmphkdkclbjaa
open Go.Pv Go.RowKit
set_option linter.unusedSimpArgs false
set_option linter.unusedVariables false
set_option maxRecDepth 100000
set_option maxHeartbeats 2000000

def lenB (s : Stn) (p : Pos) : Bool := decide (s.qs.length ≤ 9223372036854775807) && p.lk.all (fun l => decide (l.length ≤ 9223372036854775807))
def Tpchk : List V → Option V
  | [.agg a, .agg b] => (match unStn a, unPos b with
    | some s, some p => if lenB s p = true then some (.int .i64 (posE s p)) else none
    | _, _ => none)
  | _ => none
theorem Tpchk_at {s : Stn} {p : Pos} (h : lenB s p = true) : Tpchk [.agg s.cs, .agg p.cs] = some (.int .i64 (posE s p)) := by simp [Tpchk, unStn_cs, unPos_cs, h]
theorem pchk_tab : ∀ vs v, Tpchk vs = some v → PCall Try.prog 16 vs v := by
  intro vs v h; unfold Tpchk at h; split at h
  · split at h
    · rename_i h1 h2
      split at h
      · rename_i hl
        cases h
        rw [unStn_inv _ _ h1, unPos_inv _ _ h2]
        simp only [lenB, Bool.and_eq_true, decide_eq_true_eq, List.all_eq_true] at hl
        exact pchk_ok _ _ hl.1 hl.2
      · cases h
    · cases h
  · cases h
def TcI : List V → Option (V × List (Nat × Blk))
  | [.list 1 xs] => (match decL unI1 xs with
    | some [] => some (.list 1 [], [])
    | some (x :: l) => if l.length ≤ 1000 then some (.sl 5 0 (l.length + 1) 1, [(5, ⟨3, (x :: l).map (V.int .i64)⟩)]) else none
    | none => none)
  | _ => none
theorem TcI_nil : TcI [.list 1 []] = some (.list 1 [], []) := rfl
theorem TcI_cons {x : Int} {l : List Int} (h : l.length ≤ 1000) : TcI [.list 1 (i1 x :: l.map i1)] = some (.sl 5 0 (l.length + 1) 1, [(5, ⟨3, V.int .i64 x :: l.map (V.int .i64)⟩)]) := by
  have := decL_map unI1_cs (x :: l)
  simp only [List.map_cons] at this
  simp [TcI, this, h]
theorem cI_tab : ∀ vs u bl, TcI vs = some (u, bl) → PGive Try.prog 71 vs u bl := by
  intro vs u bl h; unfold TcI at h; split at h
  · split at h
    · rename_i h1; cases h; rw [decL_inv unI1_inv _ _ h1]; exact cloneIe
    · rename_i h1; split at h
      · rename_i hl; cases h; rw [decL_inv unI1_inv _ _ h1]; exact cloneI1 _ _ hl
      · cases h
    · cases h
  · cases h
def TcB : List V → Option V
  | [.list 1 xs] => (match decL unB1 xs with
    | some l => if l.length ≤ 1000 then some (.list 1 (l.map b1)) else none
    | none => none)
  | _ => none
theorem TcB_at {l : List Bool} (h : l.length ≤ 1000) : TcB [.list 1 (l.map b1)] = some (.list 1 (l.map b1)) := by simp [TcB, decL_map unB1_cs, h]
theorem cB_tab : ∀ vs v, TcB vs = some v → PCall Try.prog 70 vs v := by
  intro vs v h; unfold TcB at h; split at h
  · split at h
    · rename_i h1; split at h
      · rename_i hl; cases h; rw [decL_inv unB1_inv _ _ h1]; exact cloneB_ok _ hl
      · cases h
    · cases h
  · cases h
def D2 : Tab := add 16 Tpchk (add 70 TcB (addG 71 TcI (D1)))
theorem D2_at (f : FuncId) (vs : List V) : D2.at' f vs = if f = 16 then Tpchk vs else if f = 70 then TcB vs else D1.at' f vs := rfl
theorem D2_fr (f : FuncId) : D2.fr f = if f = 16 then false else if f = 70 then false else D1.fr f := rfl
theorem D2_gb (f : FuncId) : D2.gb f = if f = 71 then true else D1.gb f := rfl
theorem D2_gv (f : FuncId) (vs : List V) : D2.gv f vs = if f = 71 then TcI vs else D1.gv f vs := rfl
attribute [simp] D2_at D2_fr D2_gb D2_gv TcB TcI Tpchk
theorem D2_ok : TabOK Try.prog D2 := by
  refine add_ok (add_ok (addG_ok (D1_ok) (by kernel_rfl) ?_) (by kernel_rfl) ?_) (by kernel_rfl) ?_
  · exact cI_tab
  · exact cB_tab
  · exact pchk_tab
attribute [-simp] Tpchk TcI TcB
attribute [simp] Tpchk_at TcI_nil TcI_cons TcB_at
def resF (z x : Int) : Int := if ieq x 2 = true then z else x
def resZ (c : Bool) : Int := if c = true then 1 else 0
def resP (p : Pos) (c : Bool) : Pos := ⟨p.cl, p.lk.map (fun l => l.map (resF (resZ c)))⟩
def r0 (l : List Int) : V := .list 1 (l.map i1)
theorem chunks_r0 (l : List (List Int)) : chunks 1 l.length (l.map r0) = l.map r1 := by
  have := flat_chunks (sz := 1) (enc := r1) (fun _ => rfl) l
  rw [← this]
  congr 1
  induction l with
  | nil => rfl
  | cons a l ih => simp [r1, r0]; exact ih (flat_chunks (sz := 1) (enc := r1) (fun _ => rfl) l)
theorem pure_r0 (l : List (List Int)) : (l.map r0).any ownC = false := by
  induction l with
  | nil => rfl
  | cons a l ih => simp [r0, ownC]
theorem scr_r0 (l : List (List Int)) (k : Nat) : (l.map r0).map (scrC k) = l.map r0 := scrC_cells (pure_r0 l)
theorem pub_r0 (l : List (List Int)) (k : Nat) (b : Blk) : (l.map r0).map (pubC k b) = l.map r0 := pub_cells (pure_r0 l)
/-- A row half way. -/
def half (z : Int) (l : List Int) (j : Nat) : List Int := (l.take j).map (resF z) ++ l.drop j
theorem half_len (z : Int) (l : List Int) (j : Nat) (h : j ≤ l.length) : (half z l j).length = l.length := by simp [half]; omega
theorem half_at {z : Int} {l : List Int} {j : Nat} {x : Int} (h : l[j]? = some x) : (half z l j)[j]? = some x := by
  have hj : j < l.length := (List.getElem?_eq_some_iff.1 h).1
  simp [half, List.getElem?_append, List.length_take, Nat.min_eq_left (Nat.le_of_lt hj), h]
theorem half_step {z : Int} {l : List Int} {j : Nat} {x : Int} (h : l[j]? = some x) : half z l (j + 1) = (half z l j).set j (resF z x) := by
  have hj : j < l.length := (List.getElem?_eq_some_iff.1 h).1
  have e : l.drop j = x :: l.drop (j + 1) := by
    rw [List.drop_eq_getElem_cons hj]; congr 1
    exact (List.getElem?_eq_some_iff.1 h).2
  simp only [half, take_snoc h, e]
  rw [List.set_append_right _ _ (by simp [Nat.min_eq_left (Nat.le_of_lt hj)])]
  simp [Nat.min_eq_left (Nat.le_of_lt hj)]
theorem half_same {z : Int} {l : List Int} {j : Nat} {x : Int} (h : l[j]? = some x) (h2 : ieq x 2 = false) : half z l (j + 1) = half z l j := by
  rw [half_step h]
  have h3 := half_at (z := z) h
  simp only [resF, h2]
  apply List.ext_getElem?
  intro i
  rw [List.getElem?_set]
  split
  · rename_i e; subst e; simp at h3 ⊢; split
    · exact h3.symm
    · rename_i hh; exact (hh (List.getElem?_eq_some_iff.1 h3).1).elim
  · rfl
theorem half_end (z : Int) (l : List Int) : half z l l.length = l.map (resF z) := by simp [half]
theorem resolve_ok (p : Pos) (c : Bool) (h1 : p.cl.length ≤ 1000) (h2 : p.lk.length ≤ 1000) (h3 : ∀ l ∈ p.lk, l.length ≤ 1000) : PCall Try.prog 38 [.agg p.cs, .bool c] (.agg (resP p c).cs) := by
  obtain ⟨n, hn⟩ : ∃ n, p.lk.length = n := ⟨_, rfl⟩
  rw [hn] at h2
  cases c
  · have hres : resP p false = ⟨p.cl, p.lk.map (fun l => l.map (resF 0))⟩ := rfl
    rw [hres]
    clear hres
    have hend := chunks_r0 (p.lk.map (fun l => l.map (resF 0)))
    rw [List.length_map, hn] at hend
    replace hend : Hid (chunks 1 n ((p.lk.map (fun l => l.map (resF 0))).map r0) = (p.lk.map (fun l => l.map (resF 0))).map r1) := hend
    refine pcall_cx D2_ok mixed (fun _ => none) Try.func38 rfl Try.ntmps38 Try.results38 (by simp) (by kernel_rfl) ?_
    repeat' first
      | (with_reducible refine gw_bool (fun _ => ?_) (fun _ => ?_))
      | (with_reducible refine condw_bool (fun _ => ?_) (fun _ => ?_))
      | simp [*, Pos.cs]
    refine lp_view (View.nilAt _ (t := 6) (o := 0) (key := 6) (key' := 43) (i := 1) (blk := ⟨31, [.list 1 (p.cl.map b1), .nils]⟩) 1 42 (by simp) (by simp) (by simp) (by simp)) ?_
    refine lp_go (D := (fun _ => none)) D2_ok mixed (by kernel_rfl) [4, 5, 6, 17, 18] [2, 4, 42, 250005] (α := Nat) (fun i e h => i ≤ n ∧ e 19 = .int .i64 i ∧ h 6 = some ⟨31, [.list 1 (p.cl.map b1), .sl 43 0 i 1]⟩ ∧ h 43 = some ⟨42, ((p.lk.take i).map (fun l => l.map (resF 0))).map r0⟩) (fun i => n - i) 0 ?_ ?_
    · refine ⟨by omega, by simp, by simp, by simp⟩
    · rintro i e h hk hkh ⟨hi, g7, g6, g43⟩
      simp [Keep] at hk
      simp [KeepH] at hkh
      by_cases hlt : i < n
      · obtain ⟨l, hl, hl'⟩ := at_ex (l := p.lk) (i := i) (by omega)
        have f1 : ilt (i : Int) (n : Int) = true := ilt_t (by omega)
        have w1 : IntKind.i64.wrap ((i : Int) + 1) = ((i + 1 : Nat) : Int) := wrap_succ (by omega)
        have hlm : l.length ≤ 1000 := h3 l (List.mem_of_getElem? hl)
        have f5 : (i + 1) * 24 ≤ 140737488355328 := by omega
        have f6 : i + 1 ≤ 9223372036854775807 := by omega
        have hnx : ((p.lk.take (i + 1)).map (fun l => l.map (resF 0))).map r0 = ((p.lk.take i).map (fun l => l.map (resF 0))).map r0 ++ [r0 (l.map (resF 0))] := by rw [take_snoc hl]; simp
        have hln : (((p.lk.take i).map (fun l => l.map (resF 0))).map r0).length = i := by simp; omega
        generalize hCC : ((p.lk.take i).map (fun l => l.map (resF 0))).map r0 = CC at g43 hnx hln
        have hpC : CC.any ownC = false := by rw [← hCC]; exact pure_r0 _
        have hsC : ∀ k, CC.map (scrC k) = CC := fun k => scrC_cells hpC
        have hbC : ∀ k b, CC.map (pubC k b) = CC := fun k b => pub_cells hpC
        replace hnx : Hid (((p.lk.take (i + 1)).map (fun l => l.map (resF 0))).map r0 = CC ++ [r0 (l.map (resF 0))]) := hnx
        clear hCC
        have hlt2 : i < p.lk.length := by omega
        cases l with
        | nil =>
          repeat' first
            | (with_reducible refine gw_bool (fun _ => ?_) (fun _ => ?_))
            | (with_reducible refine condw_bool (fun _ => ?_) (fun _ => ?_))
            | simp [*, r1, appendV, srcCells, St.forget, scr, scrC]
          refine lp_unroll (D := (fun _ => none)) D2_ok mixed (by kernel_rfl) ?_
          repeat' first
            | (with_reducible refine gw_bool (fun _ => ?_) (fun _ => ?_))
            | (with_reducible refine condw_bool (fun _ => ?_) (fun _ => ?_))
            | simp [*, r1, appendV, srcCells, St.forget, scr, scrC]
          refine nxt_go (i + 1) ((View.forget _ _ 42)) (by omega) (by simp [*, Keep, St.forget, scr, scrC]) (by simp [*, KeepH, St.forget, scr, scrC]) ?_
          refine ⟨by omega, ?_, ?_, ?_⟩
          · simp [*, St.forget, scr, scrC]
          · simp [*, St.forget, scr, scrC]
          · rw [hnx.out]; simp [*, St.forget, scr, scrC, r0]
        | cons x t =>
          have hlm' : t.length ≤ 1000 := by simp at hlm; omega
          obtain ⟨m, hm⟩ : ∃ m, t.length + 1 = m := ⟨_, rfl⟩
          have hmc : ((t.length : Int) + 1) = (m : Int) := by omega
          have hhl : (x :: t).length = m := hm
          repeat' first
            | (with_reducible refine gw_bool (fun _ => ?_) (fun _ => ?_))
            | (with_reducible refine condw_bool (fun _ => ?_) (fun _ => ?_))
            | simp [*, r1, appendV, srcCells, St.forget, scr, scrC]
          refine lp_go (D := (fun _ => none)) D2_ok mixed (by kernel_rfl) [4, 5, 6, 8, 17, 18, 19, 20, 21, 22, 23, 24, 25, 26] [2, 4, 6, 42, 43] (α := Nat) (fun j e h => j ≤ m ∧ e 27 = .int .i64 j ∧ h 250005 = some ⟨3, (half 0 (x :: t) j).map (V.int .i64)⟩) (fun j => m - j) 0 ?_ ?_
          · refine ⟨by omega, by simp, by simp [half]⟩
          · have hk0 := hk
            have hkh0 := hkh
            have g0 := g7
            clear hk hkh g7
            rintro j e h hk hkh ⟨hj, g7, gK⟩
            simp [Keep, hk0, hkh0, g0, hm, hmc] at hk
            simp [KeepH, hk0, hkh0, g6, g43] at hkh
            have hCl : (half 0 (x :: t) j).length = m := by rw [half_len _ _ _ (by omega)]; exact hm
            by_cases hjlt : j < m
            · obtain ⟨y, hy, -⟩ := at_ex (l := x :: t) (i := j) (by omega)
              have f2 : ilt (j : Int) (m : Int) = true := ilt_t (by omega)
              have w2 : IntKind.i64.wrap ((j : Int) + 1) = ((j + 1 : Nat) : Int) := wrap_succ (by omega)
              have hC1 := half_at (z := 0) hy
              cases hq : ieq y 2
              · have hnj : Hid (half 0 (x :: t) (j + 1) = half 0 (x :: t) j) := half_same hy hq
                generalize half 0 (x :: t) j = C at gK hCl hC1 hnj
                have hC2 : ∀ h : j < C.length, C[j] = y := fun h => by rw [List.getElem?_eq_getElem h] at hC1; exact Option.some.inj hC1
                clear hy hl hl' hnx
                repeat' first
                  | (with_reducible refine gw_bool (fun _ => ?_) (fun _ => ?_))
                  | (with_reducible refine condw_bool (fun _ => ?_) (fun _ => ?_))
                  | simp [*, St.forget, scr, scrC]
                refine nxt_go (j + 1) (View.refl _ _) (by omega) (by simp [*, Keep, St.forget, scr, scrC]) (by simp [*, KeepH, St.forget, scr, scrC]) ?_
                refine ⟨by omega, by simp [*], ?_⟩
                rw [hnj.out]; simp [*]
              · have hnj : half 0 (x :: t) (j + 1) = (half 0 (x :: t) j).set j 0 := by rw [half_step hy]; simp [resF, hq]
                replace hnj : Hid (half 0 (x :: t) (j + 1) = (half 0 (x :: t) j).set j 0) := hnj
                generalize half 0 (x :: t) j = C at gK hCl hC1 hnj
                have hC2 : ∀ h : j < C.length, C[j] = y := fun h => by rw [List.getElem?_eq_getElem h] at hC1; exact Option.some.inj hC1
                clear hy hl hl' hnx
                have hj1 : j + 1 ≤ m := by omega
                repeat' first
                  | (with_reducible refine gw_bool (fun _ => ?_) (fun _ => ?_))
                  | (with_reducible refine condw_bool (fun _ => ?_) (fun _ => ?_))
                  | simp [*, St.forget, scr, scrC, setsV]
                refine nxt_go (j + 1) (View.refl _ _) (by omega) (by simp [*, Keep, St.forget, scr, scrC]) (by simp [*, KeepH, St.forget, scr, scrC]) ?_
                refine ⟨by omega, by simp [*], ?_⟩
                rw [hnj.out]; simp [*, setsV, List.map_set]
            · have f2 : ilt (j : Int) (m : Int) = false := ilt_f (by omega)
              have e2 : j = (x :: t).length := by rw [hhl]; omega
              rw [e2, half_end] at gK
              rw [e2, half_end] at hCl
              have hch := chunks_i1 ((x :: t).map (resF 0))
              have hcp := pure_i1 ((x :: t).map (resF 0))
              rw [hCl] at hch
              have hnx' := hnx.out
              generalize (x :: t).map (resF 0) = C at gK hCl hch hnx' hcp
              replace hnx' : Hid (List.map r0 (List.map (fun l => List.map (resF 0) l) (List.take (i + 1) p.lk)) = CC ++ [r0 C]) := hnx'
              replace hch : Hid (chunks 1 m (C.map (V.int .i64)) = C.map i1) := hch
              have hcs : ∀ k, (C.map (V.int .i64)).map (scrC k) = C.map (V.int .i64) := fun k => scrC_cells hcp
              have hmm : m ≤ C.length := by omega
              clear hnx hl hl' e2
              repeat' first
                | (with_reducible refine gw_bool (fun _ => ?_) (fun _ => ?_))
                | (with_reducible refine condw_bool (fun _ => ?_) (fun _ => ?_))
                | simp [*, appendV, srcCells, St.forget, scr, scrC]
              refine nxt_go (i + 1) ((View.forget _ _ 42).trans (View.pub _ (key := 250005) (blk := ⟨3, C.map (V.int .i64)⟩) ?_ hcp)) (by omega) ?_ ?_ ?_
              · simp [*, St.forget, scrC, scrI_comp]
              · simp [*, Keep, St.forget, scr, scrC, St.pub, pubT, pubA, pubC]
              · simp [*, KeepH, St.forget, scr, scrC, St.pub, pubC]
              · refine ⟨by omega, ?_, ?_, ?_⟩
                · simp [*, St.forget, scr, scrC, St.pub, pubT, pubA, pubC]
                · simp [*, St.forget, scr, scrC, St.pub, pubC]
                · rw [hnx'.out]; simp [*, St.forget, scr, scrC, St.pub, pubC, r0, hch.out]
      · have f1 : ilt (i : Int) (n : Int) = false := ilt_f (by omega)
        have e1 : i = n := by omega
        subst e1
        have ht : p.lk.take i = p.lk := by rw [← hn]; exact List.take_length
        rw [ht] at g43
        have hpu := pure_r0 (p.lk.map (fun l => l.map (resF 0)))
        have hed := hend.out
        have hln : ((p.lk.map (fun l => l.map (resF 0))).map r0).length = i := by simp; omega
        generalize hCC : (p.lk.map (fun l => l.map (resF 0))).map r0 = CC at g43 hpu hed hln
        clear hend hCC ht
        repeat' first
          | (with_reducible refine gw_bool (fun _ => ?_) (fun _ => ?_))
          | (with_reducible refine condw_bool (fun _ => ?_) (fun _ => ?_))
          | simp [*, Pos.cs]
        all_goals trace_state
  · have hres : resP p true = ⟨p.cl, p.lk.map (fun l => l.map (resF 1))⟩ := rfl
    rw [hres]
    clear hres
    have hend := chunks_r0 (p.lk.map (fun l => l.map (resF 1)))
    rw [List.length_map, hn] at hend
    replace hend : Hid (chunks 1 n ((p.lk.map (fun l => l.map (resF 1))).map r0) = (p.lk.map (fun l => l.map (resF 1))).map r1) := hend
    refine pcall_cx D2_ok mixed (fun _ => none) Try.func38 rfl Try.ntmps38 Try.results38 (by simp) (by kernel_rfl) ?_
    repeat' first
      | (with_reducible refine gw_bool (fun _ => ?_) (fun _ => ?_))
      | (with_reducible refine condw_bool (fun _ => ?_) (fun _ => ?_))
      | simp [*, Pos.cs]
    refine lp_view (View.nilAt _ (t := 6) (o := 0) (key := 6) (key' := 43) (i := 1) (blk := ⟨31, [.list 1 (p.cl.map b1), .nils]⟩) 1 42 (by simp) (by simp) (by simp) (by simp)) ?_
    refine lp_go (D := (fun _ => none)) D2_ok mixed (by kernel_rfl) [4, 5, 6, 17, 18] [2, 4, 42, 250005] (α := Nat) (fun i e h => i ≤ n ∧ e 19 = .int .i64 i ∧ h 6 = some ⟨31, [.list 1 (p.cl.map b1), .sl 43 0 i 1]⟩ ∧ h 43 = some ⟨42, ((p.lk.take i).map (fun l => l.map (resF 1))).map r0⟩) (fun i => n - i) 0 ?_ ?_
    · refine ⟨by omega, by simp, by simp, by simp⟩
    · rintro i e h hk hkh ⟨hi, g7, g6, g43⟩
      simp [Keep] at hk
      simp [KeepH] at hkh
      by_cases hlt : i < n
      · obtain ⟨l, hl, hl'⟩ := at_ex (l := p.lk) (i := i) (by omega)
        have f1 : ilt (i : Int) (n : Int) = true := ilt_t (by omega)
        have w1 : IntKind.i64.wrap ((i : Int) + 1) = ((i + 1 : Nat) : Int) := wrap_succ (by omega)
        have hlm : l.length ≤ 1000 := h3 l (List.mem_of_getElem? hl)
        have f5 : (i + 1) * 24 ≤ 140737488355328 := by omega
        have f6 : i + 1 ≤ 9223372036854775807 := by omega
        have hnx : ((p.lk.take (i + 1)).map (fun l => l.map (resF 1))).map r0 = ((p.lk.take i).map (fun l => l.map (resF 1))).map r0 ++ [r0 (l.map (resF 1))] := by rw [take_snoc hl]; simp
        have hln : (((p.lk.take i).map (fun l => l.map (resF 1))).map r0).length = i := by simp; omega
        generalize hCC : ((p.lk.take i).map (fun l => l.map (resF 1))).map r0 = CC at g43 hnx hln
        have hpC : CC.any ownC = false := by rw [← hCC]; exact pure_r0 _
        have hsC : ∀ k, CC.map (scrC k) = CC := fun k => scrC_cells hpC
        have hbC : ∀ k b, CC.map (pubC k b) = CC := fun k b => pub_cells hpC
        replace hnx : Hid (((p.lk.take (i + 1)).map (fun l => l.map (resF 1))).map r0 = CC ++ [r0 (l.map (resF 1))]) := hnx
        clear hCC
        have hlt2 : i < p.lk.length := by omega
        cases l with
        | nil =>
          repeat' first
            | (with_reducible refine gw_bool (fun _ => ?_) (fun _ => ?_))
            | (with_reducible refine condw_bool (fun _ => ?_) (fun _ => ?_))
            | simp [*, r1, appendV, srcCells, St.forget, scr, scrC]
          refine lp_unroll (D := (fun _ => none)) D2_ok mixed (by kernel_rfl) ?_
          repeat' first
            | (with_reducible refine gw_bool (fun _ => ?_) (fun _ => ?_))
            | (with_reducible refine condw_bool (fun _ => ?_) (fun _ => ?_))
            | simp [*, r1, appendV, srcCells, St.forget, scr, scrC]
          refine nxt_go (i + 1) ((View.forget _ _ 42)) (by omega) (by simp [*, Keep, St.forget, scr, scrC]) (by simp [*, KeepH, St.forget, scr, scrC]) ?_
          refine ⟨by omega, ?_, ?_, ?_⟩
          · simp [*, St.forget, scr, scrC]
          · simp [*, St.forget, scr, scrC]
          · rw [hnx.out]; simp [*, St.forget, scr, scrC, r0]
        | cons x t =>
          have hlm' : t.length ≤ 1000 := by simp at hlm; omega
          obtain ⟨m, hm⟩ : ∃ m, t.length + 1 = m := ⟨_, rfl⟩
          have hmc : ((t.length : Int) + 1) = (m : Int) := by omega
          have hhl : (x :: t).length = m := hm
          repeat' first
            | (with_reducible refine gw_bool (fun _ => ?_) (fun _ => ?_))
            | (with_reducible refine condw_bool (fun _ => ?_) (fun _ => ?_))
            | simp [*, r1, appendV, srcCells, St.forget, scr, scrC]
          refine lp_go (D := (fun _ => none)) D2_ok mixed (by kernel_rfl) [4, 5, 6, 8, 17, 18, 19, 20, 21, 22, 23, 24, 25, 26] [2, 4, 6, 42, 43] (α := Nat) (fun j e h => j ≤ m ∧ e 27 = .int .i64 j ∧ h 250005 = some ⟨3, (half 1 (x :: t) j).map (V.int .i64)⟩) (fun j => m - j) 0 ?_ ?_
          · refine ⟨by omega, by simp, by simp [half]⟩
          · have hk0 := hk
            have hkh0 := hkh
            have g0 := g7
            clear hk hkh g7
            rintro j e h hk hkh ⟨hj, g7, gK⟩
            simp [Keep, hk0, hkh0, g0, hm, hmc] at hk
            simp [KeepH, hk0, hkh0, g6, g43] at hkh
            have hCl : (half 1 (x :: t) j).length = m := by rw [half_len _ _ _ (by omega)]; exact hm
            by_cases hjlt : j < m
            · obtain ⟨y, hy, -⟩ := at_ex (l := x :: t) (i := j) (by omega)
              have f2 : ilt (j : Int) (m : Int) = true := ilt_t (by omega)
              have w2 : IntKind.i64.wrap ((j : Int) + 1) = ((j + 1 : Nat) : Int) := wrap_succ (by omega)
              have hC1 := half_at (z := 1) hy
              cases hq : ieq y 2
              · have hnj : Hid (half 1 (x :: t) (j + 1) = half 1 (x :: t) j) := half_same hy hq
                generalize half 1 (x :: t) j = C at gK hCl hC1 hnj
                have hC2 : ∀ h : j < C.length, C[j] = y := fun h => by rw [List.getElem?_eq_getElem h] at hC1; exact Option.some.inj hC1
                clear hy hl hl' hnx
                repeat' first
                  | (with_reducible refine gw_bool (fun _ => ?_) (fun _ => ?_))
                  | (with_reducible refine condw_bool (fun _ => ?_) (fun _ => ?_))
                  | simp [*, St.forget, scr, scrC]
                refine nxt_go (j + 1) (View.refl _ _) (by omega) (by simp [*, Keep, St.forget, scr, scrC]) (by simp [*, KeepH, St.forget, scr, scrC]) ?_
                refine ⟨by omega, by simp [*], ?_⟩
                rw [hnj.out]; simp [*]
              · have hnj : half 1 (x :: t) (j + 1) = (half 1 (x :: t) j).set j 1 := by rw [half_step hy]; simp [resF, hq]
                replace hnj : Hid (half 1 (x :: t) (j + 1) = (half 1 (x :: t) j).set j 1) := hnj
                generalize half 1 (x :: t) j = C at gK hCl hC1 hnj
                have hC2 : ∀ h : j < C.length, C[j] = y := fun h => by rw [List.getElem?_eq_getElem h] at hC1; exact Option.some.inj hC1
                clear hy hl hl' hnx
                have hj1 : j + 1 ≤ m := by omega
                repeat' first
                  | (with_reducible refine gw_bool (fun _ => ?_) (fun _ => ?_))
                  | (with_reducible refine condw_bool (fun _ => ?_) (fun _ => ?_))
                  | simp [*, St.forget, scr, scrC, setsV]
                refine nxt_go (j + 1) (View.refl _ _) (by omega) (by simp [*, Keep, St.forget, scr, scrC]) (by simp [*, KeepH, St.forget, scr, scrC]) ?_
                refine ⟨by omega, by simp [*], ?_⟩
                rw [hnj.out]; simp [*, setsV, List.map_set]
            · have f2 : ilt (j : Int) (m : Int) = false := ilt_f (by omega)
              have e2 : j = (x :: t).length := by rw [hhl]; omega
              rw [e2, half_end] at gK
              rw [e2, half_end] at hCl
              have hch := chunks_i1 ((x :: t).map (resF 1))
              have hcp := pure_i1 ((x :: t).map (resF 1))
              rw [hCl] at hch
              have hnx' := hnx.out
              generalize (x :: t).map (resF 1) = C at gK hCl hch hnx' hcp
              replace hnx' : Hid (List.map r0 (List.map (fun l => List.map (resF 1) l) (List.take (i + 1) p.lk)) = CC ++ [r0 C]) := hnx'
              replace hch : Hid (chunks 1 m (C.map (V.int .i64)) = C.map i1) := hch
              have hcs : ∀ k, (C.map (V.int .i64)).map (scrC k) = C.map (V.int .i64) := fun k => scrC_cells hcp
              have hmm : m ≤ C.length := by omega
              clear hnx hl hl' e2
              repeat' first
                | (with_reducible refine gw_bool (fun _ => ?_) (fun _ => ?_))
                | (with_reducible refine condw_bool (fun _ => ?_) (fun _ => ?_))
                | simp [*, appendV, srcCells, St.forget, scr, scrC]
              refine nxt_go (i + 1) ((View.forget _ _ 42).trans (View.pub _ (key := 250005) (blk := ⟨3, C.map (V.int .i64)⟩) ?_ hcp)) (by omega) ?_ ?_ ?_
              · simp [*, St.forget, scrC, scrI_comp]
              · simp [*, Keep, St.forget, scr, scrC, St.pub, pubT, pubA, pubC]
              · simp [*, KeepH, St.forget, scr, scrC, St.pub, pubC]
              · refine ⟨by omega, ?_, ?_, ?_⟩
                · simp [*, St.forget, scr, scrC, St.pub, pubT, pubA, pubC]
                · simp [*, St.forget, scr, scrC, St.pub, pubC]
                · rw [hnx'.out]; simp [*, St.forget, scr, scrC, St.pub, pubC, r0, hch.out]
      · have f1 : ilt (i : Int) (n : Int) = false := ilt_f (by omega)
        have e1 : i = n := by omega
        subst e1
        have ht : p.lk.take i = p.lk := by rw [← hn]; exact List.take_length
        rw [ht] at g43
        have hpu := pure_r0 (p.lk.map (fun l => l.map (resF 1)))
        have hed := hend.out
        have hln : ((p.lk.map (fun l => l.map (resF 1))).map r0).length = i := by simp; omega
        generalize hCC : (p.lk.map (fun l => l.map (resF 1))).map r0 = CC at g43 hpu hed hln
        clear hend hCC ht
        repeat' first
          | (with_reducible refine gw_bool (fun _ => ?_) (fun _ => ?_))
          | (with_reducible refine condw_bool (fun _ => ?_) (fun _ => ?_))
          | simp [*, Pos.cs]
        all_goals trace_state
end Go.Proofs.Ytjhmphkdkclbjaa
end
section
namespace Go.Proofs.Ytjhmphkdkclbjaa
open Go.Pv Go.RowKit
set_option linter.unusedSimpArgs false
set_option linter.unusedVariables false
set_option maxRecDepth 100000
set_option maxHeartbeats 2000000

/-- A view. -/
structure Vu where
  s : Stn
  p : Pos
  g : List Int
def Vu.cs (v : Vu) : List V := [.str v.s.nm, .list 1 (v.s.bs.map s1), .list 5 (v.s.ls.map Ln.cs), .list 6 (v.s.ss.map Sr.cs), .list 12 (v.s.qs.map By.cs), .list 1 (v.p.cl.map b1), .list 1 (v.p.lk.map r1), .list 1 (v.g.map i1)]
def unVu : List V → Option Vu
  | [.str nm, .list 1 bs, .list 5 ls, .list 6 ss, .list 12 qs, .list 1 a, .list 1 b, .list 1 g] => (match decL unS1 bs, decL unLn ls, decL unSr ss, decL unBy qs, decL unB1 a, decL unR1 b, decL unI1 g with
    | some bs, some ls, some ss, some qs, some a, some b, some g => some ⟨⟨nm, bs, ls, ss, qs⟩, ⟨a, b⟩, g⟩
    | _, _, _, _, _, _, _ => none)
  | _ => none
theorem unVu_cs (v : Vu) : unVu v.cs = some v := by simp [unVu, Vu.cs, decL_map unS1_cs, decL_map unLn_cs, decL_map unSr_cs, decL_map unBy_cs, decL_map unB1_cs, decL_map unR1_cs, decL_map unI1_cs]
theorem unVu_inv : ∀ c a, unVu c = some a → c = Vu.cs a := by
  intro c a h; unfold unVu at h; split at h
  · split at h
    · rename_i h1 h2 h3 h4 h5 h6 h7
      cases h
      rw [decL_inv unS1_inv _ _ h1, decL_inv unLn_inv _ _ h2, decL_inv unSr_inv _ _ h3, decL_inv unBy_inv _ _ h4, decL_inv unB1_inv _ _ h5, decL_inv unR1_inv _ _ h6, decL_inv unI1_inv _ _ h7]; rfl
    · cases h
  · cases h
theorem get_of {α : Type} {l : List α} {i : Nat} {x : α} (h : l[i]? = some x) : ∃ hi : i < l.length, l[i] = x := List.getElem?_eq_some_iff.1 h
/-! ### closed, group -/
theorem closed_ok (v : Vu) (i j : Nat) (l : List Int) (x : Int) (hl : v.p.lk[i]? = some l) (hx : l[j]? = some x) : PCall Try.prog 86 [.agg v.cs, .int .i64 i, .int .i64 j] (.bool (ieq x 1)) := by
  obtain ⟨hi, hl'⟩ := get_of hl
  obtain ⟨hj, hx'⟩ := get_of hx
  refine pcall_cx noTab_ok mixed (fun _ => none) Try.func86 rfl Try.ntmps86 Try.results86 (by simp) (by kernel_rfl) ?_
  repeat' first
    | (with_reducible refine gw_bool (fun _ => ?_) (fun _ => ?_))
    | (with_reducible refine condw_bool (fun _ => ?_) (fun _ => ?_))
    | simp [*, Vu.cs, r1, i1]
theorem group_ok (v : Vu) (j : Nat) (x : Int) (hx : v.g[j]? = some x) : PCall Try.prog 96 [.agg v.cs, .int .i64 j] (.agg [.int .i64 1, .int .i64 x]) := by
  obtain ⟨hj, hx'⟩ := get_of hx
  refine pcall_cx noTab_ok mixed (fun _ => none) Try.func96 rfl Try.ntmps96 Try.results96 (by simp) (by kernel_rfl) ?_
  repeat' first
    | (with_reducible refine gw_bool (fun _ => ?_) (fun _ => ?_))
    | (with_reducible refine condw_bool (fun _ => ?_) (fun _ => ?_))
    | simp [*, Vu.cs, i1]
def clF (p : Pos) (b k : Int) : Option Bool := if 0 ≤ b ∧ 0 ≤ k then (match p.lk[b.toNat]? with
  | some l => (match l[k.toNat]? with
    | some x => some (ieq x 1)
    | none => none)
  | none => none) else none
def Tclo : List V → Option V
  | [.agg c, .int .i64 b, .int .i64 k] => (match unVu c with
    | some v => (match clF v.p b k with
      | some x => some (.bool x)
      | none => none)
    | none => none)
  | _ => none
theorem Tclo_at {v : Vu} {b k : Int} {x : Bool} (h : clF v.p b k = some x) : Tclo [.agg [.str v.s.nm, .list 1 (v.s.bs.map s1), .list 5 (v.s.ls.map Ln.cs), .list 6 (v.s.ss.map Sr.cs), .list 12 (v.s.qs.map By.cs), .list 1 (v.p.cl.map b1), .list 1 (v.p.lk.map r1), .list 1 (v.g.map i1)], .int .i64 b, .int .i64 k] = some (.bool x) := by
  have := unVu_cs v
  unfold Vu.cs at this
  simp [Tclo, this, h]
theorem clo_tab : ∀ vs v, Tclo vs = some v → PCall Try.prog 86 vs v := by
  intro vs v h; unfold Tclo at h; split at h
  · split at h
    · rename_i hv
      split at h
      · rename_i hc
        cases h
        unfold clF at hc
        split at hc
        · rename_i b k w x hbk
          split at hc
          · rename_i l hl
            split at hc
            · rename_i y hy
              cases hc
              rw [unVu_inv _ _ hv]
              obtain ⟨i, rfl⟩ := Int.eq_ofNat_of_zero_le hbk.1
              obtain ⟨j, rfl⟩ := Int.eq_ofNat_of_zero_le hbk.2
              exact closed_ok _ i j l y (by simpa using hl) (by simpa using hy)
            · cases hc
          · cases hc
        · cases hc
      · cases h
    · cases h
  · cases h
def gAt (g : List Int) (b : Int) : Option Int := if 0 ≤ b then g[b.toNat]? else none
def Tgrp : List V → Option V
  | [.agg c, .int .i64 b] => (match unVu c with
    | some v => (match gAt v.g b with
      | some x => some (.agg [.int .i64 1, .int .i64 x])
      | none => none)
    | none => none)
  | _ => none
theorem Tgrp_at {v : Vu} {b : Int} {x : Int} (h : gAt v.g b = some x) : Tgrp [.agg [.str v.s.nm, .list 1 (v.s.bs.map s1), .list 5 (v.s.ls.map Ln.cs), .list 6 (v.s.ss.map Sr.cs), .list 12 (v.s.qs.map By.cs), .list 1 (v.p.cl.map b1), .list 1 (v.p.lk.map r1), .list 1 (v.g.map i1)], .int .i64 b] = some (.agg [.int .i64 1, .int .i64 x]) := by
  have := unVu_cs v
  unfold Vu.cs at this
  simp [Tgrp, this, h]
theorem grp_tab : ∀ vs v, Tgrp vs = some v → PCall Try.prog 96 vs v := by
  intro vs v h; unfold Tgrp at h; split at h
  · split at h
    · rename_i hv
      split at h
      · rename_i hc
        cases h
        unfold gAt at hc
        split at hc
        · rename_i hb
          rw [unVu_inv _ _ hv]
          obtain ⟨i, rfl⟩ := Int.eq_ofNat_of_zero_le hb
          exact group_ok _ i _ (by simpa using hc)
        · cases hc
      · cases h
    · cases h
  · cases h
def D3 : Tab := add 86 Tclo (add 96 Tgrp (D2))
theorem D3_at (f : FuncId) (vs : List V) : D3.at' f vs = if f = 86 then Tclo vs else if f = 96 then Tgrp vs else D2.at' f vs := rfl
theorem D3_fr (f : FuncId) : D3.fr f = if f = 86 then false else if f = 96 then false else D2.fr f := rfl
theorem D3_gb (f : FuncId) : D3.gb f = D2.gb f := rfl
theorem D3_gv (f : FuncId) (vs : List V) : D3.gv f vs = D2.gv f vs := rfl
attribute [simp] D3_at D3_fr D3_gb D3_gv Tclo Tgrp
theorem D3_ok : TabOK Try.prog D3 := by
  refine add_ok (add_ok (D2_ok) (by kernel_rfl) ?_) (by kernel_rfl) ?_
  · exact grp_tab
  · exact clo_tab
attribute [-simp] Tclo Tgrp
attribute [simp] Tclo_at Tgrp_at
/-! ### which views are well made -/
def wfR (n : Nat) (b : By) (l : List Int) : Bool := decide (l.length = b.lks.length) && (b.lks.all (fun k => decide (0 ≤ k.bus ∧ k.bus < n)) && (!ieq b.kind 3 || decide (2 ≤ b.lks.length)))
def wfG (s : Stn) (p : Pos) (n : Nat) : Bool := decide (s.qs.length ≤ 1000) && (decide (p.lk.length = s.qs.length) && (s.qs.zip p.lk).all (fun x => wfR n x.1 x.2 && decide (x.1.lks.length ≤ 1000)))
theorem wf_at {s : Stn} {p : Pos} {n i : Nat} {b : By} (h : wfG s p n = true) (hb : s.qs[i]? = some b) : ∃ l, p.lk[i]? = some l ∧ l.length = b.lks.length ∧ (∀ k ∈ b.lks, 0 ≤ k.bus ∧ k.bus < n) ∧ (ieq b.kind 3 = true → 2 ≤ b.lks.length) ∧ b.lks.length ≤ 1000 := by
  simp only [wfG, Bool.and_eq_true, decide_eq_true_eq] at h
  obtain ⟨h0, h1, h2⟩ := h
  obtain ⟨hi, _⟩ := get_of hb
  obtain ⟨l, hl, _⟩ := at_ex (l := p.lk) (i := i) (by omega)
  have hz : (s.qs.zip p.lk)[i]? = some (b, l) := by simp [List.getElem?_zip_eq_some, hb, hl]
  have := List.all_eq_true.1 h2 _ (List.mem_of_getElem? hz)
  simp only [wfR, Bool.and_eq_true, decide_eq_true_eq, List.all_eq_true, Bool.or_eq_true, Bool.not_eq_true'] at this
  obtain ⟨⟨h3, h4, h5⟩, h6⟩ := this
  refine ⟨l, hl, h3, h4, fun hk => ?_, h6⟩
  rcases h5 with h5 | h5
  · rw [hk] at h5; cases h5
  · exact h5
theorem gAt_ex {g : List Int} {b : Int} (h : 0 ≤ b ∧ b < g.length) : ∃ x, gAt g b = some x := by
  obtain ⟨x, hx, _⟩ := at_ex (l := g) (i := b.toNat) (by omega)
  exact ⟨x, by simp [gAt, h.1, hx]⟩
/-! ### sides -/
def g0 (g : List Int) (b : Int) : Int := (gAt g b).getD 0
def hit (x : Lk × Int) : Bool := ieq x.2 1
def fstN (g : List Int) : Option (Lk × Int) → Int × Int
  | some x => (1, g0 g x.1.bus)
  | none => (0, 0)
/-- The two nodes of a bay: their kinds and numbers. -/
def sid (g : List Int) (b : By) (l : List Int) : List Int :=
  if ieq b.kind 3 = true then (match b.lks with
    | a :: c :: _ => [1, g0 g a.bus, 1, g0 g c.bus]
    | _ => [0, 0, 0, 0])
  else [(fstN g ((b.lks.zip l).find? hit)).1, (fstN g ((b.lks.zip l).find? hit)).2, if ieq b.kind 1 = true then 2 else 3, b.ob]
theorem sides_in (v : Vu) (i : Nat) (b : By) (l : List Int) (hw : wfG v.s v.p v.g.length = true) (hb : v.s.qs[i]? = some b) (hl : v.p.lk[i]? = some l) : PCall Try.prog 89 [.agg v.cs, .int .i64 i] (.agg ((sid v.g b l).map (V.int .i64))) := by
  obtain ⟨l', hl2, hll, hbus, hk2, hlen⟩ := wf_at hw hb
  rw [hl] at hl2
  cases hl2
  obtain ⟨hi, hb'⟩ := get_of hb
  obtain ⟨hi2, hl'⟩ := get_of hl
  have hn : v.s.qs.length ≤ 1000 := by simp only [wfG, Bool.and_eq_true, decide_eq_true_eq] at hw; exact hw.1
  obtain ⟨n, hnn⟩ : ∃ n, v.s.qs.length = n := ⟨_, rfl⟩
  rw [hnn] at hi hn
  have f0 : ilt (i : Int) 0 = false := ilt_f (by omega)
  have f1 : ilt (i : Int) (n : Int) = true := ilt_t (by omega)
  cases h3 : ieq b.kind 3
  · have hs : sid v.g b l = [(fstN v.g ((b.lks.zip l).find? hit)).1, (fstN v.g ((b.lks.zip l).find? hit)).2, if ieq b.kind 1 = true then 2 else 3, b.ob] := by simp [sid, h3]
    obtain ⟨F, hF⟩ : ∃ F, (b.lks.zip l).find? hit = F := ⟨_, rfl⟩
    rw [hs, hF]
    clear hs
    replace hF : Hid ((b.lks.zip l).find? hit = F) := hF
    obtain ⟨m, hm⟩ : ∃ m, b.lks.length = m := ⟨_, rfl⟩
    rw [hm] at hll hlen
    cases h1 : ieq b.kind 1
    all_goals
      refine pcall_cx D3_ok mixed (fun _ => none) Try.func89 rfl Try.ntmps89 Try.results89 (by simp) (by kernel_rfl) ?_
    all_goals
      repeat' first
        | (with_reducible refine gw_bool (fun _ => ?_) (fun _ => ?_))
        | (with_reducible refine condw_bool (fun _ => ?_) (fun _ => ?_))
        | simp [*, Vu.cs, By.cs]
    all_goals refine lp_go (D := (fun _ => none)) D3_ok mixed (by kernel_rfl) [1, 2, 4, 6, 56, 57] [2, 4, 5, 6, 8] (α := Nat) (fun j e h => j ≤ m ∧ e 58 = .int .i64 j ∧ Hid (((b.lks.zip l).drop j).find? hit = F)) (fun j => m - j) 0 ?_ ?_
    all_goals first
      | exact ⟨by omega, by simp, by simpa using hF⟩
      | skip
    all_goals
      rintro j e h hk hkh ⟨hj, g7, hinv⟩
      simp [Keep] at hk
      simp [KeepH] at hkh
      clear hF
      by_cases hlt : j < m
      · obtain ⟨a, ha, ha'⟩ := at_ex (l := b.lks) (i := j) (by omega)
        obtain ⟨x, hx, hx'⟩ := at_ex (l := l) (i := j) (by omega)
        have f2 : ilt (j : Int) (m : Int) = true := ilt_t (by omega)
        have w2 : IntKind.i64.wrap ((j : Int) + 1) = ((j + 1 : Nat) : Int) := wrap_succ (by omega)
        have hz : (b.lks.zip l)[j]? = some (a, x) := by simp [List.getElem?_zip_eq_some, ha, hx]
        have hd : (b.lks.zip l).drop j = (a, x) :: (b.lks.zip l).drop (j + 1) := by
          obtain ⟨hh, he⟩ := get_of hz
          rw [List.drop_eq_getElem_cons hh, he]
        have hcl : clF v.p i j = some (ieq x 1) := by simp [clF, hl, hx]
        obtain ⟨gx, hgx⟩ := gAt_ex (hbus a (List.mem_of_getElem? ha))
        have hin := hinv.out
        rw [hd] at hin
        clear hinv hd hz
        cases hq : ieq x 1
        · have hnx : Hid (((b.lks.zip l).drop (j + 1)).find? hit = F) := by
            rw [List.find?_cons] at hin
            simp only [hit, hq] at hin
            exact hin
          rw [hq] at hcl
          clear hin
          repeat' first
            | (with_reducible refine gw_bool (fun _ => ?_) (fun _ => ?_))
            | (with_reducible refine condw_bool (fun _ => ?_) (fun _ => ?_))
            | simp [*, By.cs, Lk.cs]
          refine nxt_go (j + 1) ((View.forget _ _ 8)) (by omega) (by simp [*, Keep, St.forget, scr, scrC]) (by simp [*, KeepH, St.forget, scr, scrC]) ?_
          refine ⟨by omega, ?_, hnx⟩; simp [*, St.forget, scr, scrC]
        · have hFx : F = some (a, x) := by
            rw [List.find?_cons] at hin
            simp only [hit, hq] at hin
            exact hin.symm
          rw [hq] at hcl
          clear hin
          repeat' first
            | (with_reducible refine gw_bool (fun _ => ?_) (fun _ => ?_))
            | (with_reducible refine condw_bool (fun _ => ?_) (fun _ => ?_))
            | simp [*, By.cs, Lk.cs, fstN, g0]
      · have f2 : ilt (j : Int) (m : Int) = false := ilt_f (by omega)
        have hFn : F = none := by
          have := hinv.out
          rw [List.drop_eq_nil_of_le (by simp; omega)] at this
          exact this.symm
        clear hinv
        repeat' first
          | (with_reducible refine gw_bool (fun _ => ?_) (fun _ => ?_))
          | (with_reducible refine condw_bool (fun _ => ?_) (fun _ => ?_))
          | simp [*, fstN]
  · have h2 := hk2 h3
    obtain ⟨lks, hlk⟩ : ∃ lks, b.lks = lks := ⟨_, rfl⟩
    rw [hlk] at h2 hbus
    match lks, h2 with
    | a :: c :: t, _ =>
      obtain ⟨ga, hga⟩ := gAt_ex (hbus a (by simp))
      obtain ⟨gc, hgc⟩ := gAt_ex (hbus c (by simp))
      have hs : sid v.g b l = [1, ga, 1, gc] := by simp [sid, h3, hlk, g0, hga, hgc]
      rw [hs]
      clear hs hbus
      refine pcall_cx D3_ok mixed (fun _ => none) Try.func89 rfl Try.ntmps89 Try.results89 (by simp) (by kernel_rfl) ?_
      repeat' first
        | (with_reducible refine gw_bool (fun _ => ?_) (fun _ => ?_))
        | (with_reducible refine condw_bool (fun _ => ?_) (fun _ => ?_))
        | simp [*, Vu.cs, By.cs, Lk.cs]
theorem sides_out (v : Vu) (i : Int) (hn : v.s.qs.length ≤ 1000) (hi : ¬ (0 ≤ i ∧ i < v.s.qs.length)) : PCall Try.prog 89 [.agg v.cs, .int .i64 i] (.agg [.int .i64 0, .int .i64 0, .int .i64 0, .int .i64 0]) := by
  obtain ⟨n, hnn⟩ : ∃ n, v.s.qs.length = n := ⟨_, rfl⟩
  rw [hnn] at hi hn
  cases f0 : ilt i 0
  · have f1 : ilt i (n : Int) = false := ilt_f (by have := ilt_iff'.1 f0; omega)
    refine pcall_cx D3_ok mixed (fun _ => none) Try.func89 rfl Try.ntmps89 Try.results89 (by simp) (by kernel_rfl) ?_
    repeat' first
      | (with_reducible refine gw_bool (fun _ => ?_) (fun _ => ?_))
      | (with_reducible refine condw_bool (fun _ => ?_) (fun _ => ?_))
      | simp [*, Vu.cs]
  · skip
    refine pcall_cx D3_ok mixed (fun _ => none) Try.func89 rfl Try.ntmps89 Try.results89 (by simp) (by kernel_rfl) ?_
    repeat' first
      | (with_reducible refine gw_bool (fun _ => ?_) (fun _ => ?_))
      | (with_reducible refine condw_bool (fun _ => ?_) (fun _ => ?_))
      | simp [*, Vu.cs]
end Go.Proofs.Ytjhmphkdkclbjaa
end
section
namespace Go.Proofs.Ytjhmphkdkclbjaa
open Go.Pv Go.RowKit
set_option linter.unusedSimpArgs false
set_option linter.unusedVariables false
set_option maxRecDepth 100000
set_option maxHeartbeats 2000000

theorem Tclo_at2 {s : Stn} {p : Pos} {g : List Int} {b k : Int} {x : Bool} (h : clF p b k = some x) : Tclo [.agg [.str s.nm, .list 1 (s.bs.map s1), .list 5 (s.ls.map Ln.cs), .list 6 (s.ss.map Sr.cs), .list 12 (s.qs.map By.cs), .list 1 (p.cl.map b1), .list 1 (p.lk.map r1), .list 1 (g.map i1)], .int .i64 b, .int .i64 k] = some (.bool x) := Tclo_at (v := ⟨s, p, g⟩) h
theorem Tgrp_at2 {s : Stn} {p : Pos} {g : List Int} {b : Int} {x : Int} (h : gAt g b = some x) : Tgrp [.agg [.str s.nm, .list 1 (s.bs.map s1), .list 5 (s.ls.map Ln.cs), .list 6 (s.ss.map Sr.cs), .list 12 (s.qs.map By.cs), .list 1 (p.cl.map b1), .list 1 (p.lk.map r1), .list 1 (g.map i1)], .int .i64 b] = some (.agg [.int .i64 1, .int .i64 x]) := Tgrp_at (v := ⟨s, p, g⟩) h
attribute [-simp] Tclo_at Tgrp_at Tchk Tpchk TcI TcB Tclo Tgrp
attribute [simp] Tclo_at2 Tgrp_at2
def sidF (s : Stn) (p : Pos) (g : List Int) (i : Int) : Option (List Int) := if wfG s p g.length = true then (if 0 ≤ i ∧ i < s.qs.length then (match s.qs[i.toNat]?, p.lk[i.toNat]? with
  | some b, some l => some (sid g b l)
  | _, _ => none) else some [0, 0, 0, 0]) else none
def Tsid : List V → Option V
  | [.agg c, .int .i64 i] => (match unVu c with
    | some v => (match sidF v.s v.p v.g i with
      | some S => some (.agg (S.map (V.int .i64)))
      | none => none)
    | none => none)
  | _ => none
theorem Tsid_at {s : Stn} {p : Pos} {g : List Int} {i : Int} {S : List Int} (h : sidF s p g i = some S) : Tsid [.agg [.str s.nm, .list 1 (s.bs.map s1), .list 5 (s.ls.map Ln.cs), .list 6 (s.ss.map Sr.cs), .list 12 (s.qs.map By.cs), .list 1 (p.cl.map b1), .list 1 (p.lk.map r1), .list 1 (g.map i1)], .int .i64 i] = some (.agg (S.map (V.int .i64))) := by
  have := unVu_cs ⟨s, p, g⟩
  unfold Vu.cs at this
  simp [Tsid, this, h]
theorem sid_tab : ∀ vs v, Tsid vs = some v → PCall Try.prog 89 vs v := by
  intro vs v h; unfold Tsid at h; split at h
  · split at h
    · rename_i c i w hv
      split at h
      · rename_i S hS
        cases h
        rw [unVu_inv _ _ hv]
        unfold sidF at hS
        split at hS
        · rename_i hw
          split at hS
          · rename_i hi
            split at hS
            · rename_i b l hb hl
              cases hS
              obtain ⟨k, rfl⟩ := Int.eq_ofNat_of_zero_le hi.1
              exact sides_in _ k b l hw (by simpa using hb) (by simpa using hl)
            · cases hS
          · rename_i hi
            cases hS
            refine sides_out _ _ ?_ hi
            simp only [wfG, Bool.and_eq_true, decide_eq_true_eq] at hw; exact hw.1
        · cases hS
      · cases h
    · cases h
  · cases h
/-! ### node -/
def nodF (s : Stn) (g : List Int) (k o : Int) : Option (Int × Int) :=
  if (ieq k 1 && (!ilt o 0 && ilt o s.bs.length)) = true then some (1, g0 g o)
  else if (ieq k 2 && (!ilt o 0 && ilt o s.ls.length)) = true then some (2, o) else none
def nodV : Option (Int × Int) → V
  | some x => .tup [.agg [.int .i64 x.1, .int .i64 x.2], .bool true]
  | none => .tup [.agg [.int .i64 0, .int .i64 0], .bool false]
theorem node_ok (v : Vu) (k o : Int) (hg : v.g.length = v.s.bs.length) : PCall Try.prog 90 [.agg v.cs, .agg [.int .i64 k, .int .i64 o]] (nodV (nodF v.s v.g k o)) := by
  obtain ⟨nb, hnb⟩ : ∃ n, v.s.bs.length = n := ⟨_, rfl⟩
  obtain ⟨nl, hnl⟩ : ∃ n, v.s.ls.length = n := ⟨_, rfl⟩
  obtain ⟨N, hN⟩ : ∃ N, nodF v.s v.g k o = N := ⟨_, rfl⟩
  rw [hN]
  unfold nodF at hN
  rw [hnb, hnl] at hN
  cases k1 : ieq k 1
  · rw [k1] at hN
    cases k2 : ieq k 2
    · have hN' : N = none := by rw [← hN]; simp [k2]
      clear hN
      refine pcall_cx D3_ok mixed (fun _ => none) Try.func90 rfl Try.ntmps90 Try.results90 (by simp) (by kernel_rfl) ?_
      repeat' first
        | (with_reducible refine gw_bool (fun _ => ?_) (fun _ => ?_))
        | (with_reducible refine condw_bool (fun _ => ?_) (fun _ => ?_))
        | simp [*, Vu.cs, nodV]
    · cases o0 : ilt o 0
      · cases o1 : ilt o nl
        · have hN' : N = none := by rw [← hN]; simp [k2, o0, o1]
          clear hN
          refine pcall_cx D3_ok mixed (fun _ => none) Try.func90 rfl Try.ntmps90 Try.results90 (by simp) (by kernel_rfl) ?_
          repeat' first
            | (with_reducible refine gw_bool (fun _ => ?_) (fun _ => ?_))
            | (with_reducible refine condw_bool (fun _ => ?_) (fun _ => ?_))
            | simp [*, Vu.cs, nodV]
        · have hN' : N = some (2, o) := by rw [← hN]; simp [k2, o0, o1]
          clear hN
          refine pcall_cx D3_ok mixed (fun _ => none) Try.func90 rfl Try.ntmps90 Try.results90 (by simp) (by kernel_rfl) ?_
          repeat' first
            | (with_reducible refine gw_bool (fun _ => ?_) (fun _ => ?_))
            | (with_reducible refine condw_bool (fun _ => ?_) (fun _ => ?_))
            | simp [*, Vu.cs, nodV]
      · have hN' : N = none := by rw [← hN]; simp [k2, o0]
        clear hN
        refine pcall_cx D3_ok mixed (fun _ => none) Try.func90 rfl Try.ntmps90 Try.results90 (by simp) (by kernel_rfl) ?_
        repeat' first
          | (with_reducible refine gw_bool (fun _ => ?_) (fun _ => ?_))
          | (with_reducible refine condw_bool (fun _ => ?_) (fun _ => ?_))
          | simp [*, Vu.cs, nodV]
  · have k2 : ieq k 2 = false := by
      have : k = 1 := by simpa [ieq] using k1
      subst this; decide
    cases o0 : ilt o 0
    · cases o1 : ilt o nb
      · have hN' : N = none := by rw [← hN]; simp [k1, k2, o0, o1]
        clear hN
        refine pcall_cx D3_ok mixed (fun _ => none) Try.func90 rfl Try.ntmps90 Try.results90 (by simp) (by kernel_rfl) ?_
        repeat' first
          | (with_reducible refine gw_bool (fun _ => ?_) (fun _ => ?_))
          | (with_reducible refine condw_bool (fun _ => ?_) (fun _ => ?_))
          | simp [*, Vu.cs, nodV]
      · obtain ⟨gx, hgx⟩ := gAt_ex (g := v.g) (b := o) (by have h1 := ilt_iff'.1 o0; have h2 := ilt_iff.1 o1; omega)
        have hN' : N = some (1, gx) := by rw [← hN]; simp [k1, o0, o1, g0, hgx]
        clear hN
        refine pcall_cx D3_ok mixed (fun _ => none) Try.func90 rfl Try.ntmps90 Try.results90 (by simp) (by kernel_rfl) ?_
        repeat' first
          | (with_reducible refine gw_bool (fun _ => ?_) (fun _ => ?_))
          | (with_reducible refine condw_bool (fun _ => ?_) (fun _ => ?_))
          | simp [*, Vu.cs, nodV]
    · have hN' : N = none := by rw [← hN]; simp [k1, k2, o0]
      clear hN
      refine pcall_cx D3_ok mixed (fun _ => none) Try.func90 rfl Try.ntmps90 Try.results90 (by simp) (by kernel_rfl) ?_
      repeat' first
        | (with_reducible refine gw_bool (fun _ => ?_) (fun _ => ?_))
        | (with_reducible refine condw_bool (fun _ => ?_) (fun _ => ?_))
        | simp [*, Vu.cs, nodV]
def Tnod : List V → Option V
  | [.agg c, .agg [.int .i64 k, .int .i64 o]] => (match unVu c with
    | some v => if v.g.length = v.s.bs.length then some (nodV (nodF v.s v.g k o)) else none
    | none => none)
  | _ => none
theorem Tnod_at {s : Stn} {p : Pos} {g : List Int} {k o : Int} (h : g.length = s.bs.length) : Tnod [.agg [.str s.nm, .list 1 (s.bs.map s1), .list 5 (s.ls.map Ln.cs), .list 6 (s.ss.map Sr.cs), .list 12 (s.qs.map By.cs), .list 1 (p.cl.map b1), .list 1 (p.lk.map r1), .list 1 (g.map i1)], .agg [.int .i64 k, .int .i64 o]] = some (nodV (nodF s g k o)) := by
  have := unVu_cs ⟨s, p, g⟩
  unfold Vu.cs at this
  simp [Tnod, this, h]
theorem nod_tab : ∀ vs v, Tnod vs = some v → PCall Try.prog 90 vs v := by
  intro vs v h; unfold Tnod at h; split at h
  · split at h
    · rename_i hv
      split at h
      · rename_i hg
        cases h
        rw [unVu_inv _ _ hv]
        exact node_ok _ _ _ hg
      · cases h
    · cases h
  · cases h
def D4 : Tab := add 89 Tsid (add 90 Tnod (D3))
theorem D4_at (f : FuncId) (vs : List V) : D4.at' f vs = if f = 89 then Tsid vs else if f = 90 then Tnod vs else D3.at' f vs := rfl
theorem D4_fr (f : FuncId) : D4.fr f = if f = 89 then false else if f = 90 then false else D3.fr f := rfl
theorem D4_gb (f : FuncId) : D4.gb f = D3.gb f := rfl
theorem D4_gv (f : FuncId) (vs : List V) : D4.gv f vs = D3.gv f vs := rfl
attribute [simp] D4_at D4_fr D4_gb D4_gv Tnod Tsid
theorem D4_ok : TabOK Try.prog D4 := by
  refine add_ok (add_ok (D3_ok) (by kernel_rfl) ?_) (by kernel_rfl) ?_
  · exact nod_tab
  · exact sid_tab
attribute [-simp] Tsid Tnod
attribute [simp] Tsid_at Tnod_at
/-! ### boundary -/
theorem pcall_nil {P : Program} {f : FuncId} {vs : List V} {sz : Nat} (h : PCall P f vs .nils) : PCall P f vs (.list sz []) := by
  intro w ro args hro hsz hr
  refine (h w ro args hro hsz hr).mono ?_
  rintro e w' ⟨rv, ro', rfl, h1, h2, h3, h4, h5⟩
  cases h5
  exact ⟨_, ro', rfl, h1, h2, h3, h4, .list0 _ _ _⟩
def inB (n : Int × Int) : List Int → Bool
  | [a0, a1, c0, c1] => ieq a0 1 && ((ieq a0 n.1 && ieq a1 n.2) != (ieq c0 n.1 && ieq c1 n.2))
  | _ => false
def inBat (s : Stn) (p : Pos) (g : List Int) (n : Int × Int) (i : Nat) : Bool := match sidF s p g i with
  | some S => inB n S
  | none => false
def bndN (s : Stn) (p : Pos) (g : List Int) (n : Int × Int) (m : Nat) : List Int := ((List.range m).filter (inBat s p g n)).map (fun i : Nat => (i : Int))
def bndF (s : Stn) (p : Pos) (g : List Int) : Option (Int × Int) → List Int
  | some n => bndN s p g n s.qs.length
  | none => []
theorem bndN_step {s : Stn} {p : Pos} {g : List Int} {n : Int × Int} {m : Nat} : bndN s p g n (m + 1) = bndN s p g n m ++ (if inBat s p g n m = true then [(m : Int)] else []) := by
  unfold bndN
  rw [List.range_succ, List.filter_append, List.map_append]
  by_cases h : inBat s p g n m = true <;> simp [h]
theorem bndN_len (s : Stn) (p : Pos) (g : List Int) (n : Int × Int) (m : Nat) : (bndN s p g n m).length ≤ m := by
  unfold bndN
  rw [List.length_map]
  exact Nat.le_trans (List.length_filter_le _ _) (by simp)
theorem sid4 (g : List Int) (b : By) (l : List Int) : ∃ a0 a1 c0 c1, sid g b l = [a0, a1, c0, c1] := by
  unfold sid
  split
  · split <;> exact ⟨_, _, _, _, rfl⟩
  · exact ⟨_, _, _, _, rfl⟩
theorem bnd_ok (v : Vu) (k o : Int) (hg : v.g.length = v.s.bs.length) (hw : wfG v.s v.p v.g.length = true) : PCall Try.prog 72 [.agg v.cs, .agg [.int .i64 k, .int .i64 o]] (.list 1 ((bndF v.s v.p v.g (nodF v.s v.g k o)).map i1)) := by
  obtain ⟨N, hN⟩ : ∃ N, nodF v.s v.g k o = N := ⟨_, rfl⟩
  rw [hN]
  have hn : v.s.qs.length ≤ 1000 := by simp only [wfG, Bool.and_eq_true, decide_eq_true_eq] at hw; exact hw.1
  obtain ⟨n, hnn⟩ : ∃ n, v.s.qs.length = n := ⟨_, rfl⟩
  rw [hnn] at hn
  cases N with
  | none =>
    refine pcall_nil ?_
    refine pcall_cx D4_ok mixed (fun _ => none) Try.func72 rfl Try.ntmps72 Try.results72 (by simp) (by kernel_rfl) ?_
    repeat' first
      | (with_reducible refine gw_bool (fun _ => ?_) (fun _ => ?_))
      | (with_reducible refine condw_bool (fun _ => ?_) (fun _ => ?_))
      | simp [*, Vu.cs, nodV]
  | some nd =>
    obtain ⟨n0, n1⟩ := nd
    have hres : bndF v.s v.p v.g (some (n0, n1)) = bndN v.s v.p v.g (n0, n1) n := by simp [bndF, hnn]
    have hch := chunks_i1 (bndN v.s v.p v.g (n0, n1) n)
    have hpu := pure_i1 (bndN v.s v.p v.g (n0, n1) n)
    rw [hres]
    clear hres
    obtain ⟨R, hR⟩ : ∃ R, bndN v.s v.p v.g (n0, n1) n = R := ⟨_, rfl⟩
    rw [hR] at hch hpu
    rw [hR]
    replace hR : Hid (bndN v.s v.p v.g (n0, n1) n = R) := hR
    refine pcall_cx D4_ok mixed (fun _ => none) Try.func72 rfl Try.ntmps72 Try.results72 (by simp) (by kernel_rfl) ?_
    repeat' first
      | (with_reducible refine gw_bool (fun _ => ?_) (fun _ => ?_))
      | (with_reducible refine condw_bool (fun _ => ?_) (fun _ => ?_))
      | simp [*, Vu.cs, nodV]
    refine lp_view (View.nilOwn _ (t := 7) (key := 46) 1 3 (by simp) (by simp)) ?_
    refine lp_go (D := (fun _ => none)) D4_ok mixed (by kernel_rfl) [2, 5, 21] [2, 3, 5, 9, 45] (α := Nat) (fun i e h => i ≤ n ∧ e 22 = .int .i64 i ∧ e 7 = .sl 46 0 (bndN v.s v.p v.g (n0, n1) i).length 1 ∧ h 46 = some ⟨3, (bndN v.s v.p v.g (n0, n1) i).map (V.int .i64)⟩) (fun i => n - i) 0 ?_ ?_
    · refine ⟨by omega, by simp, by simp [bndN], by simp [bndN]⟩
    · rintro i e h hk hkh ⟨hi, g7, gs, gh⟩
      simp [Keep] at hk
      simp [KeepH] at hkh
      have hbl := bndN_len v.s v.p v.g (n0, n1) i
      by_cases hlt : i < n
      · obtain ⟨b, hb, -⟩ := at_ex (l := v.s.qs) (i := i) (by omega)
        obtain ⟨l, hl, -⟩ := wf_at hw hb
        obtain ⟨a0, a1, c0, c1, hsd⟩ := sid4 v.g b l
        have hS : sidF v.s v.p v.g i = some [a0, a1, c0, c1] := by
          rw [← hsd]
          have : (i : Int) < v.s.qs.length := by omega
          simp [sidF, hw, hb, hl, this]
        have hst : bndN v.s v.p v.g (n0, n1) (i + 1) = bndN v.s v.p v.g (n0, n1) i ++ (if inB (n0, n1) [a0, a1, c0, c1] = true then [(i : Int)] else []) := by rw [bndN_step]; simp [inBat, hS]
        replace hst : Hid (bndN v.s v.p v.g (n0, n1) (i + 1) = bndN v.s v.p v.g (n0, n1) i ++ (if inB (n0, n1) [a0, a1, c0, c1] = true then [(i : Int)] else [])) := hst
        have f1 : ilt (i : Int) (n : Int) = true := ilt_t (by omega)
        have w1 : IntKind.i64.wrap ((i : Int) + 1) = ((i + 1 : Nat) : Int) := wrap_succ (by omega)
        generalize hCC : bndN v.s v.p v.g (n0, n1) i = C at gs gh hbl hst
        clear hR hch hpu hb hl hsd hCC
        have hsC := scr_i1 C
        have f5 : (C.length + 1) * 8 ≤ 140737488355328 := by omega
        have f6 : C.length + 1 ≤ 9223372036854775807 := by omega
        have f7 : C.length ≤ 9223372036854775806 := by omega
        cases q1 : ieq a0 1 <;> cases q2 : ieq a0 n0 <;> cases q3 : ieq a1 n1 <;> cases q4 : ieq c0 n0 <;> cases q5 : ieq c1 n1
        all_goals
          repeat' first
            | (with_reducible refine gw_bool (fun _ => ?_) (fun _ => ?_))
            | (with_reducible refine condw_bool (fun _ => ?_) (fun _ => ?_))
            | simp [*, appendV, srcCells, St.forget, scr, scrC, scrI_comp]
        all_goals first
          | (refine nxt_go (i + 1) ((View.forget _ _ 45).trans (View.forget _ _ 9)) (by omega) (by simp [*, Keep, St.forget, scr, scrC]) (by simp [*, KeepH, St.forget, scr, scrC]) ?_
             refine ⟨by omega, by simp [*, St.forget, scr, scrC], ?_, ?_⟩
             · rw [hst.out]; simp [*, inB, St.forget, scr, scrC, scrI_comp]; done
             · rw [hst.out]; simp [*, inB, St.forget, scr, scrC, scrI_comp]; done)
          | skip
      · have f1 : ilt (i : Int) (n : Int) = false := ilt_f (by omega)
        have e1 : i = n := by omega
        rw [e1, hR.out] at gs gh
        clear hR
        repeat' first
          | (with_reducible refine gw_bool (fun _ => ?_) (fun _ => ?_))
          | (with_reducible refine condw_bool (fun _ => ?_) (fun _ => ?_))
          | simp [*]
end Go.Proofs.Ytjhmphkdkclbjaa
end
section
namespace Go.Proofs.Ytjhmphkdkclbjaa
open Go.Pv Go.RowKit
set_option linter.unusedSimpArgs false
set_option linter.unusedVariables false
set_option maxRecDepth 100000
set_option maxHeartbeats 2000000
attribute [-simp] Tclo_at Tgrp_at Tchk Tpchk TcI TcB Tclo Tgrp Tsid Tnod

theorem Tchk_at2 (s : Stn) : Tchk [.agg [.str s.nm, .list 1 (s.bs.map s1), .list 5 (s.ls.map Ln.cs), .list 6 (s.ss.map Sr.cs), .list 12 (s.qs.map By.cs)]] = some (.int .i64 (chkF s)) := Tchk_at s
theorem Tpchk_at2 {s : Stn} {p : Pos} (h : lenB s p = true) : Tpchk [.agg [.str s.nm, .list 1 (s.bs.map s1), .list 5 (s.ls.map Ln.cs), .list 6 (s.ss.map Sr.cs), .list 12 (s.qs.map By.cs)], .agg [.list 1 (p.cl.map b1), .list 1 (p.lk.map r1)]] = some (.int .i64 (posE s p)) := Tpchk_at h
attribute [simp] Tchk_at2 Tpchk_at2
/-! ### what a valid diagram has -/
theorem firstN_zero {f : Nat → Int} : ∀ {n : Nat}, firstN f n = 0 → ∀ k, k < n → f k = 0
  | n + 1, h, k, hk => by
    simp only [firstN] at h
    split at h
    · rename_i h0
      by_cases e : k = n
      · subst e; exact h
      · exact firstN_zero h0 k (by omega)
    · rename_i h0; exact (h0 h).elim
theorem nx_zero {a b : Int} (h : nxE a b = 0) : a = 0 ∧ b = 0 := by
  unfold nxE at h; split at h
  · rename_i e; exact ⟨e, h⟩
  · rename_i e; exact (e h).elim
theorem lkE_zero {nb k : Int} {f : Bool} {pr : Int} {l : Lk} (h : lkE nb k f pr l = 0) : withinF l.bus 0 (IntKind.i64.wrap (nb - 1)) = true := by
  unfold lkE at h; split at h
  · assumption
  · cases h
theorem lksE_zero {nb k : Int} {lks : List Lk} (h : lksE nb k lks = 0) : (∀ l ∈ lks, withinF l.bus 0 (IntKind.i64.wrap (nb - 1)) = true) ∧ (ieq k 3 = true → lks.length = 2) ∧ 1 ≤ lks.length ∧ lks.length ≤ 2 := by
  match lks, h with
  | [], h => simp [lksE] at h
  | [a], h =>
    simp only [lksE] at h
    split at h
    · cases h
    · rename_i hk
      refine ⟨fun l hl => ?_, fun h3 => (hk h3).elim, by simp, by simp⟩
      simp at hl; subst hl; exact lkE_zero h
  | [a, b], h =>
    simp only [lksE] at h
    split at h
    · rename_i hk
      have ha : lkE nb k true 0 a = 0 := by simpa [ieq] using hk
      refine ⟨fun l hl => ?_, fun _ => rfl, by simp, by simp⟩
      simp at hl
      rcases hl with rfl | rfl
      · exact lkE_zero ha
      · exact lkE_zero h
    · rename_i hk; rw [h] at hk; exact (hk rfl).elim
  | _ :: _ :: _ :: _, h => simp [lksE] at h
structure Fine (s : Stn) : Prop where
  nb0 : 1 ≤ s.bs.length
  nb : s.bs.length ≤ 4
  nl : s.ls.length ≤ 6
  ns : s.ss.length ≤ 4
  nq : s.qs.length ≤ 16
  lk : ∀ b ∈ s.qs, (∀ l ∈ b.lks, 0 ≤ l.bus ∧ l.bus < s.bs.length) ∧ (ieq b.kind 3 = true → b.lks.length = 2) ∧ 1 ≤ b.lks.length ∧ b.lks.length ≤ 2
theorem fine_of {s : Stn} (h : chkF s = 0) : Fine s := by
  unfold chkF at h
  split at h
  · split at h
    · cases h
    · rename_i hn hc
      have hb : cntBad s = false := by simpa using hc
      simp only [cntBad, Bool.or_eq_false_iff] at hb
      obtain ⟨c1, c2, c3, c4, c5⟩ := hb
      have z1 : 1 ≤ s.bs.length := by
        have : ¬ ((s.bs.length : Int) = 0) := by simpa only [ieq, beq_eq_false_iff_ne, ne_eq] using c1
        omega
      have z2 : s.bs.length ≤ 4 := by have := ilt_iff'.1 c2; omega
      refine ⟨z1, z2, by have := ilt_iff'.1 c3; omega, by have := ilt_iff'.1 c4; omega, by have := ilt_iff'.1 c5; omega, ?_⟩
      intro b hb
      obtain ⟨k, hk, rfl⟩ := List.mem_iff_getElem.1 hb
      obtain ⟨_, he⟩ := nx_zero h
      have hq := firstN_zero he k hk
      have hx : s.qs[k]? = some s.qs[k] := List.getElem?_eq_getElem hk
      simp only [eQ, hx] at hq
      unfold byE at hq
      split at hq
      · split at hq
        · cases hq
        · unfold byE1 at hq
          split at hq
          · have := lksE_zero hq
            have hw : IntKind.i64.wrap (((SQ s k).bs.length : Int) - 1) = (s.bs.length : Int) - 1 := by
              show IntKind.i64.wrap ((s.bs.length : Int) - 1) = _
              exact wrap_id (by omega) (by omega)
            rw [hw] at this
            refine ⟨fun l hl => ?_, this.2⟩
            have := this.1 l hl
            simp only [withinF, Bool.and_eq_true, Bool.not_eq_true'] at this
            have h1 := ilt_iff'.1 this.1
            have h2 := ilt_iff'.1 this.2
            omega
          · rename_i hz; rw [hq] at hz; exact (hz rfl).elim
      · cases hq
  · cases h
structure PFine (s : Stn) (p : Pos) : Prop where
  nc : p.cl.length = s.qs.length
  nk : p.lk.length = s.qs.length
  row : ∀ (i : Nat) (b : By) (l : List Int), s.qs[i]? = some b → p.lk[i]? = some l → l.length = b.lks.length ∧ ∀ x ∈ l, okL b.kind x = true
theorem pfine_of {s : Stn} {p : Pos} (h : posE s p = 0) : PFine s p := by
  unfold posE at h
  split at h
  · cases h
  · rename_i hc
    split at h
    · cases h
    · rename_i ha
      split at h
      · cases h
      · rename_i hr
        simp only [Bool.or_eq_true, Bool.not_eq_true', not_or, Bool.not_eq_false] at hc
        have e1 : (p.cl.length : Int) = s.qs.length := by simpa only [ieq, beq_iff_eq] using hc.1
        have e2 : (p.lk.length : Int) = s.qs.length := by simpa only [ieq, beq_iff_eq] using hc.2
        refine ⟨by omega, by omega, fun i b l hb hl => ?_⟩
        obtain ⟨hi, _⟩ := get_of hb
        have h1 := List.all_eq_true.1 (Bool.not_eq_false _ ▸ ha) i (by simpa using hi)
        have h2 := List.all_eq_true.1 (Bool.not_eq_false _ ▸ hr) i (by simpa using hi)
        simp only [lenOk, hb, hl] at h1
        simp only [rowOk, hb, hl] at h2
        have e3 : (l.length : Int) = b.lks.length := by simpa only [ieq, beq_iff_eq] using h1
        exact ⟨by omega, fun x hx => List.all_eq_true.1 h2 x hx⟩
theorem wf_of {s : Stn} {p : Pos} (h : Fine s) (k : PFine s p) : wfG s p s.bs.length = true := by
  simp only [wfG, Bool.and_eq_true, decide_eq_true_eq]
  refine ⟨by have := h.nq; omega, k.nk, List.all_eq_true.2 fun x hx => ?_⟩
  obtain ⟨i, hi, rfl⟩ := List.mem_iff_getElem.1 hx
  simp only [List.length_zip] at hi
  rw [List.getElem_zip]
  have hb : s.qs[i]? = some s.qs[i] := List.getElem?_eq_getElem (by omega)
  have hl : p.lk[i]? = some p.lk[i] := List.getElem?_eq_getElem (by omega)
  obtain ⟨r1, r2⟩ := k.row i _ _ hb hl
  obtain ⟨q1, q2, q3, q4⟩ := h.lk _ (List.mem_of_getElem? hb)
  simp only [wfR, Bool.and_eq_true, decide_eq_true_eq, List.all_eq_true, Bool.or_eq_true, Bool.not_eq_true']
  refine ⟨⟨r1, q1, ?_⟩, by omega⟩
  cases hk : ieq s.qs[i].kind 3
  · exact .inl rfl
  · exact .inr (by rw [q2 hk]; exact Nat.le_refl _)
/-! ### groups -/
def hG (f : Int → Int) (l : List Int) (j : Nat) : List Int := (l.take j).map f ++ l.drop j
theorem hG_len (f : Int → Int) (l : List Int) (j : Nat) (h : j ≤ l.length) : (hG f l j).length = l.length := by simp [hG]; omega
theorem hG_at {f : Int → Int} {l : List Int} {j : Nat} {x : Int} (h : l[j]? = some x) : (hG f l j)[j]? = some x := by
  have hj : j < l.length := (List.getElem?_eq_some_iff.1 h).1
  simp [hG, List.getElem?_append, List.length_take, Nat.min_eq_left (Nat.le_of_lt hj), h]
theorem hG_step {f : Int → Int} {l : List Int} {j : Nat} {x : Int} (h : l[j]? = some x) : hG f l (j + 1) = (hG f l j).set j (f x) := by
  have hj : j < l.length := (List.getElem?_eq_some_iff.1 h).1
  have e : l.drop j = x :: l.drop (j + 1) := by
    rw [List.drop_eq_getElem_cons hj]; congr 1
    exact (List.getElem?_eq_some_iff.1 h).2
  simp only [hG, take_snoc h, e]
  rw [List.set_append_right _ _ (by simp [Nat.min_eq_left (Nat.le_of_lt hj)])]
  simp [Nat.min_eq_left (Nat.le_of_lt hj)]
theorem hG_same {f : Int → Int} {l : List Int} {j : Nat} {x : Int} (h : l[j]? = some x) (h2 : f x = x) : hG f l (j + 1) = hG f l j := by
  rw [hG_step h, h2]
  have h3 := hG_at (f := f) h
  apply List.ext_getElem?
  intro i
  rw [List.getElem?_set]
  split
  · rename_i e; subst e; split
    · exact h3.symm
    · rename_i hh; exact (hh (List.getElem?_eq_some_iff.1 h3).1).elim
  · rfl
theorem hG_end (f : Int → Int) (l : List Int) : hG f l l.length = l.map f := by simp [hG]
def mgF (lo hi x : Int) : Int := if ieq x hi = true then lo else x
def merge (g : List Int) (x y : Int) : List Int := g.map (mgF (min x y) (max x y))
def stG (g : List Int) (b : By) (l : List Int) : List Int := if ieq b.kind 3 = true then g else (match b.lks, l with
  | [a, c], [x, y] => if (ieq x 1 && ieq y 1) = true then merge g (g0 g a.bus) (g0 g c.bus) else g
  | _, _ => g)
def ini0 (n : Nat) : List Int := (List.range n).map (fun i : Nat => (i : Int))
def grpN (s : Stn) (p : Pos) (i : Nat) : List Int := ((s.qs.zip p.lk).take i).foldl (fun g x => stG g x.1 x.2) (ini0 s.bs.length)
def grp (s : Stn) (p : Pos) : List Int := grpN s p s.qs.length
theorem stG_len (g : List Int) (b : By) (l : List Int) : (stG g b l).length = g.length := by
  unfold stG
  split
  · rfl
  · split
    · split
      · simp [merge]
      · rfl
    · rfl
theorem fold_len (L : List (By × List Int)) : ∀ g : List Int, (L.foldl (fun g x => stG g x.1 x.2) g).length = g.length := by
  induction L with
  | nil => intro g; rfl
  | cons x L ih => intro g; rw [List.foldl_cons, ih, stG_len]
theorem grpN_len (s : Stn) (p : Pos) (i : Nat) : (grpN s p i).length = s.bs.length := by rw [grpN, fold_len]; simp [ini0]
theorem grpN_step {s : Stn} {p : Pos} {i : Nat} {b : By} {l : List Int} (hb : s.qs[i]? = some b) (hl : p.lk[i]? = some l) : grpN s p (i + 1) = stG (grpN s p i) b l := by
  have hz : (s.qs.zip p.lk)[i]? = some (b, l) := by simp [List.getElem?_zip_eq_some, hb, hl]
  rw [grpN, take_snoc hz, List.foldl_append]; rfl
end Go.Proofs.Ytjhmphkdkclbjaa
end
section
namespace Go.Proofs.Ytjhmphkdkclbjaa
open Go.Pv Go.RowKit
set_option linter.unusedSimpArgs false
set_option linter.unusedVariables false
set_option maxRecDepth 100000
set_option maxHeartbeats 2000000
attribute [-simp] Tclo_at Tgrp_at Tchk Tpchk TcI TcB Tclo Tgrp Tsid Tnod

def vu0 : V := .agg [.str ⟨#[]⟩, .nils, .nils, .nils, .nils, .nils, .nils, .nils]
theorem look_bad1 {s : Stn} {p : Pos} (h : ieq (chkF s) 0 = false) : PCall Try.prog 55 [.agg s.cs, .agg p.cs] (.tup [vu0, .bool false]) := by
  refine pcall_cx D4_ok mixed (fun _ => none) Try.func55 rfl Try.ntmps55 Try.results55 (by simp) (by kernel_rfl) ?_
  repeat' first
    | (with_reducible refine gw_bool (fun _ => ?_) (fun _ => ?_))
    | (with_reducible refine condw_bool (fun _ => ?_) (fun _ => ?_))
    | simp [*, Stn.cs, Pos.cs, vu0]
theorem look_bad2 {s : Stn} {p : Pos} (hl : lenB s p = true) (h1 : ieq (chkF s) 0 = true) (h : ieq (posE s p) 0 = false) : PCall Try.prog 55 [.agg s.cs, .agg p.cs] (.tup [vu0, .bool false]) := by
  refine pcall_cx D4_ok mixed (fun _ => none) Try.func55 rfl Try.ntmps55 Try.results55 (by simp) (by kernel_rfl) ?_
  repeat' first
    | (with_reducible refine gw_bool (fun _ => ?_) (fun _ => ?_))
    | (with_reducible refine condw_bool (fun _ => ?_) (fun _ => ?_))
    | simp [*, Stn.cs, Pos.cs, vu0]
theorem lenB_of {s : Stn} {p : Pos} (h : Fine s) (k : PFine s p) : lenB s p = true := by
  simp only [lenB, Bool.and_eq_true, decide_eq_true_eq, List.all_eq_true]
  refine ⟨by have := h.nq; omega, fun l hl => ?_⟩
  obtain ⟨i, hi, rfl⟩ := List.mem_iff_getElem.1 hl
  have hk := k.nk
  obtain ⟨b, hb, _⟩ := at_ex (l := s.qs) (i := i) (by omega)
  have := (k.row i b _ hb (List.getElem?_eq_getElem hi)).1
  have := (h.lk b (List.mem_of_getElem? hb)).2.2.2
  omega
theorem ini0_step (n : Nat) : ini0 (n + 1) = ini0 n ++ [(n : Int)] := by simp [ini0, List.range_succ]
theorem ini0_len (n : Nat) : (ini0 n).length = n := by simp [ini0]
theorem look_ok {s : Stn} {p : Pos} (h1 : chkF s = 0) (h2 : posE s p = 0) : PCall Try.prog 55 [.agg s.cs, .agg p.cs] (.tup [.agg (Vu.cs ⟨s, p, grp s p⟩), .bool true]) := by
  have hF := fine_of h1
  have hP := pfine_of h2
  have hw := wf_of hF hP
  have hlb := lenB_of hF hP
  obtain ⟨nb, hnb⟩ : ∃ n, s.bs.length = n := ⟨_, rfl⟩
  obtain ⟨n, hn⟩ : ∃ n, s.qs.length = n := ⟨_, rfl⟩
  have hn16 : n ≤ 16 := by have := hF.nq; omega
  have hnb4 : nb ≤ 4 := by have := hF.nb; omega
  have hkn : p.lk.length = n := by have := hP.nk; omega
  have hch := chunks_i1 (grp s p)
  have hpu := pure_i1 (grp s p)
  have hgl : (grp s p).length = nb := by rw [grp, grpN_len]; exact hnb
  obtain ⟨R, hR⟩ : ∃ R, grp s p = R := ⟨_, rfl⟩
  rw [hR] at hch hpu hgl
  rw [hR]
  rw [hgl] at hch
  replace hR : Hid (grpN s p n = R) := by rw [grp, hn] at hR; exact hR
  rw [hnb] at hw
  refine pcall_cx D4_ok mixed (fun _ => none) Try.func55 rfl Try.ntmps55 Try.results55 (by simp) (by kernel_rfl) ?_
  repeat' first
    | (with_reducible refine gw_bool (fun _ => ?_) (fun _ => ?_))
    | (with_reducible refine condw_bool (fun _ => ?_) (fun _ => ?_))
    | simp [*, Stn.cs, Pos.cs]
  refine lp_view (View.nilAt _ (t := 6) (o := 0) (key := 6) (key' := 39) (i := 7) (blk := ⟨101, [.str s.nm, .list 1 (s.bs.map s1), .list 5 (s.ls.map Ln.cs), .list 6 (s.ss.map Sr.cs), .list 12 (s.qs.map By.cs), .list 1 (p.cl.map b1), .list 1 (p.lk.map r1), .nils]⟩) 1 3 (by simp) (by simp) (by simp) (by simp)) ?_
  refine lp_go (D := (fun _ => none)) D4_ok mixed (by kernel_rfl) [2, 4, 6, 31] [2, 3, 4, 9, 38] (α := Nat) (fun i e h => i ≤ nb ∧ e 32 = .int .i64 i ∧ h 6 = some ⟨101, [.str s.nm, .list 1 (s.bs.map s1), .list 5 (s.ls.map Ln.cs), .list 6 (s.ss.map Sr.cs), .list 12 (s.qs.map By.cs), .list 1 (p.cl.map b1), .list 1 (p.lk.map r1), .sl 39 0 i 1]⟩ ∧ h 39 = some ⟨3, (ini0 i).map (V.int .i64)⟩) (fun i => nb - i) 0 ?_ ?_
  · refine ⟨by omega, by simp, by simp, by simp [ini0]⟩
  · rintro i e h hk hkh ⟨hi, g7, g6, g39⟩
    simp [Keep] at hk
    simp [KeepH] at hkh
    by_cases hlt : i < nb
    · have f1 : ilt (i : Int) (nb : Int) = true := ilt_t (by omega)
      have w1 : IntKind.i64.wrap ((i : Int) + 1) = ((i + 1 : Nat) : Int) := wrap_succ (by omega)
      have f5 : (i + 1) * 8 ≤ 140737488355328 := by omega
      have f6 : i + 1 ≤ 9223372036854775807 := by omega
      have hst : Hid (ini0 (i + 1) = ini0 i ++ [(i : Int)]) := ini0_step i
      have hl0 := ini0_len i
      generalize ini0 i = C at g39 hst hl0
      clear hR hch hpu hgl hw h2
      repeat' first
        | (with_reducible refine gw_bool (fun _ => ?_) (fun _ => ?_))
        | (with_reducible refine condw_bool (fun _ => ?_) (fun _ => ?_))
        | simp [*, appendV, srcCells, St.forget, scr, scrC, scrI_comp]
      refine nxt_go (i + 1) ((View.forget _ _ 38)) (by omega) (by simp [*, Keep, St.forget, scr, scrC]) (by simp [*, KeepH, St.forget, scr, scrC]) ?_
      refine ⟨by omega, by simp [*, St.forget, scr, scrC], by simp [*, St.forget, scr, scrC], ?_⟩
      rw [hst.out]; simp [*, St.forget, scr, scrC, scrI_comp]
    · have f1 : ilt (i : Int) (nb : Int) = false := ilt_f (by omega)
      have e1 : i = nb := by omega
      subst e1
      have hin : grpN s p 0 = ini0 i := by simp [grpN, hnb]
      rw [← hin] at g39
      clear hin
      repeat' first
        | (with_reducible refine gw_bool (fun _ => ?_) (fun _ => ?_))
        | (with_reducible refine condw_bool (fun _ => ?_) (fun _ => ?_))
        | simp [*]
      refine lp_go (D := (fun _ => none)) D4_ok mixed (by kernel_rfl) [4, 6, 43, 44] [2, 3, 4, 6, 9, 38] (α := Nat) (fun k e h => k ≤ n ∧ e 45 = .int .i64 k ∧ h 39 = some ⟨3, (grpN s p k).map (V.int .i64)⟩) (fun k => n - k) 0 ?_ ?_
      · exact ⟨by omega, by simp, by simp [*]⟩
      · have hk0 := hk
        have hkh0 := hkh
        clear hk hkh g7 g39
        rintro k e h hk hkh ⟨hki, g7, g39⟩
        simp [Keep, hk0, hkh0] at hk
        simp [KeepH, hk0, hkh0, g6] at hkh
        by_cases hlt : k < n
        · obtain ⟨b, hb, hb'⟩ := at_ex (l := s.qs) (i := k) (by omega)
          obtain ⟨l, hl, hl'⟩ := at_ex (l := p.lk) (i := k) (by omega)
          obtain ⟨hll, -⟩ := hP.row k b l hb hl
          obtain ⟨hbus, -, hb1, hb2⟩ := hF.lk b (List.mem_of_getElem? hb)
          have f1 : ilt (k : Int) (n : Int) = true := ilt_t (by omega)
          have w1 : IntKind.i64.wrap ((k : Int) + 1) = ((k + 1 : Nat) : Int) := wrap_succ (by omega)
          have hst : Hid (grpN s p (k + 1) = stG (grpN s p k) b l) := grpN_step hb hl
          have hGl : (grpN s p k).length = i := by rw [grpN_len]; exact hnb
          have hGc := chunks_i1 (grpN s p k)
          have hGp := pure_i1 (grpN s p k)
          rw [hGl] at hGc
          generalize grpN s p k = G at g39 hst hGl hGc hGp
          clear hR hch hpu hgl hw h2 h1
          have hGs := scr_i1 G
          have hGm : ∀ q : Nat, scrC q ∘ V.int .i64 = V.int .i64 := scrI_comp
          cases hk3 : ieq b.kind 3
          · obtain ⟨lks, hlk⟩ : ∃ lks, b.lks = lks := ⟨_, rfl⟩
            rw [hlk] at hll hbus hb1 hb2
            match lks, hb1, hb2 with
            | [a], _, _ =>
              have hnx : stG G b l = G := by simp [stG, hk3, hlk]
              rw [hnx] at hst
              clear hnx hbus
              repeat' first
                | (with_reducible refine gw_bool (fun _ => ?_) (fun _ => ?_))
                | (with_reducible refine condw_bool (fun _ => ?_) (fun _ => ?_))
                | simp [*, By.cs]
              refine nxt_go (k + 1) ((View.forget _ _ 9)) (by omega) (by simp [*, Keep, St.forget, scr, scrC]) (by simp [*, KeepH, St.forget, scr, scrC]) ?_
              refine ⟨by omega, by simp [*, St.forget, scr, scrC], ?_⟩
              rw [hst.out]; simp [*, St.forget, scr, scrC, scrI_comp]
            | [a, c], _, _ =>
              match l, hll with
              | [x, y], _ =>
                have hc0 : clF p k 0 = some (ieq x 1) := by simp [clF, hl]
                have hc1 : clF p k 1 = some (ieq y 1) := by simp [clF, hl]
                cases hx : ieq x 1
                · have hnx : stG G b [x, y] = G := by simp [stG, hk3, hlk, hx]
                  rw [hnx] at hst
                  rw [hx] at hc0
                  clear hnx hbus
                  repeat' first
                    | (with_reducible refine gw_bool (fun _ => ?_) (fun _ => ?_))
                    | (with_reducible refine condw_bool (fun _ => ?_) (fun _ => ?_))
                    | simp [*, By.cs]
                  refine nxt_go (k + 1) ((View.forget _ _ 9)) (by omega) (by simp [*, Keep, St.forget, scr, scrC]) (by simp [*, KeepH, St.forget, scr, scrC]) ?_
                  refine ⟨by omega, by simp [*, St.forget, scr, scrC], ?_⟩
                  rw [hst.out]; simp [*, St.forget, scr, scrC, scrI_comp]
                cases hy : ieq y 1
                · have hnx : stG G b [x, y] = G := by simp [stG, hk3, hlk, hx, hy]
                  rw [hnx] at hst
                  rw [hx] at hc0
                  rw [hy] at hc1
                  clear hnx hbus
                  repeat' first
                    | (with_reducible refine gw_bool (fun _ => ?_) (fun _ => ?_))
                    | (with_reducible refine condw_bool (fun _ => ?_) (fun _ => ?_))
                    | simp [*, By.cs]
                  refine nxt_go (k + 1) ((View.forget _ _ 9)) (by omega) (by simp [*, Keep, St.forget, scr, scrC]) (by simp [*, KeepH, St.forget, scr, scrC]) ?_
                  refine ⟨by omega, by simp [*, St.forget, scr, scrC], ?_⟩
                  rw [hst.out]; simp [*, St.forget, scr, scrC, scrI_comp]
                obtain ⟨u, hu⟩ := Int.eq_ofNat_of_zero_le (hbus a (by simp)).1
                obtain ⟨w, hwc⟩ := Int.eq_ofNat_of_zero_le (hbus c (by simp)).1
                have hub : u < i := by have := (hbus a (by simp)).2; omega
                have hwb : w < i := by have := (hbus c (by simp)).2; omega
                obtain ⟨ga, hga, -⟩ := at_ex (l := G) (i := u) (by omega)
                obtain ⟨gc, hgc, -⟩ := at_ex (l := G) (i := w) (by omega)
                have hga2 : ∀ h : u < G.length, G[u] = ga := fun h => by rw [List.getElem?_eq_getElem h] at hga; exact Option.some.inj hga
                have hgc2 : ∀ h : w < G.length, G[w] = gc := fun h => by rw [List.getElem?_eq_getElem h] at hgc; exact Option.some.inj hgc
                have hnx : stG G b [x, y] = G.map (mgF (min ga gc) (max ga gc)) := by simp [stG, hk3, hlk, hx, hy, merge, g0, gAt, hu, hwc, hga, hgc]
                rw [hnx] at hst
                rw [hx] at hc0
                rw [hy] at hc1
                clear hnx hbus
                have hcu : (u : Int) < (i : Int) := by omega
                have hcw : (w : Int) < (i : Int) := by omega
                obtain ⟨lo, hlo⟩ : ∃ lo, min ga gc = lo := ⟨_, rfl⟩
                obtain ⟨top, hto⟩ : ∃ top, max ga gc = top := ⟨_, rfl⟩
                rw [hlo, hto] at hst
                repeat' first
                  | (with_reducible refine gw_bool (fun _ => ?_) (fun _ => ?_))
                  | (with_reducible refine condw_bool (fun _ => ?_) (fun _ => ?_))
                  | simp [*, By.cs, Lk.cs]
                refine lp_go (D := (fun _ => none)) D4_ok mixed (by kernel_rfl) [4, 6, 8, 9, 10, 11, 12, 13, 43, 44, 45, 46, 47, 48, 49, 50, 51, 52, 53, 54, 55, 56, 57, 58, 59, 60, 61, 62, 63, 64, 65, 66, 67, 68, 69, 70, 71, 72, 73, 74, 75, 76, 77, 78, 79, 80, 81, 82, 83, 84, 85, 86, 87, 88, 89, 90, 91, 92, 93, 94, 95, 96, 97] [2, 3, 4, 6, 9, 38] (α := Nat) (fun j e h => j ≤ i ∧ e 98 = .int .i64 j ∧ h 39 = some ⟨3, (hG (mgF lo top) G j).map (V.int .i64)⟩) (fun j => i - j) 0 ?_ ?_
                · exact ⟨by omega, by simp, by simp [*, hG]⟩
                · have hk1 := hk
                  have hkh1 := hkh
                  have g71 := g7
                  clear hk hkh g7 g39
                  rintro j e h hk hkh ⟨hji, g7, g39⟩
                  simp [Keep, hk1, hkh1, g71, hlo, hto] at hk
                  simp [KeepH, hk1, hkh1] at hkh
                  have hCl : (hG (mgF lo top) G j).length = i := by rw [hG_len _ _ _ (by omega)]; exact hGl
                  clear hga hgc hga2 hgc2 hGs
                  by_cases hjlt : j < i
                  · obtain ⟨z, hz, -⟩ := at_ex (l := G) (i := j) (by omega)
                    have f2 : ilt (j : Int) (i : Int) = true := ilt_t (by omega)
                    have w2 : IntKind.i64.wrap ((j : Int) + 1) = ((j + 1 : Nat) : Int) := wrap_succ (by omega)
                    have hC1 := hG_at (f := mgF lo top) hz
                    have hj1 : j + 1 ≤ i := by omega
                    cases hq : ieq z top
                    · have hnj : Hid (hG (mgF lo top) G (j + 1) = hG (mgF lo top) G j) := hG_same hz (by simp [mgF, hq])
                      generalize hG (mgF lo top) G j = C at g39 hCl hC1 hnj
                      have hC2 : ∀ h : j < C.length, C[j] = z := fun h => by rw [List.getElem?_eq_getElem h] at hC1; exact Option.some.inj hC1
                      clear hz hst hGl hGc hGp
                      repeat' first
                        | (with_reducible refine gw_bool (fun _ => ?_) (fun _ => ?_))
                        | (with_reducible refine condw_bool (fun _ => ?_) (fun _ => ?_))
                        | simp [*, St.forget, scr, scrC]
                      refine nxt_go (j + 1) (View.refl _ _) (by omega) (by simp [*, Keep, St.forget, scr, scrC]) (by simp [*, KeepH, St.forget, scr, scrC]) ?_
                      refine ⟨by omega, by simp [*], ?_⟩
                      rw [hnj.out]; simp [*]
                    · have hnj : hG (mgF lo top) G (j + 1) = (hG (mgF lo top) G j).set j lo := by rw [hG_step hz]; simp [mgF, hq]
                      replace hnj : Hid (hG (mgF lo top) G (j + 1) = (hG (mgF lo top) G j).set j lo) := hnj
                      generalize hG (mgF lo top) G j = C at g39 hCl hC1 hnj
                      have hC2 : ∀ h : j < C.length, C[j] = z := fun h => by rw [List.getElem?_eq_getElem h] at hC1; exact Option.some.inj hC1
                      clear hz hst hGl hGc hGp
                      repeat' first
                        | (with_reducible refine gw_bool (fun _ => ?_) (fun _ => ?_))
                        | (with_reducible refine condw_bool (fun _ => ?_) (fun _ => ?_))
                        | simp [*, St.forget, scr, scrC, setsV]
                      refine nxt_go (j + 1) (View.refl _ _) (by omega) (by simp [*, Keep, St.forget, scr, scrC]) (by simp [*, KeepH, St.forget, scr, scrC]) ?_
                      refine ⟨by omega, by simp [*], ?_⟩
                      rw [hnj.out]; simp [*, setsV, List.map_set]
                  · have f2 : ilt (j : Int) (i : Int) = false := ilt_f (by omega)
                    have e2 : j = G.length := by omega
                    rw [e2, hG_end] at g39
                    clear e2 hCl
                    have hst' := hst.out
                    generalize G.map (mgF lo top) = C at g39 hst'
                    replace hst' : Hid (grpN s p (k + 1) = C) := hst'
                    clear hst hGl hGc hGp
                    repeat' first
                      | (with_reducible refine gw_bool (fun _ => ?_) (fun _ => ?_))
                      | (with_reducible refine condw_bool (fun _ => ?_) (fun _ => ?_))
                      | simp [*, St.forget, scr, scrC]
                    refine nxt_go (k + 1) ((View.forget _ _ 9)) (by omega) (by simp [*, Keep, St.forget, scr, scrC]) (by simp [*, KeepH, St.forget, scr, scrC]) ?_
                    refine ⟨by omega, by simp [*, St.forget, scr, scrC], ?_⟩
                    rw [hst'.out]; simp [*, St.forget, scr, scrC, scrI_comp]
          · have hnx : stG G b l = G := by simp [stG, hk3]
            rw [hnx] at hst
            clear hnx hbus
            repeat' first
              | (with_reducible refine gw_bool (fun _ => ?_) (fun _ => ?_))
              | (with_reducible refine condw_bool (fun _ => ?_) (fun _ => ?_))
              | simp [*, By.cs]
            refine nxt_go (k + 1) ((View.forget _ _ 9)) (by omega) (by simp [*, Keep, St.forget, scr, scrC]) (by simp [*, KeepH, St.forget, scr, scrC]) ?_
            refine ⟨by omega, by simp [*, St.forget, scr, scrC], ?_⟩
            rw [hst.out]; simp [*, St.forget, scr, scrC, scrI_comp]
        · have f1 : ilt (k : Int) (n : Int) = false := ilt_f (by omega)
          have e1 : k = n := by omega
          rw [e1, hR.out] at g39
          clear hR
          repeat' first
            | (with_reducible refine gw_bool (fun _ => ?_) (fun _ => ?_))
            | (with_reducible refine condw_bool (fun _ => ?_) (fun _ => ?_))
            | simp [*, Vu.cs]
/-! ### Sides, Boundary -/
def okP (s : Stn) (p : Pos) : Bool := decide (chkF s = 0 ∧ posE s p = 0)
theorem okP_iff {s : Stn} {p : Pos} (h : okP s p = true) : chkF s = 0 ∧ posE s p = 0 := by simpa [okP] using h
def Tlook : List V → Option V
  | [.agg a, .agg b] => (match unStn a, unPos b with
    | some s, some p => if okP s p = true then some (.tup [.agg (Vu.cs ⟨s, p, grp s p⟩), .bool true]) else none
    | _, _ => none)
  | _ => none
theorem Tlook_at {s : Stn} {p : Pos} (h : okP s p = true) : Tlook [.agg [.str s.nm, .list 1 (s.bs.map s1), .list 5 (s.ls.map Ln.cs), .list 6 (s.ss.map Sr.cs), .list 12 (s.qs.map By.cs)], .agg [.list 1 (p.cl.map b1), .list 1 (p.lk.map r1)]] = some (.tup [.agg (Vu.cs ⟨s, p, grp s p⟩), .bool true]) := by
  have e1 := unStn_cs s
  have e2 := unPos_cs p
  unfold Stn.cs at e1
  unfold Pos.cs at e2
  simp [Tlook, e1, e2, h]
theorem look_tab : ∀ vs v, Tlook vs = some v → PCall Try.prog 55 vs v := by
  intro vs v h; unfold Tlook at h; split at h
  · split at h
    · rename_i h1 h2
      split at h
      · rename_i hl
        cases h
        rw [unStn_inv _ _ h1, unPos_inv _ _ h2]
        obtain ⟨a, b⟩ := okP_iff hl
        exact look_ok a b
      · cases h
    · cases h
  · cases h
theorem wfg_of {s : Stn} {p : Pos} (h : okP s p = true) : wfG s p (grp s p).length = true := by
  obtain ⟨a, b⟩ := okP_iff h
  rw [grp, grpN_len]
  exact wf_of (fine_of a) (pfine_of b)
def Tbnd : List V → Option V
  | [.agg c, .agg [.int .i64 k, .int .i64 o]] => (match unVu c with
    | some v => if v.g.length = v.s.bs.length ∧ wfG v.s v.p v.g.length = true then some (.list 1 ((bndF v.s v.p v.g (nodF v.s v.g k o)).map i1)) else none
    | none => none)
  | _ => none
theorem Tbnd_at {s : Stn} {p : Pos} {g : List Int} {k o : Int} (h : g.length = s.bs.length) (hw : wfG s p g.length = true) : Tbnd [.agg [.str s.nm, .list 1 (s.bs.map s1), .list 5 (s.ls.map Ln.cs), .list 6 (s.ss.map Sr.cs), .list 12 (s.qs.map By.cs), .list 1 (p.cl.map b1), .list 1 (p.lk.map r1), .list 1 (g.map i1)], .agg [.int .i64 k, .int .i64 o]] = some (.list 1 ((bndF s p g (nodF s g k o)).map i1)) := by
  have := unVu_cs ⟨s, p, g⟩
  unfold Vu.cs at this
  rw [h] at hw
  simp [Tbnd, this, h, hw]
theorem Tbnd_at2 {s : Stn} {p : Pos} {g : List Int} {k o : Int} (h : g.length = s.bs.length) (hw : wfG s p s.bs.length = true) : Tbnd [.agg [.str s.nm, .list 1 (s.bs.map s1), .list 5 (s.ls.map Ln.cs), .list 6 (s.ss.map Sr.cs), .list 12 (s.qs.map By.cs), .list 1 (p.cl.map b1), .list 1 (p.lk.map r1), .list 1 (g.map i1)], .agg [.int .i64 k, .int .i64 o]] = some (.list 1 ((bndF s p g (nodF s g k o)).map i1)) := Tbnd_at h (by rw [h]; exact hw)
theorem bnd_tab : ∀ vs v, Tbnd vs = some v → PCall Try.prog 72 vs v := by
  intro vs v h; unfold Tbnd at h; split at h
  · split at h
    · rename_i hv
      split at h
      · rename_i hg
        cases h
        rw [unVu_inv _ _ hv]
        exact bnd_ok _ _ _ hg.1 hg.2
      · cases h
    · cases h
  · cases h
def D5 : Tab := add 55 Tlook (add 72 Tbnd (D4))
theorem D5_at (f : FuncId) (vs : List V) : D5.at' f vs = if f = 55 then Tlook vs else if f = 72 then Tbnd vs else D4.at' f vs := rfl
theorem D5_fr (f : FuncId) : D5.fr f = if f = 55 then false else if f = 72 then false else D4.fr f := rfl
theorem D5_gb (f : FuncId) : D5.gb f = D4.gb f := rfl
theorem D5_gv (f : FuncId) (vs : List V) : D5.gv f vs = D4.gv f vs := rfl
attribute [simp] D5_at D5_fr D5_gb D5_gv Tbnd Tlook
theorem D5_ok : TabOK Try.prog D5 := by
  refine add_ok (add_ok (D4_ok) (by kernel_rfl) ?_) (by kernel_rfl) ?_
  · exact bnd_tab
  · exact look_tab
attribute [-simp] Tlook Tbnd
attribute [simp] Tlook_at Tbnd_at2
theorem Sides_ok {s : Stn} {p : Pos} (h : okP s p = true) (i : Int) (S : List Int) (hS : sidF s p (grp s p) i = some S) : PCall Try.prog 68 [.agg s.cs, .agg p.cs, .int .i64 i] (.agg (S.map (V.int .i64))) := by
  have h4 : ∃ a0 a1 c0 c1, S = [a0, a1, c0, c1] := by
    unfold sidF at hS
    split at hS
    · split at hS
      · split at hS
        · cases hS; exact sid4 _ _ _
        · cases hS
      · cases hS; exact ⟨_, _, _, _, rfl⟩
    · cases hS
  obtain ⟨a0, a1, c0, c1, rfl⟩ := h4
  refine pcall_cx D5_ok mixed (fun _ => none) Try.func68 rfl Try.ntmps68 Try.results68 (by simp) (by kernel_rfl) ?_
  repeat' first
    | (with_reducible refine gw_bool (fun _ => ?_) (fun _ => ?_))
    | (with_reducible refine condw_bool (fun _ => ?_) (fun _ => ?_))
    | simp [*, Stn.cs, Pos.cs, Vu.cs]
theorem Boundary_ok {s : Stn} {p : Pos} (h : okP s p = true) (k o : Int) : PCall Try.prog 39 [.agg s.cs, .agg p.cs, .agg [.int .i64 k, .int .i64 o]] (.list 1 ((bndF s p (grp s p) (nodF s (grp s p) k o)).map i1)) := by
  have hw := wfg_of h
  have hg : (grp s p).length = s.bs.length := by rw [grp, grpN_len]
  rw [hg] at hw
  refine pcall_cx D5_ok mixed (fun _ => none) Try.func39 rfl Try.ntmps39 Try.results39 (by simp) (by kernel_rfl) ?_
  repeat' first
    | (with_reducible refine gw_bool (fun _ => ?_) (fun _ => ?_))
    | (with_reducible refine condw_bool (fun _ => ?_) (fun _ => ?_))
    | simp [*, Stn.cs, Pos.cs, Vu.cs]
end Go.Proofs.Ytjhmphkdkclbjaa
end
section
namespace Go.Proofs.Ytjhmphkdkclbjaa
open Go.Pv Go.RowKit
set_option linter.unusedSimpArgs false
set_option linter.unusedVariables false
set_option maxRecDepth 100000
set_option maxHeartbeats 2000000
attribute [-simp] Tclo_at Tgrp_at Tchk Tpchk TcI TcB Tclo Tgrp Tsid Tnod Tlook Tbnd

def Tres : List V → Option V
  | [.agg b, .bool c] => (match unPos b with
    | some p => if p.cl.length ≤ 1000 ∧ p.lk.length ≤ 1000 ∧ ∀ l ∈ p.lk, l.length ≤ 1000 then some (.agg (resP p c).cs) else none
    | none => none)
  | _ => none
theorem Tres_at {p : Pos} {c : Bool} (h : p.cl.length ≤ 1000 ∧ p.lk.length ≤ 1000 ∧ ∀ l ∈ p.lk, l.length ≤ 1000) : Tres [.agg [.list 1 (p.cl.map b1), .list 1 (p.lk.map r1)], .bool c] = some (.agg (resP p c).cs) := by
  have e2 := unPos_cs p
  unfold Pos.cs at e2
  simp only [Tres, e2]
  exact if_pos h
theorem res_tab : ∀ vs v, Tres vs = some v → PCall Try.prog 38 vs v := by
  intro vs v h; unfold Tres at h; split at h
  · split at h
    · rename_i h1
      split at h
      · rename_i hl; cases h; rw [unPos_inv _ _ h1]; exact resolve_ok _ _ hl.1 hl.2.1 hl.2.2
      · cases h
    · cases h
  · cases h
def TSd : List V → Option V
  | [.agg a, .agg b, .int .i64 i] => (match unStn a, unPos b with
    | some s, some p => if okP s p = true then (match sidF s p (grp s p) i with
      | some S => some (.agg (S.map (V.int .i64)))
      | none => none) else none
    | _, _ => none)
  | _ => none
theorem TSd_at {s : Stn} {p : Pos} {i : Int} {S : List Int} (h : okP s p = true) (hS : sidF s p (grp s p) i = some S) : TSd [.agg [.str s.nm, .list 1 (s.bs.map s1), .list 5 (s.ls.map Ln.cs), .list 6 (s.ss.map Sr.cs), .list 12 (s.qs.map By.cs)], .agg [.list 1 (p.cl.map b1), .list 1 (p.lk.map r1)], .int .i64 i] = some (.agg (S.map (V.int .i64))) := by
  have e1 := unStn_cs s
  have e2 := unPos_cs p
  unfold Stn.cs at e1
  unfold Pos.cs at e2
  simp [TSd, e1, e2, h, hS]
theorem Sd_tab : ∀ vs v, TSd vs = some v → PCall Try.prog 68 vs v := by
  intro vs v h; unfold TSd at h; split at h
  · split at h
    · rename_i h1 h2
      split at h
      · rename_i hl
        split at h
        · rename_i hS; cases h; rw [unStn_inv _ _ h1, unPos_inv _ _ h2]; exact Sides_ok hl _ _ hS
        · cases h
      · cases h
    · cases h
  · cases h
def TBd : List V → Option V
  | [.agg a, .agg b, .agg [.int .i64 k, .int .i64 o]] => (match unStn a, unPos b with
    | some s, some p => if okP s p = true then some (.list 1 ((bndF s p (grp s p) (nodF s (grp s p) k o)).map i1)) else none
    | _, _ => none)
  | _ => none
theorem TBd_at {s : Stn} {p : Pos} {k o : Int} (h : okP s p = true) : TBd [.agg [.str s.nm, .list 1 (s.bs.map s1), .list 5 (s.ls.map Ln.cs), .list 6 (s.ss.map Sr.cs), .list 12 (s.qs.map By.cs)], .agg [.list 1 (p.cl.map b1), .list 1 (p.lk.map r1)], .agg [.int .i64 k, .int .i64 o]] = some (.list 1 ((bndF s p (grp s p) (nodF s (grp s p) k o)).map i1)) := by
  have e1 := unStn_cs s
  have e2 := unPos_cs p
  unfold Stn.cs at e1
  unfold Pos.cs at e2
  simp [TBd, e1, e2, h]
theorem Bd_tab : ∀ vs v, TBd vs = some v → PCall Try.prog 39 vs v := by
  intro vs v h; unfold TBd at h; split at h
  · split at h
    · rename_i h1 h2
      split at h
      · rename_i hl
        cases h; rw [unStn_inv _ _ h1, unPos_inv _ _ h2]; exact Boundary_ok hl _ _
      · cases h
    · cases h
  · cases h
def D6 : Tab := add 38 Tres (add 68 TSd (add 39 TBd (D5)))
theorem D6_at (f : FuncId) (vs : List V) : D6.at' f vs = if f = 38 then Tres vs else if f = 68 then TSd vs else if f = 39 then TBd vs else D5.at' f vs := rfl
theorem D6_fr (f : FuncId) : D6.fr f = if f = 38 then false else if f = 68 then false else if f = 39 then false else D5.fr f := rfl
theorem D6_gb (f : FuncId) : D6.gb f = D5.gb f := rfl
theorem D6_gv (f : FuncId) (vs : List V) : D6.gv f vs = D5.gv f vs := rfl
attribute [simp] D6_at D6_fr D6_gb D6_gv TBd TSd Tres
theorem D6_ok : TabOK Try.prog D6 := by
  refine add_ok (add_ok (add_ok (D5_ok) (by kernel_rfl) ?_) (by kernel_rfl) ?_) (by kernel_rfl) ?_
  · exact Bd_tab
  · exact Sd_tab
  · exact res_tab
attribute [-simp] Tres TSd TBd
attribute [simp] Tres_at TSd_at TBd_at
/-! ### a position that is resolved is valid -/
theorem posE_of {s : Stn} {p : Pos} (h : PFine s p) : posE s p = 0 := by
  have e1 : ieq (p.cl.length : Int) (s.qs.length : Int) = true := ieq_t (by rw [h.nc])
  have e2 : ieq (p.lk.length : Int) (s.qs.length : Int) = true := ieq_t (by rw [h.nk])
  have e3 : (List.range s.qs.length).all (lenOk s p) = true := List.all_eq_true.2 fun i hi => by
    have hi : i < s.qs.length := by simpa using hi
    have hk := h.nk
    obtain ⟨b, hb, _⟩ := at_ex (l := s.qs) (i := i) hi
    obtain ⟨l, hl, _⟩ := at_ex (l := p.lk) (i := i) (by omega)
    simp only [lenOk, hb, hl]
    exact ieq_t (by rw [(h.row i b l hb hl).1])
  have e4 : (List.range s.qs.length).all (rowOk s p) = true := List.all_eq_true.2 fun i hi => by
    have hi : i < s.qs.length := by simpa using hi
    have hk := h.nk
    obtain ⟨b, hb, _⟩ := at_ex (l := s.qs) (i := i) hi
    obtain ⟨l, hl, _⟩ := at_ex (l := p.lk) (i := i) (by omega)
    simp only [rowOk, hb, hl]
    exact List.all_eq_true.2 (h.row i b l hb hl).2
  simp only [posE, e1, e2, e3, e4]
  simp
theorem okL_res {k x : Int} (h : okL k x = true) : okL k (resF 1 x) = true := by
  unfold resF
  split
  · simp [okL, ieq]
  · exact h
theorem pfine_res {s : Stn} {p : Pos} (h : PFine s p) : PFine s (resP p true) := by
  refine ⟨h.nc, by simp [resP, h.nk], fun i b l hb hl => ?_⟩
  simp only [resP, List.getElem?_map] at hl
  obtain ⟨l0, hl0, rfl⟩ := Option.map_eq_some_iff.1 hl
  obtain ⟨h1, h2⟩ := h.row i b l0 hb hl0
  refine ⟨by simpa using h1, fun x hx => ?_⟩
  obtain ⟨y, hy, rfl⟩ := List.mem_map.1 hx
  exact okL_res (h2 y hy)
theorem okP_res {s : Stn} {p : Pos} (h1 : chkF s = 0) (h2 : posE s p = 0) : okP s (resP p true) = true := by simp [okP, h1, posE_of (pfine_res (pfine_of h2))]
/-! ### what Targets answers -/
end Go.Proofs.Ytjhmphkdkclbjaa
end
section
namespace Go.Proofs.Ytjhmphkdkclbjaa
open Go.Pv Go.RowKit
set_option linter.unusedSimpArgs false
set_option linter.unusedVariables false
set_option maxRecDepth 100000
set_option maxHeartbeats 4000000
attribute [-simp] Tclo_at Tgrp_at Tchk Tpchk TcI TcB Tclo Tgrp Tsid Tnod Tlook Tbnd

theorem flat_s1 (l : List ByteArray) : (l.map s1).flatten = l.map V.str := by
  induction l with
  | nil => rfl
  | cons a l ih => simp [s1, ih]
theorem chunks_s1 (l : List ByteArray) : chunks 1 l.length (l.map V.str) = l.map s1 := by rw [← flat_s1]; exact flat_chunks (sz := 1) (fun _ => rfl) l
theorem pure_s1 (l : List ByteArray) : (l.map V.str).any ownC = false := by rw [← flat_s1]; exact flat_pure (fun _ => rfl) l
/-! ### names -/
theorem rname_ok (s : ByteArray) : PCall Try.prog 73 [.str s] (.bool (nameF s)) := by
  obtain ⟨n, hn⟩ : ∃ n, s.size = n := ⟨_, rfl⟩
  cases b1 : ilt (n : Int) 1
  · have b0 : ieq (n : Int) 0 = false := ieq_f (by have := ilt_iff'.1 b1; omega)
    cases b2 : ilt 12 (n : Int)
    · have hok : nameF s = (List.range n).all (gdN s) := by simp [nameF, hn, b0, b2]
      have hn12 : n ≤ 12 := by have := ilt_iff'.1 b2; omega
      rw [hok]
      refine pcall_cx noTab_ok mixed (fun _ => none) Try.func73 rfl Try.ntmps73 Try.results73 (by simp) (by kernel_rfl) ?_
      repeat' first
        | (with_reducible refine gw_bool (fun _ => ?_) (fun _ => ?_))
        | (with_reducible refine condw_bool (fun _ => ?_) (fun _ => ?_))
        | simp [*]
      refine lp_go (D := (fun _ => none)) noTab_ok mixed (by kernel_rfl) [0] [] (α := Nat) (fun i e h => i ≤ n ∧ e 3 = .int .i64 i ∧ Hid ((List.range i).all (gdN s) = true)) (fun i => n - i) 0 ?_ ?_
      · exact ⟨by omega, rfl, show _ = _ by simp⟩
      · rintro i e h hk hkh ⟨hi, g7, hinv⟩
        simp [Keep] at hk
        simp [KeepH] at hkh
        by_cases hlt : i < n
        · have hx := ba_at (s := s) (i := i) (by omega)
          obtain ⟨c, hc⟩ : ∃ c, s[i]'(by omega) = c := ⟨_, rfl⟩
          rw [hc] at hx
          obtain ⟨z, hz⟩ : ∃ z : Int, (c.toNat : Int) = z := ⟨_, rfl⟩
          have f1 : ilt (i : Int) (n : Int) = true := ilt_t (by omega)
          have w1 : IntKind.i64.wrap ((i : Int) + 1) = ((i + 1 : Nat) : Int) := wrap_succ (by omega)
          have hg : gdN s i = !badC i z := by simp [gdN, chN, hx, hz]
          have hnext : (List.range (i + 1)).all (gdN s) = gdN s i := by
            rw [List.range_succ, List.all_append, hinv.out]; simp
          have hbu : badC i z = (!letF z && (ieq i 0 || !othF z)) := rfl
          cases hb : badC i z
          · have hq : Hid ((List.range (i + 1)).all (gdN s) = true) := by rw [hg, hb] at hnext; exact hnext
            rw [hb] at hbu
            clear hinv hnext hg hb
            unfold letF othF at hbu
            replace hbu : Hid (false = (!((!ilt z 65 && !ilt 90 z) || (!ilt z 97 && !ilt 122 z)) && (ieq (i : Int) 0 || !((!ilt z 48 && !ilt 57 z) || ieq z 95)))) := hbu
            repeat' first
              | (with_reducible refine gw_bool (fun _ => ?_) (fun _ => ?_))
              | (with_reducible refine condw_bool (fun _ => ?_) (fun _ => ?_))
              | simp [*]
            all_goals first
              | (exfalso; have hbu := hbu.out; simp [*] at hbu; done)
              | skip
            all_goals refine nxt_go (i + 1) (View.refl _ _) (by omega) (by simp [*, Keep, St.forget, scr, scrC]) (by simp [*, KeepH, St.forget, scr, scrC]) ?_
            all_goals (refine ⟨by omega, ?_, hq⟩; simp [*])
          · have hall : (List.range n).all (gdN s) = false := by
              rw [Bool.eq_false_iff]
              intro hc
              have := List.all_eq_true.1 hc i (by simpa using hlt)
              rw [hg, hb] at this; cases this
            rw [hb] at hbu
            clear hinv hnext hg hb
            unfold letF othF at hbu
            replace hbu : Hid (true = (!((!ilt z 65 && !ilt 90 z) || (!ilt z 97 && !ilt 122 z)) && (ieq (i : Int) 0 || !((!ilt z 48 && !ilt 57 z) || ieq z 95)))) := hbu
            repeat' first
              | (with_reducible refine gw_bool (fun _ => ?_) (fun _ => ?_))
              | (with_reducible refine condw_bool (fun _ => ?_) (fun _ => ?_))
              | simp [*]
            all_goals (exfalso; have hbu := hbu.out; simp [*] at hbu; done)
        · have f1 : ilt (i : Int) (n : Int) = false := ilt_f (by omega)
          have e1 : i = n := by omega
          have hall : (List.range n).all (gdN s) = true := by
            have := hinv.out
            rwa [e1] at this
          clear hinv
          repeat' first
            | (with_reducible refine gw_bool (fun _ => ?_) (fun _ => ?_))
            | (with_reducible refine condw_bool (fun _ => ?_) (fun _ => ?_))
            | simp [*]
    · have hok : nameF s = false := by simp [nameF, hn, b0, b2]
      refine pcall_cx noTab_ok mixed (fun _ => none) Try.func73 rfl Try.ntmps73 Try.results73 (by simp) (by kernel_rfl) ?_
      repeat' first
        | (with_reducible refine gw_bool (fun _ => ?_) (fun _ => ?_))
        | (with_reducible refine condw_bool (fun _ => ?_) (fun _ => ?_))
        | simp [*]
  · have b0 : ieq (n : Int) 0 = true := ieq_t (by have := ilt_iff.1 b1; omega)
    have hok : nameF s = false := by simp [nameF, hn, b0]
    refine pcall_cx noTab_ok mixed (fun _ => none) Try.func73 rfl Try.ntmps73 Try.results73 (by simp) (by kernel_rfl) ?_
    repeat' first
      | (with_reducible refine gw_bool (fun _ => ?_) (fun _ => ?_))
      | (with_reducible refine condw_bool (fun _ => ?_) (fun _ => ?_))
      | simp [*]
def idxA : List ByteArray → ByteArray → Nat → Int
  | [], _, _ => -1
  | b :: L, s, i => if (s == b) = true then (i : Int) else idxA L s (i + 1)
theorem idx_neg (s : ByteArray) : ∀ (L : List ByteArray) (i : Nat), ilt (idxA L s i) 0 = !dupF L s
  | [], i => rfl
  | b :: L, i => by
    simp only [idxA, dupF, List.any_cons]
    cases h : s == b
    · rw [if_neg (by simp)]; simp only [Bool.false_or]; exact idx_neg s L (i + 1)
    · rw [if_pos rfl]; simp only [Bool.true_or, Bool.not_true]; exact ilt_f (by omega)
theorem rindex_ok (L : List ByteArray) (s : ByteArray) (hl : L.length ≤ 1000) : PCall Try.prog 91 [.list 1 (L.map s1), .str s] (.int .i64 (idxA L s 0)) := by
  obtain ⟨n, hn⟩ : ∃ n, L.length = n := ⟨_, rfl⟩
  rw [hn] at hl
  obtain ⟨R, hR⟩ : ∃ R, idxA L s 0 = R := ⟨_, rfl⟩
  rw [hR]
  replace hR : Hid (idxA (L.drop 0) s 0 = R) := hR
  refine pcall_cx noTab_ok mixed (fun _ => none) Try.func91 rfl Try.ntmps91 Try.results91 (by simp) (by kernel_rfl) ?_
  repeat' first
    | (with_reducible refine gw_bool (fun _ => ?_) (fun _ => ?_))
    | (with_reducible refine condw_bool (fun _ => ?_) (fun _ => ?_))
    | simp [*]
  refine lp_go (D := (fun _ => none)) noTab_ok mixed (by kernel_rfl) [0, 1] [] (α := Nat) (fun i e h => i ≤ n ∧ e 5 = .int .i64 i ∧ Hid (idxA (L.drop i) s i = R)) (fun i => n - i) 0 ?_ ?_
  · exact ⟨by omega, rfl, hR⟩
  · rintro i e h hk hkh ⟨hi, g7, hinv⟩
    simp [Keep] at hk
    simp [KeepH] at hkh
    clear hR
    by_cases hlt : i < n
    · obtain ⟨b, hb, hb'⟩ := at_ex (l := L) (i := i) (by omega)
      have f1 : ilt (i : Int) (n : Int) = true := ilt_t (by omega)
      have w1 : IntKind.i64.wrap ((i : Int) + 1) = ((i + 1 : Nat) : Int) := wrap_succ (by omega)
      have hd : L.drop i = b :: L.drop (i + 1) := by
        obtain ⟨hh, he⟩ := get_of hb
        rw [List.drop_eq_getElem_cons hh, he]
      have hin := hinv.out
      rw [hd] at hin
      simp only [idxA] at hin
      clear hinv hd
      have heq : (b.toList == s.toList) = (s == b) := by rw [← Go.beq_toListBytes, Bool.eq_iff_iff, ba_eq, ba_eq]; exact eq_comm
      cases hq : s == b
      · rw [hq, if_neg (by simp)] at hin
        rw [hq] at heq
        replace hin : Hid (idxA (L.drop (i + 1)) s (i + 1) = R) := hin
        clear hq
        repeat' first
          | (with_reducible refine gw_bool (fun _ => ?_) (fun _ => ?_))
          | (with_reducible refine condw_bool (fun _ => ?_) (fun _ => ?_))
          | simp [*, s1, binS]
        refine nxt_go (i + 1) (View.refl _ _) (by omega) (by simp [*, Keep, St.forget, scr, scrC]) (by simp [*, KeepH, St.forget, scr, scrC]) ?_
        refine ⟨by omega, by simp [*], hin⟩
      · rw [hq, if_pos rfl] at hin
        rw [hq] at heq
        clear hq
        subst hin
        repeat' first
          | (with_reducible refine gw_bool (fun _ => ?_) (fun _ => ?_))
          | (with_reducible refine condw_bool (fun _ => ?_) (fun _ => ?_))
          | simp [*, s1, binS]
    · have f1 : ilt (i : Int) (n : Int) = false := ilt_f (by omega)
      have hin := hinv.out
      rw [List.drop_eq_nil_of_le (by omega)] at hin
      simp only [idxA] at hin
      clear hinv
      subst hin
      repeat' first
        | (with_reducible refine gw_bool (fun _ => ?_) (fun _ => ?_))
        | (with_reducible refine condw_bool (fun _ => ?_) (fun _ => ?_))
        | simp [*]
def Tidx : List V → Option V
  | [.list 1 x, .str s] => (match decL unS1 x with
    | some L => if L.length ≤ 1000 then some (.int .i64 (idxA L s 0)) else none
    | none => none)
  | _ => none
theorem Tidx_at {L : List ByteArray} {s : ByteArray} (h : L.length ≤ 1000) : Tidx [.list 1 (L.map s1), .str s] = some (.int .i64 (idxA L s 0)) := by simp [Tidx, decL_map unS1_cs, h]
theorem idx_tab : ∀ vs v, Tidx vs = some v → PCall Try.prog 91 vs v := by
  intro vs v h; unfold Tidx at h; split at h
  · split at h
    · rename_i h1
      split at h
      · rename_i hl; cases h; rw [decL_inv unS1_inv _ _ h1]; exact rindex_ok _ _ hl
      · cases h
    · cases h
  · cases h
def E1 : Tab := add 73 Tname (add 91 Tidx (D5))
theorem E1_at (f : FuncId) (vs : List V) : E1.at' f vs = if f = 73 then Tname vs else if f = 91 then Tidx vs else D5.at' f vs := rfl
theorem E1_fr (f : FuncId) : E1.fr f = if f = 73 then false else if f = 91 then false else D5.fr f := rfl
theorem E1_gb (f : FuncId) : E1.gb f = D5.gb f := rfl
theorem E1_gv (f : FuncId) (vs : List V) : E1.gv f vs = D5.gv f vs := rfl
attribute [simp] E1_at E1_fr E1_gb E1_gv Tidx Tname
theorem E1_ok : TabOK Try.prog E1 := by
  refine add_ok (add_ok (D5_ok) (by kernel_rfl) ?_) (by kernel_rfl) ?_
  · exact idx_tab
  · intro vs v h; unfold Tname at h; split at h
    · cases h; apply rname_ok
    · cases h
attribute [-simp] Tidx
attribute [simp] Tidx_at
theorem rnamed_ok (L : List ByteArray) (s : ByteArray) (hl : L.length ≤ 1000) : PCall Try.prog 74 [.list 1 (L.map s1), .str s] (.int .i64 (nmE s (dupF L s))) := by
  have hi := idx_neg s L 0
  obtain ⟨x, hx⟩ : ∃ x, idxA L s 0 = x := ⟨_, rfl⟩
  rw [hx] at hi
  cases h1 : nameF s <;> cases h2 : dupF L s
  all_goals rw [h2] at hi
  all_goals simp only [Bool.not_true, Bool.not_false] at hi
  all_goals
    refine pcall_cx E1_ok mixed (fun _ => none) Try.func74 rfl Try.ntmps74 Try.results74 (by simp) (by kernel_rfl) ?_
  all_goals
    repeat' first
      | (with_reducible refine gw_bool (fun _ => ?_) (fun _ => ?_))
      | (with_reducible refine condw_bool (fun _ => ?_) (fun _ => ?_))
      | simp [*, nmE]
/-! ### ranges -/
theorem rbetween_ok (n lo hi : Int) : PCall Try.prog 92 [.int .i64 n, .int .i64 lo, .int .i64 hi] (.bool (withinF n lo hi)) := by
  refine pcall_cx noTab_ok mixed (fun _ => none) Try.func92 rfl Try.ntmps92 Try.results92 (by simp) (by kernel_rfl) ?_
  repeat' first
    | (with_reducible refine gw_bool (fun _ => ?_) (fun _ => ?_))
    | (with_reducible refine condw_bool (fun _ => ?_) (fun _ => ?_))
    | simp [*, withinF]
def E2 : Tab := add 92 Twithin (E1)
theorem E2_at (f : FuncId) (vs : List V) : E2.at' f vs = if f = 92 then Twithin vs else E1.at' f vs := rfl
theorem E2_fr (f : FuncId) : E2.fr f = if f = 92 then false else E1.fr f := rfl
theorem E2_gb (f : FuncId) : E2.gb f = E1.gb f := rfl
theorem E2_gv (f : FuncId) (vs : List V) : E2.gv f vs = E1.gv f vs := rfl
attribute [simp] E2_at E2_fr E2_gb E2_gv Twithin
theorem E2_ok : TabOK Try.prog E2 := by
  refine add_ok (E1_ok) (by kernel_rfl) ?_
  · intro vs v h; unfold Twithin at h; split at h
    · cases h; apply rbetween_ok
    · cases h
theorem rohms_ok (r x : Int) : PCall Try.prog 76 [.agg [.int .i64 r, .int .i64 x]] (.bool (impF r x)) := by
  refine pcall_cx E2_ok mixed (fun _ => none) Try.func76 rfl Try.ntmps76 Try.results76 (by simp) (by kernel_rfl) ?_
  repeat' first
    | (with_reducible refine gw_bool (fun _ => ?_) (fun _ => ?_))
    | (with_reducible refine condw_bool (fun _ => ?_) (fun _ => ?_))
    | simp [*, impF]
def E3 : Tab := add 76 Timp (E2)
theorem E3_at (f : FuncId) (vs : List V) : E3.at' f vs = if f = 76 then Timp vs else E2.at' f vs := rfl
theorem E3_fr (f : FuncId) : E3.fr f = if f = 76 then false else E2.fr f := rfl
theorem E3_gb (f : FuncId) : E3.gb f = E2.gb f := rfl
theorem E3_gv (f : FuncId) (vs : List V) : E3.gv f vs = E2.gv f vs := rfl
attribute [simp] E3_at E3_fr E3_gb E3_gv Timp
theorem E3_ok : TabOK Try.prog E3 := by
  refine add_ok (E2_ok) (by kernel_rfl) ?_
  · intro vs v h; unfold Timp at h; split at h
    · cases h; apply rohms_ok
    · cases h
def srcF (l : Sr) : Bool := withinF l.emf 1 1000000 && impF l.r1 l.x1 && impF l.r0 l.x0
theorem rsource_ok (l : Sr) : PCall Try.prog 77 [.agg l.cs] (.bool (srcF l)) := by
  cases h3 : withinF l.emf 1 1000000 <;> cases h1 : impF l.r1 l.x1 <;> cases h2 : impF l.r0 l.x0
  all_goals
    refine pcall_cx E3_ok mixed (fun _ => none) Try.func77 rfl Try.ntmps77 Try.results77 (by simp) (by kernel_rfl) ?_
  all_goals
    repeat' first
      | (with_reducible refine gw_bool (fun _ => ?_) (fun _ => ?_))
      | (with_reducible refine condw_bool (fun _ => ?_) (fun _ => ?_))
      | simp [*, srcF, Sr.cs]
/-! ### all names -/
def nms (s : Stn) (b l g q : Nat) : List ByteArray := s.bs.take b ++ (s.ls.take l).map Ln.nm ++ (s.ss.take g).map Sr.nm ++ (s.qs.take q).map By.nm
def nmsOk (s : Stn) (b l g q : Nat) : Bool := decide (b ≤ s.bs.length) && (decide (l ≤ s.ls.length) && (decide (g ≤ s.ss.length) && (decide (q ≤ s.qs.length) && (decide (s.bs.length ≤ 100) && (decide (s.ls.length ≤ 100) && (decide (s.ss.length ≤ 100) && decide (s.qs.length ≤ 100)))))))
theorem rnames_ok (s : Stn) (b l g q : Nat) (hok : nmsOk s b l g q = true) : PCall Try.prog 75 [.agg s.cs, .int .i64 b, .int .i64 l, .int .i64 g, .int .i64 q] (.list 1 ((nms s b l g q).map s1)) := by
  simp only [nmsOk, Bool.and_eq_true, decide_eq_true_eq] at hok
  obtain ⟨h1, h2, h3, h4, h5, h6, h7, h8⟩ := hok
  obtain ⟨nb, hnb⟩ : ∃ n, s.bs.length = n := ⟨_, rfl⟩
  obtain ⟨nl, hnl⟩ : ∃ n, s.ls.length = n := ⟨_, rfl⟩
  obtain ⟨ns, hns⟩ : ∃ n, s.ss.length = n := ⟨_, rfl⟩
  obtain ⟨nq, hnq⟩ : ∃ n, s.qs.length = n := ⟨_, rfl⟩
  have hch := chunks_s1 (nms s b l g q)
  have hpu := pure_s1 (nms s b l g q)
  obtain ⟨R, hR⟩ : ∃ R, nms s b l g q = R := ⟨_, rfl⟩
  rw [hR] at hch hpu ⊢
  replace hR : Hid (nms s b l g q = R) := hR
  have hsl : (bif decide (0 = b) then V.list 1 [] else V.list 1 (List.take b (List.map s1 s.bs))) = V.list 1 ((s.bs.take b).map s1) := by
    by_cases h0 : 0 = b
    · subst h0; simp
    · simp [h0, List.map_take]
  have hN0 : s.bs.take b = nms s b 0 0 0 := by simp [nms]
  rw [hN0] at hsl
  have hfl := flat_s1 (nms s b 0 0 0)
  have hon : ((nms s b 0 0 0).map V.str).all oneV = true := by simp [oneV]
  have hB : (nms s b 0 0 0).length = b := by simp [nms]; omega
  have hbl : b ≤ nb := by omega
  have hlen : ∀ b l g q, nmsOk s b l g q = true → (nms s b l g q).length ≤ 400 := fun b l g q hh => by
    simp only [nmsOk, Bool.and_eq_true, decide_eq_true_eq] at hh
    simp only [nms, List.length_append, List.length_map, List.length_take]; omega
  have hl1 : ∀ i, i ≤ l → (nms s b i 0 0).length ≤ 400 := fun i hi => hlen _ _ _ _ (by simp only [nmsOk, Bool.and_eq_true, decide_eq_true_eq]; omega)
  have hl2 : ∀ i, i ≤ g → (nms s b l i 0).length ≤ 400 := fun i hi => hlen _ _ _ _ (by simp only [nmsOk, Bool.and_eq_true, decide_eq_true_eq]; omega)
  have hl3 : ∀ i, i ≤ q → (nms s b l g i).length ≤ 400 := fun i hi => hlen _ _ _ _ (by simp only [nmsOk, Bool.and_eq_true, decide_eq_true_eq]; omega)
  replace hl1 : Hid (∀ i, i ≤ l → (nms s b i 0 0).length ≤ 400) := hl1
  replace hl2 : Hid (∀ i, i ≤ g → (nms s b l i 0).length ≤ 400) := hl2
  replace hl3 : Hid (∀ i, i ≤ q → (nms s b l g i).length ≤ 400) := hl3
  have f5 : b * 16 ≤ 140737488355328 := by omega
  have f6 : b ≤ 9223372036854775807 := by omega
  clear hlen
  rw [hnl] at h2
  rw [hns] at h3
  rw [hnq] at h4
  clear hN0
  generalize hN : nms s b 0 0 0 = N0 at hsl hfl hon hB
  replace hN : Hid (nms s b 0 0 0 = N0) := hN
  refine pcall_cx E3_ok mixed (fun _ => none) Try.func75 rfl Try.ntmps75 Try.results75 (by simp) (by kernel_rfl) ?_
  repeat' first
    | (with_reducible refine gw_bool (fun _ => ?_) (fun _ => ?_))
    | (with_reducible refine condw_bool (fun _ => ?_) (fun _ => ?_))
    | simp [*, Stn.cs, appendV, srcCells, St.forget, scr, scrC]
  refine lp_go (D := (fun _ => none)) E3_ok mixed (by kernel_rfl) [2, 3, 4, 5] [5, 20, 33, 34, 47, 48, 61, 62] (α := Nat) (fun i e h => i ≤ l ∧ e 12 = .int .i64 i ∧ e 11 = .sl 15 0 (nms s b i 0 0).length 1 ∧ h 15 = some ⟨9, (nms s b i 0 0).map V.str⟩) (fun i => l - i) 0 ?_ ?_
  · refine ⟨by omega, by simp, ?_, ?_⟩
    · rw [hN.out]; simp [hB]
    · rw [hN.out]; simp
  clear hN hsl hfl hon hB f5 f6
  rintro i e h hk hkh ⟨hi, g7, gs, gh⟩
  simp [Keep] at hk
  simp [KeepH] at hkh
  by_cases hlt : i < l
  · obtain ⟨x, hx, hx'⟩ := at_ex (l := s.ls) (i := i) (by omega)
    have f1 : ilt (i : Int) (l : Int) = true := ilt_t (by omega)
    have w1 : IntKind.i64.wrap ((i : Int) + 1) = ((i + 1 : Nat) : Int) := wrap_succ (by omega)
    have hst : Hid (nms s b (i + 1) 0 0 = nms s b i 0 0 ++ [x.nm]) := show _ = _ by simp [nms, take_snoc hx]
    have hcl := hl1.out i hi
    generalize nms s b i 0 0 = C at gs gh hst hcl
    have g5 : (C.length + 1) * 16 ≤ 140737488355328 := by omega
    have g6 : C.length + 1 ≤ 9223372036854775807 := by omega
    clear hR hch hpu
    repeat' first
      | (with_reducible refine gw_bool (fun _ => ?_) (fun _ => ?_))
      | (with_reducible refine condw_bool (fun _ => ?_) (fun _ => ?_))
      | simp [*, Ln.cs, appendV, srcCells, St.forget, scr, scrC]
    refine nxt_go (i + 1) ((View.forget _ _ 33)) (by omega) (by simp [*, Keep, St.forget, scr, scrC]) (by simp [*, KeepH, St.forget, scr, scrC]) ?_
    refine ⟨by omega, by simp [*, St.forget, scr, scrC], ?_, ?_⟩
    · rw [hst.out]; simp [*, St.forget, scr, scrC]
    · rw [hst.out]; simp [*, St.forget, scr, scrC]
  have f1 : ilt (i : Int) (l : Int) = false := ilt_f (by omega)
  have e1 : i = l := by omega
  subst e1
  clear hlt hi
  repeat' first
    | (with_reducible refine gw_bool (fun _ => ?_) (fun _ => ?_))
    | (with_reducible refine condw_bool (fun _ => ?_) (fun _ => ?_))
    | simp [*]
  refine lp_go (D := (fun _ => none)) E3_ok mixed (by kernel_rfl) [3, 4, 5] [5, 20, 33, 34, 47, 48, 61, 62] (α := Nat) (fun j e h => j ≤ g ∧ e 13 = .int .i64 j ∧ e 11 = .sl 15 0 (nms s b i j 0).length 1 ∧ h 15 = some ⟨9, (nms s b i j 0).map V.str⟩) (fun j => g - j) 0 ?_ ?_
  · refine ⟨by omega, by simp, by simp [*], by simp [*]⟩
  have hk0 := hk
  have hkh0 := hkh
  clear hk hkh g7 gs gh
  rintro j e h hk hkh ⟨hj, g7, gs, gh⟩
  simp [Keep, hk0, hkh0] at hk
  simp [KeepH, hk0, hkh0] at hkh
  by_cases hlt : j < g
  · obtain ⟨x, hx, hx'⟩ := at_ex (l := s.ss) (i := j) (by omega)
    have f1 : ilt (j : Int) (g : Int) = true := ilt_t (by omega)
    have w1 : IntKind.i64.wrap ((j : Int) + 1) = ((j + 1 : Nat) : Int) := wrap_succ (by omega)
    have hst : Hid (nms s b i (j + 1) 0 = nms s b i j 0 ++ [x.nm]) := show _ = _ by simp [nms, take_snoc hx]
    have hcl := hl2.out j hj
    generalize nms s b i j 0 = C at gs gh hst hcl
    have g5 : (C.length + 1) * 16 ≤ 140737488355328 := by omega
    have g6 : C.length + 1 ≤ 9223372036854775807 := by omega
    clear hR hch hpu
    repeat' first
      | (with_reducible refine gw_bool (fun _ => ?_) (fun _ => ?_))
      | (with_reducible refine condw_bool (fun _ => ?_) (fun _ => ?_))
      | simp [*, Sr.cs, appendV, srcCells, St.forget, scr, scrC]
    refine nxt_go (j + 1) ((View.forget _ _ 47)) (by omega) (by simp [*, Keep, St.forget, scr, scrC]) (by simp [*, KeepH, St.forget, scr, scrC]) ?_
    refine ⟨by omega, by simp [*, St.forget, scr, scrC], ?_, ?_⟩
    · rw [hst.out]; simp [*, St.forget, scr, scrC]
    · rw [hst.out]; simp [*, St.forget, scr, scrC]
  have f2 : ilt (j : Int) (g : Int) = false := ilt_f (by omega)
  have e2 : j = g := by omega
  subst e2
  clear hlt hj
  repeat' first
    | (with_reducible refine gw_bool (fun _ => ?_) (fun _ => ?_))
    | (with_reducible refine condw_bool (fun _ => ?_) (fun _ => ?_))
    | simp [*]
  refine lp_go (D := (fun _ => none)) E3_ok mixed (by kernel_rfl) [4, 5] [5, 20, 33, 34, 47, 48, 61, 62] (α := Nat) (fun k e h => k ≤ q ∧ e 14 = .int .i64 k ∧ e 11 = .sl 15 0 (nms s b i j k).length 1 ∧ h 15 = some ⟨9, (nms s b i j k).map V.str⟩) (fun k => q - k) 0 ?_ ?_
  · refine ⟨by omega, by simp, by simp [*], by simp [*]⟩
  have hk1 := hk
  have hkh1 := hkh
  clear hk hkh g7 gs gh hk0 hkh0
  rintro k e h hk hkh ⟨hk2, g7, gs, gh⟩
  simp [Keep, hk1, hkh1] at hk
  simp [KeepH, hk1, hkh1] at hkh
  by_cases hlt : k < q
  · obtain ⟨x, hx, hx'⟩ := at_ex (l := s.qs) (i := k) (by omega)
    have f1 : ilt (k : Int) (q : Int) = true := ilt_t (by omega)
    have w1 : IntKind.i64.wrap ((k : Int) + 1) = ((k + 1 : Nat) : Int) := wrap_succ (by omega)
    have hst : Hid (nms s b i j (k + 1) = nms s b i j k ++ [x.nm]) := show _ = _ by simp [nms, take_snoc hx]
    have hcl := hl3.out k hk2
    generalize nms s b i j k = C at gs gh hst hcl
    have g5 : (C.length + 1) * 16 ≤ 140737488355328 := by omega
    have g6 : C.length + 1 ≤ 9223372036854775807 := by omega
    clear hR hch hpu
    repeat' first
      | (with_reducible refine gw_bool (fun _ => ?_) (fun _ => ?_))
      | (with_reducible refine condw_bool (fun _ => ?_) (fun _ => ?_))
      | simp [*, By.cs, appendV, srcCells, St.forget, scr, scrC]
    refine nxt_go (k + 1) ((View.forget _ _ 61)) (by omega) (by simp [*, Keep, St.forget, scr, scrC]) (by simp [*, KeepH, St.forget, scr, scrC]) ?_
    refine ⟨by omega, by simp [*, St.forget, scr, scrC], ?_, ?_⟩
    · rw [hst.out]; simp [*, St.forget, scr, scrC]
    · rw [hst.out]; simp [*, St.forget, scr, scrC]
  have f3 : ilt (k : Int) (q : Int) = false := ilt_f (by omega)
  have e3 : k = q := by omega
  subst e3
  rw [hR.out] at gs gh
  clear hR hlt hk2
  repeat' first
    | (with_reducible refine gw_bool (fun _ => ?_) (fun _ => ?_))
    | (with_reducible refine condw_bool (fun _ => ?_) (fun _ => ?_))
    | simp [*]
def Tnms : List V → Option V
  | [.agg a, .int .i64 b, .int .i64 l, .int .i64 g, .int .i64 q] => (match unStn a with
    | some s => if 0 ≤ b ∧ 0 ≤ l ∧ 0 ≤ g ∧ 0 ≤ q ∧ nmsOk s b.toNat l.toNat g.toNat q.toNat = true then some (.list 1 ((nms s b.toNat l.toNat g.toNat q.toNat).map s1)) else none
    | none => none)
  | _ => none
theorem Tnms_at {s : Stn} {b l g q : Nat} (h : nmsOk s b l g q = true) : Tnms [.agg [.str s.nm, .list 1 (s.bs.map s1), .list 5 (s.ls.map Ln.cs), .list 6 (s.ss.map Sr.cs), .list 12 (s.qs.map By.cs)], .int .i64 b, .int .i64 l, .int .i64 g, .int .i64 q] = some (.list 1 ((nms s b l g q).map s1)) := by
  have e1 := unStn_cs s
  unfold Stn.cs at e1
  simp only [Tnms, e1]
  exact if_pos ⟨by omega, by omega, by omega, by omega, h⟩
theorem nms_tab : ∀ vs v, Tnms vs = some v → PCall Try.prog 75 vs v := by
  intro vs v h; unfold Tnms at h; split at h
  · split at h
    · rename_i h1
      split at h
      · rename_i hl; cases h; rw [unStn_inv _ _ h1]
        obtain ⟨p1, p2, p3, p4, p5⟩ := hl
        have := rnames_ok _ _ _ _ _ p5
        rwa [Int.toNat_of_nonneg p1, Int.toNat_of_nonneg p2, Int.toNat_of_nonneg p3, Int.toNat_of_nonneg p4] at this
      · cases h
    · cases h
  · cases h
def Tnmd : List V → Option V
  | [.list 1 x, .str s] => (match decL unS1 x with
    | some L => if L.length ≤ 1000 then some (.int .i64 (nmE s (dupF L s))) else none
    | none => none)
  | _ => none
theorem Tnmd_at {L : List ByteArray} {s : ByteArray} (h : L.length ≤ 1000) : Tnmd [.list 1 (L.map s1), .str s] = some (.int .i64 (nmE s (dupF L s))) := by simp [Tnmd, decL_map unS1_cs, h]
theorem nmd_tab : ∀ vs v, Tnmd vs = some v → PCall Try.prog 74 vs v := by
  intro vs v h; unfold Tnmd at h; split at h
  · split at h
    · rename_i h1
      split at h
      · rename_i hl; cases h; rw [decL_inv unS1_inv _ _ h1]; exact rnamed_ok _ _ hl
      · cases h
    · cases h
  · cases h
def Tsrc : List V → Option V
  | [.agg a] => (unSr a).map fun l => .bool (srcF l)
  | _ => none
theorem src_tab : ∀ vs v, Tsrc vs = some v → PCall Try.prog 77 vs v := by
  intro vs v h; unfold Tsrc at h; split at h
  · simp only [Option.map_eq_some_iff] at h
    obtain ⟨b, hb, rfl⟩ := h
    rw [unSr_inv _ _ hb]
    exact rsource_ok _
  · cases h
def E4 : Tab := add 75 Tnms (add 74 Tnmd (add 77 Tsrc (E3)))
theorem E4_at (f : FuncId) (vs : List V) : E4.at' f vs = if f = 75 then Tnms vs else if f = 74 then Tnmd vs else if f = 77 then Tsrc vs else E3.at' f vs := rfl
theorem E4_fr (f : FuncId) : E4.fr f = if f = 75 then false else if f = 74 then false else if f = 77 then false else E3.fr f := rfl
theorem E4_gb (f : FuncId) : E4.gb f = E3.gb f := rfl
theorem E4_gv (f : FuncId) (vs : List V) : E4.gv f vs = E3.gv f vs := rfl
attribute [simp] E4_at E4_fr E4_gb E4_gv Tnmd Tnms Tsrc
theorem E4_ok : TabOK Try.prog E4 := by
  refine add_ok (add_ok (add_ok (E3_ok) (by kernel_rfl) ?_) (by kernel_rfl) ?_) (by kernel_rfl) ?_
  · exact src_tab
  · exact nmd_tab
  · exact nms_tab
attribute [-simp] Tnms Tnmd
attribute [simp] Tnms_at Tnmd_at
end Go.Proofs.Ytjhmphkdkclbjaa
end
section
namespace Go.Proofs.Ytjhmphkdkclbjaa
open Go.Pv Go.RowKit
set_option linter.unusedSimpArgs false
set_option linter.unusedVariables false
set_option maxRecDepth 100000
set_option maxHeartbeats 4000000
attribute [-simp] Tclo_at Tgrp_at Tchk Tpchk TcI TcB Tclo Tgrp Tsid Tnod Tlook Tbnd Tidx Tnms Tnmd

theorem ieq_comm (a b : Int) : ieq a b = ieq b a := BEq.comm
theorem win_cnt {ob : Int} {n : Nat} (hn : n ≤ 1000) : withinF ob 0 (IntKind.i64.wrap ((n : Int) - 1)) = (!ilt ob 0 && ilt ob n) := by
  have hw : IntKind.i64.wrap ((n : Int) - 1) = (n : Int) - 1 := wrap_id (by omega) (by omega)
  rw [hw, withinF]
  congr 1
  cases h : ilt ob n
  · have := ilt_iff'.1 h
    rw [ilt_t (by omega)]; rfl
  · have := ilt_iff.1 h
    rw [ilt_f (by omega)]; rfl
theorem win_zero (n : Int) : withinF n 0 0 = ieq n 0 := by
  unfold withinF
  cases h : ieq n 0
  · have := ieq_iff'.1 h
    rcases Int.lt_or_gt_of_ne this with h1 | h1
    · rw [ilt_t h1]; rfl
    · rw [ilt_t (show (0 : Int) < n from h1)]; simp
  · have := ieq_iff.1 h
    subst this; rfl
def objE (nl ns : Int) (b : By) : Int := match cntF nl ns b.kind with
  | none => 10
  | some c => if withinF b.ob 0 (IntKind.i64.wrap (c - 1)) = true then 0 else 9
theorem robject_ok (s : Stn) (b : By) (h1 : s.ls.length ≤ 1000) (h2 : s.ss.length ≤ 1000) : PCall Try.prog 93 [.agg s.cs, .agg b.cs] (.int .i64 (objE s.ls.length s.ss.length b)) := by
  obtain ⟨nl, hnl⟩ : ∃ n, s.ls.length = n := ⟨_, rfl⟩
  obtain ⟨ns, hns⟩ : ∃ n, s.ss.length = n := ⟨_, rfl⟩
  rw [hnl] at h1
  rw [hns] at h2
  rw [hnl, hns]
  cases k1 : ieq b.kind 1
  · cases k2 : ieq b.kind 2
    · cases k3 : ieq b.kind 3
      · have her : objE nl ns b = 10 := by simp [objE, cntF, k1, k2, k3]
        rw [her]
        refine pcall_cx E4_ok mixed (fun _ => none) Try.func93 rfl Try.ntmps93 Try.results93 (by simp) (by kernel_rfl) ?_
        repeat' first
          | (with_reducible refine gw_bool (fun _ => ?_) (fun _ => ?_))
          | (with_reducible refine condw_bool (fun _ => ?_) (fun _ => ?_))
          | simp [*, Stn.cs, By.cs]
      · have hw : withinF b.ob 0 (IntKind.i64.wrap (1 - 1)) = ieq b.ob 0 := win_zero _
        cases c : ieq b.ob 0
        · have her : objE nl ns b = 9 := by rw [c] at hw; simp [objE, cntF, k1, k2, k3]; simpa using hw
          rw [her]
          refine pcall_cx E4_ok mixed (fun _ => none) Try.func93 rfl Try.ntmps93 Try.results93 (by simp) (by kernel_rfl) ?_
          repeat' first
            | (with_reducible refine gw_bool (fun _ => ?_) (fun _ => ?_))
            | (with_reducible refine condw_bool (fun _ => ?_) (fun _ => ?_))
            | simp [*, Stn.cs, By.cs]
        · have her : objE nl ns b = 0 := by rw [c] at hw; simp [objE, cntF, k1, k2, k3]; simpa using hw
          rw [her]
          refine pcall_cx E4_ok mixed (fun _ => none) Try.func93 rfl Try.ntmps93 Try.results93 (by simp) (by kernel_rfl) ?_
          repeat' first
            | (with_reducible refine gw_bool (fun _ => ?_) (fun _ => ?_))
            | (with_reducible refine condw_bool (fun _ => ?_) (fun _ => ?_))
            | simp [*, Stn.cs, By.cs]
    · have hw := win_cnt (ob := b.ob) h2
      cases c1 : ilt b.ob 0 <;> cases c2 : ilt b.ob ns
      all_goals rw [c1, c2] at hw
      all_goals
        have her : objE nl ns b = (if withinF b.ob 0 (IntKind.i64.wrap ((ns : Int) - 1)) = true then 0 else 9) := by simp [objE, cntF, k1, k2]
      all_goals rw [her, hw]
      all_goals
        refine pcall_cx E4_ok mixed (fun _ => none) Try.func93 rfl Try.ntmps93 Try.results93 (by simp) (by kernel_rfl) ?_
      all_goals
        repeat' first
          | (with_reducible refine gw_bool (fun _ => ?_) (fun _ => ?_))
          | (with_reducible refine condw_bool (fun _ => ?_) (fun _ => ?_))
          | simp [*, Stn.cs, By.cs]
  · have hw := win_cnt (ob := b.ob) h1
    cases c1 : ilt b.ob 0 <;> cases c2 : ilt b.ob nl
    all_goals rw [c1, c2] at hw
    all_goals
      have her : objE nl ns b = (if withinF b.ob 0 (IntKind.i64.wrap ((nl : Int) - 1)) = true then 0 else 9) := by simp [objE, cntF, k1]
    all_goals rw [her, hw]
    all_goals
      refine pcall_cx E4_ok mixed (fun _ => none) Try.func93 rfl Try.ntmps93 Try.results93 (by simp) (by kernel_rfl) ?_
    all_goals
      repeat' first
        | (with_reducible refine gw_bool (fun _ => ?_) (fun _ => ?_))
        | (with_reducible refine condw_bool (fun _ => ?_) (fun _ => ?_))
        | simp [*, Stn.cs, By.cs]
theorem rranges_ok (b : By) : PCall Try.prog 94 [.agg b.cs] (.bool (rngF b)) := by
  have hz := win_zero b.en
  cases k3 : ieq b.kind 3
  · cases k1 : ieq b.kind 1
    · cases c1 : ieq b.en 0 <;> cases c2 : ieq b.zr 0 <;> cases c3 : ieq b.zx 0 <;> cases c4 : withinF b.vt 1 10000
      all_goals
        refine pcall_cx E4_ok mixed (fun _ => none) Try.func94 rfl Try.ntmps94 Try.results94 (by simp) (by kernel_rfl) ?_
      all_goals
        repeat' first
          | (with_reducible refine gw_bool (fun _ => ?_) (fun _ => ?_))
          | (with_reducible refine condw_bool (fun _ => ?_) (fun _ => ?_))
          | simp [*, rngF, By.cs]
    · cases c1 : withinF b.en 0 1 <;> cases c2 : ieq b.zr 0 <;> cases c3 : ieq b.zx 0 <;> cases c4 : withinF b.vt 1 10000
      all_goals
        refine pcall_cx E4_ok mixed (fun _ => none) Try.func94 rfl Try.ntmps94 Try.results94 (by simp) (by kernel_rfl) ?_
      all_goals
        repeat' first
          | (with_reducible refine gw_bool (fun _ => ?_) (fun _ => ?_))
          | (with_reducible refine condw_bool (fun _ => ?_) (fun _ => ?_))
          | simp [*, rngF, By.cs]
  · have k1 : ieq b.kind 1 = false := by
      have : b.kind = 3 := ieq_iff.1 k3
      rw [this]; decide
    cases c1 : ieq b.en 0 <;> cases c2 : impF b.zr b.zx <;> cases c4 : ieq b.vt 0
    all_goals
      refine pcall_cx E4_ok mixed (fun _ => none) Try.func94 rfl Try.ntmps94 Try.results94 (by simp) (by kernel_rfl) ?_
    all_goals
      repeat' first
        | (with_reducible refine gw_bool (fun _ => ?_) (fun _ => ?_))
        | (with_reducible refine condw_bool (fun _ => ?_) (fun _ => ?_))
        | simp [*, rngF, By.cs]
/-! ### links -/
def pvB (lks : List Lk) : Nat → Int
  | 0 => 0
  | i + 1 => match lks[i]? with
    | some y => y.bus
    | none => 0
def lkAt (nb kind : Int) (lks : List Lk) (i : Nat) : Int := match lks[i]? with
  | some x => lkE nb kind (i == 0) (pvB lks i) x
  | none => 0
theorem lksE_first (nb kind : Int) (lks : List Lk) : lksE nb kind lks = if lks.length < 1 ∨ lks.length > 2 ∨ (ieq kind 3 = true ∧ lks.length ≠ 2) then 3 else firstN (lkAt nb kind lks) lks.length := by
  match lks with
  | [] => simp [lksE]
  | [a] =>
    cases h : ieq kind 3
    · simp [lksE, h, firstN, lkAt, pvB]
    · simp [lksE, h]
  | [a, b] =>
    simp only [lksE, firstN, lkAt, pvB, List.length_cons, List.length_nil]
    simp [ieq]
  | _ :: _ :: _ :: _ => simp [lksE]
theorem rlinks_ok (s : Stn) (b : By) (hb : s.bs.length ≤ 1000) (hlm : b.lks.length ≤ 9223372036854775807) : PCall Try.prog 95 [.agg s.cs, .agg b.cs] (.int .i64 (lksE s.bs.length b.kind b.lks)) := by
  rw [lksE_first]
  obtain ⟨nb, hnb⟩ : ∃ n, s.bs.length = n := ⟨_, rfl⟩
  rw [hnb] at hb ⊢
  obtain ⟨n, hn⟩ : ∃ n, b.lks.length = n := ⟨_, rfl⟩
  rw [hn] at hlm ⊢
  cases g1 : ilt (n : Int) 1
  case true =>
    rw [if_pos (by have := ilt_iff.1 g1; omega)]
    refine pcall_cx E4_ok mixed (fun _ => none) Try.func95 rfl Try.ntmps95 Try.results95 (by simp) (by kernel_rfl) ?_
    repeat' first
      | (with_reducible refine gw_bool (fun _ => ?_) (fun _ => ?_))
      | (with_reducible refine condw_bool (fun _ => ?_) (fun _ => ?_))
      | simp [*, Stn.cs, By.cs]
  cases g2 : ilt 2 (n : Int)
  case true =>
    rw [if_pos (by have := ilt_iff.1 g2; omega)]
    refine pcall_cx E4_ok mixed (fun _ => none) Try.func95 rfl Try.ntmps95 Try.results95 (by simp) (by kernel_rfl) ?_
    repeat' first
      | (with_reducible refine gw_bool (fun _ => ?_) (fun _ => ?_))
      | (with_reducible refine condw_bool (fun _ => ?_) (fun _ => ?_))
      | simp [*, Stn.cs, By.cs]
  have hn1 : 1 ≤ n := by have := ilt_iff'.1 g1; omega
  have hn2 : n ≤ 2 := by have := ilt_iff'.1 g2; omega
  have main : (ieq b.kind 3 = true → n = 2) → PCall Try.prog 95 [.agg s.cs, .agg b.cs] (.int .i64 (firstN (lkAt nb b.kind b.lks) n)) := by
    intro hk2
    have hstop : ∀ i, i < n → firstN (lkAt nb b.kind b.lks) i = 0 → lkAt nb b.kind b.lks i ≠ 0 → firstN (lkAt nb b.kind b.lks) n = lkAt nb b.kind b.lks i := fun i hi h0 h1 => firstN_stop h0 h1 hi
    obtain ⟨R, hR⟩ : ∃ R, firstN (lkAt nb b.kind b.lks) n = R := ⟨_, rfl⟩
    rw [hR] at hstop ⊢
    replace hstop : Hid (∀ i, i < n → firstN (lkAt nb b.kind b.lks) i = 0 → lkAt nb b.kind b.lks i ≠ 0 → R = lkAt nb b.kind b.lks i) := hstop
    replace hR : Hid (firstN (lkAt nb b.kind b.lks) n = R) := hR
    have hc3 : (ieq b.kind 3 && !ieq (n : Int) 2) = false := by
      cases h : ieq b.kind 3
      · rfl
      · rw [hk2 h]; rfl
    cases k3 : ieq b.kind 3
    all_goals rw [k3] at hc3
    all_goals clear hk2
    all_goals first
      | (have hq2 : ieq (n : Int) 2 = true := by simpa using hc3)
      | skip
    all_goals clear hc3
    all_goals
      refine pcall_cx E4_ok mixed (fun _ => none) Try.func95 rfl Try.ntmps95 Try.results95 (by simp) (by kernel_rfl) ?_
    all_goals
      repeat' first
        | (with_reducible refine gw_bool (fun _ => ?_) (fun _ => ?_))
        | (with_reducible refine condw_bool (fun _ => ?_) (fun _ => ?_))
        | simp [*, Stn.cs, By.cs]
    all_goals refine lp_go (D := (fun _ => none)) E4_ok mixed (by kernel_rfl) [2, 3, 5] [2, 3] (α := Nat) (fun i e h => i ≤ n ∧ e 6 = .int .i64 i ∧ h 7 = none ∧ Hid (firstN (lkAt nb b.kind b.lks) i = 0)) (fun i => n - i) 0 ?_ ?_
    all_goals first
      | exact ⟨by omega, by simp, by simp, rfl⟩
      | skip
    all_goals
      rintro i e h hk hkh ⟨hi, g7, gh, hinv⟩
      simp [Keep] at hk
      simp [KeepH] at hkh
      by_cases hlt : i < n
      · obtain ⟨x, hx, hx'⟩ := at_ex (l := b.lks) (i := i) (by omega)
        have f1 : ilt (i : Int) (n : Int) = true := ilt_t (by omega)
        have w1 : IntKind.i64.wrap ((i : Int) + 1) = ((i + 1 : Nat) : Int) := wrap_succ (by omega)
        have hst := hstop.out i hlt hinv.out
        have hnx : lkAt nb b.kind b.lks i = 0 → firstN (lkAt nb b.kind b.lks) (i + 1) = 0 := fun h0 => by simp [firstN, hinv.out, h0]
        have her : lkAt nb b.kind b.lks i = lkE nb b.kind (i == 0) (pvB b.lks i) x := by simp [lkAt, hx]
        have hwn := win_cnt (ob := x.bus) hb
        obtain ⟨y, hy, hy', hpv⟩ : ∃ y : Int, (i = 0 ∨ ∃ z : Lk, b.lks[i - 1]? = some z ∧ z.bus = y) ∧ True ∧ pvB b.lks i = y := by
          cases i with
          | zero => exact ⟨_, .inl rfl, trivial, rfl⟩
          | succ k =>
            obtain ⟨z, hz, _⟩ := at_ex (l := b.lks) (i := k) (by omega)
            exact ⟨z.bus, .inr ⟨z, by simpa using hz, rfl⟩, trivial, by simp [pvB, hz]⟩
        clear hR hstop hinv hy'
        rw [hpv] at her
        clear hpv
        have hic := ieq_comm y x.bus
        have fin : ∀ c : Int, lkE nb b.kind (i == 0) y x = c → c ≠ 0 → R = c := fun c h0 h1 => by rw [hst (by rw [her, h0]; exact h1), her, h0]
        have nxt : lkE nb b.kind (i == 0) y x = 0 → Hid (firstN (lkAt nb b.kind b.lks) (i + 1) = 0) := fun h0 => hnx (by rw [her, h0])
        clear hst hnx her
        cases c1 : ilt x.bus 0
        case true =>
          rw [c1] at hwn
          have hRc := fin 9 (by simp [lkE, hwn]) (by decide)
          clear fin nxt hy hic
          subst hRc
          repeat' first
            | (with_reducible refine gw_bool (fun _ => ?_) (fun _ => ?_))
            | (with_reducible refine condw_bool (fun _ => ?_) (fun _ => ?_))
            | simp [*, Lk.cs]
        cases c2 : ilt x.bus nb
        case false =>
          rw [c1, c2] at hwn
          have hRc := fin 9 (by simp [lkE, hwn]) (by decide)
          clear fin nxt hy hic
          subst hRc
          repeat' first
            | (with_reducible refine gw_bool (fun _ => ?_) (fun _ => ?_))
            | (with_reducible refine condw_bool (fun _ => ?_) (fun _ => ?_))
            | simp [*, Lk.cs]
        rw [c1, c2] at hwn
        cases p1 : ieq x.pos 1 <;> cases p0 : ieq x.pos 0
        all_goals
          by_cases i0 : i = 0
          · have b0 : (i == 0) = true := by simpa using i0
            have gi : ilt 0 (i : Int) = false := ilt_f (by omega)
            rw [b0] at fin nxt
            clear hy i0 b0
            try
              have hRc := fin 16 (by simp [lkE, hwn, p1, p0, k3]) (by decide)
              clear fin nxt hic
              subst hRc
              repeat' first
                | (with_reducible refine gw_bool (fun _ => ?_) (fun _ => ?_))
                | (with_reducible refine condw_bool (fun _ => ?_) (fun _ => ?_))
                | simp [*, Lk.cs]
              done
            try
              have hq := nxt (by simp [lkE, hwn, p1, p0, k3])
              clear fin nxt hic
              repeat' first
                | (with_reducible refine gw_bool (fun _ => ?_) (fun _ => ?_))
                | (with_reducible refine condw_bool (fun _ => ?_) (fun _ => ?_))
                | simp [*, Lk.cs]
              refine nxt_go (i + 1) ((View.forget _ _ 7)) (by omega) (by simp [*, Keep, St.forget, scr, scrC]) (by simp [*, KeepH, St.forget, scr, scrC]) ?_
              refine ⟨by omega, by simp [*, St.forget, scr, scrC], by simp [St.forget], hq⟩
              done
          · obtain ⟨z, hz, hzy⟩ := hy.resolve_left i0
            have b0 : (i == 0) = false := by simpa using i0
            have gi : ilt 0 (i : Int) = true := ilt_t (by omega)
            have wi : IntKind.i64.wrap ((i : Int) - 1) = ((i - 1 : Nat) : Int) := by rw [wrap_id (by omega) (by omega)]; omega
            have hz' : ∀ h : i - 1 < b.lks.length, b.lks[i - 1] = z := fun h => by rw [List.getElem?_eq_getElem h] at hz; exact Option.some.inj hz
            have hzl : i - 1 < n := by omega
            rw [b0] at fin nxt
            clear hy
            subst hzy
            try
              have hRc := fin 16 (by simp [lkE, hwn, p1, p0, k3]) (by decide)
              clear fin nxt hic
              subst hRc
              repeat' first
                | (with_reducible refine gw_bool (fun _ => ?_) (fun _ => ?_))
                | (with_reducible refine condw_bool (fun _ => ?_) (fun _ => ?_))
                | simp [*, Lk.cs]
              done
            try
              cases q : ieq x.bus z.bus
              · rw [q] at hic
                have hq := nxt (by simp [lkE, hwn, p1, p0, k3, hic])
                clear fin nxt hic
                repeat' first
                  | (with_reducible refine gw_bool (fun _ => ?_) (fun _ => ?_))
                  | (with_reducible refine condw_bool (fun _ => ?_) (fun _ => ?_))
                  | simp [*, Lk.cs]
                refine nxt_go (i + 1) ((View.forget _ _ 7)) (by omega) (by simp [*, Keep, St.forget, scr, scrC]) (by simp [*, KeepH, St.forget, scr, scrC]) ?_
                refine ⟨by omega, by simp [*, St.forget, scr, scrC], by simp [St.forget], hq⟩
              · rw [q] at hic
                have hRc := fin 12 (by simp [lkE, hwn, p1, p0, k3, hic]) (by decide)
                clear fin nxt hic
                subst hRc
                repeat' first
                  | (with_reducible refine gw_bool (fun _ => ?_) (fun _ => ?_))
                  | (with_reducible refine condw_bool (fun _ => ?_) (fun _ => ?_))
                  | simp [*, Lk.cs]
              done
      · have f1 : ilt (i : Int) (n : Int) = false := ilt_f (by omega)
        have e1 : i = n := by omega
        have hRc : (0 : Int) = R := by rw [← hR.out, ← e1]; exact hinv.out.symm
        clear hR hstop hinv
        subst hRc
        repeat' first
          | (with_reducible refine gw_bool (fun _ => ?_) (fun _ => ?_))
          | (with_reducible refine condw_bool (fun _ => ?_) (fun _ => ?_))
          | simp [*]
  cases k3 : ieq b.kind 3
  · rw [if_neg (by rintro (h | h | ⟨h, _⟩) <;> first | omega | cases h)]
    exact main (fun h => by rw [k3] at h; cases h)
  · by_cases hn' : n = 2
    · rw [if_neg (by omega)]
      exact main (fun _ => hn')
    · rw [if_pos (.inr (.inr ⟨rfl, hn'⟩))]
      have : ieq (n : Int) 2 = false := ieq_f (by omega)
      refine pcall_cx E4_ok mixed (fun _ => none) Try.func95 rfl Try.ntmps95 Try.results95 (by simp) (by kernel_rfl) ?_
      repeat' first
        | (with_reducible refine gw_bool (fun _ => ?_) (fun _ => ?_))
        | (with_reducible refine condw_bool (fun _ => ?_) (fun _ => ?_))
        | simp [*, Stn.cs, By.cs]
end Go.Proofs.Ytjhmphkdkclbjaa
end
section
namespace Go.Proofs.Ytjhmphkdkclbjaa
open Go.Pv Go.RowKit
set_option linter.unusedSimpArgs false
set_option linter.unusedVariables false
set_option maxRecDepth 100000
set_option maxHeartbeats 4000000
attribute [-simp] Tclo_at Tgrp_at Tchk Tpchk TcI TcB Tclo Tgrp Tsid Tnod Tlook Tbnd Tidx Tnms Tnmd

def Tobj : List V → Option V
  | [.agg a, .agg c] => (match unStn a, unBy c with
    | some s, some b => if s.ls.length ≤ 1000 ∧ s.ss.length ≤ 1000 then some (.int .i64 (objE s.ls.length s.ss.length b)) else none
    | _, _ => none)
  | _ => none
theorem Tobj_at {s : Stn} {b : By} (h1 : s.ls.length ≤ 1000) (h2 : s.ss.length ≤ 1000) : Tobj [.agg [.str s.nm, .list 1 (s.bs.map s1), .list 5 (s.ls.map Ln.cs), .list 6 (s.ss.map Sr.cs), .list 12 (s.qs.map By.cs)], .agg [.str b.nm, .int .i64 b.kind, .int .i64 b.ob, .int .i64 b.en, .int .i64 b.zr, .int .i64 b.zx, .list 2 (b.lks.map Lk.cs), .bool b.cl, .int .i64 b.ct, .int .i64 b.vt, .int .i64 b.sat, .int .i64 b.tr]] = some (.int .i64 (objE s.ls.length s.ss.length b)) := by
  have e1 := unStn_cs s
  unfold Stn.cs at e1
  have e2 := unBy_cs b
  unfold By.cs at e2
  simp only [Tobj, e1, e2]
  exact if_pos ⟨h1, h2⟩
theorem obj_tab : ∀ vs v, Tobj vs = some v → PCall Try.prog 93 vs v := by
  intro vs v h; unfold Tobj at h; split at h
  · split at h
    · rename_i h1 h2
      split at h
      · rename_i hl; cases h; rw [unStn_inv _ _ h1, unBy_inv _ _ h2]; exact robject_ok _ _ hl.1 hl.2
      · cases h
    · cases h
  · cases h
def Tlks : List V → Option V
  | [.agg a, .agg c] => (match unStn a, unBy c with
    | some s, some b => if s.bs.length ≤ 1000 ∧ b.lks.length ≤ 9223372036854775807 then some (.int .i64 (lksE s.bs.length b.kind b.lks)) else none
    | _, _ => none)
  | _ => none
theorem Tlks_at {s : Stn} {b : By} (h1 : s.bs.length ≤ 1000) (h2 : b.lks.length ≤ 9223372036854775807) : Tlks [.agg [.str s.nm, .list 1 (s.bs.map s1), .list 5 (s.ls.map Ln.cs), .list 6 (s.ss.map Sr.cs), .list 12 (s.qs.map By.cs)], .agg [.str b.nm, .int .i64 b.kind, .int .i64 b.ob, .int .i64 b.en, .int .i64 b.zr, .int .i64 b.zx, .list 2 (b.lks.map Lk.cs), .bool b.cl, .int .i64 b.ct, .int .i64 b.vt, .int .i64 b.sat, .int .i64 b.tr]] = some (.int .i64 (lksE s.bs.length b.kind b.lks)) := by
  have e1 := unStn_cs s
  unfold Stn.cs at e1
  have e2 := unBy_cs b
  unfold By.cs at e2
  simp only [Tlks, e1, e2]
  exact if_pos ⟨h1, h2⟩
theorem lks_tab : ∀ vs v, Tlks vs = some v → PCall Try.prog 95 vs v := by
  intro vs v h; unfold Tlks at h; split at h
  · split at h
    · rename_i h1 h2
      split at h
      · rename_i hl; cases h; rw [unStn_inv _ _ h1, unBy_inv _ _ h2]; exact rlinks_ok _ _ hl.1 hl.2
      · cases h
    · cases h
  · cases h
theorem rranges_tab : ∀ vs v, Tranges vs = some v → PCall Try.prog 94 vs v := by
  intro vs v h; unfold Tranges at h; split at h
  · simp only [Option.map_eq_some_iff] at h
    obtain ⟨b, hb, rfl⟩ := h
    rw [unBy_inv _ _ hb]
    exact rranges_ok _
  · cases h
def E5 : Tab := add 93 Tobj (add 95 Tlks (add 94 Tranges (E4)))
theorem E5_at (f : FuncId) (vs : List V) : E5.at' f vs = if f = 93 then Tobj vs else if f = 95 then Tlks vs else if f = 94 then Tranges vs else E4.at' f vs := rfl
theorem E5_fr (f : FuncId) : E5.fr f = if f = 93 then false else if f = 95 then false else if f = 94 then false else E4.fr f := rfl
theorem E5_gb (f : FuncId) : E5.gb f = E4.gb f := rfl
theorem E5_gv (f : FuncId) (vs : List V) : E5.gv f vs = E4.gv f vs := rfl
attribute [simp] E5_at E5_fr E5_gb E5_gv Tlks Tobj Tranges
theorem E5_ok : TabOK Try.prog E5 := by
  refine add_ok (add_ok (add_ok (E4_ok) (by kernel_rfl) ?_) (by kernel_rfl) ?_) (by kernel_rfl) ?_
  · exact rranges_tab
  · exact lks_tab
  · exact obj_tab
attribute [-simp] Tobj Tlks
attribute [simp] Tobj_at Tlks_at
theorem byE1_of (nb nl ns : Int) (qs : List By) (b : By) : byE1 nb nl ns qs b = if objE nl ns b = 0 then (if rngF b = true then (if qs.any (cflF b) = true then 12 else lksE nb b.kind b.lks) else 2) else objE nl ns b := by
  unfold byE1 byE0 objE
  cases hc : cntF nl ns b.kind with
  | none => simp [ieq]
  | some c =>
    simp only
    cases hw : withinF b.ob 0 (IntKind.i64.wrap (c - 1))
    · simp [ieq]
    · cases hr : rngF b
      · simp [ieq]
      · cases hq : qs.any (cflF b) <;> simp [ieq]
theorem rbay_ok (s : Stn) (i : Nat) (b : By) (hb : s.qs[i]? = some b) (h1 : s.bs.length ≤ 100) (h2 : s.ls.length ≤ 100) (h3 : s.ss.length ≤ 100) (h4 : s.qs.length ≤ 100) (h5 : b.lks.length ≤ 9223372036854775807) : PCall Try.prog 78 [.agg s.cs, .int .i64 i] (.int .i64 (byE1 s.bs.length s.ls.length s.ss.length (s.qs.take i) b)) := by
  rw [byE1_of]
  obtain ⟨hi, hb'⟩ := get_of hb
  have g1 : s.bs.length ≤ 1000 := by omega
  have g2 : s.ls.length ≤ 1000 := by omega
  have g3 : s.ss.length ≤ 1000 := by omega
  have hTo := Tobj_at (b := b) g2 g3
  have hTl := Tlks_at (b := b) g1 h5
  obtain ⟨eo, heo⟩ : ∃ eo, objE s.ls.length s.ss.length b = eo := ⟨_, rfl⟩
  obtain ⟨el, hel⟩ : ∃ el, lksE s.bs.length b.kind b.lks = el := ⟨_, rfl⟩
  rw [heo] at hTo ⊢
  rw [hel] at hTl ⊢
  obtain ⟨nq, hnq⟩ : ∃ n, s.qs.length = n := ⟨_, rfl⟩
  clear heo hel g1 g2 g3
  cases h0 : ieq eo 0
  · have : ¬ (eo = 0) := ieq_iff'.1 h0
    rw [if_neg this]
    clear this
    refine pcall_cx E5_ok mixed (fun _ => none) Try.func78 rfl Try.ntmps78 Try.results78 (by simp) (by kernel_rfl) ?_
    repeat' first
      | (with_reducible refine gw_bool (fun _ => ?_) (fun _ => ?_))
      | (with_reducible refine condw_bool (fun _ => ?_) (fun _ => ?_))
      | simp [*, Stn.cs, By.cs]
  have e0 : eo = 0 := ieq_iff.1 h0
  rw [if_pos e0]
  clear e0
  cases hr : rngF b
  · rw [if_neg (by simp)]
    refine pcall_cx E5_ok mixed (fun _ => none) Try.func78 rfl Try.ntmps78 Try.results78 (by simp) (by kernel_rfl) ?_
    repeat' first
      | (with_reducible refine gw_bool (fun _ => ?_) (fun _ => ?_))
      | (with_reducible refine condw_bool (fun _ => ?_) (fun _ => ?_))
      | simp [*, Stn.cs, By.cs]
  rw [if_pos rfl]
  have hcf : ∀ y : By, (ieq y.kind b.kind && (ieq y.ob b.ob && ieq y.en b.en)) = (ieq b.kind y.kind && (ieq b.ob y.ob && ieq b.en y.en)) := fun y => by rw [ieq_comm y.kind, ieq_comm y.ob, ieq_comm y.en]
  obtain ⟨R, hR⟩ : ∃ R, (if (s.qs.take i).any (cflF b) = true then 12 else el) = R := ⟨_, rfl⟩
  rw [hR]
  have hR1 : (s.qs.take i).any (cflF b) = true → R = 12 := fun h => by rw [← hR, if_pos h]
  have hR2 : (s.qs.take i).any (cflF b) = false → R = el := fun h => by rw [← hR, if_neg (by rw [h]; simp)]
  clear hR
  cases k3 : ieq b.kind 3
  · have hcfl : ∀ y : By, cflF b y = (ieq y.kind b.kind && (ieq y.ob b.ob && ieq y.en b.en)) := fun y => by rw [cflF, k3, hcf]; rfl
    replace hcfl : Hid (∀ y : By, cflF b y = (ieq y.kind b.kind && (ieq y.ob b.ob && ieq y.en b.en))) := hcfl
    replace hR1 : Hid ((s.qs.take i).any (cflF b) = true → R = 12) := hR1
    replace hR2 : Hid ((s.qs.take i).any (cflF b) = false → R = el) := hR2
    clear hcf
    refine pcall_cx E5_ok mixed (fun _ => none) Try.func78 rfl Try.ntmps78 Try.results78 (by simp) (by kernel_rfl) ?_
    repeat' first
      | (with_reducible refine gw_bool (fun _ => ?_) (fun _ => ?_))
      | (with_reducible refine condw_bool (fun _ => ?_) (fun _ => ?_))
      | simp [*, Stn.cs, By.cs]
    refine lp_go (D := (fun _ => none)) E5_ok mixed (by kernel_rfl) [1, 2, 5] [2, 5] (α := Nat) (fun k e h => k ≤ i ∧ e 7 = .int .i64 k ∧ Hid ((s.qs.take k).any (cflF b) = false)) (fun k => i - k) 0 ?_ ?_
    · exact ⟨by omega, by simp, show _ = _ by simp⟩
    rintro k e h hk hkh ⟨hki, g7, hinv⟩
    simp [Keep] at hk
    simp [KeepH] at hkh
    by_cases hlt : k < i
    · obtain ⟨y, hy, hy'⟩ := at_ex (l := s.qs) (i := k) (by omega)
      have f1 : ilt (k : Int) (i : Int) = true := ilt_t (by omega)
      have w1 : IntKind.i64.wrap ((k : Int) + 1) = ((k + 1 : Nat) : Int) := wrap_succ (by omega)
      have hkn : k < nq := by omega
      have hnext : (s.qs.take (k + 1)).any (cflF b) = cflF b y := by
        rw [take_snoc hy, List.any_append, hinv.out]; simp
      have hcy := hcfl.out y
      cases q1 : ieq y.kind b.kind <;> cases q2 : ieq y.ob b.ob <;> cases q3 : ieq y.en b.en
      all_goals rw [q1, q2, q3] at hcy
      all_goals simp only [Bool.false_and, Bool.and_false, Bool.and_true, Bool.true_and] at hcy
      all_goals rw [hcy] at hnext
      all_goals first
        | (have hq : Hid ((s.qs.take (k + 1)).any (cflF b) = false) := hnext
           clear hnext hcy hinv hcfl hR1 hR2 hTo hTl)
        | (have hRc := hR1.out (by
             rw [List.any_eq_true]
             exact ⟨y, List.mem_of_getElem? (i := k) (by rw [List.getElem?_take, if_pos hlt]; exact hy), hcy⟩)
           clear hnext hcy hinv hcfl hR1 hR2 hTo hTl
           subst hRc)
      all_goals
        repeat' first
          | (with_reducible refine gw_bool (fun _ => ?_) (fun _ => ?_))
          | (with_reducible refine condw_bool (fun _ => ?_) (fun _ => ?_))
          | simp [*, By.cs]
      all_goals refine nxt_go (k + 1) (View.refl _ _) (by omega) (by simp [*, Keep, St.forget, scr, scrC]) (by simp [*, KeepH, St.forget, scr, scrC]) ?_
      all_goals exact ⟨by omega, by simp [*], hq⟩
    · have f1 : ilt (k : Int) (i : Int) = false := ilt_f (by omega)
      have e1 : k = i := by omega
      have hRc := hR2.out (by rw [← e1]; exact hinv.out)
      clear hinv hcfl hR1 hR2
      subst hRc
      repeat' first
        | (with_reducible refine gw_bool (fun _ => ?_) (fun _ => ?_))
        | (with_reducible refine condw_bool (fun _ => ?_) (fun _ => ?_))
        | simp [*]
  · have hRc := hR2 (by rw [List.any_eq_false]; intro y _; simp [cflF, k3])
    clear hR1 hR2 hcf
    subst hRc
    refine pcall_cx E5_ok mixed (fun _ => none) Try.func78 rfl Try.ntmps78 Try.results78 (by simp) (by kernel_rfl) ?_
    repeat' first
      | (with_reducible refine gw_bool (fun _ => ?_) (fun _ => ?_))
      | (with_reducible refine condw_bool (fun _ => ?_) (fun _ => ?_))
      | simp [*, Stn.cs, By.cs]
    refine lp_unroll (D := (fun _ => none)) E5_ok mixed (by kernel_rfl) ?_
    cases f1 : ilt 0 (i : Int)
    · skip
      repeat' first
        | (with_reducible refine gw_bool (fun _ => ?_) (fun _ => ?_))
        | (with_reducible refine condw_bool (fun _ => ?_) (fun _ => ?_))
        | simp [*]
    · skip
      repeat' first
        | (with_reducible refine gw_bool (fun _ => ?_) (fun _ => ?_))
        | (with_reducible refine condw_bool (fun _ => ?_) (fun _ => ?_))
        | simp [*]
end Go.Proofs.Ytjhmphkdkclbjaa
end
section
namespace Go.Proofs.Ytjhmphkdkclbjaa
open Go.Pv Go.RowKit
set_option linter.unusedSimpArgs false
set_option linter.unusedVariables false
set_option maxRecDepth 100000
set_option maxHeartbeats 4000000
attribute [-simp] Tclo_at Tgrp_at Tchk Tpchk TcI TcB Tclo Tgrp Tsid Tnod Tlook Tbnd Tidx Tnms Tnmd Tobj Tlks

def okBay (s : Stn) (i : Nat) : Bool := decide (s.bs.length ≤ 100) && (decide (s.ls.length ≤ 100) && (decide (s.ss.length ≤ 100) && (decide (s.qs.length ≤ 100) && (match s.qs[i]? with
  | some b => decide (b.lks.length ≤ 9223372036854775807)
  | none => false))))
def bayE (s : Stn) (i : Nat) : Int := match s.qs[i]? with
  | some b => byE1 s.bs.length s.ls.length s.ss.length (s.qs.take i) b
  | none => 0
def Tbay : List V → Option V
  | [.agg a, .int .i64 i] => (match unStn a with
    | some s => if 0 ≤ i ∧ okBay s i.toNat = true then some (.int .i64 (bayE s i.toNat)) else none
    | none => none)
  | _ => none
theorem Tbay_at {s : Stn} {i : Nat} (h : okBay s i = true) : Tbay [.agg [.str s.nm, .list 1 (s.bs.map s1), .list 5 (s.ls.map Ln.cs), .list 6 (s.ss.map Sr.cs), .list 12 (s.qs.map By.cs)], .int .i64 i] = some (.int .i64 (bayE s i)) := by
  have e1 := unStn_cs s
  unfold Stn.cs at e1
  simp only [Tbay, e1]
  exact if_pos ⟨by omega, h⟩
theorem bay_tab : ∀ vs v, Tbay vs = some v → PCall Try.prog 78 vs v := by
  intro vs v h; unfold Tbay at h; split at h
  · split at h
    · rename_i h1
      split at h
      · rename_i hl; cases h; rw [unStn_inv _ _ h1]
        obtain ⟨p1, p2⟩ := hl
        simp only [okBay, Bool.and_eq_true, decide_eq_true_eq] at p2
        obtain ⟨q1, q2, q3, q4, q5⟩ := p2
        unfold bayE
        split at q5
        · rename_i b hb
          have := rbay_ok _ _ b hb q1 q2 q3 q4 (by simpa using q5)
          rw [Int.toNat_of_nonneg p1] at this
          simpa only [hb] using this
        · cases q5
      · cases h
    · cases h
  · cases h
def E6 : Tab := add 78 Tbay (E5)
theorem E6_at (f : FuncId) (vs : List V) : E6.at' f vs = if f = 78 then Tbay vs else E5.at' f vs := rfl
theorem E6_fr (f : FuncId) : E6.fr f = if f = 78 then false else E5.fr f := rfl
theorem E6_gb (f : FuncId) : E6.gb f = E5.gb f := rfl
theorem E6_gv (f : FuncId) (vs : List V) : E6.gv f vs = E5.gv f vs := rfl
attribute [simp] E6_at E6_fr E6_gb E6_gv Tbay
theorem E6_ok : TabOK Try.prog E6 := by
  refine add_ok (E5_ok) (by kernel_rfl) ?_
  · exact bay_tab
attribute [-simp] Tbay
attribute [simp] Tbay_at
theorem nx_left {a b : Int} (h : a ≠ 0) : nxE a b = a := if_neg h
theorem nx_right {a b : Int} (h : a = 0) : nxE a b = b := if_pos h
theorem lnE_of (ns : List ByteArray) (l : Ln) : lnE ns l = if nmE l.nm (dupF ns l.nm) = 0 then (if (impF l.r1 l.x1 && impF l.r0 l.x0) = true then 0 else 2) else nmE l.nm (dupF ns l.nm) := by
  unfold lnE nmE
  cases nameF l.nm <;> cases dupF ns l.nm <;> simp
theorem srE_of (ns : List ByteArray) (l : Sr) : srE ns l = if nmE l.nm (dupF ns l.nm) = 0 then (if srcF l = true then 0 else 2) else nmE l.nm (dupF ns l.nm) := by
  unfold srE nmE srcF
  cases nameF l.nm <;> cases dupF ns l.nm <;> simp
theorem byE_of (S : BS) (b : By) : byE S b = if nmE b.nm (dupF S.ns b.nm) = 0 then byE1 S.bs.length S.ls.length S.ss.length S.qs b else nmE b.nm (dupF S.ns b.nm) := by
  unfold byE nmE
  cases nameF b.nm <;> cases dupF S.ns b.nm <;> simp
theorem rcheck_ok (s : Stn) (h5 : ∀ b ∈ s.qs, b.lks.length ≤ 9223372036854775807) : PCall Try.prog 42 [.agg s.cs] (.int .i64 (chkF s)) := by
  obtain ⟨nb, hnb⟩ : ∃ n, s.bs.length = n := ⟨_, rfl⟩
  obtain ⟨nl, hnl⟩ : ∃ n, s.ls.length = n := ⟨_, rfl⟩
  obtain ⟨ns, hns⟩ : ∃ n, s.ss.length = n := ⟨_, rfl⟩
  obtain ⟨nq, hnq⟩ : ∃ n, s.qs.length = n := ⟨_, rfl⟩
  cases hn : nameF s.nm
  · have hc : chkF s = 7 := by simp [chkF, hn]
    rw [hc]
    refine pcall_cx E6_ok mixed (fun _ => none) Try.func42 rfl Try.ntmps42 Try.results42 (by simp) (by kernel_rfl) ?_
    repeat' first
      | (with_reducible refine gw_bool (fun _ => ?_) (fun _ => ?_))
      | (with_reducible refine condw_bool (fun _ => ?_) (fun _ => ?_))
      | simp [*, Stn.cs]
  cases c1 : ilt (nb : Int) 1
  case true =>
    have c0 : ieq (nb : Int) 0 = true := ieq_t (by have := ilt_iff.1 c1; omega)
    have hc : chkF s = 3 := by simp only [chkF, cntBad, hn, hnb, hnl, hns, hnq, c0]; simp
    rw [hc]
    refine pcall_cx E6_ok mixed (fun _ => none) Try.func42 rfl Try.ntmps42 Try.results42 (by simp) (by kernel_rfl) ?_
    repeat' first
      | (with_reducible refine gw_bool (fun _ => ?_) (fun _ => ?_))
      | (with_reducible refine condw_bool (fun _ => ?_) (fun _ => ?_))
      | simp [*, Stn.cs]
  cases c2 : ilt 4 (nb : Int)
  case true =>
    have hc : chkF s = 3 := by simp only [chkF, cntBad, hn, hnb, hnl, hns, hnq, c2]; simp
    rw [hc]
    refine pcall_cx E6_ok mixed (fun _ => none) Try.func42 rfl Try.ntmps42 Try.results42 (by simp) (by kernel_rfl) ?_
    repeat' first
      | (with_reducible refine gw_bool (fun _ => ?_) (fun _ => ?_))
      | (with_reducible refine condw_bool (fun _ => ?_) (fun _ => ?_))
      | simp [*, Stn.cs]
  cases c3 : ilt 6 (nl : Int)
  case true =>
    have hc : chkF s = 3 := by simp only [chkF, cntBad, hn, hnb, hnl, hns, hnq, c3]; simp
    rw [hc]
    refine pcall_cx E6_ok mixed (fun _ => none) Try.func42 rfl Try.ntmps42 Try.results42 (by simp) (by kernel_rfl) ?_
    repeat' first
      | (with_reducible refine gw_bool (fun _ => ?_) (fun _ => ?_))
      | (with_reducible refine condw_bool (fun _ => ?_) (fun _ => ?_))
      | simp [*, Stn.cs]
  cases c4 : ilt 4 (ns : Int)
  case true =>
    have hc : chkF s = 3 := by simp only [chkF, cntBad, hn, hnb, hnl, hns, hnq, c4]; simp
    rw [hc]
    refine pcall_cx E6_ok mixed (fun _ => none) Try.func42 rfl Try.ntmps42 Try.results42 (by simp) (by kernel_rfl) ?_
    repeat' first
      | (with_reducible refine gw_bool (fun _ => ?_) (fun _ => ?_))
      | (with_reducible refine condw_bool (fun _ => ?_) (fun _ => ?_))
      | simp [*, Stn.cs]
  cases c5 : ilt 16 (nq : Int)
  case true =>
    have hc : chkF s = 3 := by simp only [chkF, cntBad, hn, hnb, hnl, hns, hnq, c5]; simp
    rw [hc]
    refine pcall_cx E6_ok mixed (fun _ => none) Try.func42 rfl Try.ntmps42 Try.results42 (by simp) (by kernel_rfl) ?_
    repeat' first
      | (with_reducible refine gw_bool (fun _ => ?_) (fun _ => ?_))
      | (with_reducible refine condw_bool (fun _ => ?_) (fun _ => ?_))
      | simp [*, Stn.cs]
  have z1 := ilt_iff'.1 c1
  have z2 := ilt_iff'.1 c2
  have z3 := ilt_iff'.1 c3
  have z4 := ilt_iff'.1 c4
  have z5 := ilt_iff'.1 c5
  have hc : chkF s = erQ s := by
    have c0 : ieq (nb : Int) 0 = false := ieq_f (by omega)
    simp only [chkF, cntBad, hn, hnb, hnl, hns, hnq, c0, c2, c3, c4, c5]; simp
  obtain ⟨R, hR⟩ : ∃ R, erQ s = R := ⟨_, rfl⟩
  rw [hc, hR]
  clear hc
  have R0 : ∀ k, k < nb → firstN (eB s) k = 0 → eB s k ≠ 0 → R = eB s k := fun k hk h0 h1 => by
    have e0 : erB s = eB s k := by unfold erB; rw [hnb]; exact firstN_stop h0 h1 hk
    rw [← hR, erQ, erR, erL, e0, nx_left h1, nx_left h1, nx_left h1]
  have R1 : firstN (eB s) nb = 0 → ∀ k, k < nl → firstN (eL s) k = 0 → eL s k ≠ 0 → R = eL s k := fun hB k hk h0 h1 => by
    have e0 : erL s = eL s k := by unfold erL erB; rw [hnb, hnl, nx_right hB]; exact firstN_stop h0 h1 hk
    rw [← hR, erQ, erR, e0, nx_left h1, nx_left h1]
  have R2 : firstN (eB s) nb = 0 → firstN (eL s) nl = 0 → ∀ k, k < ns → firstN (eR s) k = 0 → eR s k ≠ 0 → R = eR s k := fun hB hL k hk h0 h1 => by
    have e0 : erR s = eR s k := by unfold erR erL erB; rw [hnb, hnl, hns, nx_right hB, nx_right hL]; exact firstN_stop h0 h1 hk
    rw [← hR, erQ, e0, nx_left h1]
  have R3 : firstN (eB s) nb = 0 → firstN (eL s) nl = 0 → firstN (eR s) ns = 0 → ∀ k, k < nq → firstN (eQ s) k = 0 → eQ s k ≠ 0 → R = eQ s k := fun hB hL hS k hk h0 h1 => by
    rw [← hR]; unfold erQ erR erL erB; rw [hnb, hnl, hns, hnq, nx_right hB, nx_right hL, nx_right hS]; exact firstN_stop h0 h1 hk
  have R4 : firstN (eB s) nb = 0 → firstN (eL s) nl = 0 → firstN (eR s) ns = 0 → firstN (eQ s) nq = 0 → (0 : Int) = R := fun hB hL hS hQ => by
    rw [← hR]; unfold erQ erR erL erB; rw [hnb, hnl, hns, hnq, nx_right hB, nx_right hL, nx_right hS, hQ]
  have nOk : ∀ b l g q, b ≤ nb → l ≤ nl → g ≤ ns → q ≤ nq → nmsOk s b l g q = true := fun b l g q h1 h2 h3 h4 => by
    simp only [nmsOk, Bool.and_eq_true, decide_eq_true_eq]; omega
  have nLen : ∀ b l g q, b ≤ nb → l ≤ nl → g ≤ ns → q ≤ nq → (nms s b l g q).length ≤ 1000 := fun b l g q h1 h2 h3 h4 => by
    simp only [nms, List.length_append, List.length_map, List.length_take]; omega
  have bOk : ∀ i, i < nq → okBay s i = true := fun i hi => by
    obtain ⟨b, hb, _⟩ := at_ex (l := s.qs) (i := i) (by omega)
    simp only [okBay, hb, Bool.and_eq_true, decide_eq_true_eq]
    exact ⟨by omega, by omega, by omega, by omega, h5 b (List.mem_of_getElem? hb)⟩
  replace R0 : Hid (∀ k, k < nb → firstN (eB s) k = 0 → eB s k ≠ 0 → R = eB s k) := R0
  replace R1 : Hid (firstN (eB s) nb = 0 → ∀ k, k < nl → firstN (eL s) k = 0 → eL s k ≠ 0 → R = eL s k) := R1
  replace R2 : Hid (firstN (eB s) nb = 0 → firstN (eL s) nl = 0 → ∀ k, k < ns → firstN (eR s) k = 0 → eR s k ≠ 0 → R = eR s k) := R2
  replace R3 : Hid (firstN (eB s) nb = 0 → firstN (eL s) nl = 0 → firstN (eR s) ns = 0 → ∀ k, k < nq → firstN (eQ s) k = 0 → eQ s k ≠ 0 → R = eQ s k) := R3
  replace R4 : Hid (firstN (eB s) nb = 0 → firstN (eL s) nl = 0 → firstN (eR s) ns = 0 → firstN (eQ s) nq = 0 → (0 : Int) = R) := R4
  replace nOk : Hid (∀ b l g q, b ≤ nb → l ≤ nl → g ≤ ns → q ≤ nq → nmsOk s b l g q = true) := nOk
  replace nLen : Hid (∀ b l g q, b ≤ nb → l ≤ nl → g ≤ ns → q ≤ nq → (nms s b l g q).length ≤ 1000) := nLen
  replace bOk : Hid (∀ i, i < nq → okBay s i = true) := bOk
  have yz1 : 1 ≤ nb := by omega
  replace z1 : Hid (1 ≤ nb) := yz1
  clear yz1
  have yz2 : nb ≤ 4 := by omega
  replace z2 : Hid (nb ≤ 4) := yz2
  clear yz2
  have yz3 : nl ≤ 6 := by omega
  replace z3 : Hid (nl ≤ 6) := yz3
  clear yz3
  have yz4 : ns ≤ 4 := by omega
  replace z4 : Hid (ns ≤ 4) := yz4
  clear yz4
  have yz5 : nq ≤ 16 := by omega
  replace z5 : Hid (nq ≤ 16) := yz5
  clear yz5
  clear hR h5
  refine pcall_cx E6_ok mixed (fun _ => none) Try.func42 rfl Try.ntmps42 Try.results42 (by simp) (by kernel_rfl) ?_
  repeat' first
    | (with_reducible refine gw_bool (fun _ => ?_) (fun _ => ?_))
    | (with_reducible refine condw_bool (fun _ => ?_) (fun _ => ?_))
    | simp [*, Stn.cs]
  refine lp_go (D := (fun _ => none)) E6_ok mixed (by kernel_rfl) [1, 3, 4, 5, 6] [1] (α := Nat) (fun i e h => i ≤ nb ∧ e 7 = .int .i64 i ∧ Hid (firstN (eB s) i = 0)) (fun i => nb - i) 0 ?_ ?_
  · exact ⟨by omega, by simp, rfl⟩
  rintro i e h hk hkh ⟨hlei, g7, hinv⟩
  simp [Keep] at hk
  simp [KeepH] at hkh
  by_cases hlt : i < nb
  · have hz2 := z2.out
    have hz3 := z3.out
    have hz4 := z4.out
    have hz5 := z5.out
    obtain ⟨x, hx, hx'⟩ := at_ex (l := s.bs) (i := i) (by omega)
    have f1 : ilt (i : Int) (nb : Int) = true := ilt_t (by omega)
    have w1 : IntKind.i64.wrap ((i : Int) + 1) = ((i + 1 : Nat) : Int) := wrap_succ (by omega)
    have hT := Tnms_at (nOk.out i 0 0 0 (by omega) (by omega) (by omega) (by omega))
    have hL := nLen.out i 0 0 0 (by omega) (by omega) (by omega) (by omega)
    have hNs : nms s i 0 0 0 = (SB s i).ns := by subst hnb hnl hns; simp [nms, SB]
    have her : eB s i = nmE x (dupF (nms s i 0 0 0) x) := by rw [hNs]; simp [eB, hx]
    clear hNs hz2 hz3 hz4 hz5
    have hstp := R0.out  i hlt hinv.out
    have hnx : eB s i = 0 → Hid (firstN (eB s) (i + 1) = 0) := fun h0 => show _ = _ by simp [firstN, hinv.out, h0]
    generalize nms s i 0 0 0 = N at hT hL her
    have hTd := Tnmd_at (s := x) hL
    obtain ⟨em, hem⟩ : ∃ em, nmE x (dupF N x) = em := ⟨_, rfl⟩
    rw [hem] at her hTd
    clear hem hL hinv R0 R1 R2 R3 R4 nOk nLen bOk
    try simp only [show ((0 : Nat) : Int) = 0 from rfl] at hT
    rw [her] at hstp hnx
    cases q0 : ieq em 0
    · have hRc := hstp (ieq_iff'.1 q0)
      clear hstp hnx her
      subst hRc
      repeat' first
        | (with_reducible refine gw_bool (fun _ => ?_) (fun _ => ?_))
        | (with_reducible refine condw_bool (fun _ => ?_) (fun _ => ?_))
        | simp [*, s1]
    · have hq := hnx (ieq_iff.1 q0)
      clear hstp hnx her
      repeat' first
        | (with_reducible refine gw_bool (fun _ => ?_) (fun _ => ?_))
        | (with_reducible refine condw_bool (fun _ => ?_) (fun _ => ?_))
        | simp [*, s1]
      refine nxt_go (i + 1) (View.refl _ _) (by omega) (by simp [*, Keep, St.forget, scr, scrC]) (by simp [*, KeepH, St.forget, scr, scrC]) ?_
      exact ⟨by omega, by simp [*], hq⟩
  have f0 : ilt (i : Int) (nb : Int) = false := ilt_f (by omega)
  have d0 : Hid (firstN (eB s) nb = 0) := by
    have e1 : i = nb := by omega
    rw [← e1]; exact hinv
  clear hinv hlt
  repeat' first
    | (with_reducible refine gw_bool (fun _ => ?_) (fun _ => ?_))
    | (with_reducible refine condw_bool (fun _ => ?_) (fun _ => ?_))
    | simp [*]
  refine lp_go (D := (fun _ => none)) E6_ok mixed (by kernel_rfl) [1, 3, 4, 5, 6] [1] (α := Nat) (fun j e h => j ≤ nl ∧ e 9 = .int .i64 j ∧ Hid (firstN (eL s) j = 0)) (fun j => nl - j) 0 ?_ ?_
  · exact ⟨by omega, by simp, rfl⟩
  have hk0 := hk
  have hkh0 := hkh
  clear hk hkh g7
  rintro j e h hk hkh ⟨hlej, g7, hinv⟩
  simp [Keep, hk0, hkh0] at hk
  simp [KeepH, hk0, hkh0] at hkh
  by_cases hlt : j < nl
  · have hz2 := z2.out
    have hz3 := z3.out
    have hz4 := z4.out
    have hz5 := z5.out
    obtain ⟨x, hx, hx'⟩ := at_ex (l := s.ls) (i := j) (by omega)
    have f1 : ilt (j : Int) (nl : Int) = true := ilt_t (by omega)
    have w1 : IntKind.i64.wrap ((j : Int) + 1) = ((j + 1 : Nat) : Int) := wrap_succ (by omega)
    have hT := Tnms_at (nOk.out nb j 0 0 (by omega) (by omega) (by omega) (by omega))
    have hL := nLen.out nb j 0 0 (by omega) (by omega) (by omega) (by omega)
    have hNs : nms s nb j 0 0 = (SL s j).ns := by subst hnb hnl hns; simp [nms, SL]
    have her : eL s j = lnE (nms s nb j 0 0) x := by rw [hNs]; simp [eL, hx]
    rw [lnE_of] at her
    clear hNs hz2 hz3 hz4 hz5
    have hstp := R1.out d0.out j hlt hinv.out
    have hnx : eL s j = 0 → Hid (firstN (eL s) (j + 1) = 0) := fun h0 => show _ = _ by simp [firstN, hinv.out, h0]
    generalize nms s nb j 0 0 = N at hT hL her
    have hTd := Tnmd_at (s := x.nm) hL
    obtain ⟨em, hem⟩ : ∃ em, nmE x.nm (dupF N x.nm) = em := ⟨_, rfl⟩
    rw [hem] at her hTd
    clear hem hL hinv R0 R1 R2 R3 R4 nOk nLen bOk d0
    try simp only [show ((0 : Nat) : Int) = 0 from rfl] at hT
    cases q0 : ieq em 0
    · rw [if_neg (ieq_iff'.1 q0)] at her
      rw [her] at hstp hnx
      have hRc := hstp (ieq_iff'.1 q0)
      clear hstp hnx her
      subst hRc
      repeat' first
        | (with_reducible refine gw_bool (fun _ => ?_) (fun _ => ?_))
        | (with_reducible refine condw_bool (fun _ => ?_) (fun _ => ?_))
        | simp [*, Ln.cs]
    · rw [if_pos (ieq_iff.1 q0)] at her
      cases p1 : impF x.r1 x.x1 <;> cases p2 : impF x.r0 x.x0
      all_goals rw [p1, p2] at her
      all_goals try simp only [Bool.false_and, Bool.and_false, Bool.and_true, Bool.true_and] at her
      all_goals first
        | (have hq := hnx her
           clear hstp hnx her)
        | (have hRc := hstp (by rw [her]; decide)
           have hRd : R = 2 := hRc.trans her
           clear hstp hnx her hRc
           subst hRd)
      all_goals
        repeat' first
          | (with_reducible refine gw_bool (fun _ => ?_) (fun _ => ?_))
          | (with_reducible refine condw_bool (fun _ => ?_) (fun _ => ?_))
          | simp [*, Ln.cs, unSr]
      all_goals refine nxt_go (j + 1) (View.refl _ _) (by omega) (by simp [*, Keep, St.forget, scr, scrC]) (by simp [*, KeepH, St.forget, scr, scrC]) ?_
      all_goals exact ⟨by omega, by simp [*], hq⟩
  have f1 : ilt (j : Int) (nl : Int) = false := ilt_f (by omega)
  have d1 : Hid (firstN (eL s) nl = 0) := by
    have e1 : j = nl := by omega
    rw [← e1]; exact hinv
  clear hinv hlt
  repeat' first
    | (with_reducible refine gw_bool (fun _ => ?_) (fun _ => ?_))
    | (with_reducible refine condw_bool (fun _ => ?_) (fun _ => ?_))
    | simp [*]
  refine lp_go (D := (fun _ => none)) E6_ok mixed (by kernel_rfl) [1, 3, 4, 5, 6] [1] (α := Nat) (fun k e h => k ≤ ns ∧ e 11 = .int .i64 k ∧ Hid (firstN (eR s) k = 0)) (fun k => ns - k) 0 ?_ ?_
  · exact ⟨by omega, by simp, rfl⟩
  have hk0 := hk
  have hkh0 := hkh
  clear hk hkh g7
  rintro k e h hk hkh ⟨hlek, g7, hinv⟩
  simp [Keep, hk0, hkh0] at hk
  simp [KeepH, hk0, hkh0] at hkh
  by_cases hlt : k < ns
  · have hz2 := z2.out
    have hz3 := z3.out
    have hz4 := z4.out
    have hz5 := z5.out
    obtain ⟨x, hx, hx'⟩ := at_ex (l := s.ss) (i := k) (by omega)
    have f1 : ilt (k : Int) (ns : Int) = true := ilt_t (by omega)
    have w1 : IntKind.i64.wrap ((k : Int) + 1) = ((k + 1 : Nat) : Int) := wrap_succ (by omega)
    have hT := Tnms_at (nOk.out nb nl k 0 (by omega) (by omega) (by omega) (by omega))
    have hL := nLen.out nb nl k 0 (by omega) (by omega) (by omega) (by omega)
    have hNs : nms s nb nl k 0 = (SR s k).ns := by subst hnb hnl hns; simp [nms, SR]
    have her : eR s k = srE (nms s nb nl k 0) x := by rw [hNs]; simp [eR, hx]
    rw [srE_of] at her
    clear hNs hz2 hz3 hz4 hz5
    have hstp := R2.out d0.out d1.out k hlt hinv.out
    have hnx : eR s k = 0 → Hid (firstN (eR s) (k + 1) = 0) := fun h0 => show _ = _ by simp [firstN, hinv.out, h0]
    generalize nms s nb nl k 0 = N at hT hL her
    have hTd := Tnmd_at (s := x.nm) hL
    obtain ⟨em, hem⟩ : ∃ em, nmE x.nm (dupF N x.nm) = em := ⟨_, rfl⟩
    rw [hem] at her hTd
    clear hem hL hinv R0 R1 R2 R3 R4 nOk nLen bOk d0 d1
    try simp only [show ((0 : Nat) : Int) = 0 from rfl] at hT
    cases q0 : ieq em 0
    · rw [if_neg (ieq_iff'.1 q0)] at her
      rw [her] at hstp hnx
      have hRc := hstp (ieq_iff'.1 q0)
      clear hstp hnx her
      subst hRc
      repeat' first
        | (with_reducible refine gw_bool (fun _ => ?_) (fun _ => ?_))
        | (with_reducible refine condw_bool (fun _ => ?_) (fun _ => ?_))
        | simp [*, Sr.cs]
    · rw [if_pos (ieq_iff.1 q0)] at her
      cases p1 : srcF x
      all_goals rw [p1] at her
      all_goals try simp only [Bool.false_and, Bool.and_false, Bool.and_true, Bool.true_and] at her
      all_goals first
        | (have hq := hnx her
           clear hstp hnx her)
        | (have hRc := hstp (by rw [her]; decide)
           have hRd : R = 2 := hRc.trans her
           clear hstp hnx her hRc
           subst hRd)
      all_goals
        repeat' first
          | (with_reducible refine gw_bool (fun _ => ?_) (fun _ => ?_))
          | (with_reducible refine condw_bool (fun _ => ?_) (fun _ => ?_))
          | simp [*, Sr.cs, unSr]
      all_goals refine nxt_go (k + 1) (View.refl _ _) (by omega) (by simp [*, Keep, St.forget, scr, scrC]) (by simp [*, KeepH, St.forget, scr, scrC]) ?_
      all_goals exact ⟨by omega, by simp [*], hq⟩
  have f2 : ilt (k : Int) (ns : Int) = false := ilt_f (by omega)
  have d2 : Hid (firstN (eR s) ns = 0) := by
    have e1 : k = ns := by omega
    rw [← e1]; exact hinv
  clear hinv hlt
  repeat' first
    | (with_reducible refine gw_bool (fun _ => ?_) (fun _ => ?_))
    | (with_reducible refine condw_bool (fun _ => ?_) (fun _ => ?_))
    | simp [*]
  refine lp_go (D := (fun _ => none)) E6_ok mixed (by kernel_rfl) [1, 3, 4, 5, 6] [1] (α := Nat) (fun m e h => m ≤ nq ∧ e 13 = .int .i64 m ∧ Hid (firstN (eQ s) m = 0)) (fun m => nq - m) 0 ?_ ?_
  · exact ⟨by omega, by simp, rfl⟩
  have hk0 := hk
  have hkh0 := hkh
  clear hk hkh g7
  rintro m e h hk hkh ⟨hlem, g7, hinv⟩
  simp [Keep, hk0, hkh0] at hk
  simp [KeepH, hk0, hkh0] at hkh
  by_cases hlt : m < nq
  · have hz2 := z2.out
    have hz3 := z3.out
    have hz4 := z4.out
    have hz5 := z5.out
    obtain ⟨x, hx, hx'⟩ := at_ex (l := s.qs) (i := m) (by omega)
    have f1 : ilt (m : Int) (nq : Int) = true := ilt_t (by omega)
    have w1 : IntKind.i64.wrap ((m : Int) + 1) = ((m + 1 : Nat) : Int) := wrap_succ (by omega)
    have hT := Tnms_at (nOk.out nb nl ns m (by omega) (by omega) (by omega) (by omega))
    have hL := nLen.out nb nl ns m (by omega) (by omega) (by omega) (by omega)
    have hNs : nms s nb nl ns m = (SQ s m).ns := by subst hnb hnl hns; simp [nms, SQ]
    have her : eQ s m = byE (SQ s m) x := by simp [eQ, hx]
    rw [byE_of, ← hNs] at her
    have hbe : byE1 (SQ s m).bs.length (SQ s m).ls.length (SQ s m).ss.length (SQ s m).qs x = bayE s m := by simp [SQ, bayE, hx]
    rw [hbe] at her
    have hTb := Tbay_at (bOk.out m hlt)
    clear hbe
    obtain ⟨eb, heb⟩ : ∃ eb, bayE s m = eb := ⟨_, rfl⟩
    rw [heb] at her hTb
    clear heb
    clear hNs hz2 hz3 hz4 hz5
    have hstp := R3.out d0.out d1.out d2.out m hlt hinv.out
    have hnx : eQ s m = 0 → Hid (firstN (eQ s) (m + 1) = 0) := fun h0 => show _ = _ by simp [firstN, hinv.out, h0]
    generalize nms s nb nl ns m = N at hT hL her
    have hTd := Tnmd_at (s := x.nm) hL
    obtain ⟨em, hem⟩ : ∃ em, nmE x.nm (dupF N x.nm) = em := ⟨_, rfl⟩
    rw [hem] at her hTd
    clear hem hL hinv R0 R1 R2 R3 R4 nOk nLen bOk d0 d1 d2
    try simp only [show ((0 : Nat) : Int) = 0 from rfl] at hT
    cases q0 : ieq em 0
    · rw [if_neg (ieq_iff'.1 q0)] at her
      rw [her] at hstp hnx
      have hRc := hstp (ieq_iff'.1 q0)
      clear hstp hnx her
      subst hRc
      repeat' first
        | (with_reducible refine gw_bool (fun _ => ?_) (fun _ => ?_))
        | (with_reducible refine condw_bool (fun _ => ?_) (fun _ => ?_))
        | simp [*, By.cs]
    · rw [if_pos (ieq_iff.1 q0)] at her
      rw [her] at hstp hnx
      cases p1 : ieq eb 0
      · have hRc := hstp (ieq_iff'.1 p1)
        clear hstp hnx her
        subst hRc
        repeat' first
          | (with_reducible refine gw_bool (fun _ => ?_) (fun _ => ?_))
          | (with_reducible refine condw_bool (fun _ => ?_) (fun _ => ?_))
          | simp [*, By.cs]
      · have hq := hnx (ieq_iff.1 p1)
        clear hstp hnx her
        repeat' first
          | (with_reducible refine gw_bool (fun _ => ?_) (fun _ => ?_))
          | (with_reducible refine condw_bool (fun _ => ?_) (fun _ => ?_))
          | simp [*, By.cs]
        refine nxt_go (m + 1) (View.refl _ _) (by omega) (by simp [*, Keep, St.forget, scr, scrC]) (by simp [*, KeepH, St.forget, scr, scrC]) ?_
        exact ⟨by omega, by simp [*], hq⟩
  have f3 : ilt (m : Int) (nq : Int) = false := ilt_f (by omega)
  have d3 : Hid (firstN (eQ s) nq = 0) := by
    have e1 : m = nq := by omega
    rw [← e1]; exact hinv
  clear hinv hlt
  have hRc := R4.out d0.out d1.out d2.out d3.out
  clear R0 R1 R2 R3 R4 d0 d1 d2 d3
  subst hRc
  repeat' first
    | (with_reducible refine gw_bool (fun _ => ?_) (fun _ => ?_))
    | (with_reducible refine condw_bool (fun _ => ?_) (fun _ => ?_))
    | simp [*]
end Go.Proofs.Ytjhmphkdkclbjaa
end
section
namespace Go.Proofs.Ytjhmphkdkclbjaa
open Go.Pv Go.RowKit
set_option linter.unusedSimpArgs false
set_option linter.unusedVariables false
set_option maxRecDepth 100000
set_option maxHeartbeats 4000000
attribute [-simp] Tclo_at Tgrp_at Tchk Tpchk TcI TcB Tclo Tgrp Tsid Tnod Tlook Tbnd Tidx Tnms Tnmd Tobj Tlks Tbay

def lkB (s : Stn) : Bool := s.qs.all (fun b => decide (b.lks.length ≤ 9223372036854775807))
def Trck : List V → Option V
  | [.agg a] => (match unStn a with
    | some s => if lkB s = true then some (.int .i64 (chkF s)) else none
    | none => none)
  | _ => none
theorem Trck_at {s : Stn} (h : lkB s = true) : Trck [.agg [.str s.nm, .list 1 (s.bs.map s1), .list 5 (s.ls.map Ln.cs), .list 6 (s.ss.map Sr.cs), .list 12 (s.qs.map By.cs)]] = some (.int .i64 (chkF s)) := by
  have e1 := unStn_cs s
  unfold Stn.cs at e1
  simp [Trck, e1, h]
theorem rck_tab : ∀ vs v, Trck vs = some v → PCall Try.prog 42 vs v := by
  intro vs v h; unfold Trck at h; split at h
  · split at h
    · rename_i h1
      split at h
      · rename_i hl; cases h; rw [unStn_inv _ _ h1]
        exact rcheck_ok _ (fun b hb => by simpa using List.all_eq_true.1 hl b hb)
      · cases h
    · cases h
  · cases h
def E7 : Tab := add 42 Trck (E6)
theorem E7_at (f : FuncId) (vs : List V) : E7.at' f vs = if f = 42 then Trck vs else E6.at' f vs := rfl
theorem E7_fr (f : FuncId) : E7.fr f = if f = 42 then false else E6.fr f := rfl
theorem E7_gb (f : FuncId) : E7.gb f = E6.gb f := rfl
theorem E7_gv (f : FuncId) (vs : List V) : E7.gv f vs = E6.gv f vs := rfl
attribute [simp] E7_at E7_fr E7_gb E7_gv Trck
theorem E7_ok : TabOK Try.prog E7 := by
  refine add_ok (E6_ok) (by kernel_rfl) ?_
  · exact rck_tab
attribute [-simp] Trck
attribute [simp] Trck_at
theorem okL_of (k x : Int) : okL k x = !(ilt x 0 || (ilt 2 x || (ieq k 3 && !ieq x 1))) := by
  unfold okL
  cases h0 : ilt x 0
  · cases h2 : ilt 2 x
    · have a := ilt_iff'.1 h0
      have b := ilt_iff'.1 h2
      rcases (show x = 0 ∨ x = 1 ∨ x = 2 by omega) with rfl | rfl | rfl
      all_goals cases ieq k 3 <;> rfl
    · have b := ilt_iff.1 h2
      rw [ieq_f (show x ≠ 1 by omega), ieq_f (show x ≠ 0 by omega), ieq_f (show x ≠ 2 by omega)]; simp
  · have b := ilt_iff.1 h0
    rw [ieq_f (show x ≠ 1 by omega), ieq_f (show x ≠ 0 by omega), ieq_f (show x ≠ 2 by omega)]; simp
theorem rpchk_ok (s : Stn) (p : Pos) (hm : s.qs.length ≤ 9223372036854775807) (hp : ∀ l ∈ p.lk, l.length ≤ 9223372036854775807) : PCall Try.prog 35 [.agg s.cs, .agg p.cs] (.int .i64 (posE s p)) := by
  obtain ⟨n, hn⟩ : ∃ n, s.qs.length = n := ⟨_, rfl⟩
  obtain ⟨n1, hn1⟩ : ∃ n, p.cl.length = n := ⟨_, rfl⟩
  obtain ⟨n2, hn2⟩ : ∃ n, p.lk.length = n := ⟨_, rfl⟩
  rw [hn] at hm
  cases c1 : ieq (n1 : Int) (n : Int)
  · have he : posE s p = 3 := by simp [posE, hn, hn1, hn2, c1]
    rw [he]
    refine pcall_cx E7_ok mixed (fun _ => none) Try.func35 rfl Try.ntmps35 Try.results35 (by simp) (by kernel_rfl) ?_
    repeat' first
      | (with_reducible refine gw_bool (fun _ => ?_) (fun _ => ?_))
      | (with_reducible refine condw_bool (fun _ => ?_) (fun _ => ?_))
      | simp [*, Stn.cs, Pos.cs]
  cases c2 : ieq (n2 : Int) (n : Int)
  · have he : posE s p = 3 := by simp [posE, hn, hn1, hn2, c1, c2]
    rw [he]
    refine pcall_cx E7_ok mixed (fun _ => none) Try.func35 rfl Try.ntmps35 Try.results35 (by simp) (by kernel_rfl) ?_
    repeat' first
      | (with_reducible refine gw_bool (fun _ => ?_) (fun _ => ?_))
      | (with_reducible refine condw_bool (fun _ => ?_) (fun _ => ?_))
      | simp [*, Stn.cs, Pos.cs]
  have hn12 : n2 = n := by
    have : (n2 : Int) = (n : Int) := by simpa only [ieq, beq_iff_eq] using c2
    omega
  obtain ⟨A, hA⟩ : ∃ A, (List.range n).all (lenOk s p) = A := ⟨_, rfl⟩
  obtain ⟨B, hB⟩ : ∃ B, (List.range n).all (rowOk s p) = B := ⟨_, rfl⟩
  have he : posE s p = if A = false then 3 else if B = false then 16 else 0 := by simp only [posE, hn, hn1, hn2, c1, c2, hA, hB]; simp
  rw [he]
  clear he
  replace hA : Hid ((List.range n).all (lenOk s p) = A) := hA
  replace hB : Hid ((List.range n).all (rowOk s p) = B) := hB
  refine pcall_cx E7_ok mixed (fun _ => none) Try.func35 rfl Try.ntmps35 Try.results35 (by simp) (by kernel_rfl) ?_
  repeat' first
    | (with_reducible refine gw_bool (fun _ => ?_) (fun _ => ?_))
    | (with_reducible refine condw_bool (fun _ => ?_) (fun _ => ?_))
    | simp [*, Stn.cs, Pos.cs]
  refine lp_go (D := (fun _ => none)) E7_ok mixed (by kernel_rfl) [2, 3] [2, 3] (α := Nat) (fun i e h => i ≤ n ∧ e 5 = .int .i64 i ∧ Hid ((List.range i).all (lenOk s p) = true)) (fun i => n - i) 0 ?_ ?_
  · exact ⟨by omega, rfl, show _ = _ by simp⟩
  · rintro i e h hk hkh ⟨hi, g7, hinv⟩
    simp [Keep] at hk
    simp [KeepH] at hkh
    by_cases hlt : i < n
    · obtain ⟨b, hb, hb'⟩ := at_ex (l := s.qs) (i := i) (by omega)
      obtain ⟨l, hl, hl'⟩ := at_ex (l := p.lk) (i := i) (by omega)
      have f1 : ilt (i : Int) (n : Int) = true := ilt_t (by omega)
      have w1 : IntKind.i64.wrap ((i : Int) + 1) = ((i + 1 : Nat) : Int) := wrap_succ (by omega)
      have hg : lenOk s p i = ieq (l.length : Int) (b.lks.length : Int) := by simp [lenOk, hb, hl]
      obtain ⟨m1, hm1⟩ : ∃ m, l.length = m := ⟨_, rfl⟩
      obtain ⟨m2, hm2⟩ : ∃ m, b.lks.length = m := ⟨_, rfl⟩
      rw [hm1, hm2] at hg
      have hlt2 : i < n2 := by omega
      cases hq : ieq (m1 : Int) (m2 : Int)
      · rw [hq] at hg
        have hall : A = false := by rw [← hA.out]; exact all_false hlt hg
        clear hinv hg hA hB
        repeat' first
          | (with_reducible refine gw_bool (fun _ => ?_) (fun _ => ?_))
          | (with_reducible refine condw_bool (fun _ => ?_) (fun _ => ?_))
          | simp [*, By.cs, r1]
      · rw [hq] at hg
        have hq' : Hid ((List.range (i + 1)).all (lenOk s p) = true) := all_step hinv.out hg
        clear hinv hg
        repeat' first
          | (with_reducible refine gw_bool (fun _ => ?_) (fun _ => ?_))
          | (with_reducible refine condw_bool (fun _ => ?_) (fun _ => ?_))
          | simp [*, By.cs, r1]
        refine nxt_go (i + 1) (View.refl _ _) (by omega) (by simp [*, Keep, St.forget, scr, scrC]) (by simp [*, KeepH, St.forget, scr, scrC]) ?_
        refine ⟨by omega, ?_, hq'⟩; simp [*]
    · have f1 : ilt (i : Int) (n : Int) = false := ilt_f (by omega)
      have e1 : i = n := by omega
      have hLen : Hid ((List.range n).all (lenOk s p) = true) := by
        have := hinv.out
        rwa [e1] at this
      have hAt : A = true := by rw [← hA.out]; exact hLen.out
      clear hinv hA
      repeat' first
        | (with_reducible refine gw_bool (fun _ => ?_) (fun _ => ?_))
        | (with_reducible refine condw_bool (fun _ => ?_) (fun _ => ?_))
        | simp [*]
      refine lp_go (D := (fun _ => none)) E7_ok mixed (by kernel_rfl) [2, 3] [2, 3] (α := Nat) (fun i e h => i ≤ n ∧ e 6 = .int .i64 i ∧ Hid ((List.range i).all (rowOk s p) = true)) (fun i => n - i) 0 ?_ ?_
      · exact ⟨by omega, by simp, show _ = _ by simp⟩
      · have hk0 := hk
        have hkh0 := hkh
        clear hk hkh g7
        rintro i e h hk hkh ⟨hi, g7, hinv⟩
        simp [Keep, hk0, hkh0] at hk
        simp [KeepH, hk0, hkh0] at hkh
        by_cases hlt : i < n
        · obtain ⟨b, hb, hb'⟩ := at_ex (l := s.qs) (i := i) (by omega)
          obtain ⟨l, hl, hl'⟩ := at_ex (l := p.lk) (i := i) (by omega)
          have f1 : ilt (i : Int) (n : Int) = true := ilt_t (by omega)
          have w1 : IntKind.i64.wrap ((i : Int) + 1) = ((i + 1 : Nat) : Int) := wrap_succ (by omega)
          have hg : rowOk s p i = l.all (okL b.kind) := by simp [rowOk, hb, hl]
          have hlm : l.length ≤ 9223372036854775807 := hp l (List.mem_of_getElem? hl)
          obtain ⟨m1, hm1⟩ : ∃ m, l.length = m := ⟨_, rfl⟩
          rw [hm1] at hlm
          have hlt2 : i < n2 := by omega
          replace hg : Hid (rowOk s p i = l.all (okL b.kind)) := hg
          repeat' first
            | (with_reducible refine gw_bool (fun _ => ?_) (fun _ => ?_))
            | (with_reducible refine condw_bool (fun _ => ?_) (fun _ => ?_))
            | simp [*, By.cs, r1]
          refine lp_go (D := (fun _ => none)) E7_ok mixed (by kernel_rfl) [2, 3, 6, 46, 47, 48, 49, 50] [2, 3] (α := Nat) (fun j e h => j ≤ m1 ∧ e 7 = .int .i64 j ∧ Hid ((l.take j).all (okL b.kind) = true)) (fun j => m1 - j) 0 ?_ ?_
          · exact ⟨by omega, by simp, show _ = _ by simp⟩
          · have hk0 := hk
            have hkh0 := hkh
            have g0 := g7
            clear hk hkh g7
            rintro j e h hk hkh ⟨hj, g7, hjnv⟩
            simp [Keep, hk0, hkh0, g0] at hk
            simp [KeepH, hk0, hkh0] at hkh
            by_cases hjlt : j < m1
            · obtain ⟨x, hx, hx'⟩ := at_ex (l := l) (i := j) (by omega)
              have f2 : ilt (j : Int) (m1 : Int) = true := ilt_t (by omega)
              have w2 : IntKind.i64.wrap ((j : Int) + 1) = ((j + 1 : Nat) : Int) := wrap_succ (by omega)
              have hok : okL b.kind x = !(ilt x 0 || (ilt 2 x || (ieq b.kind 3 && !ieq x 1))) := okL_of _ _
              cases ho : okL b.kind x
              · rw [ho] at hok
                have hBf : B = false := by
                  rw [← hB.out]
                  refine all_false hlt ?_
                  rw [hg.out, Bool.eq_false_iff]
                  intro hc
                  have := List.all_eq_true.1 hc x (List.mem_of_getElem? hx)
                  rw [ho] at this; cases this
                clear hg hjnv hinv hB hLen ho
                replace hok : Hid (false = !(ilt x 0 || (ilt 2 x || (ieq b.kind 3 && !ieq x 1)))) := hok
                repeat' first
                  | (with_reducible refine gw_bool (fun _ => ?_) (fun _ => ?_))
                  | (with_reducible refine condw_bool (fun _ => ?_) (fun _ => ?_))
                  | simp [*, i1, r1, By.cs]
                all_goals (exfalso; have hok := hok.out; simp [*] at hok; done)
              · have hq' : Hid ((l.take (j + 1)).all (okL b.kind) = true) := by
                  show _ = _
                  rw [take_snoc hx, List.all_append, hjnv.out]; simp [ho]
                rw [ho] at hok
                clear hjnv ho
                replace hok : Hid (true = !(ilt x 0 || (ilt 2 x || (ieq b.kind 3 && !ieq x 1)))) := hok
                repeat' first
                  | (with_reducible refine gw_bool (fun _ => ?_) (fun _ => ?_))
                  | (with_reducible refine condw_bool (fun _ => ?_) (fun _ => ?_))
                  | simp [*, i1, r1, By.cs]
                all_goals first
                  | (exfalso; have hok := hok.out; simp [*] at hok; done)
                  | skip
                all_goals refine nxt_go (j + 1) (View.refl _ _) (by omega) (by simp [*, Keep, St.forget, scr, scrC]) (by simp [*, KeepH, St.forget, scr, scrC]) ?_
                all_goals (refine ⟨by omega, ?_, hq'⟩; simp [*])
            · have f2 : ilt (j : Int) (m1 : Int) = false := ilt_f (by omega)
              have e2 : j = m1 := by omega
              have hq' : Hid ((List.range (i + 1)).all (rowOk s p) = true) := by
                refine all_step hinv.out ?_
                rw [hg.out]
                have := hjnv.out
                rwa [e2, ← hm1, List.take_length] at this
              clear hjnv hinv hg
              repeat' first
                | (with_reducible refine gw_bool (fun _ => ?_) (fun _ => ?_))
                | (with_reducible refine condw_bool (fun _ => ?_) (fun _ => ?_))
                | simp [*, r1]
              refine nxt_go (i + 1) (View.refl _ _) (by omega) (by simp [*, Keep, St.forget, scr, scrC]) (by simp [*, KeepH, St.forget, scr, scrC]) ?_
              refine ⟨by omega, ?_, hq'⟩; simp [*]
        · have f1 : ilt (i : Int) (n : Int) = false := ilt_f (by omega)
          have e1 : i = n := by omega
          have hBt : B = true := by
            have := hinv.out
            rw [e1] at this
            rw [← hB.out]; exact this
          clear hinv hB hLen
          repeat' first
            | (with_reducible refine gw_bool (fun _ => ?_) (fun _ => ?_))
            | (with_reducible refine condw_bool (fun _ => ?_) (fun _ => ?_))
            | simp [*, r1]
def Trpc : List V → Option V
  | [.agg a, .agg b] => (match unStn a, unPos b with
    | some s, some p => if lenB s p = true then some (.int .i64 (posE s p)) else none
    | _, _ => none)
  | _ => none
theorem Trpc_at {s : Stn} {p : Pos} (h : lenB s p = true) : Trpc [.agg [.str s.nm, .list 1 (s.bs.map s1), .list 5 (s.ls.map Ln.cs), .list 6 (s.ss.map Sr.cs), .list 12 (s.qs.map By.cs)], .agg [.list 1 (p.cl.map b1), .list 1 (p.lk.map r1)]] = some (.int .i64 (posE s p)) := by
  have e1 := unStn_cs s
  have e2 := unPos_cs p
  unfold Stn.cs at e1
  unfold Pos.cs at e2
  simp [Trpc, e1, e2, h]
theorem rpc_tab : ∀ vs v, Trpc vs = some v → PCall Try.prog 35 vs v := by
  intro vs v h; unfold Trpc at h; split at h
  · split at h
    · rename_i h1 h2
      split at h
      · rename_i hl
        cases h
        rw [unStn_inv _ _ h1, unPos_inv _ _ h2]
        simp only [lenB, Bool.and_eq_true, decide_eq_true_eq, List.all_eq_true] at hl
        exact rpchk_ok _ _ hl.1 hl.2
      · cases h
    · cases h
  · cases h
def E8 : Tab := add 35 Trpc (E7)
theorem E8_at (f : FuncId) (vs : List V) : E8.at' f vs = if f = 35 then Trpc vs else E7.at' f vs := rfl
theorem E8_fr (f : FuncId) : E8.fr f = if f = 35 then false else E7.fr f := rfl
theorem E8_gb (f : FuncId) : E8.gb f = E7.gb f := rfl
theorem E8_gv (f : FuncId) (vs : List V) : E8.gv f vs = E7.gv f vs := rfl
attribute [simp] E8_at E8_fr E8_gb E8_gv Trpc
theorem E8_ok : TabOK Try.prog E8 := by
  refine add_ok (E7_ok) (by kernel_rfl) ?_
  · exact rpc_tab
attribute [-simp] Trpc
attribute [simp] Trpc_at
theorem rfine_ok {s : Stn} {p : Pos} (h1 : lkB s = true) (h2 : lenB s p = true) : PCall Try.prog 59 [.agg s.cs, .agg p.cs] (.bool (okP s p)) := by
  cases e1 : ieq (chkF s) 0
  · have hk : okP s p = false := by have := ieq_iff'.1 e1; simp [okP, this]
    refine pcall_cx E8_ok mixed (fun _ => none) Try.func59 rfl Try.ntmps59 Try.results59 (by simp) (by kernel_rfl) ?_
    repeat' first
      | (with_reducible refine gw_bool (fun _ => ?_) (fun _ => ?_))
      | (with_reducible refine condw_bool (fun _ => ?_) (fun _ => ?_))
      | simp [*, Stn.cs, Pos.cs]
  cases e2 : ieq (posE s p) 0
  · have hk : okP s p = false := by have := ieq_iff'.1 e2; simp [okP, this]
    refine pcall_cx E8_ok mixed (fun _ => none) Try.func59 rfl Try.ntmps59 Try.results59 (by simp) (by kernel_rfl) ?_
    repeat' first
      | (with_reducible refine gw_bool (fun _ => ?_) (fun _ => ?_))
      | (with_reducible refine condw_bool (fun _ => ?_) (fun _ => ?_))
      | simp [*, Stn.cs, Pos.cs]
  have hk : okP s p = true := by simp [okP, ieq_iff.1 e1, ieq_iff.1 e2]
  refine pcall_cx E8_ok mixed (fun _ => none) Try.func59 rfl Try.ntmps59 Try.results59 (by simp) (by kernel_rfl) ?_
  repeat' first
    | (with_reducible refine gw_bool (fun _ => ?_) (fun _ => ?_))
    | (with_reducible refine condw_bool (fun _ => ?_) (fun _ => ?_))
    | simp [*, Stn.cs, Pos.cs]
end Go.Proofs.Ytjhmphkdkclbjaa
end
section
namespace Go.Proofs.Ytjhmphkdkclbjaa
open Go.Pv Go.RowKit
set_option linter.unusedSimpArgs false
set_option linter.unusedVariables false

theorem has_lk {cs : List V} (h : HasC (.struct [.int .i64, .int .i64]) cs) : ∃ x : Lk, cs = x.cs := by
  simp only [HasL, HasC] at h
  obtain ⟨_, _, rfl, ⟨a, rfl, _⟩, _, _, rfl, ⟨b, rfl, _⟩, rfl⟩ := h
  exact ⟨⟨a, b⟩, rfl⟩
theorem has_s1 {cs : List V} (h : HasC .str cs) : ∃ x : ByteArray, cs = s1 x := by
  simp only [HasC] at h
  obtain ⟨a, rfl, _⟩ := h
  exact ⟨a, rfl⟩
theorem has_b1 {cs : List V} (h : HasC .bool cs) : ∃ x : Bool, cs = b1 x := by
  simp only [HasC] at h
  obtain ⟨a, rfl⟩ := h
  exact ⟨a, rfl⟩
theorem has_i1 {cs : List V} (h : HasC (.int .i64) cs) : ∃ x : Int, cs = i1 x := by
  simp only [HasC] at h
  obtain ⟨a, rfl, _⟩ := h
  exact ⟨a, rfl⟩
theorem has_row {cs : List V} (h : HasC (.slice (.int .i64)) cs) : ∃ x : List Int, cs = r1 x ∧ x.length ≤ maxLen := by
  simp only [HasC] at h
  obtain ⟨xs, rfl, hl, hx⟩ := h
  obtain ⟨l, rfl⟩ := rows_of (enc := i1) fun x hx2 => has_i1 (by simpa only [HasC] using hx x hx2)
  exact ⟨l, rfl, by simpa using hl⟩
theorem has_pos {u : V} (h : HasV (.struct [.slice .bool, .slice (.slice (.int .i64))]) u) : ∃ p : Pos, u = .agg p.cs ∧ (∀ l ∈ p.lk, l.length ≤ maxLen) ∧ p.cl.length ≤ maxLen ∧ p.lk.length ≤ maxLen := by
  have h' : ∃ cs, u = .agg cs ∧ HasL [.slice .bool, .slice (.slice (.int .i64))] cs := by simpa only [HasV] using h
  clear h
  obtain ⟨cs, rfl, h⟩ := h'
  unfold HasL at h
  obtain ⟨a, b, rfl, ha, h⟩ := h
  unfold HasL at h
  obtain ⟨a2, b2, rfl, ha2, h⟩ := h
  unfold HasL at h
  subst h
  unfold HasC at ha ha2
  obtain ⟨xs, rfl, hl1, hx1⟩ := ha
  obtain ⟨ys, rfl, hl2, hx2⟩ := ha2
  obtain ⟨c, rfl⟩ := rows_of (enc := b1) fun x hx => has_b1 (hx1 x hx)
  obtain ⟨l, rfl⟩ := rows_of (enc := r1) fun x hx => by obtain ⟨y, hy, _⟩ := has_row (hx2 x hx); exact ⟨y, hy⟩
  refine ⟨⟨c, l⟩, rfl, fun y hy => ?_, by simpa using hl1, by simpa using hl2⟩
  obtain ⟨z, hz, hzl⟩ := has_row (hx2 (r1 y) (List.mem_map.2 ⟨y, hy, rfl⟩))
  have : y = z := by
    have := unR1_cs y
    rw [hz, unR1_cs] at this
    exact (Option.some.inj this).symm
  rw [this]; exact hzl
theorem has_ln {cs : List V} (h : HasC (.struct [.str, .struct [.int .i64, .int .i64], .struct [.int .i64, .int .i64]]) cs) : ∃ x : Ln, cs = x.cs := by
  simp only [HasL, HasC] at h
  obtain ⟨_, _, rfl, ⟨nm, rfl, _⟩, _, _, rfl, ⟨_, _, rfl, ⟨a, rfl, _⟩, _, _, rfl, ⟨b, rfl, _⟩, rfl⟩, _, _, rfl, ⟨_, _, rfl, ⟨c, rfl, _⟩, _, _, rfl, ⟨d, rfl, _⟩, rfl⟩, rfl⟩ := h
  exact ⟨⟨nm, a, b, c, d⟩, rfl⟩
theorem has_sr {cs : List V} (h : HasC (.struct [.str, .int .i64, .struct [.int .i64, .int .i64], .struct [.int .i64, .int .i64]]) cs) : ∃ x : Sr, cs = x.cs := by
  simp only [HasL, HasC] at h
  obtain ⟨_, _, rfl, ⟨nm, rfl, _⟩, _, _, rfl, ⟨e, rfl, _⟩, _, _, rfl, ⟨_, _, rfl, ⟨a, rfl, _⟩, _, _, rfl, ⟨b, rfl, _⟩, rfl⟩, _, _, rfl, ⟨_, _, rfl, ⟨c, rfl, _⟩, _, _, rfl, ⟨d, rfl, _⟩, rfl⟩, rfl⟩ := h
  exact ⟨⟨nm, e, a, b, c, d⟩, rfl⟩
theorem has_byL {cs : List V} (h : HasC (.struct [.str, .int .i64, .int .i64, .int .i64, .struct [.int .i64, .int .i64], .slice (.struct [.int .i64, .int .i64]), .bool, .int .i64, .int .i64, .int .i64, .int .i64]) cs) : ∃ x : By, cs = x.cs ∧ x.lks.length ≤ maxLen := by
  simp only [HasL, HasC] at h
  obtain ⟨_, _, rfl, ⟨nm, rfl, _⟩, _, _, rfl, ⟨k, rfl, _⟩, _, _, rfl, ⟨o, rfl, _⟩, _, _, rfl, ⟨en, rfl, _⟩, _, _, rfl, ⟨_, _, rfl, ⟨a, rfl, _⟩, _, _, rfl, ⟨b, rfl, _⟩, rfl⟩, _, _, rfl, ⟨xs, rfl, hxl, hx⟩, _, _, rfl, ⟨cl, rfl⟩, _, _, rfl, ⟨ct, rfl, _⟩, _, _, rfl, ⟨vt, rfl, _⟩, _, _, rfl, ⟨sa, rfl, _⟩, _, _, rfl, ⟨tr, rfl, _⟩, rfl⟩ := h
  obtain ⟨l, rfl⟩ := rows_of (enc := Lk.cs) (xs := xs) fun x hx2 => has_lk (by simpa only [HasL, HasC] using hx x hx2)
  exact ⟨⟨nm, k, o, en, a, b, l, cl, ct, vt, sa, tr⟩, rfl, by simpa using hxl⟩
theorem has_stnL {u : V} (h : HasV (.struct [.str, .slice .str, .slice (.struct [.str, .struct [.int .i64, .int .i64], .struct [.int .i64, .int .i64]]), .slice (.struct [.str, .int .i64, .struct [.int .i64, .int .i64], .struct [.int .i64, .int .i64]]), .slice (.struct [.str, .int .i64, .int .i64, .int .i64, .struct [.int .i64, .int .i64], .slice (.struct [.int .i64, .int .i64]), .bool, .int .i64, .int .i64, .int .i64, .int .i64])]) u) : ∃ s : Stn, u = .agg s.cs ∧ s.qs.length ≤ maxLen ∧ s.bs.length ≤ maxLen ∧ lkB s = true := by
  have h' : ∃ cs, u = .agg cs ∧ HasL [.str, .slice .str, .slice (.struct [.str, .struct [.int .i64, .int .i64], .struct [.int .i64, .int .i64]]), .slice (.struct [.str, .int .i64, .struct [.int .i64, .int .i64], .struct [.int .i64, .int .i64]]), .slice (.struct [.str, .int .i64, .int .i64, .int .i64, .struct [.int .i64, .int .i64], .slice (.struct [.int .i64, .int .i64]), .bool, .int .i64, .int .i64, .int .i64, .int .i64])] cs := by simpa only [HasV] using h
  clear h
  obtain ⟨cs, rfl, h⟩ := h'
  unfold HasL at h
  obtain ⟨a1, b1, rfl, ha1, h⟩ := h
  unfold HasL at h
  obtain ⟨a2, b2, rfl, ha2, h⟩ := h
  unfold HasL at h
  obtain ⟨a3, b3, rfl, ha3, h⟩ := h
  unfold HasL at h
  obtain ⟨a4, b4, rfl, ha4, h⟩ := h
  unfold HasL at h
  obtain ⟨a5, b5, rfl, ha5, h⟩ := h
  unfold HasL at h
  subst h
  unfold HasC at ha1 ha2 ha3 ha4 ha5
  obtain ⟨nm, rfl, _⟩ := ha1
  obtain ⟨x2, rfl, hl2, hx2⟩ := ha2
  obtain ⟨x3, rfl, _, hx3⟩ := ha3
  obtain ⟨x4, rfl, _, hx4⟩ := ha4
  obtain ⟨x5, rfl, hl5, hx5⟩ := ha5
  obtain ⟨bs, rfl⟩ := rows_of (enc := s1) fun x hx => has_s1 (hx2 x hx)
  obtain ⟨ls, rfl⟩ := rows_of (enc := Ln.cs) fun x hx => has_ln (hx3 x hx)
  obtain ⟨ss, rfl⟩ := rows_of (enc := Sr.cs) fun x hx => has_sr (hx4 x hx)
  obtain ⟨qs, rfl⟩ := rows_of (enc := By.cs) fun x hx => by obtain ⟨y, hy, _⟩ := has_byL (hx5 x hx); exact ⟨y, hy⟩
  refine ⟨⟨nm, bs, ls, ss, qs⟩, rfl, by simpa using hl5, by simpa using hl2, List.all_eq_true.2 fun q hq => ?_⟩
  obtain ⟨z, hz, hzl⟩ := has_byL (hx5 q.cs (List.mem_map.2 ⟨q, hq, rfl⟩))
  have : q = z := by
    have := unBy_cs q
    rw [hz, unBy_cs] at this
    exact (Option.some.inj this).symm
  have hm : maxLen = 9223372036854775807 := by decide
  rw [this]; simp only [decide_eq_true_eq]; rw [← hm]; exact hzl
end Go.Proofs.Ytjhmphkdkclbjaa
end
