/-
  Two rings.
  The channels of a case.
  The frames of a step.
  Tools for loops over iterators.
  The iterators of a ring.
  The iterators of a ring: descending.
  A ring is checked; its directions.
  The nodes that a frame reaches.
  What is collected: a frame is missing.
  Regions in any order; a table of one contract.
-/
import Derived.Test.YtongalkfcfkfiaaJ4
section
namespace Go.Proofs.Ytongalkfcfkfiaa
open Go.Pv Go.RowKit
set_option linter.unusedSimpArgs false
set_option linter.unusedVariables false
set_option maxRecDepth 100000
set_option maxHeartbeats 4000000

def G9 : Tab := add 4 Twi (noTab)
theorem G9_at (f : FuncId) (vs : List V) : G9.at' f vs = if f = 4 then Twi vs else noTab.at' f vs := rfl
theorem G9_fr (f : FuncId) : G9.fr f = if f = 4 then false else noTab.fr f := rfl
theorem G9_gb (f : FuncId) : G9.gb f = noTab.gb f := rfl
theorem G9_gv (f : FuncId) (vs : List V) : G9.gv f vs = noTab.gv f vs := rfl
attribute [simp] G9_at G9_fr G9_gb G9_gv Twi
theorem G9_ok : TabOK Try.prog G9 := by
  refine add_ok (noTab_ok) (by kernel_rfl) ?_
  · exact wi1_tab
attribute [-simp] Twi
def bl1 (b : Bool) : List V := [.bool b]
theorem chunks_bl : ∀ (l : List Bool), chunks 1 l.length (l.map V.bool) = l.map bl1
  | [] => rfl
  | b :: l => by
    have := chunks_bl l
    simp only [List.map_cons, List.length_cons, chunks, List.take_succ_cons, List.take_zero, List.drop_succ_cons, List.drop_zero, this]
    rfl
theorem pure_bl (l : List Bool) : (l.map V.bool).any ownC = false := by
  rw [List.any_eq_false]; intro v hv; simp only [List.mem_map] at hv; obtain ⟨b, _, rfl⟩ := hv; simp [ownC]
/-- The links of a ring, at most one of them cut. -/
def cutL (n : Nat) (c : Int) : List Bool := if ilt c 0 = true then List.replicate n false else (List.replicate n false).set (c % n).toNat true
theorem cutL_len (n : Nat) (c : Int) : (cutL n c).length = n := by unfold cutL; split <;> simp
def nodesN (a : Int) : Nat := 3 + (a % 12).toNat
theorem nodesN_b (a : Int) : 3 ≤ nodesN a ∧ nodesN a ≤ 14 := by unfold nodesN; omega
theorem fine_ok (a b ca cb : Int) : PCall Try.prog 13 [.agg [.int .i64 a, .int .i64 b, .int .i64 ca, .int .i64 cb]]
    (.tup [.int .i64 (nodesN a), .int .i64 (b % nodesN a), .agg [.list 1 ((cutL (nodesN a) ca).map bl1), .list 1 ((cutL (nodesN a) cb).map bl1)]]) := by
  have hb := nodesN_b a
  have t1 := Twi_at (n := a) (m := 12) (by decide) (by decide)
  have hn : (3 : Int) + a % 12 = nodesN a := by unfold nodesN; omega
  have hw : IntKind.i64.wrap (3 + a % 12) = ((nodesN a : Nat) : Int) := by rw [hn, wrap_id] <;> omega
  have t2 := Twi_at (n := b) (m := nodesN a) (by omega) (by omega)
  have q1 := chunks_bl (cutL (nodesN a) ca)
  have q2 := chunks_bl (cutL (nodesN a) cb)
  have p1 := pure_bl (cutL (nodesN a) ca)
  have p2 := pure_bl (cutL (nodesN a) cb)
  have l1 : ((cutL (nodesN a) ca).map V.bool).length = nodesN a := by simp [cutL_len]
  have l2 : ((cutL (nodesN a) cb).map V.bool).length = nodesN a := by simp [cutL_len]
  rw [cutL_len] at q1 q2
  generalize hN : nodesN a = N at *
  have hpos : (0 : Int) < N := by omega
  have fA : ilt ca 0 = true → (cutL N ca).map V.bool = List.replicate N (.bool false) := fun h => by simp [cutL, h]
  have fB : ilt cb 0 = true → (cutL N cb).map V.bool = List.replicate N (.bool false) := fun h => by simp [cutL, h]
  have gA : ilt ca 0 = false → ∃ i : Nat, ca.tmod N = i ∧ i < N ∧ (cutL N ca).map V.bool = (List.replicate N (.bool false)).set i (.bool true) := fun h => by
    have h0 := ilt_iff'.1 h
    have h1 := Int.emod_nonneg ca (show (N : Int) ≠ 0 by omega)
    have h2 := Int.emod_lt_of_pos ca hpos
    refine ⟨(ca % N).toNat, by rw [Int.tmod_eq_emod_of_nonneg h0]; omega, by omega, by simp [cutL, h, List.map_set]⟩
  have gB : ilt cb 0 = false → ∃ i : Nat, cb.tmod N = i ∧ i < N ∧ (cutL N cb).map V.bool = (List.replicate N (.bool false)).set i (.bool true) := fun h => by
    have h0 := ilt_iff'.1 h
    have h1 := Int.emod_nonneg cb (show (N : Int) ≠ 0 by omega)
    have h2 := Int.emod_lt_of_pos cb hpos
    refine ⟨(cb % N).toNat, by rw [Int.tmod_eq_emod_of_nonneg h0]; omega, by omega, by simp [cutL, h, List.map_set]⟩
  have hne : ¬ ((N : Int) = 0) := by omega
  have hbe : ((N : Int) == 0) = false := by simp; omega
  have hn0 : ¬ N = 0 := by omega
  have hN1 : (N : Int) ≤ 281474976710656 := by omega
  have hN2 : (N : Int) ≤ 9223372036854775807 := by omega
  generalize (cutL N ca).map V.bool = LA at *
  generalize (cutL N cb).map V.bool = LB at *
  generalize (cutL N ca).map bl1 = MA at *
  generalize (cutL N cb).map bl1 = MB at *
  clear hb hn hpos
  cases hA : ilt ca 0
  · obtain ⟨i, hi, hiN, hL⟩ := gA hA
    replace hL := hL.symm
    have e1 : (i : Int) < N := by omega
    have e1' : i + 1 ≤ N := hiN
    cases hB : ilt cb 0
    · obtain ⟨j, hj, hjN, hM⟩ := gB hB
      replace hM := hM.symm
      have e2 : (j : Int) < N := by omega
      have e2' : j + 1 ≤ N := hjN
      clear fA fB gA gB hN
      refine pcall_cx G9_ok mixed (fun _ => none) Try.func13 rfl Try.ntmps13 Try.results13 (by simp) (by kernel_rfl) ?_
      repeat' first
        | (with_reducible refine gw_bool (fun _ => ?_) (fun _ => ?_))
        | (with_reducible refine condw_bool (fun _ => ?_) (fun _ => ?_))
        | simp [*, setsV]
    · have hM := fB hB
      clear fA fB gA gB hN
      subst hM
      refine pcall_cx G9_ok mixed (fun _ => none) Try.func13 rfl Try.ntmps13 Try.results13 (by simp) (by kernel_rfl) ?_
      repeat' first
        | (with_reducible refine gw_bool (fun _ => ?_) (fun _ => ?_))
        | (with_reducible refine condw_bool (fun _ => ?_) (fun _ => ?_))
        | simp [*, setsV]
  · have hL := fA hA
    cases hB : ilt cb 0
    · obtain ⟨j, hj, hjN, hM⟩ := gB hB
      replace hM := hM.symm
      have e2 : (j : Int) < N := by omega
      have e2' : j + 1 ≤ N := hjN
      clear fA fB gA gB hN
      subst hL
      refine pcall_cx G9_ok mixed (fun _ => none) Try.func13 rfl Try.ntmps13 Try.results13 (by simp) (by kernel_rfl) ?_
      repeat' first
        | (with_reducible refine gw_bool (fun _ => ?_) (fun _ => ?_))
        | (with_reducible refine condw_bool (fun _ => ?_) (fun _ => ?_))
        | simp [*, setsV]
    · have hM := fB hB
      clear fA fB gA gB hN
      subst hL; subst hM
      have hMA : MA = MB := q1.symm.trans q2
      subst hMA
      refine pcall_cx G9_ok mixed (fun _ => none) Try.func13 rfl Try.ntmps13 Try.results13 (by simp) (by kernel_rfl) ?_
      repeat' first
        | (with_reducible refine gw_bool (fun _ => ?_) (fun _ => ?_))
        | (with_reducible refine condw_bool (fun _ => ?_) (fun _ => ?_))
        | simp [*, setsV]
end Go.Proofs.Ytongalkfcfkfiaa
end
section
namespace Go.Proofs.Ytongalkfcfkfiaa
open Go.Pv Go.RowKit
set_option linter.unusedSimpArgs false
set_option linter.unusedVariables false
set_option maxRecDepth 100000
set_option maxHeartbeats 4000000

theorem td28 : td Try.prog 28 = some { size := 41, bytes := 360, agg := true, strct := true, zero := some [.int .i64 0, .int .i64 0, .int .i64 0, .int .i64 0, .int .i64 0, .int .i64 0, .int .i64 0, .int .i64 0, .int .i64 0, .int .i64 0, .int .i64 0, .int .i64 0, .int .i64 0, .int .i64 0, .int .i64 0, .int .i64 0, .int .i64 0, .int .i64 0, .int .i64 0, .int .i64 0, .int .i64 0, .int .i64 0, .int .i64 0, .int .i64 0, .int .i64 0, .int .i64 0, .int .i64 0, .int .i64 0, .int .i64 0, .int .i64 0, .int .i64 0, .int .i64 0, .int .i64 0, .int .i64 0, .int .i64 0, .int .i64 0, .int .i64 0, .int .i64 0, .nils, .nils, .int .i64 0], fields := [some (0, 1, false), some (1, 1, false), some (2, 36, true), some (38, 1, false), some (39, 1, false), some (40, 1, false)], arr := none, slc := none, int := none, isBool := false, isStr := false, eqg := false } := by kernel_rfl
attribute [simp] td28

def G10 : Tab := add 12 Twi (noTab)
theorem G10_at (f : FuncId) (vs : List V) : G10.at' f vs = if f = 12 then Twi vs else noTab.at' f vs := rfl
theorem G10_fr (f : FuncId) : G10.fr f = if f = 12 then false else noTab.fr f := rfl
theorem G10_gb (f : FuncId) : G10.gb f = noTab.gb f := rfl
theorem G10_gv (f : FuncId) (vs : List V) : G10.gv f vs = noTab.gv f vs := rfl
attribute [simp] G10_at G10_fr G10_gb G10_gv Twi
theorem G10_ok : TabOK Try.prog G10 := by
  refine add_ok (noTab_ok) (by kernel_rfl) ?_
  · exact wi2_tab
attribute [-simp] Twi
def i1 (n : Int) : List V := [.int .i64 n]
theorem chunks_i1 : ∀ (l : List Int), chunks 1 l.length (l.map (V.int .i64)) = l.map i1
  | [] => rfl
  | b :: l => by
    have := chunks_i1 l
    simp only [List.map_cons, List.length_cons, chunks, List.take_succ_cons, List.take_zero, List.drop_succ_cons, List.drop_zero, this]
    rfl
theorem pure_i1 (l : List Int) : (l.map (V.int .i64)).any ownC = false := by
  rw [List.any_eq_false]; intro v hv; simp only [List.mem_map] at hv; obtain ⟨b, _, rfl⟩ := hv; simp [ownC]
theorem scr_i1 (l : List Int) (k : Nat) : (l.map (V.int .i64)).map (scrC k) = l.map (V.int .i64) := scrC_cells (pure_i1 l)
def chN (X : Nat → Nat → Int) (j q : Nat) : Int := X j q % 32767 - 16383
def chR (X : Nat → Nat → Int) (j k : Nat) : List Int := (List.range k).map (chN X j)
theorem chR_succ (X : Nat → Nat → Int) (j k : Nat) : chR X j (k + 1) = chR X j k ++ [chN X j k] := by simp [chR, List.range_succ]
theorem chR_len (X : Nat → Nat → Int) (j k : Nat) : (chR X j k).length = k := by simp [chR]
def chV (X : Nat → Nat → Int) (i : Nat) : List V := (List.range i).map fun j => .list 1 ((chR X j 12).map i1)
theorem chV_succ (X : Nat → Nat → Int) (i : Nat) : chV X (i + 1) = chV X i ++ [.list 1 ((chR X i 12).map i1)] := by simp [chV, List.range_succ]
theorem chV_pure (X : Nat → Nat → Int) (i : Nat) : (chV X i).any ownC = false := by
  rw [List.any_eq_false]; intro v hv; simp only [chV, List.mem_map] at hv; obtain ⟨b, _, rfl⟩ := hv; simp [ownC]
theorem chV_len (X : Nat → Nat → Int) (i : Nat) : (chV X i).length = i := by simp [chV]
theorem chan_ok (C : List V) (X : Nat → Nat → Int) (hC : C.length = 41) (hCp : C.any ownC = false) (hX : ∀ j q, j < 3 → q < 12 → C[2 + j * 12 + q]? = some (.int .i64 (X j q))) :
    PCall Try.prog 6 [.agg C] (.list 1 [[.list 1 ((chR X 0 12).map i1)], [.list 1 ((chR X 1 12).map i1)], [.list 1 ((chR X 2 12).map i1)]]) := by
  replace hX : Hid (_) := hX
  have hCs : ∀ k, C.map (scrC k) = C := fun k => scrC_cells hCp
  have hCb : ∀ k b, C.map (pubC k b) = C := fun k b => pub_cells hCp
  refine pcall_cx G10_ok mixed (fun _ => none) Try.func6 rfl Try.ntmps6 Try.results6 (by simp) (by kernel_rfl) ?_
  repeat' first
    | (with_reducible refine gw_bool (fun _ => ?_) (fun _ => ?_))
    | (with_reducible refine condw_bool (fun _ => ?_) (fun _ => ?_))
    | simp [*]
  refine lp_view (View.nilOwn _ (t := 3) (key := 29) 1 26 rfl rfl) ?_
  refine lp_go (D := (fun _ => none)) G10_ok mixed (by kernel_rfl) [1] [1, 24, 25, 28] (α := Nat) (fun i e h => i ≤ 3 ∧ e 4 = .int .i64 i ∧ e 3 = .sl 29 0 i 1 ∧ h 29 = some ⟨26, chV X i⟩) (fun i => 3 - i) 0 ?_ ?_
  · exact ⟨by omega, by simp, by simp, by simp [chV]⟩
  rintro i e h hk hkh ⟨hi, g4, g3, g29⟩
  simp [Keep] at hk
  simp [KeepH] at hkh
  have hVl := chV_len X i
  have hVp := chV_pure X i
  by_cases hlt : i < 3
  · have f1 : ilt (i : Int) 3 = true := ilt_t (by omega)
    have w1 : IntKind.i64.wrap ((i : Int) + 1) = ((i + 1 : Nat) : Int) := wrap_succ (by omega)
    have hV' : Hid (chV X (i + 1) = chV X i ++ [.list 1 ((chR X i 12).map i1)]) := chV_succ X i
    have f7 : i + 1 ≤ 5 := by omega
    have f8 : (i + 1) * 24 ≤ 140737488355328 := by omega
    have f9 : i + 1 ≤ 9223372036854775807 := by omega
    have f10 : (i : Int) < 3 := by omega
    have f11 : i < 3 := hlt
    generalize chV X i = W at *
    have hWs : ∀ k, W.map (scrC k) = W := fun k => scrC_cells hVp
    have hWb : ∀ k b, W.map (pubC k b) = W := fun k b => pub_cells hVp
    repeat' first
      | (with_reducible refine gw_bool (fun _ => ?_) (fun _ => ?_))
      | (with_reducible refine condw_bool (fun _ => ?_) (fun _ => ?_))
      | simp [*]
    refine lp_view (View.nilOwn _ (t := 5) (key := 25) 1 3 (by simp) (by simp [*])) ?_
    refine lp_go (D := (fun _ => none)) G10_ok mixed (by kernel_rfl) [1, 3, 4, 7, 8] [1, 24, 28, 29] (α := Nat) (fun k e h => k ≤ 12 ∧ e 6 = .int .i64 k ∧ e 5 = .sl 25 0 k 1 ∧ h 25 = some ⟨3, (chR X i k).map (V.int .i64)⟩) (fun k => 12 - k) 0 ?_ ?_
    · exact ⟨by omega, by simp, by simp, by simp [chR]⟩
    have hk0 := hk
    have hkh0 := hkh
    clear hk hkh
    rintro k e2 h2 hk hkh ⟨hk12, k6, k5, k25⟩
    simp [Keep, hk0, hkh0, g4, g3] at hk
    simp [KeepH, hk0, hkh0, g29] at hkh
    have hRl : ((chR X i k).map (V.int .i64)).length = k := by simp [chR_len]
    have hRp := pure_i1 (chR X i k)
    by_cases hlk : k < 12
    · have f2 : ilt (k : Int) 12 = true := ilt_t (by omega)
      have w2 : IntKind.i64.wrap ((k : Int) + 1) = ((k + 1 : Nat) : Int) := wrap_succ (by omega)
      have hx := hX.out i k hlt hlk
      have hR' : Hid ((chR X i (k + 1)).map (V.int .i64) = (chR X i k).map (V.int .i64) ++ [V.int .i64 (chN X i k)]) := show _ = _ by simp [chR_succ]
      have t1 := Twi_at (n := X i k) (m := 32767) (by decide) (by decide)
      have w3 : IntKind.i64.wrap (X i k % 32767 - 16383) = chN X i k := by rw [wrap_id (by omega) (by omega)]; rfl
      generalize (chR X i k).map (V.int .i64) = R at *
      generalize chN X i k = y at *
      generalize X i k = x at *
      have hRs : ∀ k, R.map (scrC k) = R := fun k => scrC_cells hRp
      have p7 : (k : Int) < 12 := by omega
      have p8 : (k + 1) * 8 ≤ 140737488355328 := by omega
      have p9 : k + 1 ≤ 9223372036854775807 := by omega
      clear hX hV'
      repeat' first
        | (with_reducible refine gw_bool (fun _ => ?_) (fun _ => ?_))
        | (with_reducible refine condw_bool (fun _ => ?_) (fun _ => ?_))
        | simp [*, appendV, srcCells, St.forget, scr, scrC]
      refine nxt_go (k + 1) (View.forget _ _ 24) (by omega) (by simp [*, Keep, St.forget, scr, scrC, usesC, usesA]) (by simp [*, KeepH, St.forget, scr, scrC, -List.map_map]) ?_
      refine ⟨by omega, by simp [*, St.forget, scr, scrC], by simp [*, St.forget, scr, scrC], ?_⟩
      rw [hR'.out]; simp [*, St.forget, scr, scrC, -List.map_map]
    · have f2 : ilt (k : Int) 12 = false := ilt_f (by omega)
      have e2 : k = 12 := by omega
      have hch := chunks_i1 (chR X i k)
      rw [chR_len] at hch
      subst e2
      generalize hE : (chR X i 12).map (V.int .i64) = E at *
      generalize (chR X i 12).map i1 = E' at *
      clear hX
      have hEs : ∀ k, E.map (scrC k) = E := fun k => scrC_cells hRp
      have hEb : ∀ k b, E.map (pubC k b) = E := fun k b => pub_cells hRp
      repeat' first
        | (with_reducible refine gw_bool (fun _ => ?_) (fun _ => ?_))
        | (with_reducible refine condw_bool (fun _ => ?_) (fun _ => ?_))
        | simp [*, appendV, srcCells, St.forget, scr, scrC]
      refine nxt_go (i + 1) ((View.forget _ _ 28).trans (View.pub _ (key := 25) (blk := ⟨3, E⟩) ?_ hRp)) (by omega) ?_ ?_ ?_
      · simp [*, St.forget, scrC, -List.map_map]
      · simp [*, Keep, St.forget, scr, scrC, St.pub, pubT, pubA, pubC, -List.map_map]
      · simp [*, KeepH, St.forget, scr, scrC, St.pub, pubC, -List.map_map]
      · refine ⟨by omega, ?_, ?_, ?_⟩
        · simp [*, St.forget, scr, scrC, St.pub, pubT, pubA, pubC, -List.map_map]
        · simp [*, St.forget, scr, scrC, St.pub, pubT, pubA, pubC, -List.map_map]
        · simp [chunks] at hch
          rw [hV'.out]; simp [*, St.forget, scr, scrC, St.pub, pubC, -List.map_map]
  · have f1 : ilt (i : Int) 3 = false := ilt_f (by omega)
    have e3 : i = 3 := by omega
    have hch : chunks 1 3 (chV X 3) = [[.list 1 ((chR X 0 12).map i1)], [.list 1 ((chR X 1 12).map i1)], [.list 1 ((chR X 2 12).map i1)]] := by simp [chV, chunks, List.range_succ]
    have hW : chV X 3 = [.list 1 ((chR X 0 12).map i1), .list 1 ((chR X 1 12).map i1), .list 1 ((chR X 2 12).map i1)] := by simp [chV, List.range_succ]
    subst e3
    rw [hW] at g29
    clear hW hVl hVp hch hX
    generalize chR X 0 12 = E0 at *
    generalize chR X 1 12 = E1 at *
    generalize chR X 2 12 = E2 at *
    repeat' first
      | (with_reducible refine gw_bool (fun _ => ?_) (fun _ => ?_))
      | (with_reducible refine condw_bool (fun _ => ?_) (fun _ => ?_))
      | simp [*, chunks]
end Go.Proofs.Ytongalkfcfkfiaa
end
section
namespace Go.Proofs.Ytongalkfcfkfiaa
open Go.Pv Go.RowKit
set_option linter.unusedSimpArgs false
set_option linter.unusedVariables false
set_option maxRecDepth 100000
set_option maxHeartbeats 4000000

def G11 : Tab := add 10 Tct (add 11 Tck (G1))
theorem G11_at (f : FuncId) (vs : List V) : G11.at' f vs = if f = 10 then Tct vs else if f = 11 then Tck vs else G1.at' f vs := rfl
theorem G11_fr (f : FuncId) : G11.fr f = if f = 10 then false else if f = 11 then false else G1.fr f := rfl
theorem G11_gb (f : FuncId) : G11.gb f = G1.gb f := rfl
theorem G11_gv (f : FuncId) (vs : List V) : G11.gv f vs = G1.gv f vs := rfl
attribute [simp] G11_at G11_fr G11_gb G11_gv Tck Tct
theorem G11_ok : TabOK Try.prog G11 := by
  refine add_ok (add_ok (G1_ok) (by kernel_rfl) ?_) (by kernel_rfl) ?_
  · exact ck_tab
  · exact ct_tab
attribute [-simp] Tct Tck Twi
def frF (u s : Int) (E0 E1 E2 : List Int) (j : Nat) : Fr := ⟨u, (12 * s + j) % 600, E0.getD j 0, E1.getD j 0, E2.getD j 0⟩
def z5 : List V := [.int .i64 0, .int .i64 0, .bool false, .nils, .nils]
def spR (F : Nat → Fr) (k : Nat) : List V := (rowsF 12 (fun j => if j < k then (F j).cs else z5)).flatten
theorem spR_len (F : Nat → Fr) (k : Nat) : (spR F k).length = 60 := length_flatten_rowsF (sz := 5) (fun j => by split <;> rfl)
theorem spR_pure (F : Nat → Fr) (k : Nat) : (spR F k).any ownC = false := any_rowsF (fun j => by split <;> rfl)
theorem spR_set (F : Nat → Fr) {k : Nat} (h : k < 12) : setsV (spR F k) (k * 5) (F k).cs = spR F (k + 1) := by
  refine (setsV_rowsF (sz := 5) (r := (F k).cs) (fun j => by split <;> rfl) rfl h).trans ?_
  show _ = (rowsF 12 _).flatten
  congr 1
  refine rowsF_congr fun j hj => ?_
  by_cases e : j = k
  · subst e; simp
  · rw [if_neg e]
    by_cases h2 : j < k
    · rw [if_pos h2, if_pos (by omega)]
    · rw [if_neg h2, if_neg (by omega)]
theorem spR_chunks (F : Nat → Fr) : chunks 5 12 (spR F 12) = rowsF 12 (fun j => (F j).cs) := by
  unfold spR
  rw [chunks_rowsF (fun j => by split <;> rfl)]
  exact rowsF_congr fun j hj => if_pos hj
theorem split_ok (u s : Int) (E0 E1 E2 : List Int) (h1 : 0 ≤ u) (h2 : u ≤ 999) (h3 : 0 ≤ s) (h4 : s ≤ 1099511627776)
    (l0 : E0.length = 12) (l1 : E1.length = 12) (l2 : E2.length = 12)
    (b0 : ∀ x ∈ E0, -16383 ≤ x ∧ x ≤ 16383) (b1 : ∀ x ∈ E1, -16383 ≤ x ∧ x ≤ 16383) (b2 : ∀ x ∈ E2, -16383 ≤ x ∧ x ≤ 16383) :
    PCall Try.prog 5 [.int .i64 u, .int .i64 s, .bool true, .list 1 [[.list 1 (E0.map i1)], [.list 1 (E1.map i1)], [.list 1 (E2.map i1)]]]
      (.tup [.list 5 (rowsF 12 fun j => (frF u s E0 E1 E2 j).cs), .int .i64 0]) := by
  have s1 : ilt s 0 = false := ilt_f (by omega)
  have s2 : ilt 1099511627776 s = false := ilt_f (by omega)
  have hR0 : spR (frF u s E0 E1 E2) 0 = [.int .i64 0, .int .i64 0, .bool false, .nils, .nils, .int .i64 0, .int .i64 0, .bool false, .nils, .nils, .int .i64 0, .int .i64 0, .bool false, .nils, .nils, .int .i64 0, .int .i64 0, .bool false, .nils, .nils, .int .i64 0, .int .i64 0, .bool false, .nils, .nils, .int .i64 0, .int .i64 0, .bool false, .nils, .nils, .int .i64 0, .int .i64 0, .bool false, .nils, .nils, .int .i64 0, .int .i64 0, .bool false, .nils, .nils, .int .i64 0, .int .i64 0, .bool false, .nils, .nils, .int .i64 0, .int .i64 0, .bool false, .nils, .nils, .int .i64 0, .int .i64 0, .bool false, .nils, .nils, .int .i64 0, .int .i64 0, .bool false, .nils, .nils] := rfl
  refine pcall_cx G11_ok mixed (fun _ => none) Try.func5 rfl Try.ntmps5 Try.results5 (by simp) (by kernel_rfl) ?_
  repeat' first
    | (with_reducible refine gw_bool (fun _ => ?_) (fun _ => ?_))
    | (with_reducible refine condw_bool (fun _ => ?_) (fun _ => ?_))
    | simp [*]
  refine lp_unroll (D := (fun _ => none)) G11_ok mixed (by kernel_rfl) ?_
  repeat' first
    | (with_reducible refine gw_bool (fun _ => ?_) (fun _ => ?_))
    | (with_reducible refine condw_bool (fun _ => ?_) (fun _ => ?_))
    | simp [*]
  refine lp_unroll (D := (fun _ => none)) G11_ok mixed (by kernel_rfl) ?_
  repeat' first
    | (with_reducible refine gw_bool (fun _ => ?_) (fun _ => ?_))
    | (with_reducible refine condw_bool (fun _ => ?_) (fun _ => ?_))
    | simp [*]
  refine lp_unroll (D := (fun _ => none)) G11_ok mixed (by kernel_rfl) ?_
  repeat' first
    | (with_reducible refine gw_bool (fun _ => ?_) (fun _ => ?_))
    | (with_reducible refine condw_bool (fun _ => ?_) (fun _ => ?_))
    | simp [*]
  refine lp_unroll (D := (fun _ => none)) G11_ok mixed (by kernel_rfl) ?_
  repeat' first
    | (with_reducible refine gw_bool (fun _ => ?_) (fun _ => ?_))
    | (with_reducible refine condw_bool (fun _ => ?_) (fun _ => ?_))
    | simp [*]
  refine lp_go (D := (fun _ => none)) G11_ok mixed (by kernel_rfl) [0, 1, 2, 3, 12, 37] [14, 48, 51] (α := Nat) (fun k e h => k ≤ 12 ∧ e 38 = .int .i64 k ∧ h 35 = some ⟨42, spR (frF u s E0 E1 E2) k⟩) (fun k => 12 - k) 0 ?_ ?_
  · exact ⟨by omega, by simp, by simp [hR0]⟩
  clear hR0
  rintro k e h hk hkh ⟨hi, g38, g35⟩
  simp [Keep] at hk
  simp [KeepH] at hkh
  have hVl := spR_len (frF u s E0 E1 E2) k
  have hVp := spR_pure (frF u s E0 E1 E2) k
  by_cases hlt : k < 12
  · have f1 : ilt (k : Int) 12 = true := ilt_t (by omega)
    have w1 : IntKind.i64.wrap ((k : Int) + 1) = ((k + 1 : Nat) : Int) := wrap_succ (by omega)
    obtain ⟨x, hx, hx'⟩ := at_ex (l := E0) (i := k) (by omega)
    obtain ⟨y, hy, hy'⟩ := at_ex (l := E1) (i := k) (by omega)
    obtain ⟨z, hz, hz'⟩ := at_ex (l := E2) (i := k) (by omega)
    have bx := b0 x (List.mem_of_getElem? hx)
    have by_ := b1 y (List.mem_of_getElem? hy)
    have bz := b2 z (List.mem_of_getElem? hz)
    have hF : frF u s E0 E1 E2 k = ⟨u, (12 * s + k) % 600, x, y, z⟩ := by simp [frF, List.getD_eq_getElem?_getD, hx, hy, hz]
    have hst := spR_set (frF u s E0 E1 E2) hlt
    have t1 := Tct_at (s := s) (k := k) h3 h4 (by omega) (by omega)
    have t2 := Tck_at (f := ⟨u, (12 * s + k) % 600, x, y, z⟩) ⟨⟨h1, h2⟩, ⟨by show _ ≤ _ % _; omega, by show _ % _ ≤ _; omega⟩, bx, by_, bz⟩
    rw [hF] at hst
    simp only [Fr.cs] at hst t2
    replace hst : Hid (_) := hst
    generalize spR (frF u s E0 E1 E2) k = R at *
    generalize (12 * s + k) % 600 = c at *
    have hRs : ∀ k, R.map (scrC k) = R := fun k => scrC_cells hVp
    have hRb : ∀ k b, R.map (pubC k b) = R := fun k b => pub_cells hVp
    have p7 : (k : Int) < 12 := by omega
    have p8 : k * 5 + 5 ≤ 60 := by omega
    have p9 : k < 12 := hlt
    clear b0 b1 b2 bx by_ bz hF
    simp only [l3] at *
    repeat' first
      | (with_reducible refine gw_bool (fun _ => ?_) (fun _ => ?_))
      | (with_reducible refine condw_bool (fun _ => ?_) (fun _ => ?_))
      | simp [*]
    refine lp_unroll (D := (fun _ => none)) G11_ok mixed (by kernel_rfl) ?_
    repeat' first
      | (with_reducible refine gw_bool (fun _ => ?_) (fun _ => ?_))
      | (with_reducible refine condw_bool (fun _ => ?_) (fun _ => ?_))
      | simp [*, i1]
    refine lp_unroll (D := (fun _ => none)) G11_ok mixed (by kernel_rfl) ?_
    repeat' first
      | (with_reducible refine gw_bool (fun _ => ?_) (fun _ => ?_))
      | (with_reducible refine condw_bool (fun _ => ?_) (fun _ => ?_))
      | simp [*, i1]
    refine lp_unroll (D := (fun _ => none)) G11_ok mixed (by kernel_rfl) ?_
    repeat' first
      | (with_reducible refine gw_bool (fun _ => ?_) (fun _ => ?_))
      | (with_reducible refine condw_bool (fun _ => ?_) (fun _ => ?_))
      | simp [*, i1]
    refine lp_view ((View.pub _ (key := 48) (blk := ⟨3, [.int .i64 x, .int .i64 y, .int .i64 z]⟩) ?_ rfl).trans (View.pub _ (key := 51) (blk := ⟨3, [.int .i64 0, .int .i64 0, .int .i64 0]⟩) ?_ rfl)) ?_
    · simp [*]
    · simp [*, St.pub, pubC]
    refine lp_unroll (D := (fun _ => none)) G11_ok mixed (by kernel_rfl) ?_
    repeat' first
      | (with_reducible refine gw_bool (fun _ => ?_) (fun _ => ?_))
      | (with_reducible refine condw_bool (fun _ => ?_) (fun _ => ?_))
      | simp [*, St.pub, pubT, pubA, pubC, chunks, -List.map_map]
    refine nxt_go (k + 1) (View.forget _ _ 14) (by omega) ?_ ?_ ?_
    · simp [*, Keep, St.forget, scr, scrC, St.pub, pubT, pubA, pubC, usesC, usesA, -List.map_map]
    · simp [*, KeepH, St.forget, scr, scrC, St.pub, pubC, -List.map_map]
    · refine ⟨by omega, ?_, ?_⟩
      · simp [*, St.forget, scr, scrC, St.pub, pubT, pubA, pubC, -List.map_map]
      · rw [← hst.out]; simp [*, setsV, St.forget, scr, scrC, St.pub, pubT, pubA, pubC, -List.map_map]
  · have f1 : ilt (k : Int) 12 = false := ilt_f (by omega)
    have e3 : k = 12 := by omega
    have hch := spR_chunks (frF u s E0 E1 E2)
    subst e3
    generalize spR (frF u s E0 E1 E2) 12 = R at *
    simp [chunks] at hch
    generalize rowsF 12 (fun j => (frF u s E0 E1 E2 j).cs) = R' at *
    repeat' first
      | (with_reducible refine gw_bool (fun _ => ?_) (fun _ => ?_))
      | (with_reducible refine condw_bool (fun _ => ?_) (fun _ => ?_))
      | simp [*]
end Go.Proofs.Ytongalkfcfkfiaa
end
section
namespace Go.Proofs.Ytongalkfcfkfiaa
open Go.Pv Go.RowKit
set_option linter.unusedSimpArgs false
set_option linter.unusedVariables false
set_option maxRecDepth 100000
set_option maxHeartbeats 4000000

def Rig (W : World) (ro : Nat → Prop) (v : V) : Prop := ∀ (w1 : World) (ro1 : Nat → Prop) (lam1 : Lam) (x : Value), (∀ b, ro b → w1.heap[b]? = W.heap[b]?) → R w1 ro1 lam1 v x → R0 w1 ro v x
theorem ownC_flat {v : V} (h : flatC v = true) : ownC v = false := by cases v <;> first | rfl | simp [flatC] at h
theorem any_flat {p q : V → Bool} (hpq : ∀ v, p v = true → q v = false) {l : List V} (h : l.all p = true) : l.any q = false := by
  rw [List.any_eq_false]
  intro x hx
  rw [hpq x (List.all_eq_true.1 h x hx)]; simp
theorem ownA_flat {v : V} (h : flatA v = true) : ownA v = false := by
  cases v with
  | agg cs => exact any_flat (fun v => ownC_flat) h
  | _ => first | rfl | simp [flatA, flatC] at h
theorem ownT_flat {v : V} (h : flatT v = true) : ownT v = false := by
  cases v with
  | tup vs => exact any_flat (fun v => ownA_flat) h
  | agg cs => exact any_flat (fun v => ownC_flat) h
  | _ => first | rfl | simp [flatT, flatA, flatC] at h
theorem rig_flat {W : World} {ro : Nat → Prop} {v : V} (h : flatT v = true) : Rig W ro v := fun w1 ro1 lam1 x hk hr => (hr.pureT (ownT_flat h)).flatT h
theorem rig_vrp {W : World} {ro : Nat → Prop} {a : Addr} {cs : List V} (h : R0 W ro (.vrp a cs) (.pointer (some a))) : Rig W ro (.vrp a cs) := fun w1 ro1 lam1 y hk hr => by
  cases hr with
  | pure _ _ hr => cases hr with | vrp _ _ g h1 h2 h3 => exact h.mono hk (fun _ h => h)
theorem r0_int {w : World} {ro : Nat → Prop} {k : IntKind} {i : Int} {y : Value} (h : R0 w ro (.int k i) y) : y = .int k i := by cases h; rfl
def envL : List (Nat × V) → Nat → V
  | [] => fun _ => .junk
  | (t, v) :: r => upd (envL r) t v
def HasE (e : Nat → V) : List (Nat × V) → Prop
  | [] => True
  | (t, v) :: r => e t = v ∧ HasE e r
def RigE (W : World) (ro : Nat → Prop) : List (Nat × V) → Prop
  | [] => True
  | (_, v) :: r => Rig W ro v ∧ RigE W ro r
theorem rig_val {W : World} {ro : Nat → Prop} {Y : Value} : Rig W ro (.val Y) := fun w1 ro1 lam1 x hk hr => by
  have := getD_val hr
  subst this; exact .val _
structure EG {α : Type} (n : Nat) (ro : Nat → Prop) (W : World) (L : List (Nat × V)) (J : List α → World → Prop) (pre : List α) (a : Act) (w : World) : Prop where
  dfr : a.defers = []
  size : n ≤ a.tmps.size
  env : ∀ t, R0 w ro (envL L t) (a.tmps.getD t Go.undef)
  kept : KR ro W w
  got : J pre w
section
variable {α : Type} {n : Nat} {ro ro1 : Nat → Prop} {W w w1 : World} {L L' : List (Nat × V)} {J : List α → World → Prop} {pre pre' : List α} {a a1 : Act} {lam1 : Lam} {s1 : St}
theorem envL_sim (hk : ∀ b, ro b → w1.heap[b]? = W.heap[b]?) {w0 : Base} (hs : Sim w0 n ro1 lam1 s1 a1 w1) : ∀ (L' : List (Nat × V)), HasE s1.env L' → RigE W ro L' → ∀ t, R0 w1 ro (envL L' t) (a1.tmps.getD t Go.undef)
  | [], _, _, t => .junk _
  | (t', v) :: r, hE, hR, t => by
    simp only [envL]
    by_cases ht : t = t'
    · subst ht
      rw [upd_same]
      have := hs.env t
      rw [hE.1] at this
      exact hR.1 w1 ro1 lam1 _ hk this
    · rw [upd_ne _ _ ht]
      exact envL_sim hk hs r hE.2 hR.2 t
theorem EG.sim (hg : EG n ro W L J pre a w) (hro : ∀ b, ro b → b < W.heap.size) : Sim (.of w) n ro (fun _ => none) ⟨envL L, fun _ => none⟩ a w :=
  sim_mk hg.dfr hg.size (fun b hb => Nat.lt_of_lt_of_le (hro b hb) hg.kept.1) hg.env
theorem EG.step (hg : EG n ro W L J pre a w) (hro : ∀ b, ro b → b < W.heap.size) (hJ : Ab J) (hs : Sim (.of w) n ro1 lam1 s1 a1 w1) (hE : HasE s1.env L') (hR : RigE W ro L') : EG n ro W L' J pre a1 w1 := by
  have hk : KR ro W w1 := hg.kept.trans ⟨hs.below.size, fun b hb => hs.below.below.block b (Nat.lt_of_lt_of_le (hro b hb) hg.kept.1)⟩
  exact ⟨hs.dfr, hs.size, envL_sim (fun b h => hk.2 b h) hs L' hE hR, hk, hJ _ _ _ hg.got hs.below.below⟩
theorem EG.next (hg : EG n ro W L J pre a w) {d : Nat} {b : Bool} (hd : d < n) (hb : KR ro w w1) (hJ : J pre' w1) : EG n ro W ((d, .bool b) :: L) J pre' (a.put (some d) (.bool b)) w1 := by
  refine ⟨hg.dfr, by simpa [Act.put] using hg.size, fun t => ?_, hg.kept.trans hb, hJ⟩
  rw [getD_put (Nat.lt_of_lt_of_le hd hg.size)]
  simp only [envL, upd]
  split
  · exact .bool _
  · exact (hg.env t).mono (fun b h => hb.2 b h) (fun _ h => h)
end
def HeapIs (h : Nat → Option Blk) (bl : List (Nat × Blk)) : Prop := KeepBl h bl ∧ ∀ k, blkOf bl k = none → h k = none
theorem HeapIs.eq {h : Nat → Option Blk} {bl : List (Nat × Blk)} (hh : HeapIs h bl) : h = blkOf bl := by
  funext k
  cases hb : blkOf bl k with
  | none => exact hh.2 k hb
  | some b => exact keepBl_at bl k b hh.1 hb
section
variable {n : Nat} {w0 : Base} {ro ro' : Nat → Prop} {lam lam' : Lam} {st st' : St} {a a' : Act} {w w' : World}
structure MK (W0 : World) (ro0 : Nat → Prop) (Ds : List Nat) (ro : Nat → Prop) (lam : Lam) (a : Act) (w : World) : Prop where
  dfs : a.defers = marks Ds
  nd : Ds.Nodup
  at' : ∀ D ∈ Ds, w.heap[D]? = some (.deferred (some [])) ∧ ¬ ro D ∧ ¬ ownB lam D ∧ W0.heap.size ≤ D
  kept : Below W0.heap.size W0 w
  own : ∀ b, ownB lam b → W0.heap.size ≤ b
  up : ∀ b, ro0 b → ro b
  dn : ∀ b, ro b → ro0 b ∨ W0.heap.size ≤ b
theorem MK.move {W0 : World} {ro0 : Nat → Prop} {Ds : List Nat} (hm : MK W0 ro0 Ds ro lam a w) (hd : a'.defers = a.defers) (hk : Base.Keeps ⟨w, ownB lam, a.defers⟩ w') (hx : Ext ⟨w, ownB lam, a.defers⟩ ro ro') (ho : ∀ b, ownB lam' b → ownB lam b ∨ w.heap.size ≤ b) : MK W0 ro0 Ds ro' lam' a' w' := by
  refine ⟨hd.trans hm.dfs, hm.nd, fun D hD => ?_, ?_, fun b hb => ?_, fun b hb => hx.1 b (hm.up b hb), fun b hb => ?_⟩
  · obtain ⟨h1, h2, h3, h4⟩ := hm.at' D hD
    have hlt : D < w.heap.size := (Array.getElem?_eq_some_iff.1 h1).1
    refine ⟨(hk.block D hlt h3).trans h1, fun hr => ?_, fun hr => ?_, h4⟩
    · rcases hx.2 D hr with h | h
      · exact h2 h
      · rcases h with h | h
        · exact h3 h
        · exact Nat.lt_irrefl _ (Nat.lt_of_lt_of_le hlt h)
    · rcases ho D hr with h | h
      · exact h3 h
      · exact Nat.lt_irrefl _ (Nat.lt_of_lt_of_le hlt h)
  · exact ⟨hk.os.trans hm.kept.os, hk.tape.trans hm.kept.tape, hk.output.trans hm.kept.output, Nat.le_trans hm.kept.size hk.size, fun k hk' => (hk.block k (Nat.lt_of_lt_of_le hk' hm.kept.size) (fun h => by have := hm.own k h; omega)).trans (hm.kept.block k hk')⟩
  · rcases ho b hb with h | h
    · exact hm.own b h
    · exact Nat.le_trans hm.kept.size h
  · rcases hx.2 b hb with h | h
    · exact hm.dn b h
    · rcases h with h | h
      · exact .inr (hm.own b h)
      · exact .inr (Nat.le_trans hm.kept.size h)
theorem MK.step {W0 : World} {ro0 : Nat → Prop} {Ds : List Nat} (hm : MK W0 ro0 Ds ro lam a w) (hs : Sim ⟨w, ownB lam, a.defers⟩ n ro' lam' st' a' w') (hx : Ext ⟨w, ownB lam, a.defers⟩ ro ro') : MK W0 ro0 Ds ro' lam' a' w' :=
  hm.move hs.dfr hs.below hx (fun b ⟨k, hk⟩ => (hs.ob hk).1)
theorem MK.mark {W0 : World} {ro0 : Nat → Prop} {Ds : List Nat} {l D : Nat} {e : Nat → V} {h : Nat → Option Blk} (hm : MK W0 ro0 Ds ro lam a w) (rj : RJ ⟨w, ownB lam, a.defers⟩ n ro l D e a h ro' lam' w') (hD : w.heap.size ≤ D) : MK W0 ro0 (D :: Ds) ro' lam' { a with defers := { target := .collected D, args := #[] } :: a.defers } w' := by
  have h1 := hm.move (a' := a) rfl rj.keeps rj.ext (fun b hb => rj.free b hb)
  refine ⟨by simp [marks, hm.dfs], List.nodup_cons.2 ⟨fun hh => ?_, hm.nd⟩, fun D' hD' => ?_, h1.kept, h1.own, h1.up, h1.dn⟩
  · have := (Array.getElem?_eq_some_iff.1 (hm.at' D hh).1).1
    omega
  · rcases List.mem_cons.1 hD' with rfl | hD'
    · exact ⟨rj.hD, rj.nD.1, rj.nD.2, Nat.le_trans hm.kept.size hD⟩
    · exact h1.at' D' hD'
theorem RJ.act {l D : Nat} {e : Nat → V} {h : Nat → Option Blk} (rj : RJ w0 n ro l D e a h ro' lam' w') (ds : List Deferred) : Sim ⟨w', ownB lam', ds⟩ n ro' lam' ⟨e, h⟩ { a with defers := ds } w' :=
  ⟨Base.Keeps.refl _ _ _, rfl, rj.sim.size, rj.sim.rolt, rj.sim.env, rj.sim.heap, rj.sim.dead, rj.sim.own, rj.sim.inj, rj.sim.maps⟩
end
theorem eg_inE {Γ : Tab} (hΓ : TabOK Try.prog Γ) {n m : Nat} {ops : Array Oper} {Q : Exit → Act → World → Prop} {K : St → Prop} {rest : List Oper} {w0 : Base} : ∀ (l' : List Oper) (st : St) (ro : Nat → Prop) (lam : Lam) (a : Act) (w : World), l'.all (fun o => fits n o.dst) = true →
    egX Try.prog Γ ops l' K st → Sim w0 n ro lam st a w → (∀ st' a' ro' lam' w', K st' → Ext w0 ro ro' → Sim w0 n ro' lam' st' a' w' → wpListIn Fence.wide m Try.prog ops Q rest a' w') → wpListIn Fence.wide m Try.prog ops Q (l' ++ rest) a w
  | [], st, ro, lam, a, w, _, h, hs, hK => hK _ _ _ _ _ h (Ext.refl _ _) hs
  | o :: l', st, ro, lam, a, w, hf, h, hs, hK => by
    simp only [List.all_cons, Bool.and_eq_true] at hf
    show if Region.wanted o (yielded ops a.tmps) then o.wpIn Fence.wide m Try.prog a w (wpListIn Fence.wide m Try.prog ops Q (l' ++ rest)) Q else (∀ f, o.about Try.prog w a.eval = some f → Fence.wide.fn f) ∧ wpListIn Fence.wide m Try.prog ops Q (l' ++ rest) (a.put o.dst undef) w
    simp only [egX] at h
    cases hw : wantV ops st o.guard with
    | none => rw [hw] at h; exact h.elim
    | some b =>
      rw [hw] at h
      rw [wantV_sound hs hw]
      cases b with
      | true =>
        rw [if_pos rfl]
        exact oper_in (swX_sound hΓ hs hf.1 h fun st' a' ro' lam' w' k hx hs' => eg_inE hΓ l' st' ro' lam' a' w' hf.2 k hs' fun st2 a2 ro2 lam2 w2 k e hs2 => hK st2 a2 ro2 lam2 w2 k (hx.trans e) hs2)
      | false =>
        rw [if_neg (by simp)]
        exact ⟨fun _ _ => trivial, eg_inE hΓ l' _ ro lam _ w hf.2 h (hs.put hf.1 (.pure _ _ .undef)) hK⟩
theorem envL_or {e : Nat → V} : ∀ (L : List (Nat × V)), HasE e L → ∀ t, envL L t = e t ∨ envL L t = .junk
  | [], _, t => .inr rfl
  | (t', v) :: r, h, t => by
    simp only [envL]
    by_cases ht : t = t'
    · subst ht; rw [upd_same]; exact .inl h.1.symm
    · rw [upd_ne _ _ ht]; exact envL_or r h.2 t
theorem toL {n : Nat} {w0 : Base} {ro : Nat → Prop} {lam : Lam} {st : St} {a : Act} {w : World} (hs : Sim w0 n ro lam st a w) {L : List (Nat × V)} {bl : List (Nat × Blk)} (hE : HasE st.env L) (hH : HeapIs st.heap bl) : Sim w0 n ro lam ⟨envL L, blkOf bl⟩ a w := by
  have h1 := hs.env' (e := envL L) (fun t => by
    rcases envL_or L hE t with h | h
    · rw [h]; exact hs.env t
    · rw [h]; exact .pure _ _ (.junk _))
  rwa [hH.eq] at h1
theorem blk_ne {bl : List (Nat × Blk)} {k key : Nat} (h : blkOf bl k = none) (hk : (blkOf bl key).isSome = true) : k ≠ key := by
  rintro rfl; rw [h] at hk; cases hk
theorem cw_inE {n m : Nat} {c : Code} {Q : Exit → St → Prop} {st : St} (h : CW Try.prog n c Q st) {ro : Nat → Prop} {lam : Lam} {a : Act} {w : World} (hs : Sim ⟨w, ownB lam, a.defers⟩ n ro lam st a w) {W0 : World} {ro0 : Nat → Prop} {Ds : List Nat} (hm : MK W0 ro0 Ds ro lam a w) :
    c.wpIn Fence.wide m Try.prog (fun e a' w' => ∃ st' ro' lam', Q e st' ∧ Sim ⟨w', ownB lam', a'.defers⟩ n ro' lam' st' a' w' ∧ MK W0 ro0 Ds ro' lam' a' w') a w := by
  refine wpIn_mono (cw_in h hs) ?_
  rintro e a' w' ⟨st', ro', lam', hq, hx, hs'⟩
  exact ⟨st', ro', lam', hq, hs'.rebase, hm.step hs' hx⟩
theorem view_inE {n : Nat} {st st' : St} (hv : View n st st') {ro : Nat → Prop} {lam : Lam} {a : Act} {w : World} (hs : Sim ⟨w, ownB lam, a.defers⟩ n ro lam st a w) {W0 : World} {ro0 : Nat → Prop} {Ds : List Nat} (hm : MK W0 ro0 Ds ro lam a w) : ∃ ro' lam', Sim ⟨w, ownB lam', a.defers⟩ n ro' lam' st' a w ∧ MK W0 ro0 Ds ro' lam' a w := by
  obtain ⟨ro', lam', hx, hs'⟩ := hv _ _ _ _ _ hs
  exact ⟨ro', lam', hs'.rebase, hm.step hs' hx⟩
theorem res_one {fn : Func} {t : Nat} {x : Value} (h : fn.results = #[.tmp t]) {tmps : Array Value} {w : World} (hx : tmps.getD t Go.undef = x) : (results fn tmps).run Try.prog w = .ok x w := by
  have := results_run (P := Try.prog) fn tmps w (zs := [x]) (by rw [h]; simp [resS, hx])
  simpa using this
theorem MK.leaveP {n : Nat} {ro : Nat → Prop} {lam : Lam} {st : St} {a : Act} {w : World} {W0 : World} {ro0 : Nat → Prop} {Ds : List Nat} (hm : MK W0 ro0 Ds ro lam a w) (hs : Sim ⟨w, ownB lam, a.defers⟩ n ro lam st a w) {fn : Func} {t : Nat} {v : V} (hr : fn.results = #[.tmp t]) (hv : st.env t = v) (hp : ownT v = false) {m : Nat} :
    LeavesInM Fence.wide m Try.prog fn a.tmps (fun e w' => ∃ rv ro', e = .returned rv ∧ Below W0.heap.size W0 w' ∧ (∀ b, ro0 b → ro' b) ∧ (∀ b, ro' b → ro0 b ∨ W0.heap.size ≤ b) ∧ (∀ b, ro' b → b < w'.heap.size) ∧ R0 w' ro' v rv) a.defers .returning w := by
  rw [hm.dfs]
  have hx := hs.env t
  rw [hv] at hx
  refine leaves_marks Ds w hm.nd (fun D hD => (hm.at' D hD).1) ⟨a.tmps.getD t Go.undef, res_one hr rfl, _, ro, rfl, ?_, hm.up, hm.dn, fun b hb => ?_, ?_⟩
  · obtain ⟨o1, o2, o3⟩ := shut_os Ds w
    refine ⟨o1.trans hm.kept.os, o2.trans hm.kept.tape, o3.trans hm.kept.output, by rw [shut_size]; exact hm.kept.size, fun k hk => ?_⟩
    rw [shut_other Ds w k (fun h => by have := (hm.at' k h).2.2.2; omega)]
    exact hm.kept.block k hk
  · rw [shut_size]; exact hs.rolt b hb
  · exact (hx.pureT hp).mono (fun b hb => shut_other Ds w b (fun h => (hm.at' b h).2.1 hb)) (fun _ h => h)
end Go.Proofs.Ytongalkfcfkfiaa
end
section
namespace Go.Proofs.Ytongalkfcfkfiaa
open Go.Pv Go.RowKit
set_option linter.unusedSimpArgs false
set_option linter.unusedVariables false
set_option maxRecDepth 100000
set_option maxHeartbeats 4000000

abbrev PN := Nat × Nat
def pnE (n : Nat) (p : PN) : Array Value := #[.int .i64 (p.1 % n : Nat), .int .i64 p.2]
/-- The nodes that are reached in direction 0. -/
def ascL (c : List Bool) (n : Nat) : Nat → Nat → Nat → List PN
  | 0, _, _ => []
  | f + 1, x, h => if c.getD x false = true then [] else ((x + 1) % n, h) :: ascL c n f ((x + 1) % n) (h + 1)
/-- The nodes that are reached in direction 1. -/
def desL (c : List Bool) (n : Nat) : Nat → Nat → Nat → List PN
  | 0, _, _ => []
  | f + 1, x, h => if c.getD ((x + (n - 1)) % n) false = true then [] else ((x + (n - 1)) % n, h) :: desL c n f ((x + (n - 1)) % n) (h + 1)
def itL (Y : Value) (ad : Addr) (C : List V) (n x k : Int) : List (Nat × V) := [(0, .val Y), (1, .vrp ad C), (4, .int .i64 n), (5, .int .i64 x), (6, .int .i64 k)]
def muA (a : Act) (_ : World) : Nat := 1001 - (match a.tmps.getD 6 Go.undef with
  | .int _ k => k.toNat
  | _ => 0)
theorem EG.muA {N : Nat} {ro : Nat → Prop} {W w : World} {J : List PN → World → Prop} {pre : List PN} {a : Act} {Y : Value} {ad : Addr} {C : List V} {n x : Int} {k : Nat} (hg : EG N ro W (itL Y ad C n x k) J pre a w) : muA a w = 1001 - k := by
  have := r0_int (hg.env 6)
  simp [Proofs.Ytongalkfcfkfiaa.muA, this]
theorem getD_of {c : List Bool} {x : Nat} {b : Bool} (h : c[x]? = some b) : c.getD x false = b := by rw [List.getD_eq_getElem?_getD, h]; rfl
theorem asc_in (m l : Nat) (c : List Bool) (n : Nat) (hcn : c.length = n) (h3 : 3 ≤ n) (h14 : n ≤ 14) (x0 : Nat) (hx0 : x0 < n) (ad ad2 : Addr) (ro : Nat → Prop) (W : World) (hro : ∀ b, ro b → b < W.heap.size)
    (hX : R0 W ro (.vrp ad [.list 1 (c.map bl1)]) (.pointer (some ad))) (hX2 : R0 W ro (.vrp ad2 [.int .i64 x0]) (.pointer (some ad2))) (J Jx : List PN → World → Prop) (hJ : Ab J) (hJx : Ab Jx)
    (hY : ∀ pre x W1, J pre W1 → pre.length < (ascL c n (n - 1) x0 1).length → YieldAt Fence.wide (m - 1) Try.prog l (pnE n x) W1 fun e W' =>
      (e = .returned (.bool true) ∧ J (pre ++ [x]) W' ∧ KR ro W1 W') ∨ (e = .returned (.bool false) ∧ Jx (pre ++ [x]) W'))
    (h0 : J [] W) : CallsIn Fence.wide m Try.prog 41 #[.func (.yield l) #[] #[], .pointer (some ad), .pointer (some ad2)] W fun e W' => (∃ v, e = .returned v) ∧ (J (ascL c n (n - 1) x0 1) W' ∨ ∃ pre, Jx pre W') := by
  obtain ⟨xs, hxs⟩ : ∃ xs, ascL c n (n - 1) x0 1 = xs := ⟨_, rfl⟩
  rw [hxs] at hY ⊢
  refine callsIn_of_wp Try.func41 rfl trivial ?_ rfl
  rw [Try.ntmps41]
  obtain ⟨Y, hYv⟩ : ∃ Y : Value, Y = .func (.yield l) #[] #[] := ⟨_, rfl⟩
  rw [← hYv]
  obtain ⟨C, hC⟩ : ∃ C : List V, C = [.list 1 (c.map bl1)] := ⟨_, rfl⟩
  rw [← hC] at hX
  have hrig : ∀ x k : Int, RigE W ro (itL Y ad C n x k) := fun x k => ⟨rig_val, rig_vrp hX, rig_flat rfl, rig_flat rfl, rig_flat rfl, trivial⟩
  have hs0 := sim_ini (n := 30) (w := W) (ro := ro) (args := #[Y, .pointer (some ad), .pointer (some ad2)]) (vs := [.val Y, .vrp ad C, .vrp ad2 [.int .i64 x0]]) hro rfl (by simp) (fun j c x hc hx => by
    match j with
    | 0 => simp at hc hx; subst hc; subst hx; exact .val _
    | 1 => simp at hc hx; subst hc; subst hx; exact hX
    | 2 => simp at hc hx; subst hc; subst hx; exact hX2
    | j + 3 => simp at hc)
  have hn0 : ¬ (n : Int) = 0 := by omega
  have hn1 : ((n : Int) == 0) = false := by simp; omega
  have hn2 : ¬ n = 0 := by omega
  refine wpIn_seq ?_
  refine wpIn_mono (cw_in (CW.of_cx (D := fun _ => none) noTab_ok mixed _ (fun e s => e = .normal ∧ HasE s.env [(0, .val Y), (1, .vrp ad C), (2, .vrp ad2 [.int .i64 x0]), (4, .int .i64 n)]) _ (by kernel_rfl) ?_) hs0) ?_
  · rw [hC]
    clear hY hJ hJx hs0 hrig
    repeat' first
      | (with_reducible refine gw_bool (fun _ => ?_) (fun _ => ?_))
      | (with_reducible refine condw_bool (fun _ => ?_) (fun _ => ?_))
      | simp [*, HasE]
  rintro e a w ⟨s1, ro1, lam1, ⟨rfl, hE⟩, -, hs1⟩
  refine wpIn_seq ?_
  refine wpIn_mono (cw_in (CW.of_cx (D := fun _ => none) noTab_ok mixed _ (fun e s => e = .normal ∧ HasE s.env [(0, .val Y), (1, .vrp ad C), (4, .int .i64 n), (5, .int .i64 x0)]) _ (by kernel_rfl) ?_) hs1) ?_
  · obtain ⟨en, he⟩ := s1
    simp only [HasE] at hE
    clear hY hJ hJx hs0 hrig hs1
    repeat' first
      | (with_reducible refine gw_bool (fun _ => ?_) (fun _ => ?_))
      | (with_reducible refine condw_bool (fun _ => ?_) (fun _ => ?_))
      | simp [*, HasE]
  clear hs1 hE
  rintro e a w ⟨s1, ro1, lam1, ⟨rfl, hE⟩, -, hs1⟩
  refine wpIn_seq ?_
  refine wpIn_mono (cw_in (CW.of_cx (D := fun _ => none) noTab_ok mixed _ (fun e s => e = .normal ∧ HasE s.env (itL Y ad C n x0 (1 : Nat))) _ (by kernel_rfl) ?_) hs1) ?_
  · obtain ⟨en, he⟩ := s1
    simp only [HasE] at hE
    clear hY hJ hJx hs0 hrig hs1
    repeat' first
      | (with_reducible refine gw_bool (fun _ => ?_) (fun _ => ?_))
      | (with_reducible refine condw_bool (fun _ => ?_) (fun _ => ?_))
      | simp [*, HasE, itL]
  clear hs1 hE
  rintro e a w ⟨s1, ro1, lam1, ⟨rfl, hE⟩, -, hs1⟩
  have hg0 : EG 30 ro W (itL Y ad C n x0 (1 : Nat)) J [] a w := by
    have hk : KR ro W w := ⟨hs1.below.size, fun b hb => hs1.below.below.block b (hro b hb)⟩
    exact ⟨hs1.dfr, hs1.size, envL_sim (fun b h => hk.2 b h) hs1 _ hE (hrig _ _), hk, hJ _ _ _ h0 hs1.below.below⟩
  clear hs1 hs0 hE
  refine wpIn_block ?_
  refine wpIn_loop (fun a w => ∃ (k x : Nat) (pre : List PN), 1 ≤ k ∧ k ≤ n ∧ x < n ∧ pre ++ ascL c n (n - k) x k = xs ∧ EG 30 ro W (itL Y ad C n x k) J pre a w) muA ⟨1, x0, [], by omega, by omega, hx0, by simpa using hxs, hg0⟩ ?_
  clear hg0 a w hxs
  rintro a w ⟨k, x, pre, hk1, hkn, hx, hpre, hg⟩
  have fin : ∀ L e a' w', EG 30 ro W L J xs a' w' → (e = Exit.normal ∨ e = .ret) → bodyPost Try.prog Try.f41 (fun e W' => (∃ v, e = .returned v) ∧ (J xs W' ∨ ∃ pre, Jx pre W')) e a' w' := by
    rintro L e a' w' hg' (rfl | rfl)
    · exact ⟨hg'.dfr, _, results_none rfl _ _ _, ⟨_, rfl⟩, .inl hg'.got⟩
    · exact ⟨hg'.dfr, _, results_none rfl _ _ _, ⟨_, rfl⟩, .inl hg'.got⟩
  have w1 : IntKind.i64.wrap ((k : Int) + 1) = ((k + 1 : Nat) : Int) := wrap_succ (by omega)
  have hsim := hg.sim hro
  refine wpIn_seq ?_
  by_cases hlt : k < n
  · have f1 : ilt (k : Int) (n : Int) = true := ilt_t (by omega)
    refine wpIn_mono (cw_in (CW.of_cx (D := fun _ => none) noTab_ok mixed _ (fun e s => e = .normal ∧ HasE s.env (itL Y ad C n x k)) _ (by kernel_rfl) ?_) hsim) ?_
    · clear fin hY hJ hJx hsim hg hrig
      repeat' first
        | (with_reducible refine gw_bool (fun _ => ?_) (fun _ => ?_))
        | (with_reducible refine condw_bool (fun _ => ?_) (fun _ => ?_))
        | simp [*, itL, HasE, envL]
    rintro e a2 w2 ⟨s2, ro2, lam2, ⟨rfl, hE⟩, -, hs2⟩
    have hg2 := hg.step hro hJ hs2 hE (hrig _ _)
    clear hs2 hE hsim
    obtain ⟨b, hb, hb'⟩ := at_ex (l := c) (i := x) (by omega)
    have hxl : (x : Int) < (n : Int) := by omega
    have hfu : n - k = (n - (k + 1)) + 1 := by omega
    rw [hfu, ascL, getD_of hb] at hpre
    obtain ⟨y, hy⟩ : ∃ y, (x + 1) % n = y := ⟨_, rfl⟩
    have hyn : y < n := by rw [← hy]; exact Nat.mod_lt _ (by omega)
    have w2 : IntKind.i64.wrap ((x : Int) + 1) = (x : Int) + 1 := wrap_id (by omega) (by omega)
    have w3 : ((x : Int) + 1).tmod n = (y : Int) := by rw [Int.tmod_eq_emod_of_nonneg (by omega), ← hy]; simp
    rw [hy] at hpre
    have hmu : ∀ (a' : Act) (w' : World) (pre' : List PN), EG 30 ro W (itL Y ad C n y ((k + 1 : Nat) : Int)) J pre' a' w' → muA a' w' < muA a w := fun a' w' pre' h => by
      rw [h.muA, hg.muA]; omega
    refine wpIn_seq (wpIn_mono (wpIn_block (Q := fun e a' w' => (e = .normal ∧ b = false ∧ EG 30 ro W (itL Y ad C n y k) J (pre ++ [(y, k)]) a' w') ∨ (e = .ret ∧ bodyPost Try.prog Try.f41 (fun e W' => (∃ v, e = .returned v) ∧ (J xs W' ∨ ∃ pre, Jx pre W')) .ret a' w')) ?_) ?_)
    · refine wpIn_seq ?_
      cases b with
      | true =>
        rw [if_pos rfl, List.append_nil] at hpre
        subst hpre
        refine wpIn_mono (cw_in (CW.of_cx (D := fun _ => none) noTab_ok mixed _ (fun e s => e = .ret ∧ HasE s.env (itL Y ad C n x k)) _ (by kernel_rfl) ?_) (hg2.sim hro)) ?_
        · rw [hC]
          clear fin hY hJ hJx hg hg2 hrig hmu
          repeat' first
            | (with_reducible refine gw_bool (fun _ => ?_) (fun _ => ?_))
            | (with_reducible refine condw_bool (fun _ => ?_) (fun _ => ?_))
            | simp [*, itL, HasE, envL, bl1]
        rintro e a5 w5 ⟨s5, ro5, lam5, ⟨rfl, hE5⟩, -, hs5⟩
        have hg5 := hg2.step hro hJ hs5 hE5 (hrig _ _)
        exact .inr ⟨rfl, fin _ _ _ _ hg5 (.inr rfl)⟩
      | false =>
        rw [if_neg (by simp)] at hpre
        refine wpIn_mono (cw_in (CW.of_cx (D := fun _ => none) noTab_ok mixed _ (fun e s => e = .normal ∧ HasE s.env (itL Y ad C n x k)) _ (by kernel_rfl) ?_) (hg2.sim hro)) ?_
        · rw [hC]
          clear fin hY hJ hJx hg hg2 hrig hmu hpre
          repeat' first
            | (with_reducible refine gw_bool (fun _ => ?_) (fun _ => ?_))
            | (with_reducible refine condw_bool (fun _ => ?_) (fun _ => ?_))
            | simp [*, itL, HasE, envL, bl1]
        rintro e a4 w4 ⟨s4, ro4, lam4, ⟨rfl, hE4⟩, -, hs4⟩
        have hg4 := hg2.step hro hJ hs4 hE4 (hrig _ _)
        clear hs4 hE4
        refine wpIn_seq ?_
        refine wpIn_mono (cw_in (CW.of_cx (D := fun _ => none) noTab_ok mixed _ (fun e s => e = .normal ∧ HasE s.env (itL Y ad C n y k)) _ (by kernel_rfl) ?_) (hg4.sim hro)) ?_
        · clear fin hY hJ hJx hg hg2 hg4 hrig hmu hpre hy
          repeat' first
            | (with_reducible refine gw_bool (fun _ => ?_) (fun _ => ?_))
            | (with_reducible refine condw_bool (fun _ => ?_) (fun _ => ?_))
            | simp [*, itL, HasE, envL]
        rintro e a5 w5 ⟨s5, ro5, lam5, ⟨rfl, hE5⟩, -, hs5⟩
        have hg5 := hg4.step hro hJ hs5 hE5 (hrig _ _)
        clear hE5
        refine wpIn_seq ?_
        refine wpIn_region_list ?_
        rw [← List.take_append_drop 3 (Array.toList _)]
        refine eg_in noTab_ok (K := fun s => HasE s.env ((25, .val Y) :: (26, .int .i64 y) :: (27, .int .i64 k) :: itL Y ad C n y k)) _ _ _ _ _ _ (by kernel_rfl) ?_ (hg5.sim hro) ?_
        · clear fin hY hJ hJx hg hg2 hg4 hg5 hrig hmu hpre hy hs5
          repeat' first
            | (with_reducible refine gw_bool (fun _ => ?_) (fun _ => ?_))
            | (with_reducible refine condw_bool (fun _ => ?_) (fun _ => ?_))
            | simp [*, itL, HasE, envL]
        rintro s6 a6 ro6 lam6 w6 hE6 hs6
        have hg6 := hg5.step hro hJ hs6 hE6 ⟨rig_val, rig_flat rfl, rig_flat rfl, hrig _ _⟩
        have g25 : R w6 ro6 lam6 (.val Y) (a6.tmps.getD 25 Go.undef) := by have := hs6.env 25; rwa [hE6.1] at this
        have g26 : R w6 ro6 lam6 (.int .i64 y) (a6.tmps.getD 26 Go.undef) := by have := hs6.env 26; rwa [hE6.2.1] at this
        have g27 : R w6 ro6 lam6 (.int .i64 k) (a6.tmps.getD 27 Go.undef) := by have := hs6.env 27; rwa [hE6.2.2.1] at this
        refine wpListIn_plain rfl fun K hK => ?_
        refine yield_in (l := l) (vals := pnE n (y, k)) rfl ?_ ?_ (hY pre (y, k) w6 hg6.got ?_) ?_
        · show a6.tmps.getD 25 Go.undef = _
          rw [getD_val g25]; exact hYv
        · simp only [List.map_toArray, List.map_cons, List.map_nil]
          show #[a6.tmps.getD 26 Go.undef, a6.tmps.getD 27 Go.undef] = _
          rw [g26.int_inv, g27.int_inv, pnE, Nat.mod_eq_of_lt hyn]
        · rw [← hpre]; simp
        · rintro e W' (⟨rfl, hJ', hb'⟩ | ⟨rfl, hJx'⟩)
          · refine ⟨_, rfl, hK _ _ ?_⟩
            have hg7 : EG 30 ro W _ J _ (a6.put (some 28) (.bool true)) W' := hg6.next (d := 28) (b := true) (by decide) hb' hJ'
            refine eg_in (rest := []) noTab_ok (K := fun s => HasE s.env ((29, .bool false) :: itL Y ad C n y k)) [_] _ _ _ _ _ (by kernel_rfl) ?_ (hg7.sim hro) ?_
            · clear fin hY hJ hJx hg hg2 hrig hmu hs5 hs6 hg4 hg5 hg6 hg7 hK hJ' hE6 g25 g26 g27 hpre hy
              repeat' first
                | (with_reducible refine gw_bool (fun _ => ?_) (fun _ => ?_))
                | (with_reducible refine condw_bool (fun _ => ?_) (fun _ => ?_))
                | simp [*, itL, HasE, envL]
            rintro s8 a8 ro8 lam8 w8 hE8 hs8
            refine wpIn_mono (cw_in (CW.of_cx (D := fun _ => none) noTab_ok mixed (.cond (.tmp 29) .ret .skip) (fun e s => e = .normal ∧ HasE s.env (itL Y ad C n y k)) _ (by kernel_rfl) ?_) hs8) ?_
            · obtain ⟨en, he⟩ := s8
              simp only [HasE, itL] at hE8
              clear fin hY hJ hJx hg hg2 hrig hmu hs5 hs6 hg4 hg5 hg6 hg7 hK hJ' hE6 g25 g26 g27 hpre hy hs8
              repeat' first
                | (with_reducible refine gw_bool (fun _ => ?_) (fun _ => ?_))
                | (with_reducible refine condw_bool (fun _ => ?_) (fun _ => ?_))
                | simp [*, itL, HasE]
            rintro e a9 w9 ⟨s9, ro9, lam9, ⟨rfl, hE9⟩, -, hs9⟩
            exact .inl ⟨rfl, rfl, hg7.step hro hJ hs9 hE9 (hrig _ _)⟩
          · refine ⟨_, rfl, hK _ _ ?_⟩
            have hs7 : Sim (.of W') 30 (fun _ => False) (fun _ => none) ⟨upd (fun _ => .junk) 28 (.bool false), fun _ => none⟩ (a6.put (some 28) (.bool false)) W' := by
              refine sim_mk hg6.dfr (by simpa [Act.put] using hg6.size) (fun b hb => hb.elim) fun t => ?_
              rw [getD_put (Nat.lt_of_lt_of_le (by decide : 28 < 30) hg6.size)]
              by_cases h : t = 28
              · subst h; rw [upd_same, if_pos rfl]; exact .bool _
              · rw [upd_ne _ _ h]; exact .junk _
            refine eg_in (rest := []) noTab_ok (K := fun s => s.env 29 = .bool true) [_] _ _ _ _ _ (by kernel_rfl) ?_ hs7 ?_
            · clear fin hY hJ hJx hg hg2 hrig hmu hs5 hs6 hg4 hg5 hg6 hs7 hK hJx' hE6 g25 g26 g27 hpre hy
              repeat' first
                | (with_reducible refine gw_bool (fun _ => ?_) (fun _ => ?_))
                | (with_reducible refine condw_bool (fun _ => ?_) (fun _ => ?_))
                | simp [*]
            rintro s8 a8 ro8 lam8 w8 r43 hs8
            refine wpIn_mono (cw_in (CW.of_cx (D := fun _ => none) noTab_ok mixed (.cond (.tmp 29) .ret .skip) (fun e s => e = .ret) _ (by kernel_rfl) ?_) hs8) ?_
            · obtain ⟨en, he⟩ := s8
              simp only at r43
              clear fin hY hJ hJx hg hg2 hrig hmu hs5 hs6 hg4 hg5 hg6 hs7 hK hJx' hE6 g25 g26 g27 hpre hy hs8
              repeat' first
                | (with_reducible refine gw_bool (fun _ => ?_) (fun _ => ?_))
                | (with_reducible refine condw_bool (fun _ => ?_) (fun _ => ?_))
                | simp [*]
            rintro e a9 w9 ⟨s9, ro9, lam9, rfl, -, hs9⟩
            exact .inr ⟨rfl, hs9.dfr, _, results_none rfl _ _ _, ⟨_, rfl⟩, .inr ⟨_, hJx _ _ _ hJx' hs9.below.below⟩⟩
    · rintro e a' w' (⟨rfl, rfl, hg'⟩ | ⟨rfl, hb⟩)
      · rw [if_neg (by simp)] at hpre
        refine wpIn_mono (cw_in (CW.of_cx (D := fun _ => none) noTab_ok mixed _ (fun e s => e = .normal ∧ HasE s.env (itL Y ad C n y ((k + 1 : Nat) : Int))) _ (by kernel_rfl) ?_) (hg'.sim hro)) ?_
        · clear fin hY hJ hJx hg hg2 hrig hmu hg' hpre hy
          repeat' first
            | (with_reducible refine gw_bool (fun _ => ?_) (fun _ => ?_))
            | (with_reducible refine condw_bool (fun _ => ?_) (fun _ => ?_))
            | simp [*, itL, HasE, envL]
        rintro e a3 w3' ⟨s3, ro3, lam3, ⟨rfl, hE3⟩, -, hs3⟩
        have hg3 := hg'.step hro hJ hs3 hE3 (hrig _ _)
        exact ⟨⟨k + 1, y, _, by omega, by omega, hyn, by simpa using hpre, hg3⟩, hmu _ _ _ hg3⟩
      · exact hb
  · have f1 : ilt (k : Int) (n : Int) = false := ilt_f (by omega)
    have hkn' : n - k = 0 := by omega
    rw [hkn', ascL, List.append_nil] at hpre
    subst hpre
    refine wpIn_mono (cw_in (CW.of_cx (D := fun _ => none) noTab_ok mixed _ (fun e s => e = .exit 0 ∧ HasE s.env (itL Y ad C n x k)) _ (by kernel_rfl) ?_) hsim) ?_
    · clear fin hY hJ hJx hg hrig hsim
      repeat' first
        | (with_reducible refine gw_bool (fun _ => ?_) (fun _ => ?_))
        | (with_reducible refine condw_bool (fun _ => ?_) (fun _ => ?_))
        | simp [*, itL, HasE, envL]
    rintro e a2 w2 ⟨s2, ro2, lam2, ⟨rfl, hE⟩, -, hs2⟩
    have hg2 := hg.step hro hJ hs2 hE (hrig _ _)
    exact fin _ _ _ _ hg2 (.inl rfl)
end Go.Proofs.Ytongalkfcfkfiaa
end
section
namespace Go.Proofs.Ytongalkfcfkfiaa
open Go.Pv Go.RowKit
set_option linter.unusedSimpArgs false
set_option linter.unusedVariables false
set_option maxRecDepth 100000
set_option maxHeartbeats 4000000

theorem list_guard {m : Nat} {ops : Array Oper} {o : Oper} {l : List Oper} {Q : Exit → Act → World → Prop} {a : Act} {w : World} (hw : Region.wanted o (yielded ops a.tmps) = true)
    (h : ∀ K : Act → World → Prop, (∀ a' w', wpListIn Fence.wide m Try.prog ops Q l a' w' → K a' w') → o.wpIn Fence.wide m Try.prog a w K Q) : wpListIn Fence.wide m Try.prog ops Q (o :: l) a w := by
  show if Region.wanted o (yielded ops a.tmps) then o.wpIn Fence.wide m Try.prog a w (wpListIn Fence.wide m Try.prog ops Q l) Q else _
  rw [hw, if_pos rfl]
  exact h _ fun _ _ h => h
theorem des_in (m l : Nat) (c : List Bool) (n : Nat) (hcn : c.length = n) (h3 : 3 ≤ n) (h14 : n ≤ 14) (x0 : Nat) (hx0 : x0 < n) (ad ad2 : Addr) (ro : Nat → Prop) (W : World) (hro : ∀ b, ro b → b < W.heap.size)
    (hX : R0 W ro (.vrp ad [.list 1 (c.map bl1)]) (.pointer (some ad))) (hX2 : R0 W ro (.vrp ad2 [.int .i64 x0]) (.pointer (some ad2))) (J Jx : List PN → World → Prop) (hJ : Ab J) (hJx : Ab Jx)
    (hY : ∀ pre x W1, J pre W1 → pre.length < (desL c n (n - 1) x0 1).length → YieldAt Fence.wide (m - 1) Try.prog l (pnE n x) W1 fun e W' =>
      (e = .returned (.bool true) ∧ J (pre ++ [x]) W' ∧ KR ro W1 W') ∨ (e = .returned (.bool false) ∧ Jx (pre ++ [x]) W'))
    (h0 : J [] W) : CallsIn Fence.wide m Try.prog 42 #[.func (.yield l) #[] #[], .pointer (some ad), .pointer (some ad2)] W fun e W' => (∃ v, e = .returned v) ∧ (J (desL c n (n - 1) x0 1) W' ∨ ∃ pre, Jx pre W') := by
  obtain ⟨xs, hxs⟩ : ∃ xs, desL c n (n - 1) x0 1 = xs := ⟨_, rfl⟩
  rw [hxs] at hY ⊢
  refine callsIn_of_wp Try.func42 rfl trivial ?_ rfl
  rw [Try.ntmps42]
  obtain ⟨Y, hYv⟩ : ∃ Y : Value, Y = .func (.yield l) #[] #[] := ⟨_, rfl⟩
  rw [← hYv]
  obtain ⟨C, hC⟩ : ∃ C : List V, C = [.list 1 (c.map bl1)] := ⟨_, rfl⟩
  rw [← hC] at hX
  have hrig : ∀ x k : Int, RigE W ro (itL Y ad C n x k) := fun x k => ⟨rig_val, rig_vrp hX, rig_flat rfl, rig_flat rfl, rig_flat rfl, trivial⟩
  have hs0 := sim_ini (n := 34) (w := W) (ro := ro) (args := #[Y, .pointer (some ad), .pointer (some ad2)]) (vs := [.val Y, .vrp ad C, .vrp ad2 [.int .i64 x0]]) hro rfl (by simp) (fun j c x hc hx => by
    match j with
    | 0 => simp at hc hx; subst hc; subst hx; exact .val _
    | 1 => simp at hc hx; subst hc; subst hx; exact hX
    | 2 => simp at hc hx; subst hc; subst hx; exact hX2
    | j + 3 => simp at hc)
  have hn0 : ¬ (n : Int) = 0 := by omega
  have hn1 : ((n : Int) == 0) = false := by simp; omega
  have hn2 : ¬ n = 0 := by omega
  refine wpIn_seq ?_
  refine wpIn_mono (cw_in (CW.of_cx (D := fun _ => none) noTab_ok mixed _ (fun e s => e = .normal ∧ HasE s.env [(0, .val Y), (1, .vrp ad C), (2, .vrp ad2 [.int .i64 x0]), (4, .int .i64 n)]) _ (by kernel_rfl) ?_) hs0) ?_
  · rw [hC]
    clear hY hJ hJx hs0 hrig
    repeat' first
      | (with_reducible refine gw_bool (fun _ => ?_) (fun _ => ?_))
      | (with_reducible refine condw_bool (fun _ => ?_) (fun _ => ?_))
      | simp [*, HasE]
  rintro e a w ⟨s1, ro1, lam1, ⟨rfl, hE⟩, -, hs1⟩
  refine wpIn_seq ?_
  refine wpIn_mono (cw_in (CW.of_cx (D := fun _ => none) noTab_ok mixed _ (fun e s => e = .normal ∧ HasE s.env [(0, .val Y), (1, .vrp ad C), (4, .int .i64 n), (5, .int .i64 x0)]) _ (by kernel_rfl) ?_) hs1) ?_
  · obtain ⟨en, he⟩ := s1
    simp only [HasE] at hE
    clear hY hJ hJx hs0 hrig hs1
    repeat' first
      | (with_reducible refine gw_bool (fun _ => ?_) (fun _ => ?_))
      | (with_reducible refine condw_bool (fun _ => ?_) (fun _ => ?_))
      | simp [*, HasE]
  clear hs1 hE
  rintro e a w ⟨s1, ro1, lam1, ⟨rfl, hE⟩, -, hs1⟩
  refine wpIn_seq ?_
  refine wpIn_mono (cw_in (CW.of_cx (D := fun _ => none) noTab_ok mixed _ (fun e s => e = .normal ∧ HasE s.env (itL Y ad C n x0 (1 : Nat))) _ (by kernel_rfl) ?_) hs1) ?_
  · obtain ⟨en, he⟩ := s1
    simp only [HasE] at hE
    clear hY hJ hJx hs0 hrig hs1
    repeat' first
      | (with_reducible refine gw_bool (fun _ => ?_) (fun _ => ?_))
      | (with_reducible refine condw_bool (fun _ => ?_) (fun _ => ?_))
      | simp [*, HasE, itL]
  clear hs1 hE
  rintro e a w ⟨s1, ro1, lam1, ⟨rfl, hE⟩, -, hs1⟩
  have hg0 : EG 34 ro W (itL Y ad C n x0 (1 : Nat)) J [] a w := by
    have hk : KR ro W w := ⟨hs1.below.size, fun b hb => hs1.below.below.block b (hro b hb)⟩
    exact ⟨hs1.dfr, hs1.size, envL_sim (fun b h => hk.2 b h) hs1 _ hE (hrig _ _), hk, hJ _ _ _ h0 hs1.below.below⟩
  clear hs1 hs0 hE
  refine wpIn_block ?_
  refine wpIn_loop (fun a w => ∃ (k x : Nat) (pre : List PN), 1 ≤ k ∧ k ≤ n ∧ x < n ∧ pre ++ desL c n (n - k) x k = xs ∧ EG 34 ro W (itL Y ad C n x k) J pre a w) muA ⟨1, x0, [], by omega, by omega, hx0, by simpa using hxs, hg0⟩ ?_
  clear hg0 a w hxs
  rintro a w ⟨k, x, pre, hk1, hkn, hx, hpre, hg⟩
  have fin : ∀ L e a' w', EG 34 ro W L J xs a' w' → (e = Exit.normal ∨ e = .ret) → bodyPost Try.prog Try.f42 (fun e W' => (∃ v, e = .returned v) ∧ (J xs W' ∨ ∃ pre, Jx pre W')) e a' w' := by
    rintro L e a' w' hg' (rfl | rfl)
    · exact ⟨hg'.dfr, _, results_none rfl _ _ _, ⟨_, rfl⟩, .inl hg'.got⟩
    · exact ⟨hg'.dfr, _, results_none rfl _ _ _, ⟨_, rfl⟩, .inl hg'.got⟩
  have w1 : IntKind.i64.wrap ((k : Int) + 1) = ((k + 1 : Nat) : Int) := wrap_succ (by omega)
  have hsim := hg.sim hro
  refine wpIn_seq ?_
  by_cases hlt : k < n
  · have f1 : ilt (k : Int) (n : Int) = true := ilt_t (by omega)
    refine wpIn_mono (cw_in (CW.of_cx (D := fun _ => none) noTab_ok mixed _ (fun e s => e = .normal ∧ HasE s.env (itL Y ad C n x k)) _ (by kernel_rfl) ?_) hsim) ?_
    · clear fin hY hJ hJx hsim hg hrig
      repeat' first
        | (with_reducible refine gw_bool (fun _ => ?_) (fun _ => ?_))
        | (with_reducible refine condw_bool (fun _ => ?_) (fun _ => ?_))
        | simp [*, itL, HasE, envL]
    rintro e a2 w2 ⟨s2, ro2, lam2, ⟨rfl, hE⟩, -, hs2⟩
    have hg2 := hg.step hro hJ hs2 hE (hrig _ _)
    clear hs2 hE hsim
    have hfu : n - k = (n - (k + 1)) + 1 := by omega
    obtain ⟨y, hy⟩ : ∃ y, (x + (n - 1)) % n = y := ⟨_, rfl⟩
    have hyn : y < n := by rw [← hy]; exact Nat.mod_lt _ (by omega)
    obtain ⟨b, hb, hb'⟩ := at_ex (l := c) (i := y) (by omega)
    have hxl : (y : Int) < (n : Int) := by omega
    rw [hfu, desL, hy, getD_of hb] at hpre
    have w2 : IntKind.i64.wrap ((x : Int) + n) = (x : Int) + n := wrap_id (by omega) (by omega)
    have w4 : IntKind.i64.wrap ((x : Int) + n - 1) = (x : Int) + n - 1 := wrap_id (by omega) (by omega)
    have w3 : ((x : Int) + n - 1).tmod n = (y : Int) := by
      rw [Int.tmod_eq_emod_of_nonneg (by omega), ← hy, show (x : Int) + n - 1 = ((x + (n - 1) : Nat) : Int) by omega]; simp
    have hmu : ∀ (a' : Act) (w' : World) (pre' : List PN), EG 34 ro W (itL Y ad C n y ((k + 1 : Nat) : Int)) J pre' a' w' → muA a' w' < muA a w := fun a' w' pre' h => by
      rw [h.muA, hg.muA]; omega
    refine wpIn_seq (wpIn_mono (wpIn_block (Q := fun e a' w' => (e = .normal ∧ b = false ∧ EG 34 ro W (itL Y ad C n y k) J (pre ++ [(y, k)]) a' w') ∨ (e = .ret ∧ bodyPost Try.prog Try.f42 (fun e W' => (∃ v, e = .returned v) ∧ (J xs W' ∨ ∃ pre, Jx pre W')) .ret a' w')) ?_) ?_)
    · refine wpIn_seq ?_
      refine wpIn_mono (cw_in (CW.of_cx (D := fun _ => none) noTab_ok mixed _ (fun e s => e = .normal ∧ HasE s.env (itL Y ad C n y k)) _ (by kernel_rfl) ?_) (hg2.sim hro)) ?_
      · clear fin hY hJ hJx hg hg2 hrig hmu hpre hy
        repeat' first
          | (with_reducible refine gw_bool (fun _ => ?_) (fun _ => ?_))
          | (with_reducible refine condw_bool (fun _ => ?_) (fun _ => ?_))
          | simp [*, itL, HasE, envL]
      rintro e a5 w5 ⟨s5, ro5, lam5, ⟨rfl, hE5⟩, -, hs5⟩
      have hg5 := hg2.step hro hJ hs5 hE5 (hrig _ _)
      clear hE5
      cases b with
      | true =>
        rw [if_pos rfl, List.append_nil] at hpre
        subst hpre
        refine wpIn_mono (cw_in (CW.of_cx (D := fun _ => none) noTab_ok mixed _ (fun e s => e = .ret ∧ HasE s.env (itL Y ad C n y k)) _ (by kernel_rfl) ?_) (hg5.sim hro)) ?_
        · rw [hC]
          clear fin hY hJ hJx hg hg2 hg5 hs5 hrig hmu hy
          repeat' first
            | (with_reducible refine gw_bool (fun _ => ?_) (fun _ => ?_))
            | (with_reducible refine condw_bool (fun _ => ?_) (fun _ => ?_))
            | simp [*, itL, HasE, envL, bl1]
        rintro e a6 w6 ⟨s6, ro6, lam6, ⟨rfl, hE6⟩, -, hs6⟩
        have hg6 := hg5.step hro hJ hs6 hE6 (hrig _ _)
        exact .inr ⟨rfl, fin _ _ _ _ hg6 (.inr rfl)⟩
      | false =>
        rw [if_neg (by simp)] at hpre
        refine wpIn_seq ?_
        refine wpIn_region_list ?_
        rw [← List.take_append_drop 9 (Array.toList _)]
        refine eg_in noTab_ok (K := fun s => HasE s.env ((28, .val Y) :: (29, .int .i64 y) :: (30, .int .i64 k) :: (27, .bool false) :: itL Y ad C n y k)) _ _ _ _ _ _ (by kernel_rfl) ?_ (hg5.sim hro) ?_
        · rw [hC]
          clear fin hY hJ hJx hg hg2 hg5 hrig hmu hpre hy hs5
          repeat' first
            | (with_reducible refine gw_bool (fun _ => ?_) (fun _ => ?_))
            | (with_reducible refine condw_bool (fun _ => ?_) (fun _ => ?_))
            | simp [*, itL, HasE, envL, bl1]
        rintro s6 a6 ro6 lam6 w6 hE6 hs6
        have hg6 := hg5.step hro hJ hs6 hE6 ⟨rig_val, rig_flat rfl, rig_flat rfl, rig_flat rfl, hrig _ _⟩
        have g28 : R w6 ro6 lam6 (.val Y) (a6.tmps.getD 28 Go.undef) := by have := hs6.env 28; rwa [hE6.1] at this
        have g29 : R w6 ro6 lam6 (.int .i64 y) (a6.tmps.getD 29 Go.undef) := by have := hs6.env 29; rwa [hE6.2.1] at this
        have g30 : R w6 ro6 lam6 (.int .i64 k) (a6.tmps.getD 30 Go.undef) := by have := hs6.env 30; rwa [hE6.2.2.1] at this
        have g27 : R w6 ro6 lam6 (.bool false) (a6.tmps.getD 27 Go.undef) := by have := hs6.env 27; rwa [hE6.2.2.2.1] at this
        refine list_guard (wantV_sound hs6 (by simp [wantV, hE6.2.2.2.1])) fun K hK => ?_
        refine yield_in (l := l) (vals := pnE n (y, k)) rfl ?_ ?_ (hY pre (y, k) w6 hg6.got ?_) ?_
        · show a6.tmps.getD 28 Go.undef = _
          rw [getD_val g28]; exact hYv
        · simp only [List.map_toArray, List.map_cons, List.map_nil]
          show #[a6.tmps.getD 29 Go.undef, a6.tmps.getD 30 Go.undef] = _
          rw [g29.int_inv, g30.int_inv, pnE, Nat.mod_eq_of_lt hyn]
        · rw [← hpre]; simp
        · rintro e W' (⟨rfl, hJ', hb'⟩ | ⟨rfl, hJx'⟩)
          · refine ⟨_, rfl, hK _ _ ?_⟩
            have hg7 : EG 34 ro W _ J _ (a6.put (some 31) (.bool true)) W' := hg6.next (d := 31) (b := true) (by decide) hb' hJ'
            refine eg_in (rest := []) noTab_ok (K := fun s => HasE s.env ((33, .bool false) :: itL Y ad C n y k)) [_, _] _ _ _ _ _ (by kernel_rfl) ?_ (hg7.sim hro) ?_
            · clear fin hY hJ hJx hg hg2 hrig hmu hs5 hs6 hg5 hg6 hg7 hK hJ' hE6 g27 g28 g29 g30 hpre hy
              repeat' first
                | (with_reducible refine gw_bool (fun _ => ?_) (fun _ => ?_))
                | (with_reducible refine condw_bool (fun _ => ?_) (fun _ => ?_))
                | simp [*, itL, HasE, envL]
            rintro s8 a8 ro8 lam8 w8 hE8 hs8
            refine wpIn_mono (cw_in (CW.of_cx (D := fun _ => none) noTab_ok mixed (.cond (.tmp 33) .ret .skip) (fun e s => e = .normal ∧ HasE s.env (itL Y ad C n y k)) _ (by kernel_rfl) ?_) hs8) ?_
            · obtain ⟨en, he⟩ := s8
              simp only [HasE, itL] at hE8
              clear fin hY hJ hJx hg hg2 hrig hmu hs5 hs6 hg5 hg6 hg7 hK hJ' hE6 g27 g28 g29 g30 hpre hy hs8
              repeat' first
                | (with_reducible refine gw_bool (fun _ => ?_) (fun _ => ?_))
                | (with_reducible refine condw_bool (fun _ => ?_) (fun _ => ?_))
                | simp [*, itL, HasE]
            rintro e a9 w9 ⟨s9, ro9, lam9, ⟨rfl, hE9⟩, -, hs9⟩
            exact .inl ⟨rfl, rfl, hg7.step hro hJ hs9 hE9 (hrig _ _)⟩
          · refine ⟨_, rfl, hK _ _ ?_⟩
            have hs7 : Sim (.of W') 34 (fun _ => False) (fun _ => none) ⟨upd (upd (fun _ => .junk) 27 (.bool false)) 31 (.bool false), fun _ => none⟩ (a6.put (some 31) (.bool false)) W' := by
              refine sim_mk hg6.dfr (by simpa [Act.put] using hg6.size) (fun b hb => hb.elim) fun t => ?_
              rw [getD_put (Nat.lt_of_lt_of_le (by decide : 31 < 34) hg6.size)]
              by_cases h : t = 31
              · subst h; rw [upd_same, if_pos rfl]; exact .bool _
              · rw [upd_ne _ _ h, if_neg h]
                by_cases h2 : t = 27
                · subst h2; rw [upd_same, g27.bool_inv]; exact .bool _
                · rw [upd_ne _ _ h2]; exact .junk _
            refine eg_in (rest := []) noTab_ok (K := fun s => s.env 33 = .bool true) [_, _] _ _ _ _ _ (by kernel_rfl) ?_ hs7 ?_
            · clear fin hY hJ hJx hg hg2 hrig hmu hs5 hs6 hg5 hg6 hs7 hK hJx' hE6 g27 g28 g29 g30 hpre hy
              repeat' first
                | (with_reducible refine gw_bool (fun _ => ?_) (fun _ => ?_))
                | (with_reducible refine condw_bool (fun _ => ?_) (fun _ => ?_))
                | simp [*]
            rintro s8 a8 ro8 lam8 w8 r43 hs8
            refine wpIn_mono (cw_in (CW.of_cx (D := fun _ => none) noTab_ok mixed (.cond (.tmp 33) .ret .skip) (fun e s => e = .ret) _ (by kernel_rfl) ?_) hs8) ?_
            · obtain ⟨en, he⟩ := s8
              simp only at r43
              clear fin hY hJ hJx hg hg2 hrig hmu hs5 hs6 hg5 hg6 hs7 hK hJx' hE6 g27 g28 g29 g30 hpre hy hs8
              repeat' first
                | (with_reducible refine gw_bool (fun _ => ?_) (fun _ => ?_))
                | (with_reducible refine condw_bool (fun _ => ?_) (fun _ => ?_))
                | simp [*]
            rintro e a9 w9 ⟨s9, ro9, lam9, rfl, -, hs9⟩
            exact .inr ⟨rfl, hs9.dfr, _, results_none rfl _ _ _, ⟨_, rfl⟩, .inr ⟨_, hJx _ _ _ hJx' hs9.below.below⟩⟩
    · rintro e a' w' (⟨rfl, rfl, hg'⟩ | ⟨rfl, hb⟩)
      · rw [if_neg (by simp)] at hpre
        refine wpIn_mono (cw_in (CW.of_cx (D := fun _ => none) noTab_ok mixed _ (fun e s => e = .normal ∧ HasE s.env (itL Y ad C n y ((k + 1 : Nat) : Int))) _ (by kernel_rfl) ?_) (hg'.sim hro)) ?_
        · clear fin hY hJ hJx hg hg2 hrig hmu hg' hpre hy
          repeat' first
            | (with_reducible refine gw_bool (fun _ => ?_) (fun _ => ?_))
            | (with_reducible refine condw_bool (fun _ => ?_) (fun _ => ?_))
            | simp [*, itL, HasE, envL]
        rintro e a3 w3' ⟨s3, ro3, lam3, ⟨rfl, hE3⟩, -, hs3⟩
        have hg3 := hg'.step hro hJ hs3 hE3 (hrig _ _)
        exact ⟨⟨k + 1, y, _, by omega, by omega, hyn, by simpa using hpre, hg3⟩, hmu _ _ _ hg3⟩
      · exact hb
  · have f1 : ilt (k : Int) (n : Int) = false := ilt_f (by omega)
    have hkn' : n - k = 0 := by omega
    rw [hkn', desL, List.append_nil] at hpre
    subst hpre
    refine wpIn_mono (cw_in (CW.of_cx (D := fun _ => none) noTab_ok mixed _ (fun e s => e = .exit 0 ∧ HasE s.env (itL Y ad C n x k)) _ (by kernel_rfl) ?_) hsim) ?_
    · clear fin hY hJ hJx hg hrig hsim
      repeat' first
        | (with_reducible refine gw_bool (fun _ => ?_) (fun _ => ?_))
        | (with_reducible refine condw_bool (fun _ => ?_) (fun _ => ?_))
        | simp [*, itL, HasE, envL]
    rintro e a2 w2 ⟨s2, ro2, lam2, ⟨rfl, hE⟩, -, hs2⟩
    have hg2 := hg.step hro hJ hs2 hE (hrig _ _)
    exact fin _ _ _ _ hg2 (.inl rfl)
end Go.Proofs.Ytongalkfcfkfiaa
end
section
namespace Go.Proofs.Ytongalkfcfkfiaa
open Go.Pv Go.RowKit
set_option linter.unusedSimpArgs false
set_option linter.unusedVariables false
set_option maxRecDepth 100000
set_option maxHeartbeats 4000000

def Trk : List V → Option V
  | [.agg [.list 1 xs]] => if 3 ≤ xs.length ∧ xs.length ≤ 14 then some (.int .i64 0) else none
  | _ => none
theorem rk_ok (xs : List (List V)) (h1 : 3 ≤ xs.length) (h2 : xs.length ≤ 14) : PCall Try.prog 34 [.agg [.list 1 xs]] (.int .i64 0) := by
  have e1 : ilt (xs.length : Int) 3 = false := ilt_f (by omega)
  have e2 : ilt 40 (xs.length : Int) = false := ilt_f (by omega)
  refine pcall_cx noTab_ok mixed (fun _ => none) Try.func34 rfl Try.ntmps34 Try.results34 (by simp) (by kernel_rfl) ?_
  repeat' first
    | (with_reducible refine gw_bool (fun _ => ?_) (fun _ => ?_))
    | (with_reducible refine condw_bool (fun _ => ?_) (fun _ => ?_))
    | simp [*]
theorem rk_tab : ∀ vs u, Trk vs = some u → PCall Try.prog 34 vs u := by
  intro vs u h; unfold Trk at h; split at h
  · split at h
    · rename_i hc; cases h; exact rk_ok _ hc.1 hc.2
    · cases h
  · cases h
def G20 : Tab := add 34 Trk (noTab)
theorem G20_at (f : FuncId) (vs : List V) : G20.at' f vs = if f = 34 then Trk vs else noTab.at' f vs := rfl
theorem G20_fr (f : FuncId) : G20.fr f = if f = 34 then false else noTab.fr f := rfl
theorem G20_gb (f : FuncId) : G20.gb f = noTab.gb f := rfl
theorem G20_gv (f : FuncId) (vs : List V) : G20.gv f vs = noTab.gv f vs := rfl
attribute [simp] G20_at G20_fr G20_gb G20_gv Trk
theorem G20_ok : TabOK Try.prog G20 := by
  refine add_ok (noTab_ok) (by kernel_rfl) ?_
  · exact rk_tab
attribute [-simp] Trk
def Ths : List V → Option V
  | [.agg [.list 1 xs], .int .i64 x] => if (3 ≤ xs.length ∧ xs.length ≤ 14) ∧ (0 ≤ x ∧ x < xs.length) then some (.bool true) else none
  | _ => none
theorem hs_ok (xs : List (List V)) (x : Int) (h1 : 3 ≤ xs.length) (h2 : xs.length ≤ 14) (h3 : 0 ≤ x) (h4 : x < xs.length) : PCall Try.prog 23 [.agg [.list 1 xs], .int .i64 x] (.bool true) := by
  have t1 : Trk [.agg [.list 1 xs]] = some (.int .i64 0) := if_pos ⟨h1, h2⟩
  have e1 : ilt x 0 = false := ilt_f (by omega)
  have e2 : ilt x (xs.length : Int) = true := ilt_t (by omega)
  clear h1 h2 h3 h4
  refine pcall_cx G20_ok mixed (fun _ => none) Try.func23 rfl Try.ntmps23 Try.results23 (by simp) (by kernel_rfl) ?_
  repeat' first
    | (with_reducible refine gw_bool (fun _ => ?_) (fun _ => ?_))
    | (with_reducible refine condw_bool (fun _ => ?_) (fun _ => ?_))
    | simp [*]
theorem hs_tab : ∀ vs u, Ths vs = some u → PCall Try.prog 23 vs u := by
  intro vs u h; unfold Ths at h; split at h
  · split at h
    · rename_i hc; cases h; exact hs_ok _ _ hc.1.1 hc.1.2 hc.2.1 hc.2.2
    · cases h
  · cases h
theorem dir_ok : PCall Try.prog 24 [] (.agg [.clo 35 [], .clo 36 []]) := by
  refine pcall_cx noTab_ok mixed (fun _ => none) Try.func24 rfl Try.ntmps24 Try.results24 (by simp) (by kernel_rfl) ?_
  repeat' first
    | (with_reducible refine gw_bool (fun _ => ?_) (fun _ => ?_))
    | (with_reducible refine condw_bool (fun _ => ?_) (fun _ => ?_))
    | simp [*]
def Tdir : List V → Option V
  | [] => some (.agg [.clo 35 [], .clo 36 []])
  | _ => none
def Tasc : List V → Option V
  | [.agg [.list 1 xs], .int .i64 f] => some (.clo 41 [.rp [.list 1 xs], .rp [.int .i64 f]])
  | _ => none
def Tdes : List V → Option V
  | [.agg [.list 1 xs], .int .i64 f] => some (.clo 42 [.rp [.list 1 xs], .rp [.int .i64 f]])
  | _ => none
theorem asc_ok (xs : List (List V)) (f : Int) : PCall Try.prog 35 [.agg [.list 1 xs], .int .i64 f] (.clo 41 [.rp [.list 1 xs], .rp [.int .i64 f]]) := by
  refine pcall_of2 Try.func35 rfl Try.ntmps35 Try.results35 (by simp) ?_
  refine cw_seq (CW.of_cx (D := (fun _ => none)) noTab_ok mixed _ _ _ (by kernel_rfl) ?_)
  repeat' first
    | (with_reducible refine gw_bool (fun _ => ?_) (fun _ => ?_))
    | (with_reducible refine condw_bool (fun _ => ?_) (fun _ => ?_))
    | simp [*]
  refine cw_view (View.pub _ (key := 2) (blk := ⟨46, [.list 1 xs]⟩) (by simp) rfl) ?_
  refine cw_view (View.pub _ (key := 3) (blk := ⟨3, [.int .i64 f]⟩) (by simp [St.pub, pubC]) rfl) ?_
  refine CW.of_cx (D := (fun _ => none)) noTab_ok mixed _ _ _ (by kernel_rfl) ?_
  repeat' first
    | (with_reducible refine gw_bool (fun _ => ?_) (fun _ => ?_))
    | (with_reducible refine condw_bool (fun _ => ?_) (fun _ => ?_))
    | simp [*, St.pub, pubC, pubT, pubA]
theorem des_ok (xs : List (List V)) (f : Int) : PCall Try.prog 36 [.agg [.list 1 xs], .int .i64 f] (.clo 42 [.rp [.list 1 xs], .rp [.int .i64 f]]) := by
  refine pcall_of2 Try.func36 rfl Try.ntmps36 Try.results36 (by simp) ?_
  refine cw_seq (CW.of_cx (D := (fun _ => none)) noTab_ok mixed _ _ _ (by kernel_rfl) ?_)
  repeat' first
    | (with_reducible refine gw_bool (fun _ => ?_) (fun _ => ?_))
    | (with_reducible refine condw_bool (fun _ => ?_) (fun _ => ?_))
    | simp [*]
  refine cw_view (View.pub _ (key := 2) (blk := ⟨46, [.list 1 xs]⟩) (by simp) rfl) ?_
  refine cw_view (View.pub _ (key := 3) (blk := ⟨3, [.int .i64 f]⟩) (by simp [St.pub, pubC]) rfl) ?_
  refine CW.of_cx (D := (fun _ => none)) noTab_ok mixed _ _ _ (by kernel_rfl) ?_
  repeat' first
    | (with_reducible refine gw_bool (fun _ => ?_) (fun _ => ?_))
    | (with_reducible refine condw_bool (fun _ => ?_) (fun _ => ?_))
    | simp [*, St.pub, pubC, pubT, pubA]
def G21 : Tab := add 23 Ths (add 24 Tdir (add 35 Tasc (add 36 Tdes (noTab))))
theorem G21_at (f : FuncId) (vs : List V) : G21.at' f vs = if f = 23 then Ths vs else if f = 24 then Tdir vs else if f = 35 then Tasc vs else if f = 36 then Tdes vs else noTab.at' f vs := rfl
theorem G21_fr (f : FuncId) : G21.fr f = if f = 23 then false else if f = 24 then false else if f = 35 then false else if f = 36 then false else noTab.fr f := rfl
theorem G21_gb (f : FuncId) : G21.gb f = noTab.gb f := rfl
theorem G21_gv (f : FuncId) (vs : List V) : G21.gv f vs = noTab.gv f vs := rfl
attribute [simp] G21_at G21_fr G21_gb G21_gv Tasc Tdes Tdir Ths
theorem G21_ok : TabOK Try.prog G21 := by
  refine add_ok (add_ok (add_ok (add_ok (noTab_ok) (by kernel_rfl) ?_) (by kernel_rfl) ?_) (by kernel_rfl) ?_) (by kernel_rfl) ?_
  · intro vs v h; unfold Tdes at h; split at h
    · cases h; apply des_ok
    · cases h
  · intro vs v h; unfold Tasc at h; split at h
    · cases h; apply asc_ok
    · cases h
  · intro vs v h; unfold Tdir at h; split at h
    · cases h; apply dir_ok
    · cases h
  · exact hs_tab
attribute [-simp] Ths
end Go.Proofs.Ytongalkfcfkfiaa
end
section
namespace Go.Proofs.Ytongalkfcfkfiaa
open Go.Pv Go.RowKit
set_option linter.unusedSimpArgs false
set_option linter.unusedVariables false
set_option maxRecDepth 100000
set_option maxHeartbeats 4000000

def rSet (n : Nat) (R : List Bool) (p : PN) : List Bool := R.set (p.1 % n) true
def rAll (n : Nat) (R : List Bool) (l : List PN) : List Bool := l.foldl (rSet n) R
theorem rAll_snoc (n : Nat) (R : List Bool) (l : List PN) (p : PN) : rAll n R (l ++ [p]) = rSet n (rAll n R l) p := by simp [rAll]
theorem rAll_len (n : Nat) : ∀ (l : List PN) (R : List Bool), (rAll n R l).length = R.length
  | [], R => rfl
  | p :: l, R => by
    show (rAll n (rSet n R p) l).length = _
    rw [rAll_len n l]; simp [rSet]
def wayL (c : List Bool) (n : Nat) (i x : Nat) : List PN := if i = 0 then ascL c n (n - 1) x 1 else desL c n (n - 1) x 1
def rchN (c : List Bool) (n x : Nat) : Nat → List Bool
  | 0 => (List.replicate n false).set x true
  | i + 1 => rAll n (rchN c n x i) (wayL c n i x)
def rchL (c : List Bool) (n x : Nat) : List Bool := rchN c n x 2
theorem rchN_len (c : List Bool) (n x : Nat) : ∀ i, (rchN c n x i).length = n
  | 0 => by simp [rchN]
  | i + 1 => by rw [rchN, rAll_len, rchN_len c n x i]
def dirF (i : Nat) : FuncId := if i = 0 then 41 else 42
theorem way_it (c : List Bool) (n : Nat) (hcn : c.length = n) (h3 : 3 ≤ n) (h14 : n ≤ 14) (i x : Nat) (hi : i < 2) (hx : x < n) (ad ad2 : Addr) (ro : Nat → Prop) (w : World) (hro : ∀ b, ro b → b < w.heap.size)
    (hX : R0 w ro (.vrp ad [.list 1 (c.map bl1)]) (.pointer (some ad))) (hX2 : R0 w ro (.vrp ad2 [.int .i64 x]) (.pointer (some ad2))) :
    PIter Try.prog (dirF i) #[.pointer (some ad), .pointer (some ad2)] (pnE n) ro (wayL c n i x) w := by
  intro m l J Jx W hk hJ hJx hY h0
  have h1 : ∀ b, ro b → b < W.heap.size := fun b hb => Nat.lt_of_lt_of_le (hro b hb) hk.1
  have h2 := hX.mono (fun b hb => hk.2 b hb) (fun _ h => h)
  have h4 := hX2.mono (fun b hb => hk.2 b hb) (fun _ h => h)
  obtain rfl | rfl : i = 0 ∨ i = 1 := by omega
  · exact asc_in m l c n hcn h3 h14 x hx ad ad2 ro W h1 h2 h4 J Jx hJ hJx hY h0
  · exact des_in m l c n hcn h3 h14 x hx ad ad2 ro W h1 h2 h4 J Jx hJ hJx hY h0
theorem rp_vrp {w : World} {ro : Nat → Prop} {cs : List V} {x : Value} (h : R0 w ro (.rp cs) x) : ∃ ad, x = .pointer (some ad) ∧ R0 w ro (.vrp ad cs) (.pointer (some ad)) := by
  cases h with
  | rp _ a g h1 h2 h3 => exact ⟨a, rfl, .vrp _ _ g h1 h2 h3⟩
theorem clo2 {w : World} {ro : Nat → Prop} {f : FuncId} {cs ds : List V} {x : Value} (h : R0 w ro (.clo f [.rp cs, .rp ds]) x) : ∃ ad ad2, x = .func (.func f) #[] #[.pointer (some ad), .pointer (some ad2)] ∧ R0 w ro (.vrp ad cs) (.pointer (some ad)) ∧ R0 w ro (.vrp ad2 ds) (.pointer (some ad2)) := by
  cases h with
  | clo _ _ arr hl hr =>
    match arr, hl with
    | ⟨[a, b]⟩, _ =>
      obtain ⟨ad, e1, h1⟩ := rp_vrp (hr 0 _ a rfl rfl)
      obtain ⟨ad2, e2, h2⟩ := rp_vrp (hr 1 _ b rfl rfl)
      subst e1; subst e2
      exact ⟨ad, ad2, rfl, h1, h2⟩
def rcB (c R : List Bool) (n : Nat) : List (Nat × Blk) := [(2, ⟨46, [.list 1 (c.map bl1)]⟩), (5, ⟨44, [.sl 16 0 n 1]⟩), (16, ⟨4, R.map V.bool⟩)]
def rcL (b2 b5 : Nat) (x i : Int) : List (Nat × V) := [(1, .int .i64 x), (2, .vptr b2 2 0), (5, .vptr b5 5 0), (20, .agg [.clo 35 [], .clo 36 []]), (21, .int .i64 i)]
theorem rcB_out {c R : List Bool} {n k : Nat} (h : blkOf (rcB c R n) k = none) : k ≠ 2 ∧ k ≠ 5 ∧ k ≠ 16 := ⟨blk_ne h rfl, blk_ne h rfl, blk_ne h rfl⟩
structure RQ (W0 : World) (ro0 : Nat → Prop) (c : List Bool) (n x b2 b5 i : Nat) (R : List Bool) (a : Act) (w : World) : Prop where
  ex : ∃ Ds ro lam, Sim ⟨w, ownB lam, a.defers⟩ 35 ro lam ⟨envL (rcL b2 b5 x i), blkOf (rcB c R n)⟩ a w ∧ MK W0 ro0 Ds ro lam a w ∧ Ds.length = i
theorem RQ.dlen {W0 : World} {ro0 : Nat → Prop} {c : List Bool} {n x b2 b5 i : Nat} {R : List Bool} {a : Act} {w : World} (h : RQ W0 ro0 c n x b2 b5 i R a w) : a.defers.length = i := by
  obtain ⟨Ds, ro, lam, _, hm, hl⟩ := h.ex
  rw [hm.dfs]; simp [marks, hl]
theorem rch_ok (c : List Bool) (n x : Nat) (hcn : c.length = n) (h3 : 3 ≤ n) (h14 : n ≤ 14) (hx : x < n) :
    PCall Try.prog 16 [.agg [.list 1 (c.map bl1)], .int .i64 x] (.list 1 ((rchL c n x).map bl1)) := by
  have hrl : (c.map bl1).length = n := by simp [hcn]
  have t1 : Ths [.agg [.list 1 (c.map bl1)], .int .i64 x] = some (.bool true) := if_pos (by rw [hrl]; omega)
  have hxn : (x : Int) < (n : Int) := by omega
  intro W0 ro0 args hro hsz hr
  have hs0 := sim_ini (n := 35) hro hsz (by simp) hr
  refine callsIn_wide.1 (callsIn_of_wp_marks (n := 0) Try.func16 rfl trivial ?_ rfl)
  rw [Try.ntmps16]
  have hm0 : MK W0 ro0 [] ro0 (fun _ => none) { tmps := args ++ Array.replicate (35 - args.size) Go.undef, defers := [] } W0 :=
    ⟨rfl, List.nodup_nil, fun D hD => (by simp at hD), Below.refl _ _, fun b ⟨k, hk⟩ => (by rcases hk with ⟨_, hk⟩ | hk <;> cases hk), fun _ h => h, fun _ h => .inl h⟩
  have hs0' := hs0.rebase
  clear hs0
  obtain ⟨A0, hA0⟩ : ∃ A0 : Act, { tmps := args ++ Array.replicate (35 - args.size) Go.undef, defers := [] } = A0 := ⟨_, rfl⟩
  rw [hA0] at hm0 hs0' ⊢
  refine wpIn_seq (wpIn_mono (cw_inE (CW.of_cx (D := fun _ => none) noTab_ok mixed _ (fun e s => e = .normal ∧ HasE s.env [(1, .int .i64 x), (2, .ptr 2 0)] ∧ HeapIs s.heap [(2, ⟨46, [.list 1 (c.map bl1)]⟩)]) _ (by kernel_rfl) ?_) hs0' hm0) ?_)
  · clear hs0' hm0 hr hA0
    repeat' first
      | (with_reducible refine gw_bool (fun _ => ?_) (fun _ => ?_))
      | (with_reducible refine condw_bool (fun _ => ?_) (fun _ => ?_))
      | simp [*, HasE]
    refine ⟨by simp [KeepBl], fun k hk => ?_⟩
    have k2 : k ≠ 2 := blk_ne hk rfl
    simp [k2]
  rintro e a1 w1 ⟨s1, ro1, lam1, ⟨rfl, hE1, hH1⟩, hs1, hm1⟩
  replace hs1 := toL hs1 hE1 hH1
  clear hs0' hm0 hE1 hH1
  -- has
  refine wpIn_seq (wpIn_mono (cw_inE (CW.of_cx (D := fun _ => none) G21_ok mixed _ (fun e s => e = .normal ∧ HasE s.env [(1, .int .i64 x), (2, .ptr 2 0)] ∧ HeapIs s.heap [(2, ⟨46, [.list 1 (c.map bl1)]⟩)]) _ (by kernel_rfl) ?_) hs1 hm1) ?_)
  · clear hs1 hm1 hr hA0
    repeat' first
      | (with_reducible refine gw_bool (fun _ => ?_) (fun _ => ?_))
      | (with_reducible refine condw_bool (fun _ => ?_) (fun _ => ?_))
      | simp [*, HasE, envL, blkOf]
    exact ⟨by simp [KeepBl, blkOf], fun k hk => hk⟩
  rintro e a2 w2 ⟨s2, ro2, lam2, ⟨rfl, hE2, hH2⟩, hs2, hm2⟩
  replace hs2 := toL hs2 hE2 hH2
  clear hs1 hm1 hE2 hH2
  -- reached
  have hN1 : (n : Int) ≤ 281474976710656 := by omega
  have hN2 : (n : Int) ≤ 9223372036854775807 := by omega
  refine wpIn_seq (wpIn_mono (cw_inE (CW.of_cx (D := fun _ => none) noTab_ok mixed _ (fun e s => e = .normal ∧ HasE s.env [(1, .int .i64 x), (2, .ptr 2 0), (5, .ptr 5 0)] ∧ HeapIs s.heap (rcB c (List.replicate n false) n)) _ (by kernel_rfl) ?_) hs2 hm2) ?_)
  · clear hs2 hm2 hr hA0
    repeat' first
      | (with_reducible refine gw_bool (fun _ => ?_) (fun _ => ?_))
      | (with_reducible refine condw_bool (fun _ => ?_) (fun _ => ?_))
      | simp [*, HasE, envL, blkOf]
    refine ⟨by simp [KeepBl, rcB, blkOf], fun k hk => ?_⟩
    obtain ⟨k2, k5, k16⟩ := rcB_out hk
    simp [k2, k5, k16, blkOf]
  rintro e a3 w3 ⟨s3, ro3, lam3, ⟨rfl, hE3, hH3⟩, hs3, hm3⟩
  replace hs3 := toL hs3 hE3 hH3
  clear hs2 hm2 hE3 hH3
  refine wpIn_seq (wpIn_mono (cw_inE (CW.of_cx (D := fun _ => none) noTab_ok mixed _ (fun e s => e = .normal ∧ HasE s.env [(1, .int .i64 x), (2, .ptr 2 0), (5, .ptr 5 0)] ∧ HeapIs s.heap (rcB c (rchN c n x 0) n)) _ (by kernel_rfl) ?_) hs3 hm3) ?_)
  · clear hs3 hm3 hr hA0
    repeat' first
      | (with_reducible refine gw_bool (fun _ => ?_) (fun _ => ?_))
      | (with_reducible refine condw_bool (fun _ => ?_) (fun _ => ?_))
      | simp [*, HasE, envL, blkOf, rcB, setsV]
    refine ⟨hx, by simp [KeepBl, blkOf, rcB, rchN, List.map_set], fun k hk => ?_⟩
    obtain ⟨k2, k5, k16⟩ := rcB_out (c := c) (R := rchN c n x 0) (n := n) hk
    simp [k2, k5, k16, blkOf]
  rintro e a4 w4 ⟨s4, ro4, lam4, ⟨rfl, hE4, hH4⟩, hs4, hm4⟩
  replace hs4 := toL hs4 hE4 hH4
  clear hs3 hm3 hE4 hH4
  have p2 : R w4 ro4 lam4 (.ptr 2 0) (a4.tmps.getD 2 Go.undef) := hs4.env 2
  have p5 : R w4 ro4 lam4 (.ptr 5 0) (a4.tmps.getD 5 Go.undef) := hs4.env 5
  obtain ⟨b2, m2, l2, x2⟩ := p2.ptr_inv
  obtain ⟨b5, m5, l5, x5⟩ := p5.ptr_inv
  have hs5 := hs4.env' (e := envL [(1, .int .i64 x), (2, .vptr b2 2 0), (5, .vptr b5 5 0)]) (fun t => by
    have ht := hs4.env t
    simp only [envL] at ht ⊢
    by_cases h1 : t = 1
    · subst h1; exact ht
    · rw [upd_ne _ _ h1] at ht ⊢
      by_cases h2 : t = 2
      · subst h2; rw [upd_same, x2]; exact .vptr 2 0 b2 m2 l2
      · rw [upd_ne _ _ h2]
        by_cases h5 : t = 5
        · subst h5; rw [upd_same, x5]; exact .vptr 5 0 b5 m5 l5
        · rw [upd_ne _ _ h5]; exact .pure _ _ (.junk _))
  clear hs4 p2 p5
  -- the loop over the directions
  refine wpIn_seq (wpIn_mono (Q := fun e a w => e = .normal ∧ RQ W0 ro0 c n x b2 b5 2 (rchL c n x) a w) ?_ ?_)
  · refine wpIn_seq (wpIn_mono (cw_inE (CW.of_cx (D := fun _ => none) G21_ok mixed _ (fun e s => e = .normal ∧ HasE s.env (rcL b2 b5 x (0 : Nat)) ∧ HeapIs s.heap (rcB c (rchN c n x 0) n)) _ (by kernel_rfl) ?_) hs5 hm4) ?_)
    · clear hs5 hm4 hr hA0
      repeat' first
        | (with_reducible refine gw_bool (fun _ => ?_) (fun _ => ?_))
        | (with_reducible refine condw_bool (fun _ => ?_) (fun _ => ?_))
        | simp [*, HasE, envL, blkOf, rcL]
      exact ⟨by simp [KeepBl, blkOf, rcB], fun k hk => hk⟩
    rintro e a w ⟨s6, ro6, lam6, ⟨rfl, hE6, hH6⟩, hs6, hm6⟩
    replace hs6 := toL hs6 hE6 hH6
    clear hs5 hm4 hE6 hH6
    refine wpIn_block ?_
    refine wpIn_loop (fun a w => ∃ i, i ≤ 2 ∧ RQ W0 ro0 c n x b2 b5 i (rchN c n x i) a w) (fun a _ => 3 - a.defers.length) ⟨0, by omega, [], _, _, hs6, hm6, rfl⟩ ?_
    clear hs6 hm6
    rintro a w ⟨i, hi, hq⟩
    have hdl := hq.dlen
    obtain ⟨Ds, ro, lam, hs, hm, hDs⟩ := hq.ex
    have hRl := rchN_len c n x i
    have w1 : IntKind.i64.wrap ((i : Int) + 1) = ((i + 1 : Nat) : Int) := wrap_succ (by omega)
    by_cases hlt : i < 2
    · have hnx : rchN c n x (i + 1) = rAll n (rchN c n x i) (wayL c n i x) := rfl
      have f1 : ilt (i : Int) 2 = true := ilt_t (by omega)
      obtain ⟨R0', hR0⟩ : ∃ R0', rchN c n x i = R0' := ⟨_, rfl⟩
      rw [hR0] at hs hRl hnx
      refine wpIn_seq (wpIn_mono (cw_inE (CW.of_cx (D := fun _ => none) noTab_ok mixed _ (fun e s => e = .normal ∧ HasE s.env ((22, .bool true) :: rcL b2 b5 x i) ∧ HeapIs s.heap (rcB c R0' n)) _ (by kernel_rfl) ?_) hs hm) ?_)
      · clear hs hm hr hA0 hq hnx
        repeat' first
          | (with_reducible refine gw_bool (fun _ => ?_) (fun _ => ?_))
          | (with_reducible refine condw_bool (fun _ => ?_) (fun _ => ?_))
          | simp [*, HasE, envL, blkOf, rcL]
        exact ⟨by simp [KeepBl, blkOf, rcB], fun k hk => hk⟩
      rintro e a1 w1' ⟨s1, ro1, lam1, ⟨rfl, hE1, hH1⟩, hs1, hm1⟩
      replace hs1 := toL hs1 hE1 hH1
      clear hs hm hE1 hH1
      refine wpIn_seq (wpIn_mono (cw_inE (CW.of_cx (D := fun _ => none) noTab_ok mixed _ (fun e s => e = .normal ∧ HasE s.env (rcL b2 b5 x i) ∧ HeapIs s.heap (rcB c R0' n)) _ (by kernel_rfl) ?_) hs1 hm1) ?_)
      · clear hs1 hm1 hr hA0 hq hnx
        repeat' first
          | (with_reducible refine gw_bool (fun _ => ?_) (fun _ => ?_))
          | (with_reducible refine condw_bool (fun _ => ?_) (fun _ => ?_))
          | simp [*, HasE, envL, blkOf, rcL]
        exact ⟨by simp [KeepBl, blkOf, rcB], fun k hk => hk⟩
      clear hs1 hm1
      rintro e a1 w1' ⟨s1, ro1, lam1, ⟨rfl, hE1, hH1⟩, hs1, hm1⟩
      replace hs1 := toL hs1 hE1 hH1
      clear hE1 hH1
      refine wpIn_seq (wpIn_mono (wpIn_block (Q := fun e a' w' => e = .normal ∧ ∃ Ds ro lam, Sim ⟨w', ownB lam, a'.defers⟩ 35 ro lam ⟨envL (rcL b2 b5 x i), blkOf (rcB c (rchN c n x (i + 1)) n)⟩ a' w' ∧ MK W0 ro0 Ds ro lam a' w' ∧ Ds.length = i + 1) ?_) ?_)
      · refine wpIn_seq (wpIn_mono (cw_inE (CW.of_cx (D := fun _ => none) noTab_ok mixed _ (fun e s => e = .normal ∧ HasE s.env ((7, .clo (if i = 0 then 35 else 36) []) :: rcL b2 b5 x i) ∧ HeapIs s.heap (rcB c R0' n)) _ (by kernel_rfl) ?_) hs1 hm1) ?_)
        · clear hs1 hm1 hr hA0 hq hnx
          obtain rfl | rfl : i = 0 ∨ i = 1 := by omega
          · skip
            repeat' first
              | (with_reducible refine gw_bool (fun _ => ?_) (fun _ => ?_))
              | (with_reducible refine condw_bool (fun _ => ?_) (fun _ => ?_))
              | simp [*, HasE, envL, blkOf, rcL]
            exact ⟨by simp [KeepBl, blkOf, rcB], fun k hk => hk⟩
          · skip
            repeat' first
              | (with_reducible refine gw_bool (fun _ => ?_) (fun _ => ?_))
              | (with_reducible refine condw_bool (fun _ => ?_) (fun _ => ?_))
              | simp [*, HasE, envL, blkOf, rcL]
            exact ⟨by simp [KeepBl, blkOf, rcB], fun k hk => hk⟩
        rintro e a2 w2 ⟨s2, ro2, lam2, ⟨rfl, hE2, hH2⟩, hs2, hm2⟩
        replace hs2 := toL hs2 hE2 hH2
        clear hs1 hm1 hE2 hH2
        refine wpIn_seq (wpIn_mono (cw_inE (CW.of_cx (D := fun _ => none) G21_ok mixed _ (fun e s => e = .normal ∧ HasE s.env ((27, .clo (dirF i) [.rp [.list 1 (c.map bl1)], .rp [.int .i64 x]]) :: rcL b2 b5 x i) ∧ HeapIs s.heap (rcB c R0' n)) _ (by kernel_rfl) ?_) hs2 hm2) ?_)
        · clear hs2 hm2 hr hA0 hq hnx
          obtain rfl | rfl : i = 0 ∨ i = 1 := by omega
          · skip
            repeat' first
              | (with_reducible refine gw_bool (fun _ => ?_) (fun _ => ?_))
              | (with_reducible refine condw_bool (fun _ => ?_) (fun _ => ?_))
              | simp [*, HasE, envL, blkOf, rcL, rcB, dirF]
            exact ⟨by simp [KeepBl, blkOf], fun k hk => hk⟩
          · skip
            repeat' first
              | (with_reducible refine gw_bool (fun _ => ?_) (fun _ => ?_))
              | (with_reducible refine condw_bool (fun _ => ?_) (fun _ => ?_))
              | simp [*, HasE, envL, blkOf, rcL, rcB, dirF]
            exact ⟨by simp [KeepBl, blkOf], fun k hk => hk⟩
        rintro e a3 w3 ⟨s3, ro3, lam3, ⟨rfl, hE3, hH3⟩, hs3, hm3⟩
        clear hs2 hm2
        have hF : R w3 ro3 lam3 (.clo (dirF i) [.rp [.list 1 (c.map bl1)], .rp [.int .i64 x]]) (a3.tmps.getD 27 Go.undef) := by have := hs3.env 27; rwa [hE3.1] at this
        obtain ⟨ad, ad2, hF2, hX1, hX2⟩ := clo2 (hF.pureT rfl)
        replace hs3 := toL hs3 hE3.2 hH3
        have hz3 : 35 ≤ a3.tmps.size := hs3.size
        have hset : ∀ p : PN, setPs #[28, 29] (pnE n p) a3.tmps = (a3.tmps.setIfInBounds 28 (.int .i64 (p.1 % n : Nat))).setIfInBounds 29 (.int .i64 p.2) := fun p => by simp [setPs, pnE]
        clear hE3 hH3 hF
        refine wpIn_block ?_
        refine range_in hs3 hF2 (callFunc_run (by obtain rfl | rfl : i = 0 ∨ i = 1 := by omega
                                                  · kernel_rfl
                                                  · kernel_rfl)) (encs := pnE n) (xs := wayL c n i x) (fun _ => rfl) (way_it c n hcn h3 h14 i x hlt hx ad ad2 ro3 w3 hs3.rolt hX1 hX2) ?_ (fun pre h => HeapIs h (rcB c (rAll n R0' pre) n)) (fun _ _ _ => False) ⟨by simp [KeepBl, blkOf, rcB, rAll], fun k hk => hk⟩ (fun p => envL ((28, .int .i64 (p.1 % n : Nat)) :: rcL b2 b5 x i)) ?_ ?_ ?_ ?_ ?_
        · intro t
          show stays (envL (rcL b2 b5 x i) t) = true
          simp only [envL, rcL, upd]
          repeat' (split; · rfl)
          rfl
        · intro p ro' lam' W hRR t
          rw [hset p]
          simp only [envL]
          by_cases ht : t = 28
          · subst ht
            rw [upd_same, Array.getD_eq_getD_getElem?, Array.getElem?_setIfInBounds, if_neg (by decide), Array.getElem?_setIfInBounds, if_pos rfl, if_pos (by omega)]
            exact .pure _ _ (.int _ _)
          · rw [upd_ne _ _ ht]
            by_cases ht3 : t = 29
            · subst ht3; simp only [rcL, envL, upd]; exact .pure _ _ (.junk _)
            · have := hRR t
              rw [Array.getD_eq_getD_getElem?, Array.getElem?_setIfInBounds, if_neg (fun e => ht3 e.symm), Array.getElem?_setIfInBounds, if_neg (fun e => ht e.symm), ← Array.getD_eq_getD_getElem?]
              exact this
        · intro p; rw [hset p]; simp
        · intro pre p h hI hplt
          have hnext := rAll_snoc n R0' pre p
          have hQl : (rAll n R0' pre).length = n := by rw [rAll_len, hRl]
          generalize rAll n R0' pre = Q' at hI hnext hQl
          have hheq := hI.eq
          subst hheq
          obtain ⟨y, hy⟩ : ∃ y, p.1 % n = y := ⟨_, rfl⟩
          have hyn : y < n := by rw [← hy]; exact Nat.mod_lt _ (by omega)
          have hyn1 : (y : Int) < (n : Int) := by omega
          have hQm : (Q'.map V.bool).length = n := by simp [hQl]
          rw [hy]
          rw [rSet, hy] at hnext
          clear hs3 hm3 hr hA0 hq hnx hset hI hX1 hX2 hF2
          refine (CWR.of_cx (D := fun _ => none) noTab_ok _ (fun e s => e = .normal ∧ HasE s.env ((8, .int .i64 y) :: rcL b2 b5 x i) ∧ HeapIs s.heap (rcB c Q' n)) _ (by kernel_rfl) ?_).mono ?_
          · skip
            repeat' first
              | (with_reducible refine gw_bool (fun _ => ?_) (fun _ => ?_))
              | (with_reducible refine condw_bool (fun _ => ?_) (fun _ => ?_))
              | simp [*, HasE, envL, blkOf, rcL]
            exact ⟨by simp [KeepBl, blkOf, rcB], fun k hk => hk⟩
          rintro e s ⟨rfl, hE, hH⟩
          refine ⟨rfl, CWR.of_cx (D := fun _ => none) noTab_ok _ _ _ (by kernel_rfl) ?_⟩
          have hheq := hH.eq
          obtain ⟨en, he⟩ := s
          simp only at hheq
          subst hheq
          simp only [HasE, rcL] at hE
          clear hH
          repeat' first
            | (with_reducible refine gw_bool (fun _ => ?_) (fun _ => ?_))
            | (with_reducible refine condw_bool (fun _ => ?_) (fun _ => ?_))
            | simp [*, rcB, blkOf, setsV]
          refine ⟨hyn, _, View.refl _ _, ?_, ?_⟩
          · intro t ht
            have ht2 : t = 2 ∨ t = 5 := by
              by_cases h2 : t = 2
              · exact .inl h2
              · by_cases h5 : t = 5
                · exact .inr h5
                · exfalso
                  by_cases h1 : t = 1
                  · subst h1; simp [envL, rcL, upd, isVp] at ht
                  · by_cases h20 : t = 20
                    · subst h20; simp [envL, rcL, upd, isVp] at ht
                    · by_cases h21 : t = 21
                      · subst h21; simp [envL, rcL, upd, isVp] at ht
                      · simp [envL, rcL, upd, isVp, h1, h2, h5, h20, h21] at ht
            rcases ht2 with rfl | rfl
            · simp [envL, rcL, hE]
            · simp [envL, rcL, hE]
          · show HeapIs _ _
            rw [hnext]
            refine ⟨by simp [KeepBl, blkOf, List.map_set], fun k hk => ?_⟩
            obtain ⟨k2, k5, k16⟩ := rcB_out (c := c) (R := Q'.set y true) (n := n) hk
            simp [k2, k5, k16]
        · rintro D ro5 lam5 h W5 hI rj hDl
          have hsd := RJ.act rj ({ target := .collected D, args := #[] } :: a3.defers)
          have hmd := hm3.mark rj hDl
          rw [← hnx] at hI
          exact ⟨rfl, D :: Ds, ro5, lam5, toL hsd (by simp [HasE, envL, upd, rcL]) hI, hmd, by simp [hDs]⟩
        · rintro D cc pre ro' lam' h W hf
          exact hf.elim
      · rintro e a2 w2 ⟨rfl, Ds2, ro2, lam2, hs2, hm2, hl2⟩
        refine wpIn_mono (cw_inE (CW.of_cx (D := fun _ => none) noTab_ok mixed _ (fun e s => e = .normal ∧ HasE s.env (rcL b2 b5 x ((i + 1 : Nat) : Int)) ∧ HeapIs s.heap (rcB c (rchN c n x (i + 1)) n)) _ (by kernel_rfl) ?_) hs2 hm2) ?_
        · clear hs2 hm2 hr hA0 hq hnx
          repeat' first
            | (with_reducible refine gw_bool (fun _ => ?_) (fun _ => ?_))
            | (with_reducible refine condw_bool (fun _ => ?_) (fun _ => ?_))
            | simp [*, HasE, envL, blkOf, rcL]
          exact ⟨by simp [KeepBl, blkOf, rcB], fun k hk => hk⟩
        rintro e a3 w3 ⟨s3, ro3, lam3, ⟨rfl, hE3, hH3⟩, hs3, hm3⟩
        replace hs3 := toL hs3 hE3 hH3
        have hr3 : RQ W0 ro0 c n x b2 b5 (i + 1) (rchN c n x (i + 1)) a3 w3 := ⟨Ds2, ro3, lam3, hs3, hm3, hl2⟩
        have hd3 := hr3.dlen
        exact ⟨⟨i + 1, by omega, hr3⟩, by rw [hd3, hdl]; omega⟩
    · have f1 : ilt (i : Int) 2 = false := ilt_f (by omega)
      have hi2 : i = 2 := by omega
      obtain ⟨R0', hR0⟩ : ∃ R0', rchN c n x i = R0' := ⟨_, rfl⟩
      rw [hR0] at hs hRl
      refine wpIn_seq (wpIn_mono (cw_inE (CW.of_cx (D := fun _ => none) noTab_ok mixed _ (fun e s => e = .normal ∧ HasE s.env ((22, .bool false) :: rcL b2 b5 x i) ∧ HeapIs s.heap (rcB c R0' n)) _ (by kernel_rfl) ?_) hs hm) ?_)
      · clear hs hm hr hA0 hq
        repeat' first
          | (with_reducible refine gw_bool (fun _ => ?_) (fun _ => ?_))
          | (with_reducible refine condw_bool (fun _ => ?_) (fun _ => ?_))
          | simp [*, HasE, envL, blkOf, rcL]
        exact ⟨by simp [KeepBl, blkOf, rcB], fun k hk => hk⟩
      clear hs hm
      rintro e a1 w1' ⟨s1, ro1, lam1, ⟨rfl, hE1, hH1⟩, hs, hm⟩
      replace hs := toL hs hE1 hH1
      clear hE1 hH1
      refine wpIn_seq (wpIn_mono (cw_inE (CW.of_cx (D := fun _ => none) noTab_ok mixed _ (fun e s => e = .exit 0 ∧ HasE s.env (rcL b2 b5 x i) ∧ HeapIs s.heap (rcB c R0' n)) _ (by kernel_rfl) ?_) hs hm) ?_)
      · clear hs hm hr hA0 hq
        repeat' first
          | (with_reducible refine gw_bool (fun _ => ?_) (fun _ => ?_))
          | (with_reducible refine condw_bool (fun _ => ?_) (fun _ => ?_))
          | simp [*, HasE, envL, blkOf, rcL]
        exact ⟨by simp [KeepBl, blkOf, rcB], fun k hk => hk⟩
      rintro e a1 w1' ⟨s1, ro1, lam1, ⟨rfl, hE1, hH1⟩, hs1, hm1⟩
      replace hs1 := toL hs1 hE1 hH1
      subst hi2
      rw [← hR0] at hs1
      exact ⟨rfl, Ds, ro1, lam1, hs1, hm1, hDs⟩
  · rintro e a w ⟨rfl, hq⟩
    obtain ⟨Ds, ro, lam, hs, hm, hDs⟩ := hq.ex
    have hRl : (rchL c n x).length = n := rchN_len c n x 2
    refine wpIn_mono (cw_inE (CW.of_cx (D := fun _ => none) noTab_ok mixed _ (fun e s => e = .ret ∧ s.env 4 = .sl 16 0 n 1 ∧ s.heap 16 = some ⟨4, (rchL c n x).map V.bool⟩) _ (by kernel_rfl) ?_) hs hm) ?_
    · clear hs hm hr hA0 hq
      repeat' first
        | (with_reducible refine gw_bool (fun _ => ?_) (fun _ => ?_))
        | (with_reducible refine condw_bool (fun _ => ?_) (fun _ => ?_))
        | simp [*, HasE, envL, blkOf, rcL, rcB]
    rintro e a1 w1' ⟨s1, ro1, lam1, ⟨rfl, hE1, hH1⟩, hs1, hm1⟩
    have hch := chunks_bl (rchL c n x)
    rw [hRl] at hch
    obtain ⟨ro2, lam2, hs2, hm2⟩ := view_inE (View.pub _ (key := 16) (blk := ⟨4, (rchL c n x).map V.bool⟩) hH1 (pure_bl _)) hs1 hm1
    exact MK.leaveP hm2 hs2 rfl (by simp [St.pub, pubT, pubA, pubC, hE1, hch, hRl]) rfl
end Go.Proofs.Ytongalkfcfkfiaa
end
section
namespace Go.Proofs.Ytongalkfcfkfiaa
open Go.Pv Go.RowKit
set_option linter.unusedSimpArgs false
set_option linter.unusedVariables false
set_option maxRecDepth 100000
set_option maxHeartbeats 4000000

theorem td70 : td Try.prog 70 = some { size := 60, bytes := 864, agg := true, strct := false, zero := some [.int .i64 0, .int .i64 0, .bool false, .nils, .nils, .int .i64 0, .int .i64 0, .bool false, .nils, .nils, .int .i64 0, .int .i64 0, .bool false, .nils, .nils, .int .i64 0, .int .i64 0, .bool false, .nils, .nils, .int .i64 0, .int .i64 0, .bool false, .nils, .nils, .int .i64 0, .int .i64 0, .bool false, .nils, .nils, .int .i64 0, .int .i64 0, .bool false, .nils, .nils, .int .i64 0, .int .i64 0, .bool false, .nils, .nils, .int .i64 0, .int .i64 0, .bool false, .nils, .nils, .int .i64 0, .int .i64 0, .bool false, .nils, .nils, .int .i64 0, .int .i64 0, .bool false, .nils, .nils, .int .i64 0, .int .i64 0, .bool false, .nils, .nils], fields := [], arr := some (12, 5, true), slc := none, int := none, isBool := false, isStr := false, eqg := false } := by kernel_rfl
attribute [simp] td70
theorem take_snoc {α : Type} {l : List α} {k : Nat} {x : α} (h : l[k]? = some x) : l.take (k + 1) = l.take k ++ [x] := by rw [List.take_add_one, h]; rfl
theorem lendC_pure (h : Nat → Option Blk) {v : V} (hv : ownC v = false) (ho : oneV v = true) : lendC h v = some v := by
  cases v <;> first | rfl | (simp [ownC] at hv; done) | (simp [oneV] at ho; done)
theorem lendL_pure (h : Nat → Option Blk) : ∀ (vs : List V), vs.any ownC = false → vs.all oneV = true → lendL h vs = some vs
  | [], _, _ => rfl
  | v :: vs, hp, ho => by
    simp only [List.any_cons, Bool.or_eq_false_iff] at hp
    simp only [List.all_cons, Bool.and_eq_true] at ho
    simp only [lendL, lendC_pure h hp.1 ho.1, lendL_pure h vs hp.2 ho.2]
def frAt (l : List Fr) (c0 : Int) (j : Nat) : Option Fr := l.find? (fun f => decide (f.c - c0 = (j : Int)))
def pkF (l : List Fr) (c0 : Int) (j : Nat) : List V := match frAt l c0 j with
  | some f => f.cs
  | none => z5
def pkR (l : List Fr) (c0 : Int) : List V := (rowsF 12 (pkF l c0)).flatten
theorem pkF_len (l : List Fr) (c0 : Int) (j : Nat) : (pkF l c0 j).length = 5 := by unfold pkF; split <;> rfl
theorem pkF_pure (l : List Fr) (c0 : Int) (j : Nat) : (pkF l c0 j).any ownC = false := by unfold pkF; split <;> rfl
theorem pkR_len (l : List Fr) (c0 : Int) : (pkR l c0).length = 60 := length_flatten_rowsF (sz := 5) (pkF_len l c0)
theorem pkR_pure (l : List Fr) (c0 : Int) : (pkR l c0).any ownC = false := any_rowsF (pkF_pure l c0)
theorem pkR_one (l : List Fr) (c0 : Int) : (pkR l c0).all oneV = true := by
  rw [List.all_eq_true]
  intro v hv
  simp only [pkR, List.mem_flatten, rowsF, List.mem_map] at hv
  obtain ⟨_, ⟨i, _, rfl⟩, hv⟩ := hv
  have : (pkF l c0 i).all oneV = true := by unfold pkF; split <;> rfl
  exact List.all_eq_true.1 this v hv
theorem pkR_snoc {l : List Fr} {c0 : Int} {f : Fr} {k : Nat} (hk : f.c - c0 = k) (h12 : k < 12) (hn : frAt l c0 k = none) : setsV (pkR l c0) (k * 5) f.cs = pkR (l ++ [f]) c0 := by
  refine (setsV_rowsF (sz := 5) (r := f.cs) (pkF_len l c0) rfl h12).trans ?_
  show _ = (rowsF 12 _).flatten
  congr 1
  refine rowsF_congr fun j hj => ?_
  by_cases e : j = k
  · subst e
    rw [if_pos rfl, pkF]
    unfold frAt at hn ⊢
    rw [List.find?_append, hn]
    simp [hk]
  · rw [if_neg e, pkF, pkF]
    unfold frAt
    rw [List.find?_append]
    have : ¬ f.c - c0 = (j : Int) := by omega
    cases h : l.find? (fun f => decide (f.c - c0 = (j : Int))) <;> simp [this]
theorem flat_at {f : Nat → List V} (h : ∀ i, (f i).length = 5) {k j : Nat} (hk : k < 12) (hj : j < 5) : ((rowsF 12 f).flatten)[k * 5 + j]? = (f k)[j]? := by
  have hc := chunks_rowsF (sz := 5) (n := 12) h
  have h1 : (rowsF 12 f)[k]? = some (f k) := by rw [rowsF_at, if_pos hk]
  have h2 : (((rowsF 12 f).flatten.drop (k * 5)).take 5) = f k := by
    have gen : ∀ (n k : Nat) (l : List V) (r : List (List V)), chunks 5 n l = r → k < n → r[k]? = some ((l.drop (k * 5)).take 5) := by
      intro n
      induction n with
      | zero => intro k l r _ hk; omega
      | succ n ih =>
        intro k l r hr hk
        rw [chunks] at hr
        subst hr
        cases k with
        | zero => simp
        | succ k =>
          rw [List.getElem?_cons_succ, ih k _ _ rfl (by omega), List.drop_drop, Nat.add_mul, Nat.one_mul, Nat.add_comm]
    have := gen 12 k _ _ hc hk
    rw [h1] at this
    exact (Option.some.inj this).symm
  rw [← h2, List.getElem?_take, if_pos hj, List.getElem?_drop]
theorem setsV_self (R : List V) : setsV R 0 R = R := by
  have := setsV_over R R [] rfl
  simpa using this
def pkOk (l : List Fr) (u c0 : Int) : Prop := (∀ f ∈ l, okFr f ∧ f.u = u ∧ 0 ≤ f.c - c0 ∧ f.c - c0 ≤ 11) ∧ (l.map Fr.c).Nodup ∧ l.length ≤ 1000
instance (l : List Fr) (u c0 : Int) : Decidable (pkOk l u c0) := by unfold pkOk; infer_instance
def G12 : Tab := add 9 Tbw (G11)
theorem G12_at (f : FuncId) (vs : List V) : G12.at' f vs = if f = 9 then Tbw vs else G11.at' f vs := rfl
theorem G12_fr (f : FuncId) : G12.fr f = if f = 9 then false else G11.fr f := rfl
theorem G12_gb (f : FuncId) : G12.gb f = G11.gb f := rfl
theorem G12_gv (f : FuncId) (vs : List V) : G12.gv f vs = G11.gv f vs := rfl
attribute [simp] G12_at G12_fr G12_gb G12_gv Tbw
theorem G12_ok : TabOK Try.prog G12 := by
  refine add_ok (G11_ok) (by kernel_rfl) ?_
  · exact bw_tab
attribute [-simp] Tct Tck
theorem frAt_take {l : List Fr} {c0 : Int} {i k : Nat} {f : Fr} (hnd : (l.map Fr.c).Nodup) (hi : l[i]? = some f) (hk : f.c - c0 = k) : frAt (l.take i) c0 k = none := by
  unfold frAt
  rw [List.find?_eq_none]
  intro g hg
  simp only [decide_eq_true_eq]
  intro hgk
  obtain ⟨j, hj, hj'⟩ := List.getElem_of_mem hg
  have hji : j < i := by simp at hj; omega
  have hjl : j < l.length := by simp at hj; omega
  have h1 : l[j]? = some g := by rw [← hj', List.getElem_take, List.getElem?_eq_getElem hjl]
  have hil := (List.getElem?_eq_some_iff.1 hi).1
  have h2 : (l.map Fr.c)[j]'(by simpa using hjl) = (l.map Fr.c)[i]'(by simpa using hil) := by
    have e1 := (List.getElem?_eq_some_iff.1 h1).2
    have e2 := (List.getElem?_eq_some_iff.1 hi).2
    rw [List.getElem_map, List.getElem_map, e1, e2]; omega
  exact List.pairwise_iff_getElem.1 hnd j i (by simpa using hjl) (by simpa using hil) hji h2
theorem pick_ok (l : List Fr) (u s : Int) (h3 : 0 ≤ s) (h4 : s ≤ 1099511627776) (hok : pkOk l u ((12 * s) % 600)) :
    PCall Try.prog 20 [.list 5 (l.map Fr.cs), .int .i64 u, .int .i64 s] (.tup [.agg (pkR l ((12 * s) % 600)), .bool false]) := by
  obtain ⟨hall, hnd, hlen⟩ := hok
  have t0 := Tct_at (s := s) (k := 0) h3 h4 (by omega) (by omega)
  rw [Int.add_zero] at t0
  obtain ⟨c0, hc0⟩ : ∃ c0, (12 * s) % 600 = c0 := ⟨_, rfl⟩
  have hcb : 0 ≤ c0 ∧ c0 < 600 := by omega
  rw [hc0] at t0 hall ⊢
  obtain ⟨n, hn⟩ : ∃ n, l.length = n := ⟨_, rfl⟩
  have hR0 : pkR [] c0 = [.int .i64 0, .int .i64 0, .bool false, .nils, .nils, .int .i64 0, .int .i64 0, .bool false, .nils, .nils, .int .i64 0, .int .i64 0, .bool false, .nils, .nils, .int .i64 0, .int .i64 0, .bool false, .nils, .nils, .int .i64 0, .int .i64 0, .bool false, .nils, .nils, .int .i64 0, .int .i64 0, .bool false, .nils, .nils, .int .i64 0, .int .i64 0, .bool false, .nils, .nils, .int .i64 0, .int .i64 0, .bool false, .nils, .nils, .int .i64 0, .int .i64 0, .bool false, .nils, .nils, .int .i64 0, .int .i64 0, .bool false, .nils, .nils, .int .i64 0, .int .i64 0, .bool false, .nils, .nils, .int .i64 0, .int .i64 0, .bool false, .nils, .nils] := rfl
  replace hall : Hid (_) := hall
  replace hnd : Hid (_) := hnd
  refine pcall_cx G12_ok mixed (fun _ => none) Try.func20 rfl Try.ntmps20 Try.results20 (by simp) (by kernel_rfl) ?_
  repeat' first
    | (with_reducible refine gw_bool (fun _ => ?_) (fun _ => ?_))
    | (with_reducible refine condw_bool (fun _ => ?_) (fun _ => ?_))
    | simp [*]
  refine lp_go (D := (fun _ => none)) G12_ok mixed (by kernel_rfl) [1, 6, 8, 14, 15] [10] (α := Nat) (fun i e h => i ≤ n ∧ e 16 = .int .i64 i ∧ e 7 = .bool false ∧ h 6 = some ⟨70, pkR (l.take i) c0⟩) (fun i => n - i) 0 ?_ ?_
  · exact ⟨by omega, by simp, by simp, by simp [hR0]⟩
  clear hR0
  rintro i e h hk hkh ⟨hi, g16, g7, g6⟩
  simp [Keep] at hk
  simp [KeepH] at hkh
  have hVl := pkR_len (l.take i) c0
  have hVp := pkR_pure (l.take i) c0
  by_cases hlt : i < n
  · have f1 : ilt (i : Int) (n : Int) = true := ilt_t (by omega)
    have w1 : IntKind.i64.wrap ((i : Int) + 1) = ((i + 1 : Nat) : Int) := wrap_succ (by omega)
    obtain ⟨f, hf, hf'⟩ := at_ex (l := l) (i := i) (by omega)
    obtain ⟨hfo, hfu, hf1, hf2⟩ := hall.out f (List.mem_of_getElem? hf)
    obtain ⟨k, hk'⟩ : ∃ k : Nat, f.c - c0 = k := ⟨(f.c - c0).toNat, by omega⟩
    have hno := frAt_take hnd.out hf hk'
    have hst := pkR_snoc hk' (by omega) hno
    have hat : (pkR (l.take i) c0)[k * 5 + 3]? = some .nils := by
      rw [pkR, flat_at (pkF_len _ _) (by omega) (by omega), pkF, hno]; rfl
    rw [← take_snoc hf] at hst
    have t2 := Tck_at hfo
    have w2 : IntKind.i64.wrap (f.c - c0) = (k : Int) := by rw [wrap_id (by omega) (by omega)]; exact hk'
    have b1 : ilt (k : Int) 0 = false := ilt_f (by omega)
    have b2 : ilt 11 (k : Int) = false := ilt_f (by omega)
    replace hst : Hid (_) := hst
    have p7 : (k : Int) < 12 := by omega
    have p8 : k * 5 + 5 ≤ 60 := by omega
    have p9 : k < 12 := by omega
    obtain ⟨fu, fc, fx, fy, fz⟩ := f
    simp only [Fr.cs, l3] at hst t2
    simp only at hfu w2
    subst hfu
    clear hall hnd hno hfo hk' hf1 hf2
    generalize pkR (l.take i) c0 = R at *
    have hRs : ∀ k, R.map (scrC k) = R := fun k => scrC_cells hVp
    have p10 : k * 5 + 3 < 60 := by omega
    have hat2 : ∀ h : k * 5 + 3 < R.length, R[k * 5 + 3] = .nils := fun h => by rw [List.getElem?_eq_getElem h] at hat; exact Option.some.inj hat
    repeat' first
      | (with_reducible refine gw_bool (fun _ => ?_) (fun _ => ?_))
      | (with_reducible refine condw_bool (fun _ => ?_) (fun _ => ?_))
      | simp [*, Fr.cs, l3]
    refine nxt_go (i + 1) (View.forget _ _ 10) (by omega) ?_ ?_ ?_
    · simp [*, Keep, St.forget, scr, scrC, usesC, usesA, -List.map_map]
    · simp [*, KeepH, St.forget, scr, scrC, -List.map_map]
    · refine ⟨by omega, ?_, ?_, ?_⟩
      · simp [*, St.forget, scr, scrC, -List.map_map]
      · simp [*, St.forget, scr, scrC, -List.map_map]
      · rw [← hst.out]; simp [*, setsV, St.forget, scr, scrC, -List.map_map]
  · have f1 : ilt (i : Int) (n : Int) = false := ilt_f (by omega)
    have e3 : i = l.length := by omega
    rw [e3, List.take_length] at g6 hVl hVp
    have hVo := pkR_one l c0
    have hse := setsV_self (pkR l c0)
    clear e3 hall hnd
    generalize pkR l c0 = R at *
    have q1 : R.take 60 = R := by rw [← hVl, List.take_length]
    have q2 := fun h => lendL_pure h R hVp hVo
    repeat' first
      | (with_reducible refine gw_bool (fun _ => ?_) (fun _ => ?_))
      | (with_reducible refine condw_bool (fun _ => ?_) (fun _ => ?_))
      | simp [*, -oneV]
def Tpk : List V → Option V
  | [.list 5 rows, .int .i64 u, .int .i64 s] => (match decL unFr rows with
    | some l => if (0 ≤ s ∧ s ≤ 1099511627776) ∧ pkOk l u ((12 * s) % 600) then some (.tup [.agg (pkR l ((12 * s) % 600)), .bool false]) else none
    | none => none)
  | _ => none
theorem Tpk_at {l : List Fr} {u s : Int} (h3 : 0 ≤ s) (h4 : s ≤ 1099511627776) (h : pkOk l u ((12 * s) % 600)) : Tpk [.list 5 (l.map Fr.cs), .int .i64 u, .int .i64 s] = some (.tup [.agg (pkR l ((12 * s) % 600)), .bool false]) := by
  simp only [Tpk, decL_map unFr_cs]; exact if_pos ⟨⟨h3, h4⟩, h⟩
theorem pk_tab : ∀ vs u, Tpk vs = some u → PCall Try.prog 20 vs u := by
  intro vs u h; unfold Tpk at h; split at h
  · split at h
    · rename_i h1
      split at h
      · rename_i hc; cases h; rw [decL_inv unFr_inv _ _ h1]; exact pick_ok _ _ _ hc.1.1 hc.1.2 hc.2
      · cases h
    · cases h
  · cases h
def G13 : Tab := add 20 Tpk (G1)
theorem G13_at (f : FuncId) (vs : List V) : G13.at' f vs = if f = 20 then Tpk vs else G1.at' f vs := rfl
theorem G13_fr (f : FuncId) : G13.fr f = if f = 20 then false else G1.fr f := rfl
theorem G13_gb (f : FuncId) : G13.gb f = G1.gb f := rfl
theorem G13_gv (f : FuncId) (vs : List V) : G13.gv f vs = G1.gv f vs := rfl
attribute [simp] G13_at G13_fr G13_gb G13_gv Tpk
theorem G13_ok : TabOK Try.prog G13 := by
  refine add_ok (G1_ok) (by kernel_rfl) ?_
  · exact pk_tab
attribute [-simp] Tpk
/-- A frame is missing: the step is lost. -/
theorem coll_ok (l : List Fr) (u s : Int) (h1 : 0 ≤ u) (h2 : u ≤ 999) (h3 : 0 ≤ s) (h4 : s ≤ 1099511627776) (hok : pkOk l u ((12 * s) % 600)) (g : Nat) (hg : g < 12) (hno : frAt l ((12 * s) % 600) g = none) :
    PCall Try.prog 8 [.list 5 (l.map Fr.cs), .int .i64 u, .int .i64 s, .int .i64 3] (.tup [.nils, .int .i64 18]) := by
  have t1 := Tpk_at h3 h4 hok
  generalize (12 * s) % 600 = c0 at *
  have s1 : ilt s 0 = false := ilt_f (by omega)
  have s2 : ilt 1099511627776 s = false := ilt_f (by omega)
  have u1 : ilt u 0 = false := ilt_f (by omega)
  have u2 : ilt 999 u = false := ilt_f (by omega)
  have hVl := pkR_len l c0
  have hVp := pkR_pure l c0
  have hVo := pkR_one l c0
  have hse : ∀ R, R.length = 60 → setsV R 0 (pkR l c0) = pkR l c0 := fun R hR => by
    have := setsV_over (pkR l c0) R [] (by rw [hVl, hR])
    simpa using this
  have hat : ∀ k : Nat, k < 12 → (pkR l c0)[k * 5 + 3]? = (pkF l c0 k)[3]? := fun k hk => flat_at (pkF_len _ _) hk (by omega)
  replace hat : Hid (_) := hat
  replace hno : Hid (_) := hno
  replace hok : Hid (_) := hok
  replace hse : Hid (_) := hse
  refine pcall_cx G13_ok mixed (fun _ => none) Try.func8 rfl Try.ntmps8 Try.results8 (by simp) (by kernel_rfl) ?_
  repeat' first
    | (with_reducible refine gw_bool (fun _ => ?_) (fun _ => ?_))
    | (with_reducible refine condw_bool (fun _ => ?_) (fun _ => ?_))
    | simp [*, -oneV]
  refine lp_go (D := (fun _ => none)) G13_ok mixed (by kernel_rfl) [3, 10, 11] [70, 78] (α := Nat) (fun k e h => k ≤ 12 ∧ e 38 = .int .i64 k ∧ (∀ j, j < k → frAt l c0 j ≠ none) ∧ h 10 = some ⟨70, pkR l c0⟩) (fun k => 12 - k) 0 ?_ ?_
  · refine ⟨by omega, by simp, fun j hj => by omega, ?_⟩
    simp only [upd_same]
    rw [hse.out _ rfl]
  clear t1 hse s1 s2 u1 u2
  rintro k e h hk hkh ⟨hi, g38, hall, g10⟩
  simp [Keep] at hk
  simp [KeepH] at hkh
  by_cases hlt : k < 12
  · have f1 : ilt (k : Int) 12 = true := ilt_t (by omega)
    have w1 : IntKind.i64.wrap ((k : Int) + 1) = ((k + 1 : Nat) : Int) := wrap_succ (by omega)
    have hk3 := hat.out k hlt
    have p7 : (k : Int) < 12 := by omega
    have p8 : k * 5 + 5 ≤ 60 := by omega
    have p9 : k < 12 := by omega
    have p10 : k * 5 + 3 < 60 := by omega
    cases hfr : frAt l c0 k with
    | none =>
      rw [pkF, hfr] at hk3
      have hat2 : ∀ h : k * 5 + 3 < (pkR l c0).length, (pkR l c0)[k * 5 + 3] = .nils := fun h => by rw [List.getElem?_eq_getElem h] at hk3; exact Option.some.inj hk3
      clear hall hfr hk3 hat hno hok
      generalize pkR l c0 = R at *
      repeat' first
        | (with_reducible refine gw_bool (fun _ => ?_) (fun _ => ?_))
        | (with_reducible refine condw_bool (fun _ => ?_) (fun _ => ?_))
        | simp [*]
    | some f =>
      have hall' : Hid (∀ j, j < k + 1 → frAt l c0 j ≠ none) := show _ from fun j hj => by
        by_cases e : j = k
        · rw [e, hfr]; simp
        · exact hall j (by omega)
      obtain ⟨fu, fc, fx, fy, fz⟩ := f
      rw [pkF, hfr] at hk3
      have hat2 : ∀ h : k * 5 + 3 < (pkR l c0).length, (pkR l c0)[k * 5 + 3] = l3 fx fy fz := fun h => by rw [List.getElem?_eq_getElem h] at hk3; exact Option.some.inj hk3
      clear hall hfr hk3 hat hno hok
      generalize pkR l c0 = R at *
      simp only [l3] at hat2
      repeat' first
        | (with_reducible refine gw_bool (fun _ => ?_) (fun _ => ?_))
        | (with_reducible refine condw_bool (fun _ => ?_) (fun _ => ?_))
        | simp [*]
      refine nxt_go (k + 1) (View.refl _ _) (by omega) ?_ ?_ ?_
      · simp [*, Keep]
      · simp [*, KeepH]
      · refine ⟨by omega, ?_, hall'.out, ?_⟩
        · simp [*]
        · simp [*]
  · exact absurd hno.out (hall g (by omega))
end Go.Proofs.Ytongalkfcfkfiaa
end
section
namespace Go.Proofs.Ytongalkfcfkfiaa
open Go.Pv Go.RowKit
set_option linter.unusedSimpArgs false
set_option linter.unusedVariables false
set_option maxRecDepth 100000
set_option maxHeartbeats 4000000

def cOpX (Γ : Tab) (ops : Array Oper) (i : Nat) (K : St → Prop) (st : St) : Prop := match ops[i]? with
  | none => K st
  | some o => egX Try.prog Γ ops [o] K st
def cAnyX (Γ : Tab) (ops : Array Oper) (K : St → Prop) : Nat → Array Bool → St → Prop
  | 0, listed, st => Region.ready .any ops listed = [] ∧ K st
  | fuel + 1, listed, st => (Region.ready .any ops listed = [] → K st) ∧ ∀ i ∈ Region.ready .any ops listed, cOpX Γ ops i (cAnyX Γ ops K fuel (listed.setIfInBounds i true)) st
theorem wpAny_of_cAnyX {Γ : Tab} (hΓ : TabOK Try.prog Γ) {n : Nat} {w0 : Base} {ops : Array Oper} (hf : ops.toList.all (fun o => fits n o.dst) = true) {K : St → Prop} {Q : Exit → Act → World → Prop} {ro0 : Nat → Prop} (hQ : ∀ a' ro' lam' w' st', Ext w0 ro0 ro' → Sim w0 n ro' lam' st' a' w' → K st' → Q .normal a' w') :
    ∀ (fuel : Nat) (listed : Array Bool) (st : St) (ro : Nat → Prop) (lam : Lam) (a : Act) (w : World), Ext w0 ro0 ro → Sim w0 n ro lam st a w → cAnyX Γ ops K fuel listed st → wpAny Try.prog .any ops Q fuel listed a w
  | 0, listed, st, ro, lam, a, w, hext, hs, h => ⟨h.1, hQ _ _ _ _ _ hext hs h.2⟩
  | fuel + 1, listed, st, ro, lam, a, w, hext, hs, h => by
    refine ⟨fun h0 => hQ _ _ _ _ _ hext hs (h.1 h0), fun i hi => ?_⟩
    have h1 := h.2 i hi
    unfold cOpX at h1
    unfold wpOp
    split
    · rename_i ho
      simp only [ho] at h1
      exact wpAny_of_cAnyX hΓ hf hQ fuel _ st ro lam a w hext hs h1
    · rename_i o ho
      simp only [ho] at h1
      have hfo : fits n o.dst = true := List.all_eq_true.1 hf o (List.mem_of_getElem? (i := i) (by simpa using ho))
      unfold egX gw at h1
      cases hw : wantV ops st o.guard with
      | none => rw [hw] at h1; exact h1.elim
      | some b =>
        rw [hw] at h1
        rw [wantV_sound hs hw]
        cases b with
        | true =>
          rw [if_pos rfl]
          exact .inl (swX_sound hΓ hs hfo h1 fun st' a' ro' lam' w' k hx hs' => wpAny_of_cAnyX hΓ hf hQ fuel _ st' ro' lam' a' w' (hext.trans hx) hs' k)
        | false =>
          rw [if_neg (by simp)]
          exact wpAny_of_cAnyX hΓ hf hQ fuel _ _ ro lam _ w hext (hs.put hfo (.pure _ _ .undef)) h1
theorem cw_anyX {Γ : Tab} (hΓ : TabOK Try.prog Γ) {n id : Nat} {ops : Array Oper} {Q : Exit → St → Prop} {st : St} (hf : ops.toList.all (fun o => fits n o.dst) = true) (m : Nat) (hm : ops.size = m) (h : ∀ (O : Array Oper) (K : St → Prop), Hid (O = ops) → Hid (∀ s, Q .normal s → K s) → cAnyX Γ O K m (Array.replicate m false) st) : CW Try.prog n (.region id ops true) Q st := by
  subst hm
  intro w0 ro lam a w hs
  have hs' : Sim w0 n ro lam st a { w with drawn := w.drawn + 1 } := hs.world ((Below.refl _ _).drew)
  exact wp_region_any mixed (wpAny_of_cAnyX hΓ hf (fun a' ro' lam' w' s hext hs hk => ⟨s, ro', lam', hk, hext, hs⟩) _ _ st ro lam a _ (Ext.refl _ _) hs' (h ops (Q .normal) rfl (fun s hs => hs)))
/-- One step of it: which operations are ready. -/
theorem cany1 {Γ : Tab} {ops : Array Oper} {K : St → Prop} {fuel : Nat} {listed : Array Bool} {st : St} (i : Nat) {o : Oper} (hl : Region.ready .any ops listed = [i]) (ho : ops[i]? = some o) (h : egX Try.prog Γ ops [o] (cAnyX Γ ops K fuel (listed.setIfInBounds i true)) st) : cAnyX Γ ops K (fuel + 1) listed st :=
  ⟨fun e => (by rw [hl] at e; cases e), fun k hk => by
    rw [hl] at hk
    simp only [List.mem_cons, List.not_mem_nil, or_false] at hk
    subst hk
    unfold cOpX; simp only [ho]; exact h⟩
theorem cany2 {Γ : Tab} {ops : Array Oper} {K : St → Prop} {fuel : Nat} {listed : Array Bool} {st : St} (i j : Nat) {o o2 : Oper} (hl : Region.ready .any ops listed = [i, j]) (ho : ops[i]? = some o) (ho2 : ops[j]? = some o2) (h : egX Try.prog Γ ops [o] (cAnyX Γ ops K fuel (listed.setIfInBounds i true)) st) (h2 : egX Try.prog Γ ops [o2] (cAnyX Γ ops K fuel (listed.setIfInBounds j true)) st) : cAnyX Γ ops K (fuel + 1) listed st :=
  ⟨fun e => (by rw [hl] at e; cases e), fun k hk => by
    rw [hl] at hk
    simp only [List.mem_cons, List.not_mem_nil, or_false] at hk
    rcases hk with rfl | rfl
    · unfold cOpX; simp only [ho]; exact h
    · unfold cOpX; simp only [ho2]; exact h2⟩
theorem cany3 {Γ : Tab} {ops : Array Oper} {K : St → Prop} {fuel : Nat} {listed : Array Bool} {st : St} (i j l : Nat) {o o2 o3 : Oper} (hl : Region.ready .any ops listed = [i, j, l]) (ho : ops[i]? = some o) (ho2 : ops[j]? = some o2) (ho3 : ops[l]? = some o3) (h : egX Try.prog Γ ops [o] (cAnyX Γ ops K fuel (listed.setIfInBounds i true)) st) (h2 : egX Try.prog Γ ops [o2] (cAnyX Γ ops K fuel (listed.setIfInBounds j true)) st) (h3 : egX Try.prog Γ ops [o3] (cAnyX Γ ops K fuel (listed.setIfInBounds l true)) st) : cAnyX Γ ops K (fuel + 1) listed st :=
  ⟨fun e => (by rw [hl] at e; cases e), fun k hk => by
    rw [hl] at hk
    simp only [List.mem_cons, List.not_mem_nil, or_false] at hk
    rcases hk with rfl | rfl | rfl
    · unfold cOpX; simp only [ho]; exact h
    · unfold cOpX; simp only [ho2]; exact h2
    · unfold cOpX; simp only [ho3]; exact h3⟩
theorem cany0 {Γ : Tab} {ops : Array Oper} {K : St → Prop} {listed : Array Bool} {st : St} (hl : Region.ready .any ops listed = []) (h : K st) : cAnyX Γ ops K 0 listed st := ⟨hl, h⟩
theorem cany4 {Γ : Tab} {ops : Array Oper} {K : St → Prop} {fuel : Nat} {listed : Array Bool} {st : St} (i j l m : Nat) {o o2 o3 o4 : Oper} (hl : Region.ready .any ops listed = [i, j, l, m]) (ho : ops[i]? = some o) (ho2 : ops[j]? = some o2) (ho3 : ops[l]? = some o3) (ho4 : ops[m]? = some o4) (h : egX Try.prog Γ ops [o] (cAnyX Γ ops K fuel (listed.setIfInBounds i true)) st) (h2 : egX Try.prog Γ ops [o2] (cAnyX Γ ops K fuel (listed.setIfInBounds j true)) st) (h3 : egX Try.prog Γ ops [o3] (cAnyX Γ ops K fuel (listed.setIfInBounds l true)) st) (h4 : egX Try.prog Γ ops [o4] (cAnyX Γ ops K fuel (listed.setIfInBounds m true)) st) : cAnyX Γ ops K (fuel + 1) listed st :=
  ⟨fun e => (by rw [hl] at e; cases e), fun k hk => by
    rw [hl] at hk
    simp only [List.mem_cons, List.not_mem_nil, or_false] at hk
    rcases hk with rfl | rfl | rfl | rfl
    · unfold cOpX; simp only [ho]; exact h
    · unfold cOpX; simp only [ho2]; exact h2
    · unfold cOpX; simp only [ho3]; exact h3
    · unfold cOpX; simp only [ho4]; exact h4⟩
/-! ### one contract -/
open Classical in
noncomputable def T1 (vs : List V) (u : V) (vs' : List V) : Option V := if vs' = vs then some u else none
theorem T1_at (vs : List V) (u : V) : T1 vs u vs = some u := if_pos rfl
noncomputable def H1 (f : FuncId) (vs : List V) (u : V) : Tab := add f (T1 vs u) noTab
theorem H1_at (f : FuncId) (vs : List V) (u : V) (g : FuncId) (ws : List V) : (H1 f vs u).at' g ws = if g = f then T1 vs u ws else noTab.at' g ws := rfl
theorem H1_fr (f : FuncId) (vs : List V) (u : V) (g : FuncId) : (H1 f vs u).fr g = if g = f then false else noTab.fr g := rfl
theorem H1_gb (f : FuncId) (vs : List V) (u : V) (g : FuncId) : (H1 f vs u).gb g = noTab.gb g := rfl
theorem H1_gv (f : FuncId) (vs : List V) (u : V) (g : FuncId) (ws : List V) : (H1 f vs u).gv g ws = noTab.gv g ws := rfl
attribute [simp] T1_at H1_at H1_fr H1_gb H1_gv
theorem H1_ok {f : FuncId} {vs : List V} {u : V} (h : PCall Try.prog f vs u) (hc : callable Try.prog f = true) : TabOK Try.prog (H1 f vs u) :=
  add_ok noTab_ok hc fun ws w hw => by
    unfold T1 at hw
    split at hw
    · rename_i e; cases hw; rw [e]; exact h
    · cases hw
/-- The region of a number. -/
def findR (k : Nat) : Code → Option Code
  | .seq a b => (findR k a).or (findR k b)
  | .block _ c => findR k c
  | .loop c => findR k c
  | .cond _ a b => (findR k a).or (findR k b)
  | .region id ops d => if id = k then some (.region id ops d) else none
  | _ => none
end Go.Proofs.Ytongalkfcfkfiaa
end
