/-
  Views: node, boundary.
-/
import Derived.Test.YtcbddoopmkhlfaaSt11
namespace Go.Proofs.Ytcbddoopmkhlfaa
open Go.Pv Go.RowKit
set_option linter.unusedSimpArgs false
set_option linter.unusedVariables false
set_option maxRecDepth 100000
set_option maxHeartbeats 2000000

theorem Tclo_at2 {s : Stn} {p : Pos} {g : List Int} {b k : Int} {x : Bool} (h : clF p b k = some x) : Tclo [.agg [.str s.nm, .list 1 (s.bs.map s1), .list 5 (s.ls.map Ln.cs), .list 6 (s.ss.map Sr.cs), .list 12 (s.qs.map By.cs), .list 1 (p.cl.map b1), .list 1 (p.lk.map r1), .list 1 (g.map i1)], .int .i64 b, .int .i64 k] = some (.bool x) := Tclo_at (v := ⟨s, p, g⟩) h
theorem Tgrp_at2 {s : Stn} {p : Pos} {g : List Int} {b : Int} {x : Int} (h : gAt g b = some x) : Tgrp [.agg [.str s.nm, .list 1 (s.bs.map s1), .list 5 (s.ls.map Ln.cs), .list 6 (s.ss.map Sr.cs), .list 12 (s.qs.map By.cs), .list 1 (p.cl.map b1), .list 1 (p.lk.map r1), .list 1 (g.map i1)], .int .i64 b] = some (.agg [.int .i64 1, .int .i64 x]) := Tgrp_at (v := ⟨s, p, g⟩) h
attribute [-simp] Tclo_at Tgrp_at Tchk Tpchk TcI TcB Tclo Tgrp
attribute [simp] Tclo_at2 Tgrp_at2
def sidF (s : Stn) (p : Pos) (g : List Int) (i : Int) : Option (List Int) := if wfG s p g.length = true then (if 0 ≤ i ∧ i < s.qs.length then (match s.qs[i.toNat]?, p.lk[i.toNat]? with
  | some b, some l => some (sid g b l)
  | _, _ => none) else some [0, 0, 0, 0]) else none
def Tsid : List V → Option V
  | [.agg c, .int .i64 i] => (match unVu c with
    | some v => (match sidF v.s v.p v.g i with
      | some S => some (.agg (S.map (V.int .i64)))
      | none => none)
    | none => none)
  | _ => none
theorem Tsid_at {s : Stn} {p : Pos} {g : List Int} {i : Int} {S : List Int} (h : sidF s p g i = some S) : Tsid [.agg [.str s.nm, .list 1 (s.bs.map s1), .list 5 (s.ls.map Ln.cs), .list 6 (s.ss.map Sr.cs), .list 12 (s.qs.map By.cs), .list 1 (p.cl.map b1), .list 1 (p.lk.map r1), .list 1 (g.map i1)], .int .i64 i] = some (.agg (S.map (V.int .i64))) := by
  have := unVu_cs ⟨s, p, g⟩
  unfold Vu.cs at this
  simp [Tsid, this, h]
theorem sid_tab : ∀ vs v, Tsid vs = some v → PCall Try.prog 64 vs v := by
  intro vs v h; unfold Tsid at h; split at h
  · split at h
    · rename_i c i w hv
      split at h
      · rename_i S hS
        cases h
        rw [unVu_inv _ _ hv]
        unfold sidF at hS
        split at hS
        · rename_i hw
          split at hS
          · rename_i hi
            split at hS
            · rename_i b l hb hl
              cases hS
              obtain ⟨k, rfl⟩ := Int.eq_ofNat_of_zero_le hi.1
              exact sides_in _ k b l hw (by simpa using hb) (by simpa using hl)
            · cases hS
          · rename_i hi
            cases hS
            refine sides_out _ _ ?_ hi
            simp only [wfG, Bool.and_eq_true, decide_eq_true_eq] at hw; exact hw.1
        · cases hS
      · cases h
    · cases h
  · cases h
/-! ### node -/
def nodF (s : Stn) (g : List Int) (k o : Int) : Option (Int × Int) :=
  if (ieq k 1 && (!ilt o 0 && ilt o s.bs.length)) = true then some (1, g0 g o)
  else if (ieq k 2 && (!ilt o 0 && ilt o s.ls.length)) = true then some (2, o) else none
def nodV : Option (Int × Int) → V
  | some x => .tup [.agg [.int .i64 x.1, .int .i64 x.2], .bool true]
  | none => .tup [.agg [.int .i64 0, .int .i64 0], .bool false]
theorem node_ok (v : Vu) (k o : Int) (hg : v.g.length = v.s.bs.length) : PCall Try.prog 50 [.agg v.cs, .agg [.int .i64 k, .int .i64 o]] (nodV (nodF v.s v.g k o)) := by
  obtain ⟨nb, hnb⟩ : ∃ n, v.s.bs.length = n := ⟨_, rfl⟩
  obtain ⟨nl, hnl⟩ : ∃ n, v.s.ls.length = n := ⟨_, rfl⟩
  obtain ⟨N, hN⟩ : ∃ N, nodF v.s v.g k o = N := ⟨_, rfl⟩
  rw [hN]
  unfold nodF at hN
  rw [hnb, hnl] at hN
  cases k1 : ieq k 1
  · rw [k1] at hN
    cases k2 : ieq k 2
    · have hN' : N = none := by rw [← hN]; simp [k2]
      clear hN
      refine pcall_cx D3_ok mixed (fun _ => none) Try.func50 rfl Try.ntmps50 Try.results50 (by simp) (by kernel_rfl) ?_
      repeat' first
        | (with_reducible refine gw_bool (fun _ => ?_) (fun _ => ?_))
        | (with_reducible refine condw_bool (fun _ => ?_) (fun _ => ?_))
        | simp [*, Vu.cs, nodV]
    · cases o0 : ilt o 0
      · cases o1 : ilt o nl
        · have hN' : N = none := by rw [← hN]; simp [k2, o0, o1]
          clear hN
          refine pcall_cx D3_ok mixed (fun _ => none) Try.func50 rfl Try.ntmps50 Try.results50 (by simp) (by kernel_rfl) ?_
          repeat' first
            | (with_reducible refine gw_bool (fun _ => ?_) (fun _ => ?_))
            | (with_reducible refine condw_bool (fun _ => ?_) (fun _ => ?_))
            | simp [*, Vu.cs, nodV]
        · have hN' : N = some (2, o) := by rw [← hN]; simp [k2, o0, o1]
          clear hN
          refine pcall_cx D3_ok mixed (fun _ => none) Try.func50 rfl Try.ntmps50 Try.results50 (by simp) (by kernel_rfl) ?_
          repeat' first
            | (with_reducible refine gw_bool (fun _ => ?_) (fun _ => ?_))
            | (with_reducible refine condw_bool (fun _ => ?_) (fun _ => ?_))
            | simp [*, Vu.cs, nodV]
      · have hN' : N = none := by rw [← hN]; simp [k2, o0]
        clear hN
        refine pcall_cx D3_ok mixed (fun _ => none) Try.func50 rfl Try.ntmps50 Try.results50 (by simp) (by kernel_rfl) ?_
        repeat' first
          | (with_reducible refine gw_bool (fun _ => ?_) (fun _ => ?_))
          | (with_reducible refine condw_bool (fun _ => ?_) (fun _ => ?_))
          | simp [*, Vu.cs, nodV]
  · have k2 : ieq k 2 = false := by
      have : k = 1 := by simpa [ieq] using k1
      subst this; decide
    cases o0 : ilt o 0
    · cases o1 : ilt o nb
      · have hN' : N = none := by rw [← hN]; simp [k1, k2, o0, o1]
        clear hN
        refine pcall_cx D3_ok mixed (fun _ => none) Try.func50 rfl Try.ntmps50 Try.results50 (by simp) (by kernel_rfl) ?_
        repeat' first
          | (with_reducible refine gw_bool (fun _ => ?_) (fun _ => ?_))
          | (with_reducible refine condw_bool (fun _ => ?_) (fun _ => ?_))
          | simp [*, Vu.cs, nodV]
      · obtain ⟨gx, hgx⟩ := gAt_ex (g := v.g) (b := o) (by have h1 := ilt_iff'.1 o0; have h2 := ilt_iff.1 o1; omega)
        have hN' : N = some (1, gx) := by rw [← hN]; simp [k1, o0, o1, g0, hgx]
        clear hN
        refine pcall_cx D3_ok mixed (fun _ => none) Try.func50 rfl Try.ntmps50 Try.results50 (by simp) (by kernel_rfl) ?_
        repeat' first
          | (with_reducible refine gw_bool (fun _ => ?_) (fun _ => ?_))
          | (with_reducible refine condw_bool (fun _ => ?_) (fun _ => ?_))
          | simp [*, Vu.cs, nodV]
    · have hN' : N = none := by rw [← hN]; simp [k1, k2, o0]
      clear hN
      refine pcall_cx D3_ok mixed (fun _ => none) Try.func50 rfl Try.ntmps50 Try.results50 (by simp) (by kernel_rfl) ?_
      repeat' first
        | (with_reducible refine gw_bool (fun _ => ?_) (fun _ => ?_))
        | (with_reducible refine condw_bool (fun _ => ?_) (fun _ => ?_))
        | simp [*, Vu.cs, nodV]
def Tnod : List V → Option V
  | [.agg c, .agg [.int .i64 k, .int .i64 o]] => (match unVu c with
    | some v => if v.g.length = v.s.bs.length then some (nodV (nodF v.s v.g k o)) else none
    | none => none)
  | _ => none
theorem Tnod_at {s : Stn} {p : Pos} {g : List Int} {k o : Int} (h : g.length = s.bs.length) : Tnod [.agg [.str s.nm, .list 1 (s.bs.map s1), .list 5 (s.ls.map Ln.cs), .list 6 (s.ss.map Sr.cs), .list 12 (s.qs.map By.cs), .list 1 (p.cl.map b1), .list 1 (p.lk.map r1), .list 1 (g.map i1)], .agg [.int .i64 k, .int .i64 o]] = some (nodV (nodF s g k o)) := by
  have := unVu_cs ⟨s, p, g⟩
  unfold Vu.cs at this
  simp [Tnod, this, h]
theorem nod_tab : ∀ vs v, Tnod vs = some v → PCall Try.prog 50 vs v := by
  intro vs v h; unfold Tnod at h; split at h
  · split at h
    · rename_i hv
      split at h
      · rename_i hg
        cases h
        rw [unVu_inv _ _ hv]
        exact node_ok _ _ _ hg
      · cases h
    · cases h
  · cases h
def D4 : Tab := add 64 Tsid (add 50 Tnod (D3))
theorem D4_at (f : FuncId) (vs : List V) : D4.at' f vs = if f = 64 then Tsid vs else if f = 50 then Tnod vs else D3.at' f vs := rfl
theorem D4_fr (f : FuncId) : D4.fr f = if f = 64 then false else if f = 50 then false else D3.fr f := rfl
theorem D4_gb (f : FuncId) : D4.gb f = D3.gb f := rfl
theorem D4_gv (f : FuncId) (vs : List V) : D4.gv f vs = D3.gv f vs := rfl
attribute [simp] D4_at D4_fr D4_gb D4_gv Tnod Tsid
theorem D4_ok : TabOK Try.prog D4 := by
  refine add_ok (add_ok (D3_ok) (by kernel_rfl) ?_) (by kernel_rfl) ?_
  · exact nod_tab
  · exact sid_tab
attribute [-simp] Tsid Tnod
attribute [simp] Tsid_at Tnod_at
/-! ### boundary -/
theorem pcall_nil {P : Program} {f : FuncId} {vs : List V} {sz : Nat} (h : PCall P f vs .nils) : PCall P f vs (.list sz []) := by
  intro w ro args hro hsz hr
  refine (h w ro args hro hsz hr).mono ?_
  rintro e w' ⟨rv, ro', rfl, h1, h2, h3, h4, h5⟩
  cases h5
  exact ⟨_, ro', rfl, h1, h2, h3, h4, .list0 _ _ _⟩
def inB (n : Int × Int) : List Int → Bool
  | [a0, a1, c0, c1] => ieq a0 1 && ((ieq a0 n.1 && ieq a1 n.2) != (ieq c0 n.1 && ieq c1 n.2))
  | _ => false
def inBat (s : Stn) (p : Pos) (g : List Int) (n : Int × Int) (i : Nat) : Bool := match sidF s p g i with
  | some S => inB n S
  | none => false
def bndN (s : Stn) (p : Pos) (g : List Int) (n : Int × Int) (m : Nat) : List Int := ((List.range m).filter (inBat s p g n)).map (fun i : Nat => (i : Int))
def bndF (s : Stn) (p : Pos) (g : List Int) : Option (Int × Int) → List Int
  | some n => bndN s p g n s.qs.length
  | none => []
theorem bndN_step {s : Stn} {p : Pos} {g : List Int} {n : Int × Int} {m : Nat} : bndN s p g n (m + 1) = bndN s p g n m ++ (if inBat s p g n m = true then [(m : Int)] else []) := by
  unfold bndN
  rw [List.range_succ, List.filter_append, List.map_append]
  by_cases h : inBat s p g n m = true <;> simp [h]
theorem bndN_len (s : Stn) (p : Pos) (g : List Int) (n : Int × Int) (m : Nat) : (bndN s p g n m).length ≤ m := by
  unfold bndN
  rw [List.length_map]
  exact Nat.le_trans (List.length_filter_le _ _) (by simp)
theorem sid4 (g : List Int) (b : By) (l : List Int) : ∃ a0 a1 c0 c1, sid g b l = [a0, a1, c0, c1] := by
  unfold sid
  split
  · split <;> exact ⟨_, _, _, _, rfl⟩
  · exact ⟨_, _, _, _, rfl⟩
theorem bnd_ok (v : Vu) (k o : Int) (hg : v.g.length = v.s.bs.length) (hw : wfG v.s v.p v.g.length = true) : PCall Try.prog 60 [.agg v.cs, .agg [.int .i64 k, .int .i64 o]] (.list 1 ((bndF v.s v.p v.g (nodF v.s v.g k o)).map i1)) := by
  obtain ⟨N, hN⟩ : ∃ N, nodF v.s v.g k o = N := ⟨_, rfl⟩
  rw [hN]
  have hn : v.s.qs.length ≤ 1000 := by simp only [wfG, Bool.and_eq_true, decide_eq_true_eq] at hw; exact hw.1
  obtain ⟨n, hnn⟩ : ∃ n, v.s.qs.length = n := ⟨_, rfl⟩
  rw [hnn] at hn
  cases N with
  | none =>
    refine pcall_nil ?_
    refine pcall_cx D4_ok mixed (fun _ => none) Try.func60 rfl Try.ntmps60 Try.results60 (by simp) (by kernel_rfl) ?_
    repeat' first
      | (with_reducible refine gw_bool (fun _ => ?_) (fun _ => ?_))
      | (with_reducible refine condw_bool (fun _ => ?_) (fun _ => ?_))
      | simp [*, Vu.cs, nodV]
  | some nd =>
    obtain ⟨n0, n1⟩ := nd
    have hres : bndF v.s v.p v.g (some (n0, n1)) = bndN v.s v.p v.g (n0, n1) n := by simp [bndF, hnn]
    have hch := chunks_i1 (bndN v.s v.p v.g (n0, n1) n)
    have hpu := pure_i1 (bndN v.s v.p v.g (n0, n1) n)
    rw [hres]
    clear hres
    obtain ⟨R, hR⟩ : ∃ R, bndN v.s v.p v.g (n0, n1) n = R := ⟨_, rfl⟩
    rw [hR] at hch hpu
    rw [hR]
    replace hR : Hid (bndN v.s v.p v.g (n0, n1) n = R) := hR
    refine pcall_cx D4_ok mixed (fun _ => none) Try.func60 rfl Try.ntmps60 Try.results60 (by simp) (by kernel_rfl) ?_
    repeat' first
      | (with_reducible refine gw_bool (fun _ => ?_) (fun _ => ?_))
      | (with_reducible refine condw_bool (fun _ => ?_) (fun _ => ?_))
      | simp [*, Vu.cs, nodV]
    refine lp_view (View.nilOwn _ (t := 7) (key := 46) 1 3 (by simp) (by simp)) ?_
    refine lp_go (D := (fun _ => none)) D4_ok mixed (by kernel_rfl) [2, 5, 21] [2, 3, 5, 9, 45] (α := Nat) (fun i e h => i ≤ n ∧ e 22 = .int .i64 i ∧ e 7 = .sl 46 0 (bndN v.s v.p v.g (n0, n1) i).length 1 ∧ h 46 = some ⟨3, (bndN v.s v.p v.g (n0, n1) i).map (V.int .i64)⟩) (fun i => n - i) 0 ?_ ?_
    · refine ⟨by omega, by simp, by simp [bndN], by simp [bndN]⟩
    · rintro i e h hk hkh ⟨hi, g7, gs, gh⟩
      simp [Keep] at hk
      simp [KeepH] at hkh
      have hbl := bndN_len v.s v.p v.g (n0, n1) i
      by_cases hlt : i < n
      · obtain ⟨b, hb, -⟩ := at_ex (l := v.s.qs) (i := i) (by omega)
        obtain ⟨l, hl, -⟩ := wf_at hw hb
        obtain ⟨a0, a1, c0, c1, hsd⟩ := sid4 v.g b l
        have hS : sidF v.s v.p v.g i = some [a0, a1, c0, c1] := by
          rw [← hsd]
          have : (i : Int) < v.s.qs.length := by omega
          simp [sidF, hw, hb, hl, this]
        have hst : bndN v.s v.p v.g (n0, n1) (i + 1) = bndN v.s v.p v.g (n0, n1) i ++ (if inB (n0, n1) [a0, a1, c0, c1] = true then [(i : Int)] else []) := by rw [bndN_step]; simp [inBat, hS]
        replace hst : Hid (bndN v.s v.p v.g (n0, n1) (i + 1) = bndN v.s v.p v.g (n0, n1) i ++ (if inB (n0, n1) [a0, a1, c0, c1] = true then [(i : Int)] else [])) := hst
        have f1 : ilt (i : Int) (n : Int) = true := ilt_t (by omega)
        have w1 : IntKind.i64.wrap ((i : Int) + 1) = ((i + 1 : Nat) : Int) := wrap_succ (by omega)
        generalize hCC : bndN v.s v.p v.g (n0, n1) i = C at gs gh hbl hst
        clear hR hch hpu hb hl hsd hCC
        have hsC := scr_i1 C
        have f5 : (C.length + 1) * 8 ≤ 140737488355328 := by omega
        have f6 : C.length + 1 ≤ 9223372036854775807 := by omega
        have f7 : C.length ≤ 9223372036854775806 := by omega
        cases q1 : ieq a0 1 <;> cases q2 : ieq a0 n0 <;> cases q3 : ieq a1 n1 <;> cases q4 : ieq c0 n0 <;> cases q5 : ieq c1 n1
        all_goals
          repeat' first
            | (with_reducible refine gw_bool (fun _ => ?_) (fun _ => ?_))
            | (with_reducible refine condw_bool (fun _ => ?_) (fun _ => ?_))
            | simp [*, appendV, srcCells, St.forget, scr, scrC, scrI_comp]
        all_goals first
          | (refine nxt_go (i + 1) ((View.forget _ _ 45).trans (View.forget _ _ 9)) (by omega) (by simp [*, Keep, St.forget, scr, scrC]) (by simp [*, KeepH, St.forget, scr, scrC]) ?_
             refine ⟨by omega, by simp [*, St.forget, scr, scrC], ?_, ?_⟩
             · rw [hst.out]; simp [*, inB, St.forget, scr, scrC, scrI_comp]; done
             · rw [hst.out]; simp [*, inB, St.forget, scr, scrC, scrI_comp]; done)
          | skip
      · have f1 : ilt (i : Int) (n : Int) = false := ilt_f (by omega)
        have e1 : i = n := by omega
        rw [e1, hR.out] at gs gh
        clear hR
        repeat' first
          | (with_reducible refine gw_bool (fun _ => ?_) (fun _ => ?_))
          | (with_reducible refine condw_bool (fun _ => ?_) (fun _ => ?_))
          | simp [*]
end Go.Proofs.Ytcbddoopmkhlfaa
