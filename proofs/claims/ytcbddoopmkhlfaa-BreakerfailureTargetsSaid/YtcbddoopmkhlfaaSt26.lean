/-
  The document's boundaries.
-/
import Derived.Test.YtcbddoopmkhlfaaSt25
namespace Go.Proofs.Ytcbddoopmkhlfaa
open Go.Pv Go.RowKit
set_option linter.unusedSimpArgs false
set_option linter.unusedVariables false
set_option maxRecDepth 100000
set_option maxHeartbeats 4000000
attribute [-simp] Tclo_at Tgrp_at Tchk Tpchk TcI TcB Tclo Tgrp Tsid Tnod Tlook Tbnd Tidx Tnms Tnmd Tobj Tlks Tbay Trck Trpc Tres TSd TBd Trg Trf

def rsdF (s : Stn) (p : Pos) (i : Int) : Option (List Int) := if 0 ≤ i ∧ i < s.qs.length then sidF s p (grp s p) i else none
def Trsd : List V → Option V
  | [.agg a, .agg b, .int .i64 i] => (match unStn a, unPos b with
    | some s, some p => if okP s p = true then (match rsdF s p i with
      | some S => some (.agg (S.map (V.int .i64)))
      | none => none) else none
    | _, _ => none)
  | _ => none
theorem Trsd_at {s : Stn} {p : Pos} {i : Int} {S : List Int} (h : okP s p = true) (hS : rsdF s p i = some S) : Trsd [.agg [.str s.nm, .list 1 (s.bs.map s1), .list 5 (s.ls.map Ln.cs), .list 6 (s.ss.map Sr.cs), .list 12 (s.qs.map By.cs)], .agg [.list 1 (p.cl.map b1), .list 1 (p.lk.map r1)], .int .i64 i] = some (.agg (S.map (V.int .i64))) := by
  have e1 := unStn_cs s
  have e2 := unPos_cs p
  unfold Stn.cs at e1
  unfold Pos.cs at e2
  simp [Trsd, e1, e2, h, hS]
theorem rsd_tab : ∀ vs v, Trsd vs = some v → PCall Try.prog 56 vs v := by
  intro vs v h; unfold Trsd at h; split at h
  · split at h
    · rename_i a b i s p h1 h2
      split at h
      · rename_i hl
        split at h
        · rename_i S hS
          cases h
          rw [unStn_inv _ _ h1, unPos_inv _ _ h2]
          unfold rsdF at hS
          split at hS
          · rename_i hi
            unfold sidF at hS
            rw [if_pos (wfg_of hl), if_pos hi] at hS
            split at hS
            · rename_i b l hb hl'
              cases hS
              obtain ⟨k, rfl⟩ := Int.eq_ofNat_of_zero_le hi.1
              exact rsides_in hl k b l (by simpa using hb) (by simpa using hl')
            · cases hS
          · cases hS
        · cases h
      · cases h
    · cases h
  · cases h
def Trnd : List V → Option V
  | [.agg a, .agg b, .agg [.int .i64 k, .int .i64 o]] => (match unStn a, unPos b with
    | some s, some p => if okP s p = true then some (nodA (nodF s (grp s p) k o)) else none
    | _, _ => none)
  | _ => none
theorem Trnd_at {s : Stn} {p : Pos} {k o : Int} (h : okP s p = true) : Trnd [.agg [.str s.nm, .list 1 (s.bs.map s1), .list 5 (s.ls.map Ln.cs), .list 6 (s.ss.map Sr.cs), .list 12 (s.qs.map By.cs)], .agg [.list 1 (p.cl.map b1), .list 1 (p.lk.map r1)], .agg [.int .i64 k, .int .i64 o]] = some (nodA (nodF s (grp s p) k o)) := by
  have e1 := unStn_cs s
  have e2 := unPos_cs p
  unfold Stn.cs at e1
  unfold Pos.cs at e2
  simp [Trnd, e1, e2, h]
theorem rnd_tab : ∀ vs v, Trnd vs = some v → PCall Try.prog 55 vs v := by
  intro vs v h; unfold Trnd at h; split at h
  · split at h
    · rename_i h1 h2
      split at h
      · rename_i hl
        cases h
        rw [unStn_inv _ _ h1, unPos_inv _ _ h2]
        exact rnode_ok hl _ _
      · cases h
    · cases h
  · cases h
def E10 : Tab := add 56 Trsd (add 55 Trnd (E9))
theorem E10_at (f : FuncId) (vs : List V) : E10.at' f vs = if f = 56 then Trsd vs else if f = 55 then Trnd vs else E9.at' f vs := rfl
theorem E10_fr (f : FuncId) : E10.fr f = if f = 56 then false else if f = 55 then false else E9.fr f := rfl
theorem E10_gb (f : FuncId) : E10.gb f = E9.gb f := rfl
theorem E10_gv (f : FuncId) (vs : List V) : E10.gv f vs = E9.gv f vs := rfl
attribute [simp] E10_at E10_fr E10_gb E10_gv Trnd Trsd
theorem E10_ok : TabOK Try.prog E10 := by
  refine add_ok (add_ok (E9_ok) (by kernel_rfl) ?_) (by kernel_rfl) ?_
  · exact rnd_tab
  · exact rsd_tab
attribute [-simp] Trsd Trnd
attribute [simp] Trsd_at Trnd_at
/-- The sides of a bay of a valid diagram. -/
theorem sid_kinds (g : List Int) (b : By) (l : List Int) : (ieq b.kind 3 = true → b.lks.length = 2 → ∃ x y, sid g b l = [1, x, 1, y]) ∧ (ieq b.kind 3 = false → ∃ a0 a1 c0 c1, sid g b l = [a0, a1, c0, c1] ∧ (a0 = 0 ∧ a1 = 0 ∨ a0 = 1) ∧ (c0 = 2 ∨ c0 = 3)) := by
  constructor
  · intro h hl
    obtain ⟨lks, hlk⟩ : ∃ lks, b.lks = lks := ⟨_, rfl⟩
    rw [hlk] at hl
    match lks, hl with
    | [a, c], _ => exact ⟨_, _, by simp [sid, h, hlk]; exact ⟨rfl, rfl⟩⟩
  · intro h
    refine ⟨_, _, _, _, by simp only [sid, h]; rfl, ?_, ?_⟩
    · cases (b.lks.zip l).find? hit with
      | none => exact .inl ⟨rfl, rfl⟩
      | some x => exact .inr rfl
    · split
      · exact .inl rfl
      · exact .inr rfl
theorem sid_at {s : Stn} {p : Pos} (h : okP s p = true) {i : Nat} (hi : i < s.qs.length) : ∃ b l, s.qs[i]? = some b ∧ p.lk[i]? = some l ∧ sidF s p (grp s p) i = some (sid (grp s p) b l) ∧ (ieq b.kind 3 = true → b.lks.length = 2) := by
  obtain ⟨c1, c2⟩ := okP_iff h
  obtain ⟨b, hb, _⟩ := at_ex (l := s.qs) (i := i) hi
  obtain ⟨l, hl, -⟩ := wf_at (wfg_of h) hb
  have hF := fine_of c1
  refine ⟨b, l, hb, hl, ?_, (hF.lk b (List.mem_of_getElem? hb)).2.1⟩
  have : (i : Int) < s.qs.length := by omega
  simp [sidF, wfg_of h, hb, hl, this]
theorem raround_ok {s : Stn} {p : Pos} (h : okP s p = true) (n : Int × Int) (hn : n.1 = 1 ∨ n.1 = 2) (i : Nat) (hi : i < s.qs.length) : PCall Try.prog 62 [.agg s.cs, .agg p.cs, .agg [.int .i64 n.1, .int .i64 n.2], .int .i64 i] (.bool (inBat s p (grp s p) n i)) := by
  obtain ⟨b, l, hb, hl, hS, hk2⟩ := sid_at h hi
  obtain ⟨hi', hb'⟩ := get_of hb
  obtain ⟨n0, n1⟩ := n
  simp only at hn
  have hrs : rsdF s p (i : Int) = some (sid (grp s p) b l) := by
    have : (i : Int) < s.qs.length := by omega
    simp [rsdF, this, hS]
  have hv : inBat s p (grp s p) (n0, n1) i = inB (n0, n1) (sid (grp s p) b l) := by simp [inBat, hS]
  rw [hv]
  clear hv hS
  have hT := Trsd_at h hrs
  clear hrs
  obtain ⟨nq, hnq⟩ : ∃ n, s.qs.length = n := ⟨_, rfl⟩
  rw [hnq] at hi
  cases h3 : ieq b.kind 3
  · obtain ⟨a0, a1, c0, c1, hsd, ha, hc⟩ := (sid_kinds (grp s p) b l).2 h3
    rw [hsd] at hT ⊢
    clear hsd h
    have q0 : ieq a0 2 = false := ieq_f (by omega)
    have q1 : ieq c0 1 = false := ieq_f (by omega)
    rcases hn with rfl | rfl
    · cases p1 : ieq a0 1 <;> cases p2 : ieq a1 n1
      all_goals
        refine pcall_cx E10_ok mixed (fun _ => none) Try.func62 rfl Try.ntmps62 Try.results62 (by simp) (by kernel_rfl) ?_
      all_goals
        repeat' first
          | (with_reducible refine gw_bool (fun _ => ?_) (fun _ => ?_))
          | (with_reducible refine condw_bool (fun _ => ?_) (fun _ => ?_))
          | simp [*, Stn.cs, Pos.cs, By.cs, inB]
    · cases p1 : ieq a0 1 <;> cases p2 : ieq c0 2 <;> cases p3 : ieq c1 n1
      all_goals
        refine pcall_cx E10_ok mixed (fun _ => none) Try.func62 rfl Try.ntmps62 Try.results62 (by simp) (by kernel_rfl) ?_
      all_goals
        repeat' first
          | (with_reducible refine gw_bool (fun _ => ?_) (fun _ => ?_))
          | (with_reducible refine condw_bool (fun _ => ?_) (fun _ => ?_))
          | simp [*, Stn.cs, Pos.cs, By.cs, inB]
  · obtain ⟨x, y, hsd⟩ := (sid_kinds (grp s p) b l).1 h3 (hk2 h3)
    rw [hsd] at hT ⊢
    clear hsd h
    cases p1 : ieq 1 n0 <;> cases p2 : ieq x n1 <;> cases p3 : ieq y n1
    all_goals
      refine pcall_cx E10_ok mixed (fun _ => none) Try.func62 rfl Try.ntmps62 Try.results62 (by simp) (by kernel_rfl) ?_
    all_goals
      repeat' first
        | (with_reducible refine gw_bool (fun _ => ?_) (fun _ => ?_))
        | (with_reducible refine condw_bool (fun _ => ?_) (fun _ => ?_))
        | simp [*, Stn.cs, Pos.cs, By.cs, inB]
theorem nod_kind {s : Stn} {g : List Int} {k o : Int} {n : Int × Int} (h : nodF s g k o = some n) : n.1 = 1 ∨ n.1 = 2 := by
  unfold nodF at h
  split at h
  · cases h; exact .inl rfl
  · split at h
    · cases h; exact .inr rfl
    · cases h
def Tar : List V → Option V
  | [.agg a, .agg b, .agg [.int .i64 k, .int .i64 o], .int .i64 i] => (match unStn a, unPos b with
    | some s, some p => if okP s p = true ∧ (k = 1 ∨ k = 2) ∧ 0 ≤ i ∧ i < s.qs.length then some (.bool (inBat s p (grp s p) (k, o) i.toNat)) else none
    | _, _ => none)
  | _ => none
theorem Tar_at {s : Stn} {p : Pos} {k o : Int} {i : Nat} (h : okP s p = true) (hk : k = 1 ∨ k = 2) (hi : i < s.qs.length) : Tar [.agg [.str s.nm, .list 1 (s.bs.map s1), .list 5 (s.ls.map Ln.cs), .list 6 (s.ss.map Sr.cs), .list 12 (s.qs.map By.cs)], .agg [.list 1 (p.cl.map b1), .list 1 (p.lk.map r1)], .agg [.int .i64 k, .int .i64 o], .int .i64 i] = some (.bool (inBat s p (grp s p) (k, o) i)) := by
  have e1 := unStn_cs s
  have e2 := unPos_cs p
  unfold Stn.cs at e1
  unfold Pos.cs at e2
  simp only [Tar, e1, e2]
  exact if_pos ⟨h, hk, by omega, by omega⟩
theorem ar_tab : ∀ vs v, Tar vs = some v → PCall Try.prog 62 vs v := by
  intro vs v h; unfold Tar at h; split at h
  · split at h
    · rename_i h1 h2
      split at h
      · rename_i hl
        cases h
        rw [unStn_inv _ _ h1, unPos_inv _ _ h2]
        obtain ⟨p1, p2, p3, p4⟩ := hl
        obtain ⟨u, rfl⟩ := Int.eq_ofNat_of_zero_le p3
        exact raround_ok p1 (_, _) p2 u (by omega)
      · cases h
    · cases h
  · cases h
def E11 : Tab := add 62 Tar (E10)
theorem E11_at (f : FuncId) (vs : List V) : E11.at' f vs = if f = 62 then Tar vs else E10.at' f vs := rfl
theorem E11_fr (f : FuncId) : E11.fr f = if f = 62 then false else E10.fr f := rfl
theorem E11_gb (f : FuncId) : E11.gb f = E10.gb f := rfl
theorem E11_gv (f : FuncId) (vs : List V) : E11.gv f vs = E10.gv f vs := rfl
attribute [simp] E11_at E11_fr E11_gb E11_gv Tar
theorem E11_ok : TabOK Try.prog E11 := by
  refine add_ok (E10_ok) (by kernel_rfl) ?_
  · exact ar_tab
attribute [-simp] Tar
attribute [simp] Tar_at
theorem rBoundary_ok {s : Stn} {p : Pos} (hok : okP s p = true) (k o : Int) : PCall Try.prog 29 [.agg s.cs, .agg p.cs, .agg [.int .i64 k, .int .i64 o]] (.list 1 ((bndF s p (grp s p) (nodF s (grp s p) k o)).map i1)) := by
  have hlk := lkB_of (okP_iff hok).1
  have hln := lenB_ok hok
  have hn16 : s.qs.length ≤ 16 := (fine_of (okP_iff hok).1).nq
  obtain ⟨n, hnn⟩ : ∃ n, s.qs.length = n := ⟨_, rfl⟩
  rw [hnn] at hn16
  obtain ⟨N, hN⟩ : ∃ N, nodF s (grp s p) k o = N := ⟨_, rfl⟩
  rw [hN]
  cases N with
  | none =>
    refine pcall_nil ?_
    refine pcall_cx E11_ok mixed (fun _ => none) Try.func29 rfl Try.ntmps29 Try.results29 (by simp) (by kernel_rfl) ?_
    repeat' first
      | (with_reducible refine gw_bool (fun _ => ?_) (fun _ => ?_))
      | (with_reducible refine condw_bool (fun _ => ?_) (fun _ => ?_))
      | simp [*, Stn.cs, Pos.cs, nodA]
    refine lp_go (D := (fun _ => none)) E11_ok mixed (by kernel_rfl) [3, 4, 7] [3, 4, 5, 7, 37, 38] (α := Nat) (fun i e h => i ≤ n ∧ e 9 = .int .i64 i ∧ e 8 = .nils) (fun i => n - i) 0 ?_ ?_
    · exact ⟨by omega, by simp, by simp⟩
    rintro i e h hk hkh ⟨hi, g7, g8⟩
    simp [Keep] at hk
    simp [KeepH] at hkh
    by_cases hlt : i < n
    · have f1 : ilt (i : Int) (n : Int) = true := ilt_t (by omega)
      have w1 : IntKind.i64.wrap ((i : Int) + 1) = ((i + 1 : Nat) : Int) := wrap_succ (by omega)
      repeat' first
        | (with_reducible refine gw_bool (fun _ => ?_) (fun _ => ?_))
        | (with_reducible refine condw_bool (fun _ => ?_) (fun _ => ?_))
        | simp [*]
      refine nxt_go (i + 1) (View.refl _ _) (by omega) (by simp [*, Keep, St.forget, scr, scrC]) (by simp [*, KeepH, St.forget, scr, scrC]) ?_
      exact ⟨by omega, by simp [*], by simp [*]⟩
    · have f1 : ilt (i : Int) (n : Int) = false := ilt_f (by omega)
      repeat' first
        | (with_reducible refine gw_bool (fun _ => ?_) (fun _ => ?_))
        | (with_reducible refine condw_bool (fun _ => ?_) (fun _ => ?_))
        | simp [*]
  | some nd =>
    have hnk := nod_kind hN
    obtain ⟨n0, n1⟩ := nd
    simp only at hnk
    have hnz : ieq n0 0 = false := ieq_f (by omega)
    have hres : bndF s p (grp s p) (some (n0, n1)) = bndN s p (grp s p) (n0, n1) n := by simp [bndF, hnn]
    have hch := chunks_i1 (bndN s p (grp s p) (n0, n1) n)
    have hpu := pure_i1 (bndN s p (grp s p) (n0, n1) n)
    rw [hres]
    clear hres
    obtain ⟨R, hR⟩ : ∃ R, bndN s p (grp s p) (n0, n1) n = R := ⟨_, rfl⟩
    rw [hR] at hch hpu
    rw [hR]
    replace hR : Hid (bndN s p (grp s p) (n0, n1) n = R) := hR
    refine pcall_cx E11_ok mixed (fun _ => none) Try.func29 rfl Try.ntmps29 Try.results29 (by simp) (by kernel_rfl) ?_
    repeat' first
      | (with_reducible refine gw_bool (fun _ => ?_) (fun _ => ?_))
      | (with_reducible refine condw_bool (fun _ => ?_) (fun _ => ?_))
      | simp [*, Stn.cs, Pos.cs, nodA]
    refine lp_view (View.nilOwn _ (t := 8) (key := 38) 1 3 (by simp) (by simp)) ?_
    refine lp_go (D := (fun _ => none)) E11_ok mixed (by kernel_rfl) [3, 4, 7] [3, 4, 5, 7, 37] (α := Nat) (fun i e h => i ≤ n ∧ e 9 = .int .i64 i ∧ e 8 = .sl 38 0 (bndN s p (grp s p) (n0, n1) i).length 1 ∧ h 38 = some ⟨3, (bndN s p (grp s p) (n0, n1) i).map (V.int .i64)⟩) (fun i => n - i) 0 ?_ ?_
    · refine ⟨by omega, by simp, by simp [bndN], by simp [bndN]⟩
    rintro i e h hk hkh ⟨hi, g7, gs, gh⟩
    simp [Keep] at hk
    simp [KeepH] at hkh
    have hbl := bndN_len s p (grp s p) (n0, n1) i
    by_cases hlt : i < n
    · have hT := Tar_at (o := n1) hok hnk (show i < s.qs.length by omega)
      have hst : Hid (bndN s p (grp s p) (n0, n1) (i + 1) = bndN s p (grp s p) (n0, n1) i ++ (if inBat s p (grp s p) (n0, n1) i = true then [(i : Int)] else [])) := bndN_step
      have f1 : ilt (i : Int) (n : Int) = true := ilt_t (by omega)
      have w1 : IntKind.i64.wrap ((i : Int) + 1) = ((i + 1 : Nat) : Int) := wrap_succ (by omega)
      generalize bndN s p (grp s p) (n0, n1) i = C at gs gh hbl hst
      obtain ⟨q, hq⟩ : ∃ q, inBat s p (grp s p) (n0, n1) i = q := ⟨_, rfl⟩
      rw [hq] at hT hst
      clear hR hch hpu hq hok hlk hln hN hnk
      have hsC := scr_i1 C
      have f5 : (C.length + 1) * 8 ≤ 140737488355328 := by omega
      have f6 : C.length + 1 ≤ 9223372036854775807 := by omega
      cases q
      · rw [if_neg (by simp), List.append_nil] at hst
        repeat' first
          | (with_reducible refine gw_bool (fun _ => ?_) (fun _ => ?_))
          | (with_reducible refine condw_bool (fun _ => ?_) (fun _ => ?_))
          | simp [*]
        refine nxt_go (i + 1) (View.refl _ _) (by omega) (by simp [*, Keep, St.forget, scr, scrC]) (by simp [*, KeepH, St.forget, scr, scrC]) ?_
        refine ⟨by omega, by simp [*], ?_, ?_⟩
        · rw [hst.out]; simp [*]
        · rw [hst.out]; simp [*]
      · rw [if_pos rfl] at hst
        repeat' first
          | (with_reducible refine gw_bool (fun _ => ?_) (fun _ => ?_))
          | (with_reducible refine condw_bool (fun _ => ?_) (fun _ => ?_))
          | simp [*, appendV, srcCells, St.forget, scr, scrC, scrI_comp]
        refine nxt_go (i + 1) ((View.forget _ _ 37)) (by omega) (by simp [*, Keep, St.forget, scr, scrC]) (by simp [*, KeepH, St.forget, scr, scrC]) ?_
        refine ⟨by omega, by simp [*, St.forget, scr, scrC], ?_, ?_⟩
        · rw [hst.out]; simp [*, St.forget, scr, scrC, scrI_comp]
        · rw [hst.out]; simp [*, St.forget, scr, scrC, scrI_comp]
    · have f1 : ilt (i : Int) (n : Int) = false := ilt_f (by omega)
      have e1 : i = n := by omega
      rw [e1, hR.out] at gs gh
      clear hR
      repeat' first
        | (with_reducible refine gw_bool (fun _ => ?_) (fun _ => ?_))
        | (with_reducible refine condw_bool (fun _ => ?_) (fun _ => ?_))
        | simp [*]
theorem rSides_ok {s : Stn} {p : Pos} (h : okP s p = true) (i : Int) (S : List Int) (hS : sidF s p (grp s p) i = some S) : PCall Try.prog 36 [.agg s.cs, .agg p.cs, .int .i64 i] (.agg (S.map (V.int .i64))) := by
  have hlk := lkB_of (okP_iff h).1
  have hln := lenB_ok h
  have h4 : ∃ a0 a1 c0 c1, S = [a0, a1, c0, c1] := by
    unfold sidF at hS
    split at hS
    · split at hS
      · split at hS
        · cases hS; exact sid4 _ _ _
        · cases hS
      · cases hS; exact ⟨_, _, _, _, rfl⟩
    · cases hS
  obtain ⟨a0, a1, c0, c1, rfl⟩ := h4
  obtain ⟨n, hn⟩ : ∃ n, s.qs.length = n := ⟨_, rfl⟩
  cases f0 : ilt i 0
  · cases f1 : ilt i (n : Int)
    · have hz : [a0, a1, c0, c1] = [0, 0, 0, 0] := by
        have hi : ¬ (0 ≤ i ∧ i < s.qs.length) := by have := ilt_iff'.1 f1; omega
        simp only [sidF, wfg_of h, if_true, if_neg hi] at hS
        exact (Option.some.inj hS).symm
      simp only [List.cons.injEq, and_true] at hz
      obtain ⟨rfl, rfl, rfl, rfl⟩ := hz
      clear hS
      refine pcall_cx E11_ok mixed (fun _ => none) Try.func36 rfl Try.ntmps36 Try.results36 (by simp) (by kernel_rfl) ?_
      repeat' first
        | (with_reducible refine gw_bool (fun _ => ?_) (fun _ => ?_))
        | (with_reducible refine condw_bool (fun _ => ?_) (fun _ => ?_))
        | simp [*, Stn.cs, Pos.cs]
    · have hrs : rsdF s p i = some [a0, a1, c0, c1] := by
        have hi : 0 ≤ i ∧ i < s.qs.length := by have := ilt_iff'.1 f0; have := ilt_iff.1 f1; omega
        unfold rsdF; rw [if_pos hi]; exact hS
      clear hS
      refine pcall_cx E11_ok mixed (fun _ => none) Try.func36 rfl Try.ntmps36 Try.results36 (by simp) (by kernel_rfl) ?_
      repeat' first
        | (with_reducible refine gw_bool (fun _ => ?_) (fun _ => ?_))
        | (with_reducible refine condw_bool (fun _ => ?_) (fun _ => ?_))
        | simp [*, Stn.cs, Pos.cs]
  · have hz : [a0, a1, c0, c1] = [0, 0, 0, 0] := by
      have hi : ¬ (0 ≤ i ∧ i < s.qs.length) := by have := ilt_iff.1 f0; omega
      simp only [sidF, wfg_of h, if_true, if_neg hi] at hS
      exact (Option.some.inj hS).symm
    simp only [List.cons.injEq, and_true] at hz
    obtain ⟨rfl, rfl, rfl, rfl⟩ := hz
    clear hS
    refine pcall_cx E11_ok mixed (fun _ => none) Try.func36 rfl Try.ntmps36 Try.results36 (by simp) (by kernel_rfl) ?_
    repeat' first
      | (with_reducible refine gw_bool (fun _ => ?_) (fun _ => ?_))
      | (with_reducible refine condw_bool (fun _ => ?_) (fun _ => ?_))
      | simp [*, Stn.cs, Pos.cs]
end Go.Proofs.Ytcbddoopmkhlfaa
