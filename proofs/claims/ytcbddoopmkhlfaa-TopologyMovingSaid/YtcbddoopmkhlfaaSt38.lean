/-
  The law's sanity check and guard.
-/
import Derived.Test.YtcbddoopmkhlfaaSt37
import Derived.Test.YtcbddoopmkhlfaaSt15
namespace Go.Proofs.Ytcbddoopmkhlfaa
open Go.Pv Go.RowKit
set_option linter.unusedSimpArgs false
set_option linter.unusedVariables false
set_option maxRecDepth 100000
set_option maxHeartbeats 4000000
attribute [-simp] Tclo_at Tgrp_at Tchk Tpchk TcI TcB Tclo Tgrp Tsid Tnod Tlook Tbnd TsidA Tre Tidx Tnms Tnmd Tobj Tlks Tbay Trck Trpc Tres TSd TBd

def Tnm : List V → Option V
  | [.agg a] => (match unStn a with
    | some s => if chkF s = 0 then some (.agg (normP s).cs) else none
    | none => none)
  | _ => none
theorem Tnm_at {s : Stn} (h : chkF s = 0) : Tnm [.agg [.str s.nm, .list 1 (s.bs.map s1), .list 5 (s.ls.map Ln.cs), .list 6 (s.ss.map Sr.cs), .list 12 (s.qs.map By.cs)]] = some (.agg (normP s).cs) := by
  have e1 := unStn_cs s
  unfold Stn.cs at e1
  simp [Tnm, e1, h]
theorem nm_tab : ∀ vs v, Tnm vs = some v → PCall Try.prog 47 vs v := by
  intro vs v h; unfold Tnm at h; split at h
  · split at h
    · rename_i h1
      split at h
      · rename_i hl; cases h; rw [unStn_inv _ _ h1]; exact normal_ok hl
      · cases h
    · cases h
  · cases h
def Tlv : List V → Option V
  | [.agg a, .agg b, .agg [.int .i64 k, .int .i64 o]] => (match unStn a, unPos b with
    | some s, some p => if okP s p = true then some (.bool (liveF s p k o)) else none
    | _, _ => none)
  | _ => none
theorem Tlv_at {s : Stn} {p : Pos} {k o : Int} (h : okP s p = true) : Tlv [.agg [.str s.nm, .list 1 (s.bs.map s1), .list 5 (s.ls.map Ln.cs), .list 6 (s.ss.map Sr.cs), .list 12 (s.qs.map By.cs)], .agg [.list 1 (p.cl.map b1), .list 1 (p.lk.map r1)], .agg [.int .i64 k, .int .i64 o]] = some (.bool (liveF s p k o)) := by
  have e1 := unStn_cs s
  have e2 := unPos_cs p
  unfold Stn.cs at e1
  unfold Pos.cs at e2
  simp [Tlv, e1, e2, h]
theorem lv_tab : ∀ vs v, Tlv vs = some v → PCall Try.prog 26 vs v := by
  intro vs v h; unfold Tlv at h; split at h
  · split at h
    · rename_i h1 h2
      split at h
      · rename_i hl
        cases h; rw [unStn_inv _ _ h1, unPos_inv _ _ h2]; exact Live_ok hl _ _
      · cases h
    · cases h
  · cases h
def unN2 : List V → Option Nd
  | [.int .i64 a, .int .i64 b] => some (a, b)
  | _ => none
theorem unN2_cs (c : Nd) : unN2 (nd2 c) = some c := rfl
theorem unN2_inv : ∀ c a, unN2 c = some a → c = nd2 a := by
  intro c a h; unfold unN2 at h; split at h
  · cases h; rfl
  · cases h
def Tfd : List V → Option V
  | [.agg a, .agg b, .list 2 z, .int .i64 i] => (match unStn a, unPos b, decL unN2 z with
    | some s, some p, some zs => if okP s p = true ∧ zs.length ≤ 9223372036854775806 then some (.bool (fedF s p zs i)) else none
    | _, _, _ => none)
  | _ => none
theorem Tfd_at {s : Stn} {p : Pos} {zs : List Nd} {i : Int} (h : okP s p = true) (hz : zs.length ≤ 9223372036854775806) : Tfd [.agg [.str s.nm, .list 1 (s.bs.map s1), .list 5 (s.ls.map Ln.cs), .list 6 (s.ss.map Sr.cs), .list 12 (s.qs.map By.cs)], .agg [.list 1 (p.cl.map b1), .list 1 (p.lk.map r1)], .list 2 (zs.map nd2), .int .i64 i] = some (.bool (fedF s p zs i)) := by
  have e1 := unStn_cs s
  have e2 := unPos_cs p
  unfold Stn.cs at e1
  unfold Pos.cs at e2
  simp [Tfd, e1, e2, decL_map unN2_cs, h, hz]
theorem fd_tab : ∀ vs v, Tfd vs = some v → PCall Try.prog 22 vs v := by
  intro vs v h; unfold Tfd at h; split at h
  · split at h
    · rename_i h1 h2 h3
      split at h
      · rename_i hl
        cases h; rw [unStn_inv _ _ h1, unPos_inv _ _ h2, decL_inv unN2_inv _ _ h3]; exact Fed_ok hl.1 _ hl.2 _
      · cases h
    · cases h
  · cases h
def G2 : Tab := add 47 Tnm (add 26 Tlv (add 22 Tfd (add 25 TBd (G1))))
theorem G2_at (f : FuncId) (vs : List V) : G2.at' f vs = if f = 47 then Tnm vs else if f = 26 then Tlv vs else if f = 22 then Tfd vs else if f = 25 then TBd vs else G1.at' f vs := rfl
theorem G2_fr (f : FuncId) : G2.fr f = if f = 47 then false else if f = 26 then false else if f = 22 then false else if f = 25 then false else G1.fr f := rfl
theorem G2_gb (f : FuncId) : G2.gb f = G1.gb f := rfl
theorem G2_gv (f : FuncId) (vs : List V) : G2.gv f vs = G1.gv f vs := rfl
attribute [simp] G2_at G2_fr G2_gb G2_gv TBd Tfd Tlv Tnm
theorem G2_ok : TabOK Try.prog G2 := by
  refine add_ok (add_ok (add_ok (add_ok (G1_ok) (by kernel_rfl) ?_) (by kernel_rfl) ?_) (by kernel_rfl) ?_) (by kernel_rfl) ?_
  · exact Bd_tab
  · exact fd_tab
  · exact lv_tab
  · exact nm_tab
attribute [-simp] Tnm Tlv Tfd TBd
attribute [simp] Tnm_at Tlv_at Tfd_at
def bA (n : UInt8) : ByteArray := ⟨#[n]⟩
def s0 : Stn := ⟨bA 83, [bA 65], [], [⟨bA 71, 1, 0, 1, 0, 1⟩], [⟨bA 81, 2, 0, 0, 0, 0, [⟨0, 1⟩], true, 1, 1, 0, 1⟩]⟩
theorem s0_chk : chkF s0 = 0 := by kernel_rfl
theorem s0_ok : okP s0 (normP s0) = true := by kernel_rfl
theorem s0_live : liveF s0 (normP s0) 1 0 = true := by kernel_rfl
theorem s0_fed : fedF s0 (normP s0) [(1, 0)] 0 = true := by kernel_rfl
theorem s0_bnd : bndF s0 (normP s0) (grp s0 (normP s0)) (nodF s0 (grp s0 (normP s0)) 1 0) = [0] := by kernel_rfl
theorem s0_cl : (normP s0).cl = [true] := by kernel_rfl
theorem wkBlk {n : Nat} {w0 : Base} {ro : Nat → Prop} {lam : Lam} {st : St} {a : Act} {w : World} (hs : Sim w0 n ro lam st a w) {key b m : Nat} {blk : Blk} {cs' : List V} (hk : st.heap key = some blk) (hlm : lam key = some (some b, m)) (hl : cs'.length = blk.cells.length) (hw : ∀ (j : Nat) (c c' : V) (x : Value), blk.cells[j]? = some c → cs'[j]? = some c' → R w ro lam c x → R w ro lam c' x) :
    Sim w0 n ro lam ⟨st.env, upd st.heap key (some ⟨blk.ty, cs'⟩)⟩ a w := by
  refine ⟨hs.below, hs.dfr, hs.size, hs.rolt, hs.env, fun k blk' hkk => ?_, fun k hkk => ?_, hs.own, hs.inj, hs.maps⟩
  · by_cases e : k = key
    · subst e
      simp only [upd_same, Option.some.injEq] at hkk
      subst hkk
      rcases hs.heap k blk hk with ⟨hv, _⟩ | ⟨b', o, hv, _⟩ | ⟨b', m', arr, hl', hw', hsz, hle, hr⟩
      · rw [hlm] at hv; cases hv
      · rw [hlm] at hv; cases hv
      · refine .inr (.inr ⟨b', m', arr, hl', hw', hsz, by rw [hl]; exact hle, fun j c x hc hx => ?_⟩)
        have hc' : cs'[j]? = some c := hc
        have hj : j < blk.cells.length := by have := (List.getElem?_eq_some_iff.1 hc').1; omega
        exact hw j _ c x (List.getElem?_eq_getElem hj) hc' (hr j _ x (List.getElem?_eq_getElem hj) hx)
    · simp only [upd_ne _ _ e] at hkk; exact hs.heap k blk' hkk
  · by_cases e : k = key
    · subst e; simp only [upd_same] at hkk; cases hkk
    · simp only [upd_ne _ _ e] at hkk; exact hs.dead k hkk
theorem known_ok : PCall Try.prog 20 [] (.bool true) := by
  intro W0 ro0 args hro hsz hr
  have hs0 := sim_ini (n := 43) hro hsz (by simp) hr
  refine callsIn_wide.1 (callsIn_of_wp_marks (n := 0) Try.func20 rfl trivial ?_ rfl)
  rw [Try.ntmps20]
  have hm0 : MK W0 ro0 [] ro0 (fun _ => none) { tmps := args ++ Array.replicate (43 - args.size) Go.undef, defers := [] } W0 :=
    ⟨rfl, List.nodup_nil, fun D hD => (by simp at hD), Below.refl _ _, fun b ⟨k, hk⟩ => (by rcases hk with ⟨_, hk⟩ | hk <;> cases hk), fun _ h => h, fun _ h => .inl h⟩
  have hs0' := hs0.rebase
  clear hs0
  obtain ⟨A0, hA0⟩ : ∃ A0 : Act, { tmps := args ++ Array.replicate (43 - args.size) Go.undef, defers := [] } = A0 := ⟨_, rfl⟩
  rw [hA0] at hm0 hs0' ⊢
  clear hA0 hr
  refine wpIn_seq (wpIn_mono (cw_inE (CW.of_cx (D := fun _ => none) G2_ok mixed _ (fun e t => e = .normal ∧ HeapIs t.heap []) _ (by kernel_rfl) ?_) hs0' hm0) ?_)
  · clear hs0' hm0
    repeat' first
      | (with_reducible refine gw_bool (fun _ => ?_) (fun _ => ?_))
      | (with_reducible refine condw_bool (fun _ => ?_) (fun _ => ?_))
      | simp [*]
    exact ⟨trivial, fun k hk => rfl⟩
  rintro e a1 w1 ⟨s1', ro1, lam1, ⟨rfl, hH1⟩, hs1, hm1⟩
  replace hs1 := toL hs1 (L := []) trivial hH1
  clear hs0' hm0 hH1
  refine wpIn_seq (wpIn_mono (cw_inE (CW.of_cx (D := fun _ => none) G2_ok mixed _ (fun e t => e = .normal ∧ HasE t.env [(1, .ptr 1 0)] ∧ HeapIs t.heap [(4, ⟨9, [.str (bA 65)]⟩), (8, ⟨75, [.str (bA 71), .int .i64 1, .int .i64 0, .int .i64 1, .int .i64 0, .int .i64 1]⟩), (1, ⟨35, [.str (bA 83), .sl 4 0 1 1, .nils, .sl 8 0 1 6, .nils]⟩)]) _ (by kernel_rfl) ?_) hs1 hm1) ?_)
  · clear hs1 hm1
    repeat' first
      | (with_reducible refine gw_bool (fun _ => ?_) (fun _ => ?_))
      | (with_reducible refine condw_bool (fun _ => ?_) (fun _ => ?_))
      | simp [*, HasE, envL, blkOf, bA]
    refine ⟨by simp [KeepBl, blkOf], fun k hk => ?_⟩
    have k4 : k ≠ 4 := blk_ne hk rfl
    have k8 : k ≠ 8 := blk_ne hk rfl
    have k1 : k ≠ 1 := blk_ne hk rfl
    simp [k4, k8, k1, blkOf]
  rintro e a2 w2 ⟨s2, ro2, lam2, ⟨rfl, hE2, hH2⟩, hs2, hm2⟩
  replace hs2 := toL hs2 hE2 hH2
  clear hs1 hm1 hE2 hH2
  refine wpIn_seq (wpIn_mono (cw_inE (CW.of_cx (D := fun _ => none) G2_ok mixed _ (fun e t => e = .normal ∧ HasE t.env [(1, .ptr 1 0)] ∧ HeapIs t.heap [(11, ⟨77, [.int .i64 0, .int .i64 1]⟩), (13, ⟨73, [.str (bA 81), .int .i64 2, .int .i64 0, .int .i64 0, .int .i64 0, .int .i64 0, .sl 11 0 1 2, .bool true, .int .i64 1, .int .i64 1, .int .i64 0, .int .i64 1]⟩), (4, ⟨9, [.str (bA 65)]⟩), (8, ⟨75, [.str (bA 71), .int .i64 1, .int .i64 0, .int .i64 1, .int .i64 0, .int .i64 1]⟩), (1, ⟨35, [.str (bA 83), .sl 4 0 1 1, .nils, .sl 8 0 1 6, .sl 13 0 1 12]⟩)]) _ (by kernel_rfl) ?_) hs2 hm2) ?_)
  · clear hs2 hm2
    repeat' first
      | (with_reducible refine gw_bool (fun _ => ?_) (fun _ => ?_))
      | (with_reducible refine condw_bool (fun _ => ?_) (fun _ => ?_))
      | simp [*, HasE, envL, blkOf, bA, setsV]
    refine ⟨by simp [KeepBl, blkOf, setsV], fun k hk => ?_⟩
    have k11 : k ≠ 11 := blk_ne hk rfl
    have k13 : k ≠ 13 := blk_ne hk rfl
    have k4 : k ≠ 4 := blk_ne hk rfl
    have k8 : k ≠ 8 := blk_ne hk rfl
    have k1 : k ≠ 1 := blk_ne hk rfl
    simp [k11, k13, k4, k8, k1, blkOf]
  rintro e a3 w3 ⟨s3, ro3, lam3, ⟨rfl, hE3, hH3⟩, hs3, hm3⟩
  replace hs3 := toL hs3 hE3 hH3
  clear hs2 hm2 hE3 hH3
  obtain ⟨ro4, lam4, hs4, hm4⟩ := view_inE (View.pub 43 (key := 11) (blk := ⟨77, [.int .i64 0, .int .i64 1]⟩) rfl rfl) hs3 hm3
  replace hs4 := toL hs4 (L := [(1, .ptr 1 0)]) (bl := [(13, ⟨73, [.str (bA 81), .int .i64 2, .int .i64 0, .int .i64 0, .int .i64 0, .int .i64 0, .list 2 [[.int .i64 0, .int .i64 1]], .bool true, .int .i64 1, .int .i64 1, .int .i64 0, .int .i64 1]⟩), (4, ⟨9, [.str (bA 65)]⟩), (8, ⟨75, [.str (bA 71), .int .i64 1, .int .i64 0, .int .i64 1, .int .i64 0, .int .i64 1]⟩), (1, ⟨35, [.str (bA 83), .sl 4 0 1 1, .nils, .sl 8 0 1 6, .sl 13 0 1 12]⟩)]) (by simp [HasE, St.pub, envL, upd, pubT, pubA, pubC]) (by
    refine ⟨⟨rfl, rfl, rfl, rfl, trivial⟩, fun k hk => ?_⟩
    have k13 : k ≠ 13 := blk_ne hk rfl
    have k4 : k ≠ 4 := blk_ne hk rfl
    have k8 : k ≠ 8 := blk_ne hk rfl
    have k1 : k ≠ 1 := blk_ne hk rfl
    by_cases k11 : k = 11
    · simp [St.pub, k11]
    · simp [St.pub, blkOf, k11, k13, k4, k8, k1])
  clear hs3 hm3
  obtain ⟨ro5, lam5, hs5, hm5⟩ := view_inE (View.pub 43 (key := 13) (blk := ⟨73, [.str (bA 81), .int .i64 2, .int .i64 0, .int .i64 0, .int .i64 0, .int .i64 0, .list 2 [[.int .i64 0, .int .i64 1]], .bool true, .int .i64 1, .int .i64 1, .int .i64 0, .int .i64 1]⟩) rfl rfl) hs4 hm4
  replace hs5 := toL hs5 (L := [(1, .ptr 1 0)]) (bl := [(4, ⟨9, [.str (bA 65)]⟩), (8, ⟨75, [.str (bA 71), .int .i64 1, .int .i64 0, .int .i64 1, .int .i64 0, .int .i64 1]⟩), (1, ⟨35, [.str (bA 83), .sl 4 0 1 1, .nils, .sl 8 0 1 6, .list 12 [[.str (bA 81), .int .i64 2, .int .i64 0, .int .i64 0, .int .i64 0, .int .i64 0, .list 2 [[.int .i64 0, .int .i64 1]], .bool true, .int .i64 1, .int .i64 1, .int .i64 0, .int .i64 1]]]⟩)]) (by simp [HasE, St.pub, envL, upd, pubT, pubA, pubC]) (by
    refine ⟨⟨rfl, rfl, rfl, trivial⟩, fun k hk => ?_⟩
    have k4 : k ≠ 4 := blk_ne hk rfl
    have k8 : k ≠ 8 := blk_ne hk rfl
    have k1 : k ≠ 1 := blk_ne hk rfl
    by_cases k13 : k = 13
    · simp [St.pub, k13]
    · simp [St.pub, blkOf, k13, k4, k8, k1])
  clear hs4 hm4
  obtain ⟨ro6, lam6, hs6, hm6⟩ := view_inE (View.pub 43 (key := 4) (blk := ⟨9, [.str (bA 65)]⟩) rfl rfl) hs5 hm5
  replace hs6 := toL hs6 (L := [(1, .ptr 1 0)]) (bl := [(8, ⟨75, [.str (bA 71), .int .i64 1, .int .i64 0, .int .i64 1, .int .i64 0, .int .i64 1]⟩), (1, ⟨35, [.str (bA 83), .list 1 [[.str (bA 65)]], .nils, .sl 8 0 1 6, .list 12 [[.str (bA 81), .int .i64 2, .int .i64 0, .int .i64 0, .int .i64 0, .int .i64 0, .list 2 [[.int .i64 0, .int .i64 1]], .bool true, .int .i64 1, .int .i64 1, .int .i64 0, .int .i64 1]]]⟩)]) (by simp [HasE, St.pub, envL, upd, pubT, pubA, pubC]) (by
    refine ⟨⟨rfl, rfl, trivial⟩, fun k hk => ?_⟩
    have k8 : k ≠ 8 := blk_ne hk rfl
    have k1 : k ≠ 1 := blk_ne hk rfl
    by_cases k4 : k = 4
    · simp [St.pub, k4]
    · simp [St.pub, blkOf, k4, k8, k1])
  clear hs5 hm5
  obtain ⟨ro7, lam7, hs7, hm7⟩ := view_inE (View.pub 43 (key := 8) (blk := ⟨75, [.str (bA 71), .int .i64 1, .int .i64 0, .int .i64 1, .int .i64 0, .int .i64 1]⟩) rfl rfl) hs6 hm6
  replace hs7 := toL hs7 (L := [(1, .ptr 1 0)]) (bl := [(1, ⟨35, [.str (bA 83), .list 1 [[.str (bA 65)]], .nils, .list 6 [[.str (bA 71), .int .i64 1, .int .i64 0, .int .i64 1, .int .i64 0, .int .i64 1]], .list 12 [[.str (bA 81), .int .i64 2, .int .i64 0, .int .i64 0, .int .i64 0, .int .i64 0, .list 2 [[.int .i64 0, .int .i64 1]], .bool true, .int .i64 1, .int .i64 1, .int .i64 0, .int .i64 1]]]⟩)]) (by simp [HasE, St.pub, envL, upd, pubT, pubA, pubC]) (by
    refine ⟨⟨rfl, trivial⟩, fun k hk => ?_⟩
    have k1 : k ≠ 1 := blk_ne hk rfl
    by_cases k8 : k = 8
    · simp [St.pub, k8]
    · simp [St.pub, blkOf, k8, k1])
  clear hs6 hm6
  have p1 : R w3 ro7 lam7 (.ptr 1 0) (a3.tmps.getD 1 Go.undef) := hs7.env 1
  obtain ⟨b1', m1, l1, x1⟩ := p1.ptr_inv
  have hs8 := wkBlk hs7 (key := 1) (cs' := s0.cs) rfl l1 rfl (fun j c c' x hc hc' hx => by
    match j with
    | 0 => cases hc; cases hc'; exact hx
    | 1 => cases hc; cases hc'; exact hx
    | 2 =>
      cases hc; cases hc'
      have := hx.nils_inv
      subst this
      exact .pure _ _ (.list0 _ _ _)
    | 3 => cases hc; cases hc'; exact hx
    | 4 => cases hc; cases hc'; exact hx
    | j + 5 => simp [Stn.cs] at hc')
  have hX1 := s0_chk
  have hX2 := s0_ok
  have hX3 := s0_live
  have hX4 := s0_fed
  have hX5 := s0_bnd
  have hX6 := s0_cl
  generalize s0 = X at hs8 hX1 hX2 hX3 hX4 hX5 hX6
  replace hs8 := toL hs8 (L := [(1, .ptr 1 0)]) (bl := [(1, ⟨35, X.cs⟩)]) (by simp [HasE, envL, upd]) ⟨⟨rfl, trivial⟩, fun k hk => by
    have k1 : k ≠ 1 := blk_ne hk rfl
    simp [upd, blkOf, k1]⟩
  clear hs7 p1
  have hTn := Tnm_at hX1
  generalize normP X = P at hX2 hX3 hX4 hX5 hX6 hTn
  have hTl := Tlv_at (k := 1) (o := 0) hX2
  have hTf := Tfd_at (zs := [(1, 0)]) (i := 0) hX2 (by simp)
  have hTb := TBd_at (k := 1) (o := 0) hX2
  rw [hX3] at hTl
  rw [hX4] at hTf
  rw [hX5] at hTb
  have hcl : P.cl.length = 1 := by rw [hX6]; rfl
  clear hX1 hX2 hX3 hX4 hX5 hX6
  refine wpIn_mono (cw_inE (CW.of_cx (D := fun _ => none) G2_ok mixed _ (fun e t => e = .ret ∧ t.env 0 = .bool true) _ (by kernel_rfl) ?_) hs8 hm7) ?_
  · clear hs8 hm7
    simp only [List.map_cons, List.map_nil, nd2] at hTf
    simp only [List.map_cons, List.map_nil, i1] at hTb
    repeat' first
      | (with_reducible refine gw_bool (fun _ => ?_) (fun _ => ?_))
      | (with_reducible refine condw_bool (fun _ => ?_) (fun _ => ?_))
      | simp [*, envL, blkOf, Stn.cs, Pos.cs]
  rintro e a9 w9 ⟨s9, ro9, lam9, ⟨rfl, h9⟩, hs9, hm9⟩
  have h9' : a9.tmps.getD 0 Go.undef = .bool true := by
    have := hs9.env 0
    rw [h9] at this
    exact this.bool_inv
  exact MK.leave hm9 hro rfl h9' (fun _ _ => .bool _)
end Go.Proofs.Ytcbddoopmkhlfaa
