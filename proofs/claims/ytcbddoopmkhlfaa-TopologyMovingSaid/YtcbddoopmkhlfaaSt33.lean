/-
  Reaching a source: the whole function.
-/
import Derived.Test.YtcbddoopmkhlfaaSt32
namespace Go.Proofs.Ytcbddoopmkhlfaa
open Go.Pv Go.RowKit
set_option linter.unusedSimpArgs false
set_option linter.unusedVariables false
set_option maxRecDepth 100000
set_option maxHeartbeats 4000000
attribute [-simp] Tclo_at Tgrp_at Tchk Tpchk TcI TcB Tclo Tgrp Tsid Tnod Tlook Tbnd TsidA

def rPost (W0 : World) (ro0 : Nat → Prop) (b : Bool) (e : Ending) (w' : World) : Prop := ∃ rv ro', e = .returned rv ∧ Below W0.heap.size W0 w' ∧ (∀ b, ro0 b → ro' b) ∧ (∀ b, ro' b → ro0 b ∨ W0.heap.size ≤ b) ∧ (∀ b, ro' b → b < w'.heap.size) ∧ R0 w' ro' (.bool b) rv
/-- Between two rounds of the outer loop. -/
structure RI (W0 : World) (ro0 : Nat → Prop) (v : Vu) (o : Option (List Nd)) (b3 b5 b7 b8 b9 : Nat) (i : Nat) (Q : List Nd) (d : Nat) (a : Act) (w : World) : Prop where
  ex : ∃ Ds ro lam b10, Sim ⟨w, ownB lam, a.defers⟩ 56 ro lam ⟨envL (Lr b3 b5 b7 b8 b9 b10), blkOf (mainBl v o (fV b7 b5 b8) i Q)⟩ a w ∧ MK W0 ro0 Ds ro lam a w ∧ Ds.length = d
theorem RI.dlen {W0 : World} {ro0 : Nat → Prop} {v : Vu} {o : Option (List Nd)} {b3 b5 b7 b8 b9 i d : Nat} {Q : List Nd} {a : Act} {w : World} (h : RI W0 ro0 v o b3 b5 b7 b8 b9 i Q d a w) : a.defers.length = d := by
  obtain ⟨Ds, ro, lam, b10, _, hm, hl⟩ := h.ex
  rw [hm.dfs]; simp [marks, hl]
theorem cw_inE {n m : Nat} {c : Code} {Q : Exit → St → Prop} {st : St} (h : CW Try.prog n c Q st) {ro : Nat → Prop} {lam : Lam} {a : Act} {w : World} (hs : Sim ⟨w, ownB lam, a.defers⟩ n ro lam st a w) {W0 : World} {ro0 : Nat → Prop} {Ds : List Nat} (hm : MK W0 ro0 Ds ro lam a w) :
    c.wpIn Fence.wide m Try.prog (fun e a' w' => ∃ st' ro' lam', Q e st' ∧ Sim ⟨w', ownB lam', a'.defers⟩ n ro' lam' st' a' w' ∧ MK W0 ro0 Ds ro' lam' a' w') a w := by
  refine wpIn_mono (cw_in h hs) ?_
  rintro e a' w' ⟨st', ro', lam', hq, hx, hs'⟩
  exact ⟨st', ro', lam', hq, hs'.rebase, hm.step hs' hx⟩
theorem view_inE {n : Nat} {st st' : St} (hv : View n st st') {ro : Nat → Prop} {lam : Lam} {a : Act} {w : World} (hs : Sim ⟨w, ownB lam, a.defers⟩ n ro lam st a w) {W0 : World} {ro0 : Nat → Prop} {Ds : List Nat} (hm : MK W0 ro0 Ds ro lam a w) : ∃ ro' lam', Sim ⟨w, ownB lam', a.defers⟩ n ro' lam' st' a w ∧ MK W0 ro0 Ds ro' lam' a w := by
  obtain ⟨ro', lam', hx, hs'⟩ := hv _ _ _ _ _ hs
  exact ⟨ro', lam', hs'.rebase, hm.step hs' hx⟩
theorem heap_cons {h : Nat → Option Blk} {bl : List (Nat × Blk)} (hk : KeepBl h bl) (hn : ∀ k, blkOf bl k = none → h k = none) : HeapIs h bl := ⟨hk, hn⟩
theorem scr_vcs (v : Vu) (k : Nat) : v.cs.map (scrC k) = v.cs := scrC_cells (by rfl)
theorem scr_wo (o : Option (List Nd)) (k : Nat) : scrC k (woV o) = woV o := by cases o <;> rfl
theorem forget_main {n : Nat} {w0 : Base} {ro : Nat → Prop} {lam : Lam} {a : Act} {w : World} {v : Vu} {o : Option (List Nd)} {F : Value} {i : Nat} {Q : List Nd} {b3 b5 b7 b8 b9 b10 : Nat} {c2 : List V} {st : St} (hs : Sim w0 n ro lam st a w) (hE : HasE st.env (Lr b3 b5 b7 b8 b9 b10)) (hH : HeapIs st.heap ((12, ⟨58, c2⟩) :: mainBl v o F i Q)) :
    Sim w0 n ro (upd lam 12 none) ⟨envL (Lr b3 b5 b7 b8 b9 b10), blkOf (mainBl v o F i Q)⟩ a w := by
  refine toL ((toL hs hE hH).forget 12) ?_ ?_
  · simp [HasE, Lr, St.forget, envL, upd, scr]
  · refine ⟨?_, fun k hk => ?_⟩
    · refine ⟨?_, ?_, ?_, ?_, ?_, ?_, ?_, ?_, trivial⟩
      all_goals (cases o <;> simp [St.forget, blkOf, mainBl, subBl, woV, scrC, scr_vcs, ndC_scr])
    · obtain ⟨k3, k9, k10, k5, k7, k13, k8, k17⟩ := main_out hk
      by_cases k12 : k = 12
      · subst k12; simp [St.forget]
      · simp [St.forget, blkOf, mainBl, subBl, k12, k3, k9, k10, k5, k7, k13, k8, k17]
theorem rnd_at {o : Option (List Nd)} {c : Nd} {Q : List Nd} {i : Nat} {pre : List Ed} (h : Q[i]? = some c) : (rndF o c Q pre)[i]? = some c ∧ i < (rndF o c Q pre).length := by
  obtain ⟨t, ht, _⟩ := rnd_ext o c pre Q
  have hi := (List.getElem?_eq_some_iff.1 h).1
  rw [ht]
  exact ⟨by rw [List.getElem?_append_left hi]; exact h, by simp; omega⟩
theorem ndC_part {Q : List Nd} {i : Nat} {c : Nd} (h : Q[i]? = some c) : ((ndC Q).drop (i * 2)).take 2 = [.int .i64 c.1, .int .i64 c.2] := flat_part (sz := 2) (fun _ => rfl) Q i c h
theorem ndC_at0 {Q : List Nd} {i : Nat} {c : Nd} (h : Q[i]? = some c) : (ndC Q)[i * 2]? = some (.int .i64 c.1) := by
  have := ndC_part h
  have h2 : (((ndC Q).drop (i * 2)).take 2)[0]? = some (.int .i64 c.1) := by rw [this]; rfl
  simpa [List.getElem?_take, List.getElem?_drop] using h2
theorem reaches_ok (v : Vu) (o : Option (List Nd)) (f : Nd) (hw : wfG v.s v.p v.g.length = true) (hcl : v.p.cl.length = v.s.qs.length) (hn : v.s.qs.length ≤ 16) : PCall Try.prog 52 [.agg v.cs, .agg [.int .i64 f.1, .int .i64 f.2], woV o] (.bool (reachF o (edg v) f)) := by
  have hE16 : (edg v).length ≤ 16 := by
    have := edN_len v v.p.cl.length
    unfold edg; omega
  obtain ⟨E, hEE⟩ : ∃ E, edg v = E := ⟨_, rfl⟩
  obtain ⟨RR, hR⟩ : ∃ RR, reachF o E f = RR := ⟨_, rfl⟩
  rw [hEE] at hE16 ⊢
  rw [hR]
  intro W0 ro0 args hro hsz hr
  have hs0 := sim_ini (n := 56) hro hsz (by simp) hr
  refine callsIn_wide.1 (callsIn_of_wp_marks (n := 0) Try.func52 rfl trivial ?_ rfl)
  rw [Try.ntmps52]
  have hm0 : MK W0 ro0 [] ro0 (fun _ => none) { tmps := args ++ Array.replicate (56 - args.size) Go.undef, defers := [] } W0 :=
    ⟨rfl, List.nodup_nil, fun D hD => (by simp at hD), Below.refl _ _, fun b ⟨k, hk⟩ => (by rcases hk with ⟨_, hk⟩ | hk <;> cases hk), fun _ h => h, fun _ h => .inl h⟩
  have hs0' := hs0.rebase
  clear hs0
  obtain ⟨A0, hA0⟩ : ∃ A0 : Act, { tmps := args ++ Array.replicate (56 - args.size) Go.undef, defers := [] } = A0 := ⟨_, rfl⟩
  rw [hA0] at hm0 hs0' ⊢
  -- the boxes
  refine wpIn_seq (wpIn_mono (cw_inE (CW.of_cx (D := fun _ => none) noTab_ok mixed _ (fun e s => e = .normal ∧ HasE s.env [(3, .ptr 3 0), (4, .ptr 4 0), (5, .ptr 5 0)] ∧ HeapIs s.heap [(3, ⟨81, v.cs⟩), (4, ⟨57, [.int .i64 f.1, .int .i64 f.2]⟩), (5, ⟨84, [woV o]⟩)]) _ (by kernel_rfl) ?_) hs0' hm0) ?_)
  · clear hs0' hm0 hr hA0
    cases o
    all_goals
      repeat' first
        | (with_reducible refine gw_bool (fun _ => ?_) (fun _ => ?_))
        | (with_reducible refine condw_bool (fun _ => ?_) (fun _ => ?_))
        | simp [*, Vu.cs, woV, HasE]
    all_goals
      refine ⟨by simp [KeepBl], fun k hk => ?_⟩
      have k3 : k ≠ 3 := blk_ne hk rfl
      have k4 : k ≠ 4 := blk_ne hk rfl
      have k5 : k ≠ 5 := blk_ne hk rfl
      simp [k3, k4, k5]
  rintro e a1 w1 ⟨s1, ro1, lam1, ⟨rfl, hE1, hH1⟩, hs1, hm1⟩
  replace hs1 := toL hs1 hE1 hH1
  clear hs0' hm0 hE1 hH1
  refine wpIn_seq (wpIn_mono (cw_inE (CW.of_cx (D := fun _ => none) noTab_ok mixed _ (fun e s => e = .normal ∧ HasE s.env [(3, .ptr 3 0), (4, .ptr 4 0), (5, .ptr 5 0), (7, .ptr 7 0)] ∧ HeapIs s.heap [(3, ⟨81, v.cs⟩), (4, ⟨57, [.int .i64 f.1, .int .i64 f.2]⟩), (5, ⟨84, [woV o]⟩), (13, ⟨84, [nodK f]⟩), (7, ⟨84, [.mp 13]⟩)]) _ (by kernel_rfl) ?_) hs1 hm1) ?_)
  · clear hs1 hm1 hr hA0
    have hf0 : findN [] f.1 f.2 = some false := rfl
    cases o
    all_goals
      repeat' first
        | (with_reducible refine gw_bool (fun _ => ?_) (fun _ => ?_))
        | (with_reducible refine condw_bool (fun _ => ?_) (fun _ => ?_))
        | simp [*, woV, HasE, envL, blkOf]
    all_goals
      refine ⟨by simp [KeepBl, blkOf], fun k hk => ?_⟩
      have k3 : k ≠ 3 := blk_ne hk rfl
      have k4 : k ≠ 4 := blk_ne hk rfl
      have k5 : k ≠ 5 := blk_ne hk rfl
      have k7 : k ≠ 7 := blk_ne hk rfl
      have k13 : k ≠ 13 := blk_ne hk rfl
      simp [k3, k4, k5, k7, k13, blkOf]
  rintro e a2 w2 ⟨s2, ro2, lam2, ⟨rfl, hE2, hH2⟩, hs2, hm2⟩
  replace hs2 := toL hs2 hE2 hH2
  clear hs1 hm1 hE2 hH2
  refine wpIn_seq (wpIn_mono (cw_inE (CW.of_cx (D := fun _ => none) noTab_ok mixed _ (fun e s => e = .normal ∧ HasE s.env [(3, .ptr 3 0), (5, .ptr 5 0), (7, .ptr 7 0), (8, .ptr 8 0)] ∧ HeapIs s.heap ((4, ⟨57, [.int .i64 f.1, .int .i64 f.2]⟩) :: (3, ⟨81, v.cs⟩) :: subBl o [f])) _ (by kernel_rfl) ?_) hs2 hm2) ?_)
  · clear hs2 hm2 hr hA0
    cases o
    all_goals
      repeat' first
        | (with_reducible refine gw_bool (fun _ => ?_) (fun _ => ?_))
        | (with_reducible refine condw_bool (fun _ => ?_) (fun _ => ?_))
        | simp [*, woV, HasE, envL, blkOf]
    all_goals
      refine ⟨by simp [KeepBl, blkOf, subBl, ndC, nd2, woV], fun k hk => ?_⟩
      have k3 : k ≠ 3 := blk_ne hk rfl
      have k4 : k ≠ 4 := blk_ne hk rfl
      have k5 : k ≠ 5 := blk_ne hk rfl
      have k7 : k ≠ 7 := blk_ne hk rfl
      have k13 : k ≠ 13 := blk_ne hk rfl
      have k8 : k ≠ 8 := blk_ne hk rfl
      have k17 : k ≠ 17 := blk_ne hk rfl
      simp [k3, k4, k5, k7, k13, k8, k17, blkOf]
  rintro e a3 w3 ⟨s3, ro3, lam3, ⟨rfl, hE3, hH3⟩, hs3, hm3⟩
  replace hs3 := toL hs3 hE3 hH3
  clear hs2 hm2 hE3 hH3
  -- the closure
  have p7 : R w3 ro3 lam3 (.ptr 7 0) (a3.tmps.getD 7 Go.undef) := hs3.env 7
  have p5 : R w3 ro3 lam3 (.ptr 5 0) (a3.tmps.getD 5 Go.undef) := hs3.env 5
  have p8 : R w3 ro3 lam3 (.ptr 8 0) (a3.tmps.getD 8 Go.undef) := hs3.env 8
  have p3 : R w3 ro3 lam3 (.ptr 3 0) (a3.tmps.getD 3 Go.undef) := hs3.env 3
  obtain ⟨b7, m7, l7, x7⟩ := p7.ptr_inv
  obtain ⟨b5, m5, l5, x5⟩ := p5.ptr_inv
  obtain ⟨b8, m8, l8, x8⟩ := p8.ptr_inv
  obtain ⟨b3, m3, l3, x3⟩ := p3.ptr_inv
  have hs4 := hs3.env' (e := envL [(3, .vptr b3 3 0), (5, .vptr b5 5 0), (7, .vptr b7 7 0), (8, .vptr b8 8 0)]) (fun t => by
    simp only [envL]
    by_cases h3 : t = 3
    · subst h3; rw [upd_same, x3]; exact .vptr 3 0 b3 m3 l3
    · rw [upd_ne _ _ h3]
      by_cases h5 : t = 5
      · subst h5; rw [upd_same, x5]; exact .vptr 5 0 b5 m5 l5
      · rw [upd_ne _ _ h5]
        by_cases h7 : t = 7
        · subst h7; rw [upd_same, x7]; exact .vptr 7 0 b7 m7 l7
        · rw [upd_ne _ _ h7]
          by_cases h8 : t = 8
          · subst h8; rw [upd_same, x8]; exact .vptr 8 0 b8 m8 l8
          · rw [upd_ne _ _ h8]; exact .pure _ _ (.junk _))
  clear hs3 p7 p5 p8 p3
  refine wpIn_seq ?_
  refine wpIn_region_list ?_
  refine wpListIn_plain rfl fun K hK => mkfunc_in rfl (hK _ _ ?_)
  have hev : (#[Operand.tmp 7, .tmp 5, .tmp 8] : Array Operand).map a3.eval = #[.pointer (some ⟨b7, 0, none⟩), .pointer (some ⟨b5, 0, none⟩), .pointer (some ⟨b8, 0, none⟩)] := by
    simp only [List.map_toArray, List.map_cons, List.map_nil]
    show #[a3.tmps.getD 7 Go.undef, a3.tmps.getD 5 Go.undef, a3.tmps.getD 8 Go.undef] = _
    rw [x7, x5, x8]
  rw [hev]
  show wpListIn _ _ _ _ _ _ (a3.put (some 18) (fV b7 b5 b8)) w3
  have hs5 : Sim ⟨w3, ownB lam3, (a3.put (some 18) (fV b7 b5 b8)).defers⟩ 56 ro3 lam3 _ (a3.put (some 18) (fV b7 b5 b8)) w3 := hs4.put (d := some 18) (v := .val (fV b7 b5 b8)) (by decide) (.pure _ _ (.val _))
  have hm5 : MK W0 ro0 [] ro3 lam3 (a3.put (some 18) (fV b7 b5 b8)) w3 := ⟨hm3.dfs, hm3.nd, hm3.at', hm3.kept, hm3.own, hm3.up, hm3.dn⟩
  clear hK
  refine eg_inE (rest := []) noTab_ok (K := fun s => HasE s.env [(3, .vptr b3 3 0), (5, .vptr b5 5 0), (7, .vptr b7 7 0), (8, .vptr b8 8 0), (9, .ptr 9 0)] ∧ HeapIs s.heap ((9, ⟨123, [.val (fV b7 b5 b8)]⟩) :: (4, ⟨57, [.int .i64 f.1, .int .i64 f.2]⟩) :: (3, ⟨81, v.cs⟩) :: subBl o [f])) [_, _] _ _ _ _ _ (by kernel_rfl) ?_ hs5 ?_
  · clear hs4 hs5 hm5 hm3 hr hA0
    repeat' first
      | (with_reducible refine gw_bool (fun _ => ?_) (fun _ => ?_))
      | (with_reducible refine condw_bool (fun _ => ?_) (fun _ => ?_))
      | simp [*, HasE, envL, St.put, blkOf, subBl, fV]
    refine ⟨by simp [KeepBl, blkOf, subBl], fun k hk => ?_⟩
    have k9 : k ≠ 9 := blk_ne hk rfl
    have k3 : k ≠ 3 := blk_ne hk rfl
    have k4 : k ≠ 4 := blk_ne hk rfl
    have k5 : k ≠ 5 := blk_ne hk rfl
    have k7 : k ≠ 7 := blk_ne hk rfl
    have k13 : k ≠ 13 := blk_ne hk rfl
    have k8 : k ≠ 8 := blk_ne hk rfl
    have k17 : k ≠ 17 := blk_ne hk rfl
    simp [k9, k3, k4, k5, k7, k13, k8, k17, blkOf, subBl]
  rintro s6 a6 ro6 lam6 w6 ⟨hE6, hH6⟩ hx6 hs6
  have hm6 := hm5.step hs6 hx6
  replace hs6 := toL hs6.rebase hE6 hH6
  clear hs4 hs5 hm5 hm3 hE6 hH6 hx6
  obtain ⟨ro7, lam7, hs7, hm7⟩ := view_inE (View.forget 56 _ 4) hs6 hm6
  replace hs7 := toL hs7 (L := [(3, .vptr b3 3 0), (5, .vptr b5 5 0), (7, .vptr b7 7 0), (8, .vptr b8 8 0), (9, .ptr 9 0)]) (bl := (9, ⟨123, [.val (fV b7 b5 b8)]⟩) :: (3, ⟨81, v.cs⟩) :: subBl o [f]) (by simp [HasE, St.forget, envL, upd, scr]) (by
    refine ⟨?_, fun k hk => ?_⟩
    · refine ⟨?_, ?_, ?_, ?_, ?_, ?_, ?_, trivial⟩
      all_goals (cases o <;> simp [St.forget, blkOf, subBl, woV, scrC, scr_vcs, ndC_scr, nodK])
    · have k9 : k ≠ 9 := blk_ne hk rfl
      have k3 : k ≠ 3 := blk_ne hk rfl
      have k5 : k ≠ 5 := blk_ne hk rfl
      have k7 : k ≠ 7 := blk_ne hk rfl
      have k13 : k ≠ 13 := blk_ne hk rfl
      have k8 : k ≠ 8 := blk_ne hk rfl
      have k17 : k ≠ 17 := blk_ne hk rfl
      by_cases k4 : k = 4
      · subst k4; simp [St.forget]
      · simp [St.forget, blkOf, subBl, k4, k9, k3, k5, k7, k13, k8, k17])
  clear hs6 hm6
  have p9 : R w6 ro7 lam7 (.ptr 9 0) (a6.tmps.getD 9 Go.undef) := hs7.env 9
  obtain ⟨b9, m9, l9, x9⟩ := p9.ptr_inv
  have y3 : R w6 ro7 lam7 (.vptr b3 3 0) (a6.tmps.getD 3 Go.undef) := hs7.env 3
  have y5 : R w6 ro7 lam7 (.vptr b5 5 0) (a6.tmps.getD 5 Go.undef) := hs7.env 5
  have y7 : R w6 ro7 lam7 (.vptr b7 7 0) (a6.tmps.getD 7 Go.undef) := hs7.env 7
  have y8 : R w6 ro7 lam7 (.vptr b8 8 0) (a6.tmps.getD 8 Go.undef) := hs7.env 8
  replace hs7 := hs7.env' (e := envL [(3, .vptr b3 3 0), (5, .vptr b5 5 0), (7, .vptr b7 7 0), (8, .vptr b8 8 0), (9, .vptr b9 9 0)]) (fun t => by
    simp only [envL]
    by_cases h3 : t = 3
    · subst h3; rw [upd_same]; exact y3
    · rw [upd_ne _ _ h3]
      by_cases h5 : t = 5
      · subst h5; rw [upd_same]; exact y5
      · rw [upd_ne _ _ h5]
        by_cases h7 : t = 7
        · subst h7; rw [upd_same]; exact y7
        · rw [upd_ne _ _ h7]
          by_cases h8 : t = 8
          · subst h8; rw [upd_same]; exact y8
          · rw [upd_ne _ _ h8]
            by_cases h9 : t = 9
            · subst h9; rw [upd_same, x9]; exact .vptr 9 0 b9 m9 l9
            · rw [upd_ne _ _ h9]; exact .pure _ _ (.junk _))
  clear p9 y3 y5 y7 y8
  -- a fresh box for the index gives the loop's state
  have mkRI : ∀ (i : Nat) (Q : List Nd) (Ds : List Nat) (ro : Nat → Prop) (lam : Lam) (a : Act) (w : World) (s : St), Sim ⟨w, ownB lam, a.defers⟩ 56 ro lam s a w → MK W0 ro0 Ds ro lam a w → HasE s.env [(3, .vptr b3 3 0), (5, .vptr b5 5 0), (7, .vptr b7 7 0), (8, .vptr b8 8 0), (9, .vptr b9 9 0), (10, .ptr 10 0)] → HeapIs s.heap (mainBl v o (fV b7 b5 b8) i Q) → RI W0 ro0 v o b3 b5 b7 b8 b9 i Q Ds.length a w := by
    intro i Q Ds ro lam a w s hs hm hE hH
    replace hs := toL hs hE hH
    have p10 : R w ro lam (.ptr 10 0) (a.tmps.getD 10 Go.undef) := hs.env 10
    obtain ⟨b10, m10, l10, x10⟩ := p10.ptr_inv
    refine ⟨Ds, ro, lam, b10, hs.env' (fun t => ?_), hm, rfl⟩
    have ht := hs.env t
    simp only [Lr, envL] at ht ⊢
    by_cases h3 : t = 3
    · subst h3; exact ht
    · rw [upd_ne _ _ h3] at ht ⊢
      by_cases h5 : t = 5
      · subst h5; exact ht
      · rw [upd_ne _ _ h5] at ht ⊢
        by_cases h7 : t = 7
        · subst h7; exact ht
        · rw [upd_ne _ _ h7] at ht ⊢
          by_cases h8 : t = 8
          · subst h8; exact ht
          · rw [upd_ne _ _ h8] at ht ⊢
            by_cases h9 : t = 9
            · subst h9; exact ht
            · rw [upd_ne _ _ h9] at ht ⊢
              by_cases h10 : t = 10
              · subst h10; rw [upd_same, x10]; exact .vptr 10 0 b10 m10 l10
              · rw [upd_ne _ _ h10]; exact .pure _ _ (.junk _)
  refine wpIn_seq (wpIn_mono (Q := fun e a w => (e = .normal ∧ RR = false ∧ ∃ Ds ro lam s, Sim ⟨w, ownB lam, a.defers⟩ 56 ro lam s a w ∧ MK W0 ro0 Ds ro lam a w) ∨ (e = .ret ∧ bodyPostM Fence.wide 0 Try.prog Try.f52 (rPost W0 ro0 RR) .ret a w)) ?_ ?_)
  · refine wpIn_seq (wpIn_mono (cw_inE (CW.of_cx (D := fun _ => none) noTab_ok mixed _ (fun e s => e = .normal ∧ HasE s.env [(3, .vptr b3 3 0), (5, .vptr b5 5 0), (7, .vptr b7 7 0), (8, .vptr b8 8 0), (9, .vptr b9 9 0), (10, .ptr 10 0)] ∧ HeapIs s.heap (mainBl v o (fV b7 b5 b8) 0 [f])) _ (by kernel_rfl) ?_) hs7 hm7) ?_)
    · clear hs7 hm7 hr hA0 mkRI
      repeat' first
        | (with_reducible refine gw_bool (fun _ => ?_) (fun _ => ?_))
        | (with_reducible refine condw_bool (fun _ => ?_) (fun _ => ?_))
        | simp [*, HasE, envL, blkOf, subBl]
      refine ⟨by simp [KeepBl, blkOf, subBl, mainBl], fun k hk => ?_⟩
      obtain ⟨k3, k9, k10, k5, k7, k13, k8, k17⟩ := main_out hk
      simp [k9, k3, k10, k5, k7, k13, k8, k17, blkOf, subBl]
    rintro e a8 w8 ⟨s8, ro8, lam8, ⟨rfl, hE8, hH8⟩, hs8, hm8⟩
    have hri := mkRI 0 [f] [] ro8 lam8 a8 w8 s8 hs8 hm8 hE8 hH8
    clear hs7 hm7 hs8 hm8 hE8 hH8
    refine wpIn_block ?_
    refine wpIn_loop (fun a w => ∃ i Q, RI W0 ro0 v o b3 b5 b7 b8 b9 i Q i a w ∧ i ≤ Q.length ∧ bfs o E (100 - i) i Q = RR ∧ QI E f Q) (fun a _ => 101 - a.defers.length) ⟨0, [f], hri, by simp, hR, ⟨by simp, fun n hn => by simp at hn; simp [hn]⟩⟩ ?_
    clear hri
    rintro a w ⟨i, Q, hri, hiQ, hbf, hqi⟩
    have hdl := hri.dlen
    obtain ⟨Ds, ro, lam, b10, hs, hm, hDs⟩ := hri.ex
    have hQl : Q.length ≤ 33 := by have := hqi.len; omega
    have hQi : Q.length ≤ 9223372036854775807 := by omega
    obtain ⟨qn, hqn⟩ : ∃ n, Q.length = n := ⟨_, rfl⟩
    have w1 : IntKind.i64.wrap ((i : Int) + 1) = ((i + 1 : Nat) : Int) := wrap_succ (by omega)
    have hfu : 100 - i = (99 - i) + 1 := by omega
    rw [hfu] at hbf
    by_cases hlt : i < qn
    · obtain ⟨c, hc, -⟩ := at_ex (l := Q) (i := i) (by omega)
      simp only [bfs, hc] at hbf
      have f1 : ilt (i : Int) (qn : Int) = true := ilt_t (by omega)
      refine wpIn_seq (wpIn_mono (cw_inE (CW.of_cx (D := fun _ => none) noTab_ok mixed _ (fun e s => e = .normal ∧ HasE s.env (Lr b3 b5 b7 b8 b9 b10) ∧ HeapIs s.heap (mainBl v o (fV b7 b5 b8) i Q)) _ (by kernel_rfl) ?_) hs hm) ?_)
      · clear hs hm hr hA0 mkRI hri hbf hqi
        repeat' first
          | (with_reducible refine gw_bool (fun _ => ?_) (fun _ => ?_))
          | (with_reducible refine condw_bool (fun _ => ?_) (fun _ => ?_))
          | simp [*, HasE, envL, blkOf, subBl, mainBl, Lr]
        exact ⟨by simp [KeepBl, blkOf], fun k hk => hk⟩
      rintro e a1 w1' ⟨s1, ro1, lam1, ⟨rfl, hE1, hH1⟩, hs1, hm1⟩
      replace hs1 := toL hs1 hE1 hH1
      clear hs hm hE1 hH1
      refine wpIn_seq (wpIn_mono (wpIn_block (Q := fun e a' w' => (e = .normal ∧ ieq c.1 3 = false ∧ ∃ Ds' ro lam, Sim ⟨w', ownB lam, a'.defers⟩ 56 ro lam ⟨envL (Lr b3 b5 b7 b8 b9 b10), blkOf (mainBl v o (fV b7 b5 b8) i (rndF o c Q E))⟩ a' w' ∧ MK W0 ro0 Ds' ro lam a' w' ∧ Ds'.length = i + 1) ∨ (e = .ret ∧ bodyPostM Fence.wide 0 Try.prog Try.f52 (rPost W0 ro0 RR) .ret a' w')) ?_) ?_)
      · have hat0 := ndC_at0 hc
        have hat1 : ∀ h : i * 2 < (ndC Q).length, (ndC Q)[i * 2] = .int .i64 c.1 := fun h => by rw [List.getElem?_eq_getElem h] at hat0; exact Option.some.inj hat0
        have hprt := ndC_part hc
        have hi2 : i * 2 < qn * 2 := by omega
        have hi3 : i * 2 + 2 ≤ qn * 2 := by omega
        have hci : (i : Int) < (qn : Int) := by omega
        refine wpIn_seq ?_
        cases q3 : ieq c.1 3
        case true =>
          rw [q3, if_pos rfl] at hbf
          refine wpIn_mono (cw_inE (CW.of_cx (D := fun _ => none) noTab_ok mixed _ (fun e s => e = .ret ∧ s.env 6 = .bool true) _ (by kernel_rfl) ?_) hs1 hm1) ?_
          · clear hs1 hm1 hr hA0 mkRI hri hbf hqi
            repeat' first
              | (with_reducible refine gw_bool (fun _ => ?_) (fun _ => ?_))
              | (with_reducible refine condw_bool (fun _ => ?_) (fun _ => ?_))
              | simp [*, HasE, envL, blkOf, subBl, mainBl, Lr]
          rintro e a2 w2 ⟨s2, ro2, lam2, ⟨rfl, h6⟩, hs2, hm2⟩
          refine .inr ⟨rfl, ?_⟩
          have h6' : a2.tmps.getD 6 Go.undef = .bool true := by
            have := hs2.env 6
            rw [h6] at this
            exact this.bool_inv
          have hRt : RR = true := hbf.symm
          rw [hRt]
          exact MK.leave hm2 hro rfl h6' (fun _ _ => .bool _)
        rw [q3, if_neg (by simp)] at hbf
        refine wpIn_mono (cw_inE (CW.of_cx (D := fun _ => none) noTab_ok mixed _ (fun e s => e = .normal ∧ HasE s.env (Lr b3 b5 b7 b8 b9 b10) ∧ HeapIs s.heap (mainBl v o (fV b7 b5 b8) i Q)) _ (by kernel_rfl) ?_) hs1 hm1) ?_
        · clear hs1 hm1 hr hA0 mkRI hri hbf hqi
          repeat' first
            | (with_reducible refine gw_bool (fun _ => ?_) (fun _ => ?_))
            | (with_reducible refine condw_bool (fun _ => ?_) (fun _ => ?_))
            | simp [*, HasE, envL, blkOf, subBl, mainBl, Lr]
          exact ⟨by simp [KeepBl, blkOf], fun k hk => hk⟩
        rintro e a2 w2 ⟨s2, ro2, lam2, ⟨rfl, hE2, hH2⟩, hs2, hm2⟩
        replace hs2 := toL hs2 hE2 hH2
        clear hs1 hm1 hE2 hH2
        refine wpIn_seq ?_
        refine wpIn_region_list ?_
        rw [← List.take_append_drop 1 (Array.toList _)]
        refine eg_inE noTab_ok (K := fun s => HasE s.env ((31, .agg v.cs) :: Lr b3 b5 b7 b8 b9 b10) ∧ HeapIs s.heap (mainBl v o (fV b7 b5 b8) i Q)) _ _ _ _ _ _ (by kernel_rfl) ?_ hs2 ?_
        · clear hs2 hm2 hr hA0 mkRI hri hbf hqi
          repeat' first
            | (with_reducible refine gw_bool (fun _ => ?_) (fun _ => ?_))
            | (with_reducible refine condw_bool (fun _ => ?_) (fun _ => ?_))
            | simp [*, HasE, envL, blkOf, subBl, mainBl, Lr, Vu.cs]
          exact ⟨by simp [KeepBl, blkOf], fun k hk => hk⟩
        rintro s3 a3' ro3' lam3' w3' ⟨hE3, hH3⟩ hx3 hs3'
        have hm3' := hm2.step hs3' hx3
        replace hs3' := toL hs3'.rebase hE3 hH3
        clear hs2 hm2 hE3 hH3 hx3
        refine wpListIn_plain rfl fun K hK => oper_in (call_wp rfl (by kernel_rfl) ?_)
        have hV : R w3' ro3' lam3' (.agg v.cs) (a3'.tmps.getD 31 Go.undef) := hs3'.env 31
        have hmap : (#[Operand.tmp 31] : Array Operand).map a3'.eval = #[a3'.tmps.getD 31 Go.undef] := by
          simp only [List.map_toArray, List.map_cons, List.map_nil]; rfl
        rw [hmap]
        refine (edges_ok v w3' ro3' _ hs3'.rolt (hV.pureA rfl)).mono ?_
        rintro e w4 ⟨bE, ro4, rfl, hb4, hup, hdn, hlt4, hv4⟩
        refine ⟨_, rfl, hK _ _ ?_⟩
        clear hK
        obtain ⟨F2, hF2⟩ : ∃ F2 : Value, F2 = .func (.func 85) #[] #[.pointer (some ⟨bE, 0, none⟩)] := ⟨_, rfl⟩
        rw [← hF2]
        have hs4 : Sim ⟨w4, ownB lam3', (a3'.put (some 32) F2).defers⟩ 56 ro4 lam3' _ (a3'.put (some 32) F2) w4 := (((hs3'.world hb4).more hup hlt4 (fun key b mm hl hb => by
            rcases hdn b hb with h | h
            · exact (hs3'.own key b mm hl).2.2 h
            · have := (hs3'.own key b mm hl).2.1; omega) (fun key b hl hb => by
            rcases hdn b hb with h | h
            · exact (hs3'.maps key b hl).1.2.2 h
            · have := (hs3'.maps key b hl).1.2.1; omega)).put (d := some 32) (v := .val F2) (by decide) (.pure _ _ (.val _))).rebase
        have hm4 : MK W0 ro0 Ds ro4 lam3' (a3'.put (some 32) F2) w4 := hm3'.move rfl ((Base.Keeps.refl _ _ _).after hb4) ⟨hup, fun b hb => (hdn b hb).imp id .inr⟩ (fun b hb => .inl hb)
        obtain ⟨a4, ha4⟩ : ∃ a4, a3'.put (some 32) F2 = a4 := ⟨_, rfl⟩
        rw [ha4] at hs4 hm4 ⊢
        replace hs4 := toL hs4 (L := (32, .val F2) :: Lr b3 b5 b7 b8 b9 b10) (bl := mainBl v o (fV b7 b5 b8) i Q) (by simp [HasE, St.put, envL, upd, Lr]) ⟨by simp [St.put, KeepBl, blkOf, mainBl, subBl], fun k hk => hk⟩
        have hg4 : a4.eval (.tmp 32) = F2 := getD_val (show R w4 ro4 lam3' (.val F2) _ from hs4.env 32)
        have hz4 : 56 ≤ a4.tmps.size := hs4.size
        clear hs3' hm3' hV hmap
        have hset : ∀ x : Ed, setPs #[33, 34] x.arr a4.tmps = (a4.tmps.setIfInBounds 33 (.int .i64 x.i)).setIfInBounds 34 (.agg #[.int .i64 x.a0, .int .i64 x.a1, .int .i64 x.c0, .int .i64 x.c1]) := fun x => by simp [setPs, Ed.arr]
        refine wpIn_block ?_
        refine range_in hs4 (hg4.trans hF2) (callFunc_run (by kernel_rfl)) (encs := Ed.arr) (xs := edg v) (fun _ => rfl) (it_ok v _ ro4 w4 hlt4 hw hcl hv4) ?_ (fun pre h => HeapIs h (mainBl v o (fV b7 b5 b8) i (rndF o c Q pre))) (fun _ _ _ => False) ⟨by simp [KeepBl, blkOf, mainBl, subBl, rndF], fun k hk => hk⟩ (fun x => envL ((34, .agg x.ns) :: (32, .val F2) :: Lr b3 b5 b7 b8 b9 b10)) ?_ ?_ ?_ ?_ ?_
        · intro t
          show stays (envL ((32, .val F2) :: Lr b3 b5 b7 b8 b9 b10) t) = true
          simp only [envL, Lr, upd]
          repeat' (split; · rfl)
          rfl
        · intro x ro' lam' W hRR t
          rw [hset x]
          simp only [envL]
          by_cases ht : t = 34
          · subst ht
            rw [upd_same, Array.getD_eq_getD_getElem?, Array.getElem?_setIfInBounds, if_pos rfl, if_pos (by simp; omega)]
            refine .pure _ _ (.agg _ _ rfl fun j c y hc hy => ?_)
            match j with
            | 0 => simp [Ed.ns] at hc hy; subst hc; subst hy; exact .int _ _
            | 1 => simp [Ed.ns] at hc hy; subst hc; subst hy; exact .int _ _
            | 2 => simp [Ed.ns] at hc hy; subst hc; subst hy; exact .int _ _
            | 3 => simp [Ed.ns] at hc hy; subst hc; subst hy; exact .int _ _
            | j + 4 => simp [Ed.ns] at hc
          · rw [upd_ne _ _ ht]
            by_cases ht3 : t = 33
            · subst ht3; simp only [Lr, envL, upd]; exact .pure _ _ (.junk _)
            · have := hRR t
              rw [Array.getD_eq_getD_getElem?, Array.getElem?_setIfInBounds, if_neg (fun e => ht e.symm), Array.getElem?_setIfInBounds, if_neg (fun e => ht3 e.symm), ← Array.getD_eq_getD_getElem?]
              exact this
        · intro x; rw [hset x]; simp
        · intro pre x h hI hplt
          rw [hEE] at hplt
          obtain ⟨hQi', hQil⟩ := rnd_at (o := o) (pre := pre) hc
          obtain ⟨tt, htt, htl⟩ := rnd_ext o c pre Q
          have hQ9 : (rndF o c Q pre).length ≤ 1000 := by rw [htt]; simp; omega
          have hnext := rnd_snoc o c Q pre x
          clear htt htl hat0 hat1 hprt
          generalize rndF o c Q pre = Q' at hI hQi' hQil hQ9 hnext
          have hprt := ndC_part hQi'
          obtain ⟨qm, hqm⟩ : ∃ n, Q'.length = n := ⟨_, rfl⟩
          have hci' : (i : Int) < (qm : Int) := by omega
          have hi3' : i * 2 + 2 ≤ qm * 2 := by omega
          have hheq := hI.eq
          subst hheq
          clear hs4 hm4 hr hA0 mkRI hri hbf hqi hset hv4 hI
          refine (CWR.of_cx (D := fun _ => none) noTab_ok _ (fun e s => e = .normal ∧ HasE s.env ((12, .ptr 12 0) :: Lr b3 b5 b7 b8 b9 b10) ∧ HeapIs s.heap ((12, ⟨58, x.ns⟩) :: mainBl v o (fV b7 b5 b8) i Q')) _ (by kernel_rfl) ?_).mono ?_
          · skip
            repeat' first
              | (with_reducible refine gw_bool (fun _ => ?_) (fun _ => ?_))
              | (with_reducible refine condw_bool (fun _ => ?_) (fun _ => ?_))
              | simp [*, HasE, envL, blkOf, subBl, mainBl, Lr, Ed.ns]
            refine ⟨by simp [KeepBl, blkOf], fun k hk => ?_⟩
            have k12 : k ≠ 12 := blk_ne hk rfl
            simp only [blkOf, if_neg k12] at hk
            simp [k12, blkOf, hk]
            try exact hk
          rintro e s ⟨rfl, hE, hH⟩
          refine ⟨rfl, ?_⟩
          intro l m w0 ro lam a w hs
          replace hs := toL hs hE hH
          clear hE hH
          have fin : ∀ (Q2 : List Nd) (ro' : Nat → Prop) (lam' : Lam) (s' : St) (a' : Act) (w' : World), Q2 = edv o c Q' x → Ext w0 ro ro' → Sim w0 56 ro' lam' s' a' w' → HasE s'.env (Lr b3 b5 b7 b8 b9 b10) → HeapIs s'.heap ((12, ⟨58, x.ns⟩) :: mainBl v o (fV b7 b5 b8) i Q2) →
              ∃ st' ro' lam', Rp 56 (fun pre h => HeapIs h (mainBl v o (fV b7 b5 b8) i (rndF o c Q pre))) (fun _ _ _ => False) (pre ++ [x]) (envL ((32, .val F2) :: Lr b3 b5 b7 b8 b9 b10)) .normal st' ∧ Ext w0 ro ro' ∧ Sim w0 56 ro' lam' st' a' w' := by
            intro Q2 ro' lam' s' a' w' hQ2 hx hs' hE' hH'
            have hf := forget_main hs' hE' hH'
            refine ⟨_, ro', _, ⟨_, View.refl _ _, fun t ht => ?_, ?_⟩, hx, hf⟩
            · show envL (Lr b3 b5 b7 b8 b9 b10) t = envL ((32, .val F2) :: Lr b3 b5 b7 b8 b9 b10) t
              have ht' : isVp (envL ((32, .val F2) :: Lr b3 b5 b7 b8 b9 b10) t) = true := ht
              by_cases h32 : t = 32
              · subst h32; simp [envL, upd, isVp] at ht'
              · simp [envL, upd, h32]
            · show HeapIs (blkOf (mainBl v o (fV b7 b5 b8) i Q2)) (mainBl v o (fV b7 b5 b8) i (rndF o c Q (pre ++ [x])))
              rw [hnext, hQ2]
              exact ⟨by simp [KeepBl, blkOf, mainBl, subBl], fun k hk => hk⟩
          refine wpIn_block ?_
          refine wpIn_seq (wpIn_mono (CWR.of_cx (D := fun _ => none) noTab_ok _ (fun e s => e = .normal ∧ HasE s.env ((38, .agg [.int .i64 c.1, .int .i64 c.2]) :: (12, .ptr 12 0) :: Lr b3 b5 b7 b8 b9 b10) ∧ HeapIs s.heap ((12, ⟨58, x.ns⟩) :: mainBl v o (fV b7 b5 b8) i Q')) _ (by kernel_rfl) ?_ l m w0 ro lam a w hs) ?_)
          · clear hs fin
            repeat' first
              | (with_reducible refine gw_bool (fun _ => ?_) (fun _ => ?_))
              | (with_reducible refine condw_bool (fun _ => ?_) (fun _ => ?_))
              | simp [*, HasE, envL, blkOf, subBl, mainBl, Lr, Ed.ns]
            exact ⟨by simp [KeepBl, blkOf], fun k hk => hk⟩
          rintro e a1 w1 ⟨s1, ro1, lam1, ⟨rfl, hE1, hH1⟩, hx1, hs1⟩
          replace hs1 := toL hs1 hE1 hH1
          clear hs hE1 hH1
          refine wpIn_block ?_
          refine wpIn_seq (wpIn_mono (CWR.of_cx (D := fun _ => none) noTab_ok _ (fun e s => e = .normal ∧ HasE s.env ((39, .bool (eq2 c x.l)) :: (38, .agg [.int .i64 c.1, .int .i64 c.2]) :: (12, .ptr 12 0) :: Lr b3 b5 b7 b8 b9 b10) ∧ HeapIs s.heap ((12, ⟨58, x.ns⟩) :: mainBl v o (fV b7 b5 b8) i Q')) _ (by kernel_rfl) ?_ l m w0 ro1 lam1 a1 w1 hs1) ?_)
          · clear hs1 fin
            repeat' first
              | (with_reducible refine gw_bool (fun _ => ?_) (fun _ => ?_))
              | (with_reducible refine condw_bool (fun _ => ?_) (fun _ => ?_))
              | simp [*, HasE, envL, blkOf, subBl, mainBl, Lr, Ed.ns, eq2, Ed.l]
            exact ⟨by simp [KeepBl, blkOf], fun k hk => hk⟩
          rintro e a2 w2 ⟨s2, ro2, lam2, ⟨rfl, hE2, hH2⟩, hx2, hs2⟩
          replace hs2 := toL hs2 hE2 hH2
          clear hs1 hE2 hH2
          have hb39 : a2.eval (.tmp 39) = .bool (eq2 c x.l) := (show R w2 ro2 lam2 (.bool (eq2 c x.l)) _ from hs2.env 39).bool_inv
          refine wpIn_cond hb39 ?_
          cases qL : eq2 c x.l
          case true =>
            rw [if_pos rfl]
            refine wpIn_region_list ?_
            rw [← List.take_append_drop 3 (Array.toList _)]
            refine eg_inR noTab_ok (n := 56) (K := fun s => HasE s.env ((43, .val (fV b7 b5 b8)) :: (45, .agg [.int .i64 x.r.1, .int .i64 x.r.2]) :: Lr b3 b5 b7 b8 b9 b10) ∧ HeapIs s.heap ((12, ⟨58, x.ns⟩) :: mainBl v o (fV b7 b5 b8) i Q')) _ _ _ _ _ _ (by kernel_rfl) ?_ hs2 ?_
            · clear hs2 fin hb39
              repeat' first
                | (with_reducible refine gw_bool (fun _ => ?_) (fun _ => ?_))
                | (with_reducible refine condw_bool (fun _ => ?_) (fun _ => ?_))
                | simp [*, HasE, envL, blkOf, subBl, mainBl, Lr, Ed.ns, Ed.r, fV]
              exact ⟨by simp [KeepBl, blkOf], fun k hk => hk⟩
            rintro s3 a3 ro3 lam3 w3 ⟨hE3, hH3⟩ hx3 hs3
            refine wpListIn_plain rfl fun K hK => ?_
            refine visit_in (n := x.r) (tf := 43) (tn := 45) (t := 46) (c2 := x.ns) (by omega) rfl hs3 hE3.2.2 hH3 hE3.1 hE3.2.1 rfl rfl (by decide) (by simp [Lr]) ?_
            intro a' w' s' ro' lam' hx' hs' hE' hH'
            refine hK _ _ ?_
            exact fin _ ro' lam' s' a' w' (by rw [edv, if_pos qL]) ((hx1.trans hx2).trans (hx3.trans hx')) hs' hE' hH'
          rw [if_neg (by simp)]
          refine wpIn_seq (wpIn_mono (CWR.of_cx (D := fun _ => none) noTab_ok _ (fun e s => e = .normal ∧ HasE s.env ((47, .bool (eq2 c x.r)) :: (12, .ptr 12 0) :: Lr b3 b5 b7 b8 b9 b10) ∧ HeapIs s.heap ((12, ⟨58, x.ns⟩) :: mainBl v o (fV b7 b5 b8) i Q')) _ (by kernel_rfl) ?_ l m w0 ro2 lam2 a2 w2 hs2) ?_)
          · clear hs2 fin hb39
            repeat' first
              | (with_reducible refine gw_bool (fun _ => ?_) (fun _ => ?_))
              | (with_reducible refine condw_bool (fun _ => ?_) (fun _ => ?_))
              | simp [*, HasE, envL, blkOf, subBl, mainBl, Lr, Ed.ns, eq2, Ed.r]
            exact ⟨by simp [KeepBl, blkOf], fun k hk => hk⟩
          rintro e a3 w3 ⟨s3, ro3, lam3, ⟨rfl, hE3, hH3⟩, hx3, hs3⟩
          replace hs3 := toL hs3 hE3 hH3
          clear hs2 hE3 hH3 hb39
          have hb47 : a3.eval (.tmp 47) = .bool (eq2 c x.r) := (show R w3 ro3 lam3 (.bool (eq2 c x.r)) _ from hs3.env 47).bool_inv
          refine wpIn_cond hb47 ?_
          cases qR : eq2 c x.r
          · rw [if_neg (by simp)]
            refine wpIn_skip ?_
            exact fin Q' ro3 lam3 _ a3 w3 (by rw [edv, if_neg (by rw [qL]; simp), if_neg (by rw [qR]; simp)]) ((hx1.trans hx2).trans hx3) hs3 (by simp [HasE, envL, upd, Lr]) ⟨by simp [KeepBl, blkOf, mainBl, subBl], fun k hk => hk⟩
          · rw [if_pos rfl]
            refine wpIn_region_list ?_
            rw [← List.take_append_drop 3 (Array.toList _)]
            refine eg_inR noTab_ok (n := 56) (K := fun s => HasE s.env ((51, .val (fV b7 b5 b8)) :: (53, .agg [.int .i64 x.l.1, .int .i64 x.l.2]) :: Lr b3 b5 b7 b8 b9 b10) ∧ HeapIs s.heap ((12, ⟨58, x.ns⟩) :: mainBl v o (fV b7 b5 b8) i Q')) _ _ _ _ _ _ (by kernel_rfl) ?_ hs3 ?_
            · clear hs3 fin hb47
              repeat' first
                | (with_reducible refine gw_bool (fun _ => ?_) (fun _ => ?_))
                | (with_reducible refine condw_bool (fun _ => ?_) (fun _ => ?_))
                | simp [*, HasE, envL, blkOf, subBl, mainBl, Lr, Ed.ns, Ed.l, fV]
              exact ⟨by simp [KeepBl, blkOf], fun k hk => hk⟩
            rintro s4 a4' ro4' lam4 w4' ⟨hE4, hH4⟩ hx4 hs4
            refine wpListIn_plain rfl fun K hK => ?_
            refine visit_in (n := x.l) (tf := 51) (tn := 53) (t := 54) (c2 := x.ns) (by omega) rfl hs4 hE4.2.2 hH4 hE4.1 hE4.2.1 rfl rfl (by decide) (by simp [Lr]) ?_
            intro a' w' s' ro' lam' hx' hs' hE' hH'
            refine hK _ _ ?_
            exact fin _ ro' lam' s' a' w' (by rw [edv, if_neg (by rw [qL]; simp), if_pos qR]) (((hx1.trans hx2).trans hx3).trans (hx4.trans hx')) hs' hE' hH'
        · rintro D ro5 lam5 h W5 hI rj hDl
          rw [hEE] at hI
          have hsd := RJ.act rj ({ target := .collected D, args := #[] } :: a4.defers)
          have hmd := hm4.mark rj hDl
          refine .inl ⟨rfl, rfl, D :: Ds, ro5, lam5, toL hsd (by simp [HasE, envL, upd, Lr]) hI, hmd, by simp [hDs]⟩
        · rintro D cc pre ro' lam' h W hf
          exact hf.elim
      · rintro e a2 w2 (⟨rfl, q3, Ds2, ro2, lam2, hs2, hm2, hl2⟩ | ⟨rfl, hb⟩)
        · rw [q3, if_neg (by simp)] at hbf
          obtain ⟨tt, htt, htl⟩ := rnd_ext o c E Q
          have hqi2 : QI E f (rndF o c Q E) := hqi.rnd E (fun x hx => hx)
          have hle2 : i + 1 ≤ (rndF o c Q E).length := by rw [htt]; simp; omega
          obtain ⟨Q', hQ'⟩ : ∃ Q', rndF o c Q E = Q' := ⟨_, rfl⟩
          rw [hQ'] at hs2 hbf hqi2 hle2
          clear htt htl
          refine wpIn_seq (wpIn_seq (wpIn_mono (cw_inE (CW.of_cx (D := fun _ => none) noTab_ok mixed _ (fun e s => e = .normal ∧ HasE s.env ((55, .int .i64 i) :: Lr b3 b5 b7 b8 b9 b10) ∧ HeapIs s.heap (mainBl v o (fV b7 b5 b8) i Q')) _ (by kernel_rfl) ?_) hs2 hm2) ?_))
          · clear hs2 hm2 hr hA0 mkRI hri hbf hqi
            repeat' first
              | (with_reducible refine gw_bool (fun _ => ?_) (fun _ => ?_))
              | (with_reducible refine condw_bool (fun _ => ?_) (fun _ => ?_))
              | simp [*, HasE, envL, blkOf, subBl, mainBl, Lr]
            exact ⟨by simp [KeepBl, blkOf], fun k hk => hk⟩
          rintro e a3 w3 ⟨s3, ro3, lam3, ⟨rfl, hE3, hH3⟩, hs3, hm3⟩
          replace hs3 := toL hs3 hE3 hH3
          clear hs2 hm2 hE3 hH3
          obtain ⟨ro4, lam4, hs4, hm4⟩ := view_inE (View.forget 56 _ 10) hs3 hm3
          replace hs4 := toL hs4 (L := [(55, .int .i64 i), (3, .vptr b3 3 0), (5, .vptr b5 5 0), (7, .vptr b7 7 0), (8, .vptr b8 8 0), (9, .vptr b9 9 0)]) (bl := (3, ⟨81, v.cs⟩) :: (9, ⟨123, [.val (fV b7 b5 b8)]⟩) :: subBl o Q') (by simp [HasE, St.forget, envL, upd, scr, Lr]) (by
            refine ⟨?_, fun k hk => ?_⟩
            · refine ⟨?_, ?_, ?_, ?_, ?_, ?_, ?_, trivial⟩
              all_goals (cases o <;> simp [St.forget, blkOf, subBl, mainBl, woV, scrC, scr_vcs, ndC_scr])
            · have k9 : k ≠ 9 := blk_ne hk rfl
              have k3 : k ≠ 3 := blk_ne hk rfl
              have k5 : k ≠ 5 := blk_ne hk rfl
              have k7 : k ≠ 7 := blk_ne hk rfl
              have k13 : k ≠ 13 := blk_ne hk rfl
              have k8 : k ≠ 8 := blk_ne hk rfl
              have k17 : k ≠ 17 := blk_ne hk rfl
              by_cases k10 : k = 10
              · subst k10; simp [St.forget]
              · simp [St.forget, blkOf, subBl, mainBl, k10, k9, k3, k5, k7, k13, k8, k17])
          clear hs3 hm3
          refine wpIn_mono (cw_inE (CW.of_cx (D := fun _ => none) noTab_ok mixed _ (fun e s => e = .normal ∧ HasE s.env [(3, .vptr b3 3 0), (5, .vptr b5 5 0), (7, .vptr b7 7 0), (8, .vptr b8 8 0), (9, .vptr b9 9 0), (10, .ptr 10 0)] ∧ HeapIs s.heap (mainBl v o (fV b7 b5 b8) i Q')) _ (by kernel_rfl) ?_) hs4 hm4) ?_
          · clear hs4 hm4 hr hA0 mkRI hri hbf hqi
            repeat' first
              | (with_reducible refine gw_bool (fun _ => ?_) (fun _ => ?_))
              | (with_reducible refine condw_bool (fun _ => ?_) (fun _ => ?_))
              | simp [*, HasE, envL, blkOf, subBl, mainBl, Lr]
            refine ⟨by simp [KeepBl, blkOf, subBl, mainBl], fun k hk => ?_⟩
            have k10 : k ≠ 10 := blk_ne hk rfl
            have k9 : k ≠ 9 := blk_ne hk rfl
            have k3 : k ≠ 3 := blk_ne hk rfl
            have k5 : k ≠ 5 := blk_ne hk rfl
            have k7 : k ≠ 7 := blk_ne hk rfl
            have k13 : k ≠ 13 := blk_ne hk rfl
            have k8 : k ≠ 8 := blk_ne hk rfl
            have k17 : k ≠ 17 := blk_ne hk rfl
            simp [k9, k3, k10, k5, k7, k13, k8, k17, blkOf, subBl]
          rintro e a5 w5 ⟨s5, ro5, lam5, ⟨rfl, hE5, hH5⟩, hs5, hm5⟩
          replace hs5 := toL hs5 hE5 hH5
          clear hs4 hm4 hE5 hH5
          refine wpIn_mono (cw_inE (CW.of_cx (D := fun _ => none) noTab_ok mixed _ (fun e s => e = .normal ∧ HasE s.env [(3, .vptr b3 3 0), (5, .vptr b5 5 0), (7, .vptr b7 7 0), (8, .vptr b8 8 0), (9, .vptr b9 9 0), (10, .ptr 10 0)] ∧ HeapIs s.heap (mainBl v o (fV b7 b5 b8) (i + 1) Q')) _ (by kernel_rfl) ?_) hs5 hm5) ?_
          · clear hs5 hm5 hr hA0 mkRI hri hbf hqi
            repeat' first
              | (with_reducible refine gw_bool (fun _ => ?_) (fun _ => ?_))
              | (with_reducible refine condw_bool (fun _ => ?_) (fun _ => ?_))
              | simp [*, HasE, envL, blkOf, subBl, mainBl, Lr, setsV]
            refine ⟨by simp [KeepBl, blkOf, subBl, mainBl], fun k hk => ?_⟩
            have k10 : k ≠ 10 := blk_ne hk rfl
            have k9 : k ≠ 9 := blk_ne hk rfl
            have k3 : k ≠ 3 := blk_ne hk rfl
            have k5 : k ≠ 5 := blk_ne hk rfl
            have k7 : k ≠ 7 := blk_ne hk rfl
            have k13 : k ≠ 13 := blk_ne hk rfl
            have k8 : k ≠ 8 := blk_ne hk rfl
            have k17 : k ≠ 17 := blk_ne hk rfl
            simp [k9, k3, k10, k5, k7, k13, k8, k17, blkOf, subBl]
          rintro e a6' w6' ⟨s6, ro6', lam6', ⟨rfl, hE6, hH6⟩, hs6, hm6⟩
          have hri2 := mkRI (i + 1) Q' Ds2 ro6' lam6' a6' w6' s6 hs6 hm6 hE6 hH6
          rw [hl2] at hri2
          have hdl2 := hri2.dlen
          refine ⟨⟨i + 1, Q', hri2, hle2, ?_, hqi2⟩, ?_⟩
          · rw [show 100 - (i + 1) = 99 - i by omega]; exact hbf
          · show 101 - a6'.defers.length < 101 - a.defers.length
            rw [hdl2, hdl]; omega
        · exact .inr ⟨rfl, hb⟩
    · have f1 : ilt (i : Int) (qn : Int) = false := ilt_f (by omega)
      have hnone : Q[i]? = none := List.getElem?_eq_none (by omega)
      simp only [bfs, hnone] at hbf
      refine wpIn_seq (wpIn_mono (cw_inE (CW.of_cx (D := fun _ => none) noTab_ok mixed _ (fun e s => e = .exit 0) _ (by kernel_rfl) ?_) hs hm) ?_)
      · clear hs hm hr hA0 mkRI hri hbf hqi
        repeat' first
          | (with_reducible refine gw_bool (fun _ => ?_) (fun _ => ?_))
          | (with_reducible refine condw_bool (fun _ => ?_) (fun _ => ?_))
          | simp [*, HasE, envL, blkOf, subBl, mainBl, Lr]
      rintro e a1 w1' ⟨s1, ro1, lam1, rfl, hs1, hm1⟩
      exact .inl ⟨rfl, hbf.symm, Ds, ro1, lam1, s1, hs1, hm1⟩
  · rintro e a w (⟨rfl, hRf, Ds, ro, lam, s, hs, hm⟩ | ⟨rfl, hb⟩)
    · refine wpIn_seq (wpIn_mono (cw_inE (CW.of_cx (D := fun _ => none) noTab_ok mixed _ (fun e s => e = .normal ∧ s.env 6 = .bool false) _ (by kernel_rfl) ?_) hs hm) ?_)
      · clear hs hm hr hA0 mkRI
        obtain ⟨en, he⟩ := s
        repeat' first
          | (with_reducible refine gw_bool (fun _ => ?_) (fun _ => ?_))
          | (with_reducible refine condw_bool (fun _ => ?_) (fun _ => ?_))
          | simp [*]
      rintro e a2 w2 ⟨s2, ro2, lam2, ⟨rfl, h6⟩, hs2, hm2⟩
      refine wpIn_ret ?_
      have h6' : a2.tmps.getD 6 Go.undef = .bool false := by
        have := hs2.env 6
        rw [h6] at this
        exact this.bool_inv
      rw [hRf]
      exact MK.leave hm2 hro rfl h6' (fun _ _ => .bool _)
    · exact hb
end Go.Proofs.Ytcbddoopmkhlfaa
