/-
  The header of a message; nodes of values and back.
  Values of nodes; fields; refusals.
  Tools: pieces of a region, a table of one contract.
  Tags, lengths; the size of nodes.
  The size of nodes.
  Writing nodes.
-/
import Derived.Test.YtpkibnkhllefaaaJ4
section
namespace Go.Proofs.Ytpkibnkhllefaaa
open Go.Pv Go.RowKit
set_option linter.unusedSimpArgs false
set_option linter.unusedVariables false
set_option maxRecDepth 100000
set_option maxHeartbeats 4000000

def Tvi : List V → Option V
  | [.int .i64 n] => some (.agg (vI n))
  | _ => none
theorem vi_ok (n : Int) : PFresh Try.prog 33 [.int .i64 n] (.agg (vI n)) := by
  refine pfresh_cx noTab_ok mixed (fun _ => none) Try.func33 rfl Try.ntmps33 Try.results33 (by simp) (by kernel_rfl) ?_
  repeat' first
    | (with_reducible refine gw_bool (fun _ => ?_) (fun _ => ?_))
    | (with_reducible refine condw_bool (fun _ => ?_) (fun _ => ?_))
    | simp [*, vI]
def Tvb : List V → Option V
  | [.bool b] => some (.agg (vB (if b then 1 else 0)))
  | _ => none
theorem vb_ok (b : Bool) : PFresh Try.prog 34 [.bool b] (.agg (vB (if b then 1 else 0))) := by
  cases b
  · refine pfresh_cx noTab_ok mixed (fun _ => none) Try.func34 rfl Try.ntmps34 Try.results34 (by simp) (by kernel_rfl) ?_
    repeat' first
      | (with_reducible refine gw_bool (fun _ => ?_) (fun _ => ?_))
      | (with_reducible refine condw_bool (fun _ => ?_) (fun _ => ?_))
      | simp [*, vB]
  · refine pfresh_cx noTab_ok mixed (fun _ => none) Try.func34 rfl Try.ntmps34 Try.results34 (by simp) (by kernel_rfl) ?_
    repeat' first
      | (with_reducible refine gw_bool (fun _ => ?_) (fun _ => ?_))
      | (with_reducible refine condw_bool (fun _ => ?_) (fun _ => ?_))
      | simp [*, vB]
def G24 : Tab := addF 33 Tvi (addF 34 Tvb (noTab))
theorem G24_at (f : FuncId) (vs : List V) : G24.at' f vs = if f = 33 then Tvi vs else if f = 34 then Tvb vs else noTab.at' f vs := rfl
theorem G24_fr (f : FuncId) : G24.fr f = if f = 33 then true else if f = 34 then true else noTab.fr f := rfl
theorem G24_gb (f : FuncId) : G24.gb f = noTab.gb f := rfl
theorem G24_gv (f : FuncId) (vs : List V) : G24.gv f vs = noTab.gv f vs := rfl
attribute [simp] G24_at G24_fr G24_gb G24_gv Tvb Tvi
theorem G24_ok : TabOK Try.prog G24 := by
  refine addF_ok (addF_ok (noTab_ok) (by kernel_rfl) ?_) (by kernel_rfl) ?_
  · intro vs v h; unfold Tvb at h; split at h
    · cases h; apply vb_ok
    · cases h
  · intro vs v h; unfold Tvi at h; split at h
    · cases h; apply vi_ok
    · cases h
def msC (p t s f q st se : Int) (te : Bool) (r : Int) (c : V) : List V := [.int .i64 p, .int .i64 t, .int .i64 s, .int .i64 f, .int .i64 q, .int .i64 st, .int .i64 se, .bool te, .int .i64 r, c]
def hdV (p t s f q st se : Int) (te : Bool) (r : Int) : List (List V) := [vI p, vI t, vT s f q, vI st, vI se, vB (if te then 1 else 0), vI r]
theorem header_ok (p t s f q st se : Int) (te : Bool) (r : Int) (c : V) : PFresh Try.prog 21 [.agg (msC p t s f q st se te r c)] (.list 6 (hdV p t s f q st se te r)) := by
  refine pfresh_cx G24_ok mixed (fun id => if id = 2 then some ⟨[], []⟩ else none) Try.func21 rfl Try.ntmps21 Try.results21 (by simp) (by kernel_rfl) ?_
  repeat' first
    | (with_reducible refine gw_bool (fun _ => ?_) (fun _ => ?_))
    | (with_reducible refine condw_bool (fun _ => ?_) (fun _ => ?_))
    | simp [*, msC, hdV, vT, vI, vB]
/-! ### nodes -/
def ndI (n : Int) : List V := [.int .i64 133, .list 1 [by1 n], .nils]
def ndB (n : Int) : List V := [.int .i64 131, .list 1 [by1 n], .nils]
def ndT (s f q : Int) : List V := [.int .i64 145, .list 1 (mB s f q), .nils]
def G25 : Tab := add 31 Tchk (add 32 Tcnt (add 69 Ttg0 (add 72 Ttg1 (add 82 Ttg4 (addF 68 Tda0 (addF 71 Tda1 (addF 81 Tda4 (noTab))))))))
theorem G25_at (f : FuncId) (vs : List V) : G25.at' f vs = if f = 31 then Tchk vs else if f = 32 then Tcnt vs else if f = 69 then Ttg0 vs else if f = 72 then Ttg1 vs else if f = 82 then Ttg4 vs else if f = 68 then Tda0 vs else if f = 71 then Tda1 vs else if f = 81 then Tda4 vs else noTab.at' f vs := rfl
theorem G25_fr (f : FuncId) : G25.fr f = if f = 31 then false else if f = 32 then false else if f = 69 then false else if f = 72 then false else if f = 82 then false else if f = 68 then true else if f = 71 then true else if f = 81 then true else noTab.fr f := rfl
theorem G25_gb (f : FuncId) : G25.gb f = noTab.gb f := rfl
theorem G25_gv (f : FuncId) (vs : List V) : G25.gv f vs = noTab.gv f vs := rfl
attribute [simp] G25_at G25_fr G25_gb G25_gv Tchk Tcnt Tda0 Tda1 Tda4 Ttg0 Ttg1 Ttg4
theorem G25_ok : TabOK Try.prog G25 := by
  refine add_ok (add_ok (add_ok (add_ok (add_ok (addF_ok (addF_ok (addF_ok (noTab_ok) (by kernel_rfl) ?_) (by kernel_rfl) ?_) (by kernel_rfl) ?_) (by kernel_rfl) ?_) (by kernel_rfl) ?_) (by kernel_rfl) ?_) (by kernel_rfl) ?_) (by kernel_rfl) ?_
  · intro vs v h; unfold Tda4 at h; split at h
    · cases h; apply mdata_ok
    · cases h
  · exact da1_tab
  · intro vs v h; unfold Tda0 at h; split at h
    · cases h; apply da0_ok
    · cases h
  · intro vs v h; unfold Ttg4 at h; split at h
    · cases h; apply tg4_ok
    · cases h
  · intro vs v h; unfold Ttg1 at h; split at h
    · cases h; apply tg1_ok
    · cases h
  · intro vs v h; unfold Ttg0 at h; split at h
    · cases h; apply tg0_ok
    · cases h
  · exact cnt_tab
  · exact chk_tab
theorem View.junk (n : Nat) {st : St} {key : Nat} {blk : Blk} (cs : List V) (hk : st.heap key = some blk) (hl : cs.length = blk.cells.length) (hc : ∀ (j : Nat) (c : V), cs[j]? = some c → c = .junk ∨ blk.cells[j]? = some c) :
    View n st ⟨st.env, upd st.heap key (some ⟨blk.ty, cs⟩)⟩ := fun w0 ro lam a w hs => by
  refine ⟨ro, lam, Ext.refl _ _, ⟨hs.below, hs.dfr, hs.size, hs.rolt, hs.env, fun k b hkk => ?_, fun k hkk => ?_, hs.own, hs.inj, hs.maps⟩⟩
  · by_cases e : k = key
    · subst e; simp only [upd_same, Option.some.injEq] at hkk; subst hkk
      rcases hs.heap k blk hk with ⟨h1, h2⟩ | ⟨b, o, h1, h2, ents, clk, h3, h4, h5⟩ | ⟨b, m, arr, h1, h2, h3, h4, h5⟩
      · exact .inl ⟨h1, by simpa [h2] using hl⟩
      · refine .inr (.inl ⟨b, o, h1, h2, ents, clk, h3, by rw [h4]; exact hl.symm, fun j kk ee hj hee => ?_⟩)
        rcases hc j kk hj with rfl | hj'
        · have h6 : j < blk.cells.length := by rw [← hl]; exact (List.getElem?_eq_some_iff.1 hj).1
          exact ⟨(h5 j _ ee (List.getElem?_eq_getElem h6) hee).1, trivial⟩
        · exact h5 j kk ee hj' hee
      · refine .inr (.inr ⟨b, m, arr, h1, h2, h3, by simpa [hl] using h4, fun j c x hj hx => ?_⟩)
        rcases hc j c hj with rfl | hj'
        · exact .pure _ _ (.junk _)
        · exact h5 j c x hj' hx
    · simp only [upd_ne _ _ e] at hkk; exact hs.heap k b hkk
  · by_cases e : k = key
    · subst e; simp only [upd_same] at hkk; cases hkk
    · simp only [upd_ne _ _ e] at hkk; exact hs.dead k hkk
theorem nodes1_ok (n : Int) (h : 0 ≤ n ∧ n < 128) : PCall Try.prog 20 [.list 6 [vI n]] (.tup [.list 3 [ndI n], .int .i64 0]) := by
  refine pcall_cx G25_ok mixed (fun _ => none) Try.func20 rfl Try.ntmps20 Try.results20 (by simp) (by kernel_rfl) ?_
  repeat' first
    | (with_reducible refine gw_bool (fun _ => ?_) (fun _ => ?_))
    | (with_reducible refine condw_bool (fun _ => ?_) (fun _ => ?_))
    | (refine lp_unroll (D := (fun _ => none)) G25_ok mixed (by kernel_rfl) ?_)
    | simp [*, ndI, vI, unDv, Dv.fit, Dv.c, appendV, srcCells, St.forget, scr, scrC, usesC, usesA, chunks, oneV, KeepBl, closedB, inT, inA, inC, blkOf]
theorem nodesI_ok : PFresh Try.prog 20 [.list 6 [vI 0]] (.tup [.list 3 [[.int .i64 133, .junk, .nils]], .int .i64 0]) := by
  refine pfresh_cx G25_ok mixed (fun _ => none) Try.func20 rfl Try.ntmps20 Try.results20 (by simp) (by kernel_rfl) ?_
  repeat' first
    | (with_reducible refine gw_bool (fun _ => ?_) (fun _ => ?_))
    | (with_reducible refine condw_bool (fun _ => ?_) (fun _ => ?_))
    | simp [*, vI]
  refine lp_unroll (D := (fun _ => none)) G25_ok mixed (by kernel_rfl) ?_
  repeat' first
    | (with_reducible refine gw_bool (fun _ => ?_) (fun _ => ?_))
    | (with_reducible refine condw_bool (fun _ => ?_) (fun _ => ?_))
    | simp [*, unDv, Dv.fit, Dv.c, appendV, srcCells, St.forget, scr, scrC, usesC, usesA, chunks, oneV, KeepBl, closedB, inT, inA, inC, blkOf]
  refine lp_view (View.junk _ (key := 12) [.int .i64 133, .junk, .nils] (by simp; rfl) (by simp) ?_) ?_
  · intro j c; rcases j with _ | _ | _ | j <;> simp +contextual
  refine lp_unroll (D := (fun _ => none)) G25_ok mixed (by kernel_rfl) ?_
  repeat' first
    | (with_reducible refine gw_bool (fun _ => ?_) (fun _ => ?_))
    | (with_reducible refine condw_bool (fun _ => ?_) (fun _ => ?_))
    | simp [*, unDv, Dv.fit, Dv.c, appendV, srcCells, St.forget, scr, scrC, usesC, usesA, chunks, oneV, KeepBl, closedB, inT, inA, inC, blkOf]
theorem nodesB_ok : PFresh Try.prog 20 [.list 6 [vB 0]] (.tup [.list 3 [[.int .i64 131, .junk, .nils]], .int .i64 0]) := by
  refine pfresh_cx G25_ok mixed (fun _ => none) Try.func20 rfl Try.ntmps20 Try.results20 (by simp) (by kernel_rfl) ?_
  repeat' first
    | (with_reducible refine gw_bool (fun _ => ?_) (fun _ => ?_))
    | (with_reducible refine condw_bool (fun _ => ?_) (fun _ => ?_))
    | simp [*, vB]
  refine lp_unroll (D := (fun _ => none)) G25_ok mixed (by kernel_rfl) ?_
  repeat' first
    | (with_reducible refine gw_bool (fun _ => ?_) (fun _ => ?_))
    | (with_reducible refine condw_bool (fun _ => ?_) (fun _ => ?_))
    | simp [*, unDv, Dv.fit, Dv.c, appendV, srcCells, St.forget, scr, scrC, usesC, usesA, chunks, oneV, KeepBl, closedB, inT, inA, inC, blkOf]
  refine lp_view (View.junk _ (key := 12) [.int .i64 131, .junk, .nils] (by simp; rfl) (by simp) ?_) ?_
  · intro j c; rcases j with _ | _ | _ | j <;> simp +contextual
  refine lp_unroll (D := (fun _ => none)) G25_ok mixed (by kernel_rfl) ?_
  repeat' first
    | (with_reducible refine gw_bool (fun _ => ?_) (fun _ => ?_))
    | (with_reducible refine condw_bool (fun _ => ?_) (fun _ => ?_))
    | simp [*, unDv, Dv.fit, Dv.c, appendV, srcCells, St.forget, scr, scrC, usesC, usesA, chunks, oneV, KeepBl, closedB, inT, inA, inC, blkOf]
theorem nodesT_ok : PFresh Try.prog 20 [.list 6 [vT 0 0 0]] (.tup [.list 3 [[.int .i64 145, .junk, .nils]], .int .i64 0]) := by
  have hb : stB 0 0 0 := by decide
  refine pfresh_cx G25_ok mixed (fun _ => none) Try.func20 rfl Try.ntmps20 Try.results20 (by simp) (by kernel_rfl) ?_
  repeat' first
    | (with_reducible refine gw_bool (fun _ => ?_) (fun _ => ?_))
    | (with_reducible refine condw_bool (fun _ => ?_) (fun _ => ?_))
    | simp [*, vT]
  refine lp_unroll (D := (fun _ => none)) G25_ok mixed (by kernel_rfl) ?_
  repeat' first
    | (with_reducible refine gw_bool (fun _ => ?_) (fun _ => ?_))
    | (with_reducible refine condw_bool (fun _ => ?_) (fun _ => ?_))
    | simp [*, unDv, Dv.fit, Dv.c, appendV, srcCells, St.forget, scr, scrC, usesC, usesA, chunks, oneV, KeepBl, closedB, inT, inA, inC, blkOf]
  refine lp_view (View.junk _ (key := 12) [.int .i64 145, .junk, .nils] (by simp; rfl) (by simp) ?_) ?_
  · intro j c; rcases j with _ | _ | _ | j <;> simp +contextual
  refine lp_unroll (D := (fun _ => none)) G25_ok mixed (by kernel_rfl) ?_
  repeat' first
    | (with_reducible refine gw_bool (fun _ => ?_) (fun _ => ?_))
    | (with_reducible refine condw_bool (fun _ => ?_) (fun _ => ?_))
    | simp [*, unDv, Dv.fit, Dv.c, appendV, srcCells, St.forget, scr, scrC, usesC, usesA, chunks, oneV, KeepBl, closedB, inT, inA, inC, blkOf]
def Dv.nd : Dv → List V
  | .i n => ndI n
  | .b n => ndB n
  | .t s f q => ndT s f q
def Dv.dok : Dv → Prop
  | .i n => 0 ≤ n ∧ n < 128
  | .b n => n = 0 ∨ n = 1
  | .t s f q => stB s f q
instance (v : Dv) : Decidable v.dok := by cases v <;> (unfold Dv.dok; infer_instance)
def ndL (ds : List Dv) (i : Nat) : List V := (ds.take i).flatMap Dv.nd
theorem ndL_succ {ds : List Dv} {i : Nat} {v : Dv} (h : ds[i]? = some v) : ndL ds (i + 1) = ndL ds i ++ v.nd := by
  unfold ndL
  rw [List.take_add_one, h]
  simp
theorem nd_len (v : Dv) : v.nd.length = 3 := by cases v <;> rfl
theorem nd_pure (v : Dv) : v.nd.any ownC = false := by cases v <;> simp [Dv.nd, ndI, ndB, ndT, ownC]
theorem ndL_len (ds : List Dv) (i : Nat) (h : i ≤ ds.length) : (ndL ds i).length = i * 3 := by
  unfold ndL
  rw [List.length_flatMap]
  have : ((ds.take i).map fun v => v.nd.length) = List.replicate i 3 := by
    rw [List.eq_replicate_iff]
    refine ⟨by simp [h], fun b hb => ?_⟩
    obtain ⟨v, _, rfl⟩ := List.mem_map.1 hb
    exact nd_len v
  rw [this]; simp [List.sum_replicate_nat]
theorem ndL_pure (ds : List Dv) (i : Nat) : (ndL ds i).any ownC = false := by
  rw [List.any_eq_false]; intro c hc
  obtain ⟨v, _, hv⟩ := List.mem_flatMap.1 hc
  have := List.any_eq_false.1 (nd_pure v) c hv
  simpa using this
theorem nodes_ok (ds : List Dv) (hd : ∀ v ∈ ds, v.dok) (hl : ds.length ≤ 100) : PGive Try.prog 20 [.list 6 (ds.map Dv.cs)] (.tup [.sl 12 0 ds.length 3, .int .i64 0]) [(12, ⟨68, ndL ds ds.length⟩)] := by
  replace hd : Hid (_) := hd
  obtain ⟨n, hn⟩ : ∃ n, ds.length = n := ⟨_, rfl⟩
  rw [hn]
  have hn' : n ≤ 100 := by omega
  obtain ⟨R, hR⟩ : ∃ R, ds.map Dv.cs = R := ⟨_, rfl⟩
  rw [hR]
  have hRl : R.length = n := by rw [← hR]; simpa using hn
  replace hR : Hid (_) := hR
  have hl' : Hid (_) := hl
  clear hl
  have n1 : 56 * (n : Int) ≤ 281474976710656 := by omega
  have n2 : (n : Int) ≤ 9223372036854775807 := by omega
  refine pgive_cx G25_ok mixed (fun _ => none) Try.func20 rfl Try.ntmps20 Try.results20 (by simp) (by kernel_rfl) ?_
  repeat' first
    | (with_reducible refine gw_bool (fun _ => ?_) (fun _ => ?_))
    | (with_reducible refine condw_bool (fun _ => ?_) (fun _ => ?_))
    | simp [*]
  refine lp_go (D := (fun _ => none)) G25_ok mixed (by kernel_rfl) [13, 14] [6, 37, 38] (α := Nat) (fun i e h => i ≤ n ∧ e 15 = .int .i64 i ∧ e 4 = .sl 12 0 i 3 ∧ h 12 = some ⟨68, ndL ds i⟩) (fun i => n - i) 0 ?_ ?_
  · exact ⟨by omega, by simp, by simp, by simp [ndL]⟩
  rintro i e h hk hkh ⟨hi, g15, g4, g12⟩
  simp [Keep] at hk
  simp [KeepH] at hkh
  have hVp := ndL_pure ds i
  have hVl := ndL_len ds i (by omega)
  by_cases hlt : i < n
  · have f1 : ilt (i : Int) n = true := ilt_t (by omega)
    have w1 : IntKind.i64.wrap ((i : Int) + 1) = ((i + 1 : Nat) : Int) := wrap_succ (by omega)
    have f7 : (i + 1) * 56 ≤ 140737488355328 := by omega
    have f9 : i + 1 ≤ 9223372036854775807 := by omega
    have f10 : (i : Int) < n := by omega
    obtain ⟨v, hv⟩ : ∃ v, ds[i]? = some v := ⟨ds[i], List.getElem?_eq_getElem (by omega)⟩
    have hV' : Hid (ndL ds (i + 1) = ndL ds i ++ v.nd) := ndL_succ hv
    have hvd := hd.out v (List.mem_of_getElem? hv)
    have r1 : R[i]? = some v.cs := by rw [← hR.out]; simp [hv]
    have r2 : R[i] = v.cs := by rw [List.getElem?_eq_getElem (by omega)] at r1; simpa using r1
    clear hv
    generalize ndL ds i = W at *
    have hWs : ∀ k, W.map (scrC k) = W := fun k => scrC_cells hVp
    cases v with
    | i x =>
      have hvd' : 0 ≤ x ∧ x < 128 := hvd
      clear hvd
      simp only [Dv.cs, vI] at r1 r2
      repeat' first
        | (with_reducible refine gw_bool (fun _ => ?_) (fun _ => ?_))
        | (with_reducible refine condw_bool (fun _ => ?_) (fun _ => ?_))
        | simp [*, unDv, Dv.fit, Dv.c, appendV, srcCells, St.forget, scr, scrC, usesC, usesA, chunks, oneV]
      refine nxt_go (i + 1) ((View.forget _ _ 6).trans ((View.forget _ _ 37))) (by omega) (by simp [*, Keep, St.forget, scr, scrC]) (by simp [*, KeepH, St.forget, scr, scrC]) ?_
      refine ⟨by omega, by simp [*, St.forget, scr, scrC], by simp [*, St.forget, scr, scrC], ?_⟩
      rw [hV'.out]; simp [*, St.forget, scr, scrC, Dv.nd, ndI]
    | b x =>
      have hvd' : x = 0 ∨ x = 1 := hvd
      clear hvd
      simp only [Dv.cs, vB] at r1 r2
      repeat' first
        | (with_reducible refine gw_bool (fun _ => ?_) (fun _ => ?_))
        | (with_reducible refine condw_bool (fun _ => ?_) (fun _ => ?_))
        | simp [*, unDv, Dv.fit, Dv.c, appendV, srcCells, St.forget, scr, scrC, usesC, usesA, chunks, oneV]
      refine nxt_go (i + 1) ((View.forget _ _ 6).trans ((View.forget _ _ 37))) (by omega) (by simp [*, Keep, St.forget, scr, scrC]) (by simp [*, KeepH, St.forget, scr, scrC]) ?_
      refine ⟨by omega, by simp [*, St.forget, scr, scrC], by simp [*, St.forget, scr, scrC], ?_⟩
      rw [hV'.out]; simp [*, St.forget, scr, scrC, Dv.nd, ndB]
    | t s f q =>
      have hvd' : stB s f q := hvd
      clear hvd
      simp only [Dv.cs, vT] at r1 r2
      repeat' first
        | (with_reducible refine gw_bool (fun _ => ?_) (fun _ => ?_))
        | (with_reducible refine condw_bool (fun _ => ?_) (fun _ => ?_))
        | simp [*, unDv, Dv.fit, Dv.c, appendV, srcCells, St.forget, scr, scrC, usesC, usesA, chunks, oneV]
      refine nxt_go (i + 1) ((View.forget _ _ 6).trans ((View.forget _ _ 37))) (by omega) (by simp [*, Keep, St.forget, scr, scrC]) (by simp [*, KeepH, St.forget, scr, scrC]) ?_
      refine ⟨by omega, by simp [*, St.forget, scr, scrC], by simp [*, St.forget, scr, scrC], ?_⟩
      rw [hV'.out]; simp [*, St.forget, scr, scrC, Dv.nd, ndT]
  · have f1 : ilt (i : Int) n = false := ilt_f (by omega)
    have e3 : i = n := by omega
    subst e3
    generalize ndL ds i = W at *
    repeat' first
      | (with_reducible refine gw_bool (fun _ => ?_) (fun _ => ?_))
      | (with_reducible refine condw_bool (fun _ => ?_) (fun _ => ?_))
      | simp [*, KeepBl, closedB, inT, inA, inC, blkOf]
end Go.Proofs.Ytpkibnkhllefaaa
end
section
namespace Go.Proofs.Ytpkibnkhllefaaa
open Go.Pv Go.RowKit
set_option linter.unusedSimpArgs false
set_option linter.unusedVariables false
set_option maxRecDepth 100000
set_option maxHeartbeats 4000000

def G30 : Tab := add 38 Tknown (add 39 Tread (add 40 Tval (noTab)))
theorem G30_at (f : FuncId) (vs : List V) : G30.at' f vs = if f = 38 then Tknown vs else if f = 39 then Tread vs else if f = 40 then Tval vs else noTab.at' f vs := rfl
theorem G30_fr (f : FuncId) : G30.fr f = if f = 38 then false else if f = 39 then false else if f = 40 then false else noTab.fr f := rfl
theorem G30_gb (f : FuncId) : G30.gb f = noTab.gb f := rfl
theorem G30_gv (f : FuncId) (vs : List V) : G30.gv f vs = noTab.gv f vs := rfl
attribute [simp] G30_at G30_fr G30_gb G30_gv Tknown Tread Tval
theorem G30_ok : TabOK Try.prog G30 := by
  refine add_ok (add_ok (add_ok (noTab_ok) (by kernel_rfl) ?_) (by kernel_rfl) ?_) (by kernel_rfl) ?_
  · exact val_tab
  · exact read_tab
  · exact known_tab
def n1 (tag a : Int) : List V := [.int .i64 tag, .list 1 [[.int .u8 a]], .nils]
def n8 (tag a b c d e f g h : Int) : List V := [.int .i64 tag, .list 1 [[.int .u8 a], [.int .u8 b], [.int .u8 c], [.int .u8 d], [.int .u8 e], [.int .u8 f], [.int .u8 g], [.int .u8 h]], .nils]
theorem valuesI_ok (n : Int) (h0 : 0 ≤ n) (h1 : n < 128) : PFresh Try.prog 28 [.list 3 [n1 133 n]] (.tup [.list 6 [vI n], .int .i64 0]) := by
  refine pfresh_cx G30_ok mixed (fun _ => none) Try.func28 rfl Try.ntmps28 Try.results28 (by simp) (by kernel_rfl) ?_
  repeat' first
    | (with_reducible refine gw_bool (fun _ => ?_) (fun _ => ?_))
    | (with_reducible refine condw_bool (fun _ => ?_) (fun _ => ?_))
    | (refine lp_unroll (D := (fun _ => none)) G30_ok mixed (by kernel_rfl) ?_)
    | simp [*, vI, n1, appendV, srcCells, St.forget, scr, scrC, usesC, usesA, chunks, oneV]
theorem valuesB_ok (n : Int) (h : n = 0 ∨ n = 1) : PFresh Try.prog 28 [.list 3 [n1 131 n]] (.tup [.list 6 [vB n], .int .i64 0]) := by
  refine pfresh_cx G30_ok mixed (fun _ => none) Try.func28 rfl Try.ntmps28 Try.results28 (by simp) (by kernel_rfl) ?_
  repeat' first
    | (with_reducible refine gw_bool (fun _ => ?_) (fun _ => ?_))
    | (with_reducible refine condw_bool (fun _ => ?_) (fun _ => ?_))
    | (refine lp_unroll (D := (fun _ => none)) G30_ok mixed (by kernel_rfl) ?_)
    | simp [*, vB, n1, appendV, srcCells, St.forget, scr, scrC, usesC, usesA, chunks, oneV]
theorem jn_s {s : Int} (h : 0 ≤ s ∧ s ≤ 4294967295) : jn (jn (jn (s / 16777216 % 256) (s / 65536 % 256)) (s / 256 % 256)) (s % 256) = s := by
  unfold jn; omega
theorem jn_f {s : Int} (h : 0 ≤ s ∧ s ≤ 16777215) : jn (jn (s / 65536 % 256) (s / 256 % 256)) (s % 256) = s := by
  unfold jn; omega
theorem byB_mod (x : Int) : byB (x % 256) := by unfold byB; omega
theorem valuesT_ok (a b c d e f g h : Int) (hh : by8 a b c d e f g h) : PFresh Try.prog 28 [.list 3 [n8 145 a b c d e f g h]] (.tup [.list 6 [vT (jn (jn (jn a b) c) d) (jn (jn e f) g) h], .int .i64 0]) := by
  refine pfresh_cx G30_ok mixed (fun _ => none) Try.func28 rfl Try.ntmps28 Try.results28 (by simp) (by kernel_rfl) ?_
  repeat' first
    | (with_reducible refine gw_bool (fun _ => ?_) (fun _ => ?_))
    | (with_reducible refine condw_bool (fun _ => ?_) (fun _ => ?_))
    | (refine lp_unroll (D := (fun _ => none)) G30_ok mixed (by kernel_rfl) ?_)
    | simp [*, vT, n8, jT, appendV, srcCells, St.forget, scr, scrC, usesC, usesA, chunks, oneV]
def Tvalues : List V → Option V
  | [.list 3 [[.int .i64 133, .list 1 [[.int .u8 a]], .nils]]] => if 0 ≤ a ∧ a < 128 then some (.tup [.list 6 [vI a], .int .i64 0]) else none
  | [.list 3 [[.int .i64 131, .list 1 [[.int .u8 a]], .nils]]] => if a = 0 ∨ a = 1 then some (.tup [.list 6 [vB a], .int .i64 0]) else none
  | [.list 3 [[.int .i64 145, .list 1 [[.int .u8 a], [.int .u8 b], [.int .u8 c], [.int .u8 d], [.int .u8 e], [.int .u8 f], [.int .u8 g], [.int .u8 h]], .nils]]] => if by8 a b c d e f g h then some (.tup [.list 6 [vT (jn (jn (jn a b) c) d) (jn (jn e f) g) h], .int .i64 0]) else none
  | _ => none
theorem values_tab : ∀ vs u, Tvalues vs = some u → PFresh Try.prog 28 vs u := by
  intro vs u h; unfold Tvalues at h; split at h
  · split at h
    · rename_i hc; cases h; exact valuesI_ok _ hc.1 hc.2
    · cases h
  · split at h
    · rename_i hc; cases h; exact valuesB_ok _ hc
    · cases h
  · split at h
    · rename_i hc; cases h; exact valuesT_ok _ _ _ _ _ _ _ _ hc
    · cases h
  · cases h
def Tnd0 : List V → Option V
  | [.list 6 [[.int .i64 k, .int .i64 0, .str s, .int .i64 0, .int .i64 0, .int .i64 0]]] => if s = ⟨#[]⟩ then (if k = 2 then some (.tup [.list 3 [[.int .i64 133, .junk, .nils]], .int .i64 0]) else if k = 1 then some (.tup [.list 3 [[.int .i64 131, .junk, .nils]], .int .i64 0]) else if k = 5 then some (.tup [.list 3 [[.int .i64 145, .junk, .nils]], .int .i64 0]) else none) else none
  | _ => none
theorem nd0_tab : ∀ vs u, Tnd0 vs = some u → PFresh Try.prog 20 vs u := by
  intro vs u h; unfold Tnd0 at h; split at h
  · split at h
    · rename_i hs; subst hs
      split at h
      · rename_i hk; subst hk; cases h; exact nodesI_ok
      · split at h
        · rename_i hk; subst hk; cases h; exact nodesB_ok
        · split at h
          · rename_i hk; subst hk; cases h; exact nodesT_ok
          · cases h
    · cases h
  · cases h
def G31 : Tab := addF 20 Tnd0 (addF 28 Tvalues (noTab))
theorem G31_at (f : FuncId) (vs : List V) : G31.at' f vs = if f = 20 then Tnd0 vs else if f = 28 then Tvalues vs else noTab.at' f vs := rfl
theorem G31_fr (f : FuncId) : G31.fr f = if f = 20 then true else if f = 28 then true else noTab.fr f := rfl
theorem G31_gb (f : FuncId) : G31.gb f = noTab.gb f := rfl
theorem G31_gv (f : FuncId) (vs : List V) : G31.gv f vs = noTab.gv f vs := rfl
attribute [simp] G31_at G31_fr G31_gb G31_gv Tnd0 Tvalues
theorem G31_ok : TabOK Try.prog G31 := by
  refine addF_ok (addF_ok (noTab_ok) (by kernel_rfl) ?_) (by kernel_rfl) ?_
  · exact values_tab
  · exact nd0_tab
theorem fieldI_ok (tag n : Int) (h0 : 0 ≤ n) (h1 : n < 128) : PCall Try.prog 27 [.agg (n1 tag n), .int .i64 2] (.agg (vI n)) := by
  refine pcall_cx G31_ok mixed (fun _ => none) Try.func27 rfl Try.ntmps27 Try.results27 (by simp) (by kernel_rfl) ?_
  repeat' first
    | (with_reducible refine gw_bool (fun _ => ?_) (fun _ => ?_))
    | (with_reducible refine condw_bool (fun _ => ?_) (fun _ => ?_))
    | simp [*, vI, n1]
theorem fieldB_ok (tag n : Int) (h : n = 0 ∨ n = 1) : PCall Try.prog 27 [.agg (n1 tag n), .int .i64 1] (.agg (vB n)) := by
  refine pcall_cx G31_ok mixed (fun _ => none) Try.func27 rfl Try.ntmps27 Try.results27 (by simp) (by kernel_rfl) ?_
  repeat' first
    | (with_reducible refine gw_bool (fun _ => ?_) (fun _ => ?_))
    | (with_reducible refine condw_bool (fun _ => ?_) (fun _ => ?_))
    | simp [*, vB, n1]
theorem fieldT_ok (tag a b c d e f g h : Int) (hh : by8 a b c d e f g h) : PCall Try.prog 27 [.agg (n8 tag a b c d e f g h), .int .i64 5] (.agg (vT (jn (jn (jn a b) c) d) (jn (jn e f) g) h)) := by
  refine pcall_cx G31_ok mixed (fun _ => none) Try.func27 rfl Try.ntmps27 Try.results27 (by simp) (by kernel_rfl) ?_
  repeat' first
    | (with_reducible refine gw_bool (fun _ => ?_) (fun _ => ?_))
    | (with_reducible refine condw_bool (fun _ => ?_) (fun _ => ?_))
    | simp [*, vT, n8]
theorem refuse_ok : PCall Try.prog 25 [.int .i64 0] (.tup []) := by
  refine pcall_cx noTab_ok mixed (fun _ => none) Try.func25 rfl Try.ntmps25 Try.results25 (by simp) (by kernel_rfl) ?_
  repeat' first
    | (with_reducible refine gw_bool (fun _ => ?_) (fun _ => ?_))
    | (with_reducible refine condw_bool (fun _ => ?_) (fun _ => ?_))
    | simp [*]
end Go.Proofs.Ytpkibnkhllefaaa
end
section
namespace Go.Pv
open Go.RowKit
set_option linter.unusedSimpArgs false
set_option linter.unusedVariables false
section
variable {P : Program} {n : Nat} {w0 : Base} {ro ro' : Nat → Prop} {lam lam' : Lam} {st st' : St} {a a' : Act} {w w' : World}
theorem eg_wp0 {K : St → Prop} {Γ : Tab} (hΓ : TabOK P Γ) {w0 : Base} {ops : Array Oper} {QQ : Exit → Act → World → Prop} {rest : List Oper} : ∀ (l' : List Oper) (st : St) (ro : Nat → Prop) (lam : Lam) (a : Act) (w : World), l'.all (fun o => fits n o.dst) = true →
    egX P Γ ops l' K st → Sim w0 n ro lam st a w → (∀ st' a' ro' lam' w', K st' → Ext w0 ro ro' → Sim w0 n ro' lam' st' a' w' → wpList P ops QQ rest a' w') → wpList P ops QQ (l' ++ rest) a w
  | [], st, ro, lam, a, w, _, h, hs, hK => hK _ _ _ _ _ h (Ext.refl _ _) hs
  | o :: l', st, ro, lam, a, w, hf, h, hs, hK => by
    simp only [List.all_cons, Bool.and_eq_true] at hf
    show if Region.wanted o (yielded ops a.tmps) then o.wp P a w (wpList P ops QQ (l' ++ rest)) QQ ∨ (o.asks P a w ∧ LetsOut QQ) else wpList P ops QQ (l' ++ rest) (a.put o.dst undef) w
    simp only [egX] at h
    cases hw : wantV ops st o.guard with
    | none => rw [hw] at h; exact h.elim
    | some b =>
      rw [hw] at h
      rw [wantV_sound hs hw]
      cases b with
      | true =>
        rw [if_pos rfl]
        exact .inl (swX_sound hΓ hs hf.1 h fun st' a' ro' lam' w' k hx hs' => eg_wp0 hΓ l' st' ro' lam' a' w' hf.2 k hs' fun st2 a2 ro2 lam2 w2 k e hs2 => hK st2 a2 ro2 lam2 w2 k (hx.trans e) hs2)
      | false =>
        rw [if_neg (by simp)]
        exact eg_wp0 hΓ l' _ ro lam _ w hf.2 h (hs.put hf.1 (.pure _ _ .undef)) hK
theorem eg_end {K : St → Prop} {Γ : Tab} (hΓ : TabOK P Γ) {w0 : Base} {ops : Array Oper} {QQ : Exit → Act → World → Prop} (l' : List Oper) (st : St) (ro : Nat → Prop) (lam : Lam) (a : Act) (w : World) (hf : l'.all (fun o => fits n o.dst) = true)
    (h : egX P Γ ops l' K st) (hs : Sim w0 n ro lam st a w) (hK : ∀ st' a' ro' lam' w', K st' → Ext w0 ro ro' → Sim w0 n ro' lam' st' a' w' → QQ .normal a' w') : wpList P ops QQ l' a w := by
  have := eg_wp0 (rest := []) (QQ := QQ) hΓ l' st ro lam a w hf h hs hK
  rwa [List.append_nil] at this
theorem pcall_of2 {f : FuncId} {fn : Func} {c : Code} {vs : List V} {v : V} {n : Nat} {rs : Array ResultVar} (hf : P.funcs[f]? = some fn) (hb : fn.body = some c) (hn : fn.ntmps = n) (hrs : fn.results = rs) (hvs : vs.length ≤ n) (h : CW P n c (Fin P rs.toList (fun u => u = v)) ⟨ini 0 vs, fun _ => none⟩) : PCall P f vs v := by
  subst hn; subst hrs
  exact pcall_of hf hb hvs h
theorem cut {x y : Code} {Q : Exit → St → Prop} {K : St → Prop} {st : St} (hx : CW P n x (fun e s => e = .normal ∧ K s) st) (hy : ∀ s, K s → CW P n y Q s) : CW P n (.seq x y) Q st :=
  cw_seq (hx.mono fun e s ⟨h1, h2⟩ => by subst h1; exact hy s h2)
end
end Go.Pv
namespace Go.Proofs.Ytpkibnkhllefaaa
open Go.Pv Go.RowKit
set_option linter.unusedSimpArgs false
set_option linter.unusedVariables false
set_option maxRecDepth 100000
set_option maxHeartbeats 4000000
/-! ### one contract -/
open Classical in
noncomputable def T1 (vs : List V) (u : V) (vs' : List V) : Option V := if vs' = vs then some u else none
theorem T1_at (vs : List V) (u : V) : T1 vs u vs = some u := if_pos rfl
noncomputable def H1 (f : FuncId) (vs : List V) (u : V) : Tab := add f (T1 vs u) noTab
theorem H1_at (f : FuncId) (vs : List V) (u : V) (g : FuncId) (ws : List V) : (H1 f vs u).at' g ws = if g = f then T1 vs u ws else noTab.at' g ws := rfl
theorem H1_fr (f : FuncId) (vs : List V) (u : V) (g : FuncId) : (H1 f vs u).fr g = if g = f then false else noTab.fr g := rfl
theorem H1_gb (f : FuncId) (vs : List V) (u : V) (g : FuncId) : (H1 f vs u).gb g = noTab.gb g := rfl
theorem H1_gv (f : FuncId) (vs : List V) (u : V) (g : FuncId) (ws : List V) : (H1 f vs u).gv g ws = noTab.gv g ws := rfl
attribute [simp] T1_at H1_at H1_fr H1_gb H1_gv
theorem H1_ok {f : FuncId} {vs : List V} {u : V} (h : PCall Try.prog f vs u) (hc : callable Try.prog f = true) : TabOK Try.prog (H1 f vs u) :=
  add_ok noTab_ok hc fun ws w hw => by
    unfold T1 at hw
    split at hw
    · rename_i e; cases hw; rw [e]; exact h
    · cases hw
end Go.Proofs.Ytpkibnkhllefaaa
end
section
namespace Go.Proofs.Ytpkibnkhllefaaa
open Go.Pv Go.RowKit
set_option linter.unusedSimpArgs false
set_option linter.unusedVariables false
set_option maxRecDepth 100000
set_option maxHeartbeats 4000000

/-- Primitive tags, tags of nested nodes. -/
def ptag (n : Int) : Prop := n = 128 ∨ n = 129 ∨ n = 130 ∨ n = 131 ∨ n = 132 ∨ n = 133 ∨ n = 134
def ktag (n : Int) : Prop := n = 97 ∨ n = 167
instance (n : Int) : Decidable (ptag n) := by unfold ptag; infer_instance
instance (n : Int) : Decidable (ktag n) := by unfold ktag; infer_instance
def Tnest : List V → Option V
  | [.int .i64 n] => if ptag n then some (.bool false) else if ktag n then some (.bool true) else none
  | _ => none
theorem nest_tab : ∀ vs u, Tnest vs = some u → PCall Try.prog 43 vs u := by
  intro vs u h; unfold Tnest at h; split at h
  · split at h
    · rename_i hc; cases h
      unfold ptag at hc
      rcases hc with rfl | rfl | rfl | rfl | rfl | rfl | rfl <;> skip
      all_goals
        refine pcall_cx noTab_ok mixed (fun _ => none) Try.func43 rfl Try.ntmps43 Try.results43 (by simp) (by kernel_rfl) ?_
        repeat' first
          | (with_reducible refine gw_bool (fun _ => ?_) (fun _ => ?_))
          | (with_reducible refine condw_bool (fun _ => ?_) (fun _ => ?_))
          | simp [*, IntKind.bits]
    · split at h
      · rename_i hc; cases h
        unfold ktag at hc
        rcases hc with rfl | rfl <;> skip
        all_goals
          refine pcall_cx noTab_ok mixed (fun _ => none) Try.func43 rfl Try.ntmps43 Try.results43 (by simp) (by kernel_rfl) ?_
          repeat' first
            | (with_reducible refine gw_bool (fun _ => ?_) (fun _ => ?_))
            | (with_reducible refine condw_bool (fun _ => ?_) (fun _ => ?_))
            | simp [*, IntKind.bits]
      · cases h
  · cases h
def Ttag : List V → Option V
  | [.int .i64 n] => if ptag n ∨ ktag n then some (.bool true) else none
  | _ => none
theorem tag_tab : ∀ vs u, Ttag vs = some u → PCall Try.prog 44 vs u := by
  intro vs u h; unfold Ttag at h; split at h
  · split at h
    · rename_i hc; cases h
      unfold ptag ktag at hc
      rcases hc with (rfl | rfl | rfl | rfl | rfl | rfl | rfl) | (rfl | rfl) <;> skip
      all_goals
        refine pcall_cx noTab_ok mixed (fun _ => none) Try.func44 rfl Try.ntmps44 Try.results44 (by simp) (by kernel_rfl) ?_
        repeat' first
          | (with_reducible refine gw_bool (fun _ => ?_) (fun _ => ?_))
          | (with_reducible refine condw_bool (fun _ => ?_) (fun _ => ?_))
          | simp [*, IntKind.bits]
    · cases h
  · cases h
def Tlb : List V → Option V
  | [.int .i64 n] => if 0 ≤ n ∧ n < 128 then some (.list 1 [[.int .u8 n]]) else none
  | _ => none
theorem lb_ok (n : Int) (h0 : 0 ≤ n) (h1 : n < 128) : PFresh Try.prog 45 [.int .i64 n] (.list 1 [[.int .u8 n]]) := by
  have e1 : ilt n 128 = true := ilt_t h1
  have e2 := u8_in h0 (by omega)
  refine pfresh_cx noTab_ok mixed (fun _ => none) Try.func45 rfl Try.ntmps45 Try.results45 (by simp) (by kernel_rfl) ?_
  repeat' first
    | (with_reducible refine gw_bool (fun _ => ?_) (fun _ => ?_))
    | (with_reducible refine condw_bool (fun _ => ?_) (fun _ => ?_))
    | simp [*]
theorem lb_tab : ∀ vs u, Tlb vs = some u → PFresh Try.prog 45 vs u := by
  intro vs u h; unfold Tlb at h; split at h
  · split at h
    · rename_i hc; cases h; exact lb_ok _ hc.1 hc.2
    · cases h
  · cases h
end Go.Proofs.Ytpkibnkhllefaaa
end
section
namespace Go.Proofs.Ytpkibnkhllefaaa
open Go.Pv Go.RowKit
set_option linter.unusedSimpArgs false
set_option linter.unusedVariables false
set_option maxRecDepth 100000
set_option maxHeartbeats 4000000

def u1 (x : Int) : List V := [.int .u8 x]
/-- A node with data, a node with nodes (that are written as bs). -/
inductive Nd where
  | p (tag : Int) (bs : List Int)
  | k (tag : Int) (ks : List (List V)) (bs : List Int)
def Nd.tag : Nd → Int
  | .p t _ => t
  | .k t _ _ => t
def Nd.bs : Nd → List Int
  | .p _ b => b
  | .k _ _ b => b
def Nd.cs : Nd → List V
  | .p t b => [.int .i64 t, .list 1 (b.map u1), .nils]
  | .k t ks _ => [.int .i64 t, .nils, .list 3 ks]
def Nd.ok (ks0 : List (List V)) (bs0 : List Int) : Nd → Prop
  | .p t b => ptag t ∧ b.length < 128
  | .k t ks b => (ktag t ∧ b.length < 128) ∧ ks = ks0 ∧ b = bs0
def Nd.out (x : Nd) : List Int := x.tag :: (x.bs.length : Int) :: x.bs
def enc (L : List Nd) : List Int := L.flatMap Nd.out
theorem enc_succ {L : List Nd} {i : Nat} {x : Nd} (h : L[i]? = some x) : enc (L.take (i + 1)) = enc (L.take i) ++ x.out := by
  unfold enc; rw [List.take_add_one, h]; simp
theorem enc_le (L : List Nd) (i : Nat) : (enc (L.take i)).length ≤ (enc L).length := by
  have e : enc L = enc (L.take i) ++ enc (L.drop i) := by unfold enc; rw [← List.flatMap_append, List.take_append_drop]
  rw [e, List.length_append]; omega
def G33 : Tab := add 43 Tnest (add 44 Ttag (addF 45 Tlb (noTab)))
theorem G33_at (f : FuncId) (vs : List V) : G33.at' f vs = if f = 43 then Tnest vs else if f = 44 then Ttag vs else if f = 45 then Tlb vs else noTab.at' f vs := rfl
theorem G33_fr (f : FuncId) : G33.fr f = if f = 43 then false else if f = 44 then false else if f = 45 then true else noTab.fr f := rfl
theorem G33_gb (f : FuncId) : G33.gb f = noTab.gb f := rfl
theorem G33_gv (f : FuncId) (vs : List V) : G33.gv f vs = noTab.gv f vs := rfl
attribute [simp] G33_at G33_fr G33_gb G33_gv Tlb Tnest Ttag
theorem G33_ok : TabOK Try.prog G33 := by
  refine add_ok (add_ok (addF_ok (noTab_ok) (by kernel_rfl) ?_) (by kernel_rfl) ?_) (by kernel_rfl) ?_
  · exact lb_tab
  · exact tag_tab
  · exact nest_tab
noncomputable def HM (ks0 : List (List V)) (bs0 : List Int) (d : Int) : Tab := add 35 (T1 [.list 3 ks0, .int .i64 (d + 1)] (.tup [.int .i64 bs0.length, .int .i64 0])) G33
section
variable (ks0 : List (List V)) (bs0 : List Int) (d : Int)
theorem HM_at (g : FuncId) (ws : List V) : (HM ks0 bs0 d).at' g ws = if g = 35 then T1 [.list 3 ks0, .int .i64 (d + 1)] (.tup [.int .i64 bs0.length, .int .i64 0]) ws else G33.at' g ws := rfl
theorem HM_fr (g : FuncId) : (HM ks0 bs0 d).fr g = if g = 35 then false else G33.fr g := rfl
theorem HM_gb (g : FuncId) : (HM ks0 bs0 d).gb g = G33.gb g := rfl
theorem HM_gv (g : FuncId) (ws : List V) : (HM ks0 bs0 d).gv g ws = G33.gv g ws := rfl
end
attribute [simp] HM_at HM_fr HM_gb HM_gv
def MeaOk (ks0 : List (List V)) (bs0 : List Int) (d : Int) : Prop := PCall Try.prog 35 [.list 3 ks0, .int .i64 d] (.tup [.int .i64 bs0.length, .int .i64 0])
theorem HM_ok {ks0 : List (List V)} {bs0 : List Int} {d : Int} (h : MeaOk ks0 bs0 (d + 1)) : TabOK Try.prog (HM ks0 bs0 d) :=
  add_ok G33_ok (by kernel_rfl) fun ws w hw => by
    unfold T1 at hw
    split at hw
    · rename_i e; cases hw; rw [e]; exact h
    · cases hw
theorem mea_nil (d : Int) : MeaOk [] [] d := by
  unfold MeaOk
  refine pcall_cx G33_ok mixed (fun _ => none) Try.func35 rfl Try.ntmps35 Try.results35 (by simp) (by kernel_rfl) ?_
  repeat' first
    | (with_reducible refine gw_bool (fun _ => ?_) (fun _ => ?_))
    | (with_reducible refine condw_bool (fun _ => ?_) (fun _ => ?_))
    | (refine lp_unroll (D := (fun _ => none)) G33_ok mixed (by kernel_rfl) ?_)
    | simp [*]
theorem mea_gen (L : List Nd) (d : Int) (hd : 0 ≤ d ∧ d ≤ 5) (ks0 : List (List V)) (bs0 : List Int) (h0 : MeaOk ks0 bs0 (d + 1)) (hL : ∀ x ∈ L, x.ok ks0 bs0) (hn : (enc L).length ≤ 1000) (hl : L.length ≤ 1000) : MeaOk (L.map Nd.cs) (enc L) d := by
  unfold MeaOk
  have HX_ok := HM_ok h0
  clear h0
  replace hL : Hid (_) := hL
  have hE : Hid (∀ i, (enc (L.take i)).length ≤ (enc L).length) := show ∀ i, _ from enc_le L
  obtain ⟨n, hln⟩ : ∃ n, L.length = n := ⟨_, rfl⟩
  have hn' : n ≤ 1000 := by omega
  obtain ⟨R, hR⟩ : ∃ R, L.map Nd.cs = R := ⟨_, rfl⟩
  rw [hR]
  have hRl : R.length = n := by rw [← hR]; simpa using hln
  replace hR : Hid (_) := hR
  have hln' : Hid (_) := hln
  have hn2 : Hid (_) := hn
  clear hl hln hn
  have d1 : ilt 6 d = false := ilt_f (by omega)
  have d2 : IntKind.i64.wrap (d + 1) = d + 1 := wrap_in (by omega) (by omega)
  have d3 : Hid (_) := hd
  clear hd
  refine pcall_cx HX_ok mixed (fun _ => none) Try.func35 rfl Try.ntmps35 Try.results35 (by simp) (by kernel_rfl) ?_
  repeat' first
    | (with_reducible refine gw_bool (fun _ => ?_) (fun _ => ?_))
    | (with_reducible refine condw_bool (fun _ => ?_) (fun _ => ?_))
    | simp [*]
  refine lp_go (D := (fun _ => none)) HX_ok mixed (by kernel_rfl) [1, 12, 13] [8] (α := Nat) (fun i e h => i ≤ n ∧ e 14 = .int .i64 i ∧ e 6 = .int .i64 (enc (L.take i)).length) (fun i => n - i) 0 ?_ ?_
  · exact ⟨by omega, by simp, by simp [enc]⟩
  rintro i e h hk hkh ⟨hi, g14, g6⟩
  simp [Keep] at hk
  simp [KeepH] at hkh
  by_cases hlt : i < n
  · have f1 : ilt (i : Int) n = true := ilt_t (by omega)
    have w1 : IntKind.i64.wrap ((i : Int) + 1) = ((i + 1 : Nat) : Int) := wrap_succ (by omega)
    have f10 : (i : Int) < n := by omega
    have hlen : L.length = n := hln'.out
    obtain ⟨v, hv⟩ : ∃ v, L[i]? = some v := ⟨L[i], List.getElem?_eq_getElem (by omega)⟩
    have hV' := enc_succ hv
    have hvd := hL.out v (List.mem_of_getElem? hv)
    have r1 : R[i]? = some v.cs := by rw [← hR.out]; simp [hv]
    have r2 : R[i] = v.cs := by rw [List.getElem?_eq_getElem (by omega)] at r1; simpa using r1
    have hT : (enc (L.take (i + 1))).length = (enc (L.take i)).length + (2 + v.bs.length) := by rw [hV']; simp [Nd.out]; omega
    have hb1 := hE.out (i + 1)
    have hb2 := hn2.out
    clear hv hV'
    generalize (enc (L.take i)).length = T at *
    obtain ⟨T', hTT⟩ : ∃ T', (enc (L.take (i + 1))).length = T' := ⟨_, rfl⟩
    rw [hTT] at hT hb1
    replace hT : Hid (_) := hT
    replace hTT : Hid (_) := hTT
    cases v with
    | p t b =>
      obtain ⟨hp, hbl⟩ := hvd
      simp only [Nd.cs, Nd.bs] at r1 r2 hT
      obtain ⟨m, hm⟩ : ∃ m, b.length = m := ⟨_, rfl⟩
      rw [hm] at hbl hT
      have q1 : (m : Int) < 128 := by omega
      have q2 : IntKind.i64.wrap (2 + (m : Int)) = 2 + m := wrap_in (by omega) (by omega)
      have hT2 := hT.out
      have q3 : IntKind.i64.wrap ((T : Int) + (2 + (m : Int))) = T' := by rw [wrap_in (by omega) (by omega)]; omega
      clear hT2 hb1 hb2
      repeat' first
        | (with_reducible refine gw_bool (fun _ => ?_) (fun _ => ?_))
        | (with_reducible refine condw_bool (fun _ => ?_) (fun _ => ?_))
        | simp [*]
      refine nxt_go (i + 1) ((View.forget _ _ 8)) (by omega) (by simp [*, Keep, St.forget, scr, scrC]) (by simp [*, KeepH, St.forget, scr, scrC]) ?_
      refine ⟨by omega, by simp [*, St.forget, scr, scrC], ?_⟩
      rw [hTT.out]; simp [*, St.forget, scr, scrC]
    | k t ks b =>
      obtain ⟨⟨hp, hbl⟩, rfl, rfl⟩ := hvd
      simp only [Nd.cs, Nd.bs] at r1 r2 hT
      have hnp : ¬ ptag t := by unfold ptag; unfold ktag at hp; omega
      obtain ⟨m, hm⟩ : ∃ m, b.length = m := ⟨_, rfl⟩
      rw [hm] at hbl hT
      have hT1 : T1 [.list 3 ks, .int .i64 (d + 1)] (.tup [.int .i64 (m : Int), .int .i64 0]) [.list 3 ks, .int .i64 (d + 1)] = some (.tup [.int .i64 (m : Int), .int .i64 0]) := T1_at _ _
      have q1 : (m : Int) < 128 := by omega
      have q2 : IntKind.i64.wrap (2 + (m : Int)) = 2 + m := wrap_in (by omega) (by omega)
      have hT2 := hT.out
      have q3 : IntKind.i64.wrap ((T : Int) + (2 + (m : Int))) = T' := by rw [wrap_in (by omega) (by omega)]; omega
      clear hT2 hb1 hb2
      repeat' first
        | (with_reducible refine gw_bool (fun _ => ?_) (fun _ => ?_))
        | (with_reducible refine condw_bool (fun _ => ?_) (fun _ => ?_))
        | simp [*]
      refine nxt_go (i + 1) ((View.forget _ _ 8)) (by omega) (by simp [*, Keep, St.forget, scr, scrC]) (by simp [*, KeepH, St.forget, scr, scrC]) ?_
      refine ⟨by omega, by simp [*, St.forget, scr, scrC], ?_⟩
      rw [hTT.out]; simp [*, St.forget, scr, scrC]
  · have f1 : ilt (i : Int) n = false := ilt_f (by omega)
    have e3 : i = n := by omega
    have e4 : L.take n = L := List.take_of_length_le (by rw [hln'.out]; exact Nat.le_refl _)
    subst e3
    rw [e4] at g6
    repeat' first
      | (with_reducible refine gw_bool (fun _ => ?_) (fun _ => ?_))
      | (with_reducible refine condw_bool (fun _ => ?_) (fun _ => ?_))
      | simp [*]
end Go.Proofs.Ytpkibnkhllefaaa
end
section
namespace Go.Proofs.Ytpkibnkhllefaaa
open Go.Pv Go.RowKit
set_option linter.unusedSimpArgs false
set_option linter.unusedVariables false
set_option maxRecDepth 100000
set_option maxHeartbeats 4000000

def u8s (b : List Int) : List V := b.map (V.int .u8)
theorem u8s_app (a b : List Int) : u8s (a ++ b) = u8s a ++ u8s b := by simp [u8s]
theorem u8s_pure (b : List Int) : (u8s b).any ownC = false := by
  rw [List.any_eq_false]; intro v hv; simp only [u8s, List.mem_map] at hv; obtain ⟨b, _, rfl⟩ := hv; simp [ownC]
theorem u8s_one (b : List Int) : (u8s b).all oneV = true := by
  rw [List.all_eq_true]; intro v hv; simp only [u8s, List.mem_map] at hv; obtain ⟨b, _, rfl⟩ := hv; simp [oneV]
theorem u1_flat : ∀ (b : List Int), (b.map u1).flatten = u8s b
  | [] => rfl
  | x :: b => by simp [u1, u8s]; exact u1_flat b
theorem u1_chunks : ∀ (b : List Int), chunks 1 b.length (u8s b) = b.map u1
  | [] => rfl
  | b :: l => by
    have := u1_chunks l
    simp only [u8s, List.map_cons, List.length_cons, chunks, List.take_succ_cons, List.take_zero, List.drop_succ_cons, List.drop_zero] at this ⊢
    rw [this]; rfl
noncomputable def HW (ks0 : List (List V)) (X0 : List (List V)) : Tab := add 36 (T1 [.nils, .list 3 ks0] (.list 1 X0)) G33
section
variable (ks0 : List (List V)) (X0 : List (List V))
theorem HW_at (g : FuncId) (ws : List V) : (HW ks0 X0).at' g ws = if g = 36 then T1 [.nils, .list 3 ks0] (.list 1 X0) ws else G33.at' g ws := rfl
theorem HW_fr (g : FuncId) : (HW ks0 X0).fr g = if g = 36 then false else G33.fr g := rfl
theorem HW_gb (g : FuncId) : (HW ks0 X0).gb g = G33.gb g := rfl
theorem HW_gv (g : FuncId) (ws : List V) : (HW ks0 X0).gv g ws = G33.gv g ws := rfl
end
attribute [simp] HW_at HW_fr HW_gb HW_gv
def WriOk (ks0 : List (List V)) (bs0 : List Int) : Prop := PCall Try.prog 36 [.nils, .list 3 ks0] (.list 1 (bs0.map u1))
theorem HW_ok {ks0 : List (List V)} {bs0 : List Int} (h : WriOk ks0 bs0) : TabOK Try.prog (HW ks0 (bs0.map u1)) :=
  add_ok G33_ok (by kernel_rfl) fun ws w hw => by
    unfold T1 at hw
    split at hw
    · rename_i e; cases hw; rw [e]; exact h
    · cases hw
theorem tag_u8 {t : Int} (h : ptag t ∨ ktag t) : IntKind.u8.wrap t = t := u8_in (by unfold ptag ktag at h; omega) (by unfold ptag ktag at h; omega)
theorem wri_gen (L : List Nd) (ks0 : List (List V)) (bs0 : List Int) (h0 : WriOk ks0 bs0) (hL : ∀ x ∈ L, x.ok ks0 bs0) (hn : (enc L).length ≤ 1000) (hl : L.length ≤ 1000) (h1 : 0 < (enc L).length) : WriOk (L.map Nd.cs) (enc L) := by
  unfold WriOk
  have HX_ok := HW_ok h0
  clear h0
  replace hL : Hid (_) := hL
  have hE : Hid (∀ i, (enc (L.take i)).length ≤ (enc L).length) := show ∀ i, _ from enc_le L
  obtain ⟨n, hln⟩ : ∃ n, L.length = n := ⟨_, rfl⟩
  have hn' : n ≤ 1000 := by omega
  obtain ⟨R, hR⟩ : ∃ R, L.map Nd.cs = R := ⟨_, rfl⟩
  rw [hR]
  have hRl : R.length = n := by rw [← hR]; simpa using hln
  replace hR : Hid (_) := hR
  have hln' : Hid (_) := hln
  have hn2 : Hid (_) := hn
  have hn3 : Hid (_) := h1
  clear hl hln hn h1
  refine pcall_cx HX_ok mixed (fun _ => none) Try.func36 rfl Try.ntmps36 Try.results36 (by simp) (by kernel_rfl) ?_
  repeat' first
    | (with_reducible refine gw_bool (fun _ => ?_) (fun _ => ?_))
    | (with_reducible refine condw_bool (fun _ => ?_) (fun _ => ?_))
    | simp [*]
  refine lp_view (View.nilOwn _ (t := 0) (key := 27) 1 5 rfl rfl) ?_
  refine lp_go (D := (fun _ => none)) HX_ok mixed (by kernel_rfl) [8, 9] [6, 26, 32, 35] (α := Nat) (fun i e h => i ≤ n ∧ e 10 = .int .i64 i ∧ e 0 = .sl 27 0 (enc (L.take i)).length 1 ∧ h 27 = some ⟨5, u8s (enc (L.take i))⟩) (fun i => n - i) 0 ?_ ?_
  · exact ⟨by omega, by simp, by simp [enc], by simp [enc, u8s]⟩
  rintro i e h hk hkh ⟨hi, g10, g0, g27⟩
  simp [Keep] at hk
  simp [KeepH] at hkh
  have hWl : (u8s (enc (L.take i))).length = (enc (L.take i)).length := by simp [u8s]
  have hWp := u8s_pure (enc (L.take i))
  by_cases hlt : i < n
  · have f1 : ilt (i : Int) n = true := ilt_t (by omega)
    have w1 : IntKind.i64.wrap ((i : Int) + 1) = ((i + 1 : Nat) : Int) := wrap_succ (by omega)
    have f10 : (i : Int) < n := by omega
    have hlen : L.length = n := hln'.out
    obtain ⟨v, hv⟩ : ∃ v, L[i]? = some v := ⟨L[i], List.getElem?_eq_getElem (by omega)⟩
    have hV' := enc_succ hv
    have hvd := hL.out v (List.mem_of_getElem? hv)
    have r1 : R[i]? = some v.cs := by rw [← hR.out]; simp [hv]
    have r2 : R[i] = v.cs := by rw [List.getElem?_eq_getElem (by omega)] at r1; simpa using r1
    have hT : (enc (L.take (i + 1))).length = (enc (L.take i)).length + (2 + v.bs.length) := by rw [hV']; simp [Nd.out]; omega
    have hU : u8s (enc (L.take (i + 1))) = u8s (enc (L.take i)) ++ (V.int .u8 v.tag :: V.int .u8 v.bs.length :: u8s v.bs) := by rw [hV', u8s_app]; simp [Nd.out, u8s]
    have hb1 := hE.out (i + 1)
    have hb2 := hn2.out
    clear hv hV'
    generalize u8s (enc (L.take i)) = W at *
    have hWs : ∀ k, W.map (scrC k) = W := fun k => scrC_cells hWp
    clear hWp
    generalize (enc (L.take i)).length = T at *
    obtain ⟨T', hTT⟩ : ∃ T', (enc (L.take (i + 1))).length = T' := ⟨_, rfl⟩
    rw [hTT] at hT hb1
    replace hT : Hid (_) := hT
    replace hTT : Hid (_) := hTT
    replace hU : Hid (_) := hU
    cases v with
    | p t b =>
      obtain ⟨hp, hbl⟩ := hvd
      simp only [Nd.cs, Nd.bs, Nd.tag] at r1 r2 hT hU
      have hB0 := u1_flat b
      have hB1 := u8s_pure b
      have hB2 := u8s_one b
      have hB3 : (u8s b).length = b.length := by simp [u8s]
      have hB4 : (b.map u1).length = b.length := by simp
      obtain ⟨m, hm⟩ : ∃ m, b.length = m := ⟨_, rfl⟩
      rw [hm] at hbl hT hU hB3 hB4
      have q1 : (m : Int) < 128 := by omega
      have q2 := tag_u8 (.inl hp)
      have hT2 := hT.out
      generalize u8s b = B at *
      generalize b.map u1 = X at *
      have hBs : ∀ k, B.map (scrC k) = B := fun k => scrC_cells hB1
      clear hB1
      have p1 : T + 1 ≤ 140737488355328 := by omega
      have p2 : T + 1 ≤ 9223372036854775807 := by omega
      have p3 : T + 1 + 1 ≤ 140737488355328 := by omega
      have p4 : T + 1 + 1 ≤ 9223372036854775807 := by omega
      have p5 : T + 1 + 1 + m ≤ 140737488355328 := by omega
      have p6 : T + 1 + 1 + m ≤ 9223372036854775807 := by omega
      clear hT2 hb1 hb2
      repeat' first
        | (with_reducible refine gw_bool (fun _ => ?_) (fun _ => ?_))
        | (with_reducible refine condw_bool (fun _ => ?_) (fun _ => ?_))
        | simp [*, appendV, srcCells, St.forget, scr, scrC, usesC, usesA, chunks, oneV]
      refine nxt_go (i + 1) ((View.forget _ _ 6).trans ((View.forget _ _ 26))) (by omega) (by simp [*, Keep, St.forget, scr, scrC]) (by simp [*, KeepH, St.forget, scr, scrC]) ?_
      refine ⟨by omega, by simp [*, St.forget, scr, scrC], ?_, ?_⟩
      · rw [hTT.out, hT.out]; simp [*, St.forget, scr, scrC]; omega
      · rw [hU.out]; simp [*, St.forget, scr, scrC]
    | k t ks b =>
      obtain ⟨⟨hp, hbl⟩, rfl, rfl⟩ := hvd
      simp only [Nd.cs, Nd.bs, Nd.tag] at r1 r2 hT hU
      have hnp : ¬ ptag t := by unfold ptag; unfold ktag at hp; omega
      have hT1 : T1 [.nils, .list 3 ks] (.list 1 (b.map u1)) [.nils, .list 3 ks] = some (.list 1 (b.map u1)) := T1_at _ _
      have hB0 := u1_flat b
      have hB1 := u8s_pure b
      have hB2 := u8s_one b
      have hB3 : (u8s b).length = b.length := by simp [u8s]
      have hB4 : (b.map u1).length = b.length := by simp
      obtain ⟨m, hm⟩ : ∃ m, b.length = m := ⟨_, rfl⟩
      rw [hm] at hbl hT hU hB3 hB4
      have q1 : (m : Int) < 128 := by omega
      have q2 := tag_u8 (.inr hp)
      have hT2 := hT.out
      generalize u8s b = B at *
      generalize b.map u1 = X at *
      have hBs : ∀ k, B.map (scrC k) = B := fun k => scrC_cells hB1
      clear hB1
      have p1 : T + 1 ≤ 140737488355328 := by omega
      have p2 : T + 1 ≤ 9223372036854775807 := by omega
      have p3 : T + 1 + 1 ≤ 140737488355328 := by omega
      have p4 : T + 1 + 1 ≤ 9223372036854775807 := by omega
      have p5 : T + 1 + 1 + m ≤ 140737488355328 := by omega
      have p6 : T + 1 + 1 + m ≤ 9223372036854775807 := by omega
      clear hT2 hb1 hb2
      repeat' first
        | (with_reducible refine gw_bool (fun _ => ?_) (fun _ => ?_))
        | (with_reducible refine condw_bool (fun _ => ?_) (fun _ => ?_))
        | simp [*, appendV, srcCells, St.forget, scr, scrC, usesC, usesA, chunks, oneV]
      refine nxt_go (i + 1) ((View.forget _ _ 6).trans ((View.forget _ _ 26))) (by omega) (by simp [*, Keep, St.forget, scr, scrC]) (by simp [*, KeepH, St.forget, scr, scrC]) ?_
      refine ⟨by omega, by simp [*, St.forget, scr, scrC], ?_, ?_⟩
      · rw [hTT.out, hT.out]; simp [*, St.forget, scr, scrC]; omega
      · rw [hU.out]; simp [*, St.forget, scr, scrC]
  · have f1 : ilt (i : Int) n = false := ilt_f (by omega)
    have e3 : i = n := by omega
    have e4 : L.take n = L := List.take_of_length_le (by rw [hln'.out]; exact Nat.le_refl _)
    subst e3
    rw [e4] at g0 g27 hWl hWp
    have hC := u1_chunks (enc L)
    have hb2 := hn2.out
    obtain ⟨m, hm⟩ : ∃ m, (enc L).length = m := ⟨_, rfl⟩
    rw [hm] at g0 hWl hC
    have hb3 : m ≤ 1000 := by omega
    have hb4 := hn3.out
    have hb5 : decide (0 = m) = false := by simp; omega
    clear hb2 hb4
    generalize u8s (enc L) = W at *
    generalize (enc L).map u1 = X at *
    repeat' first
      | (with_reducible refine gw_bool (fun _ => ?_) (fun _ => ?_))
      | (with_reducible refine condw_bool (fun _ => ?_) (fun _ => ?_))
      | simp [*]
end Go.Proofs.Ytpkibnkhllefaaa
end
