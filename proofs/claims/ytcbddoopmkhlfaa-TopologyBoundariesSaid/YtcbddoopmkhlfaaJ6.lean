/-
  Views: the iterator over the edges.
  Views: the closure that visits a node; the iterator's making; loops over iterators inside loops.
  Reaching a source: what is computed.
  Reaching a source: the walk.
  Reaching a source: the whole function.
  Whether a zone is live; the normal position.
  Zones that are fed: the walk.
  Zones that are fed: the walk.
  Reaching a source: the plain law.
  Reading lists of zones out of arguments.
-/
import Derived.Test.YtcbddoopmkhlfaaJ5
import Derived.Test.YtcbddoopmkhlfaaJ3
import Derived.TacticsInMore
import Derived.OrdersIn
section
namespace Go.Proofs.Ytcbddoopmkhlfaa
open Go.Pv Go.RowKit
set_option linter.unusedSimpArgs false
set_option linter.unusedVariables false
set_option maxRecDepth 100000
set_option maxHeartbeats 2000000
attribute [-simp] Tclo_at Tgrp_at Tchk Tpchk TcI TcB Tclo Tgrp Tsid Tnod Tlook Tbnd

structure Ed where
  i : Nat
  a0 : Int
  a1 : Int
  c0 : Int
  c1 : Int
def Ed.ns (x : Ed) : List V := [.int .i64 x.a0, .int .i64 x.a1, .int .i64 x.c0, .int .i64 x.c1]
def Ed.arr (x : Ed) : Array Value := #[.int .i64 x.i, .agg #[.int .i64 x.a0, .int .i64 x.a1, .int .i64 x.c0, .int .i64 x.c1]]
def isE (c : Bool) (a0 a1 c0 c1 : Int) : Bool := c && (!(ieq a0 c0 && ieq a1 c1) && (!ieq a0 0 && !ieq c0 0))
def edOf (v : Vu) (i : Nat) : Option Ed := match v.p.cl[i]?, sidF v.s v.p v.g i with
  | some c, some [a0, a1, c0, c1] => if isE c a0 a1 c0 c1 = true then some ⟨i, a0, a1, c0, c1⟩ else none
  | _, _ => none
def edN (v : Vu) (m : Nat) : List Ed := (List.range m).filterMap (edOf v)
def edg (v : Vu) : List Ed := edN v v.p.cl.length
theorem edN_t {v : Vu} {n : Nat} {x : Ed} (h : edOf v n = some x) : edN v (n + 1) = edN v n ++ [x] := by
  simp [edN, List.range_succ, List.filterMap_append, h]
theorem edN_f {v : Vu} {n : Nat} (h : edOf v n = none) : edN v (n + 1) = edN v n := by
  simp [edN, List.range_succ, List.filterMap_append, h]
theorem edN_mono {v : Vu} {a b : Nat} (h : a ≤ b) : (edN v a).length ≤ (edN v b).length := by
  induction h with
  | refl => exact Nat.le_refl _
  | step _ ih =>
    rename_i m _
    cases hu : edOf v m with
    | none => rw [edN_f hu]; exact ih
    | some x => rw [edN_t hu]; simp; omega
theorem edN_len (v : Vu) (n : Nat) : (edN v n).length ≤ n := by
  unfold edN
  exact Nat.le_trans (List.length_filterMap_le _ _) (by simp)
/-! ### a view's cells, the breakers by their value -/
def Vu.csA (v : Vu) (X : Value) : List V := [.str v.s.nm, .list 1 (v.s.bs.map s1), .list 5 (v.s.ls.map Ln.cs), .list 6 (v.s.ss.map Sr.cs), .list 12 (v.s.qs.map By.cs), .as X 1 (v.p.cl.map b1), .list 1 (v.p.lk.map r1), .list 1 (v.g.map i1)]
theorem vcsA_at {v : Vu} {X : Value} {j : Nat} {c : V} (h : (v.csA X)[j]? = some c) : ∃ d, v.cs[j]? = some d ∧ ((j ≠ 5 ∧ c = d) ∨ (j = 5 ∧ d = .list 1 (v.p.cl.map b1) ∧ c = .as X 1 (v.p.cl.map b1))) := by
  match j with
  | 0 => exact ⟨_, rfl, .inl ⟨by decide, by simpa [Vu.csA] using h.symm⟩⟩
  | 1 => exact ⟨_, rfl, .inl ⟨by decide, by simpa [Vu.csA] using h.symm⟩⟩
  | 2 => exact ⟨_, rfl, .inl ⟨by decide, by simpa [Vu.csA] using h.symm⟩⟩
  | 3 => exact ⟨_, rfl, .inl ⟨by decide, by simpa [Vu.csA] using h.symm⟩⟩
  | 4 => exact ⟨_, rfl, .inl ⟨by decide, by simpa [Vu.csA] using h.symm⟩⟩
  | 5 => exact ⟨_, rfl, .inr ⟨rfl, rfl, by simpa [Vu.csA] using h.symm⟩⟩
  | 6 => exact ⟨_, rfl, .inl ⟨by decide, by simpa [Vu.csA] using h.symm⟩⟩
  | 7 => exact ⟨_, rfl, .inl ⟨by decide, by simpa [Vu.csA] using h.symm⟩⟩
  | j + 8 => simp [Vu.csA] at h
theorem vuA {w : World} {ro : Nat → Prop} {v : Vu} {ad : Addr} (h : R0 w ro (.vrp ad v.cs) (.pointer (some ad))) : ∃ X, R0 w ro (.vrp ad (v.csA X)) (.pointer (some ad)) ∧ R0 w ro (.list 1 (v.p.cl.map b1)) X := by
  cases h with
  | vrp _ _ g h1 h2 h3 =>
    refine ⟨g 5, .vrp _ _ g h1 (fun j x hj => ?_) (fun j x hj => ?_), h3 5 _ rfl⟩
    · obtain ⟨d, hd, _⟩ := vcsA_at hj
      exact h2 j d hd
    · obtain ⟨d, hd, ⟨_, rfl⟩ | ⟨rfl, rfl, rfl⟩⟩ := vcsA_at hj
      · exact h3 j _ hd
      · exact .as _ _ _ (h3 5 _ hd)
theorem vcsA_cs {w : World} {ro : Nat → Prop} {v : Vu} {X y : Value} (h : R0 w ro (.agg (v.csA X)) y) : R0 w ro (.agg v.cs) y := by
  cases h with
  | agg _ arr hl hr =>
    refine .agg _ _ hl fun j c x hc hx => ?_
    have hj : j < (v.csA X).length := (List.getElem?_eq_some_iff.1 hc).1
    obtain ⟨d, hd, ⟨_, e⟩ | ⟨rfl, e1, e2⟩⟩ := vcsA_at (List.getElem?_eq_getElem hj)
    · rw [hc] at hd; cases hd
      have := hr j _ x (List.getElem?_eq_getElem hj) hx
      rwa [e] at this
    · rw [hc] at hd; cases hd
      have := hr 5 _ x (List.getElem?_eq_getElem hj) hx
      rw [e2] at this
      rw [e1]
      exact as_list this
def unVuA : List V → Option (Vu × Value)
  | [.str nm, .list 1 bs, .list 5 ls, .list 6 ss, .list 12 qs, .as X 1 a, .list 1 b, .list 1 g] => (match decL unS1 bs, decL unLn ls, decL unSr ss, decL unBy qs, decL unB1 a, decL unR1 b, decL unI1 g with
    | some bs, some ls, some ss, some qs, some a, some b, some g => some (⟨⟨nm, bs, ls, ss, qs⟩, ⟨a, b⟩, g⟩, X)
    | _, _, _, _, _, _, _ => none)
  | _ => none
theorem unVuA_cs (v : Vu) (X : Value) : unVuA (v.csA X) = some (v, X) := by simp [unVuA, Vu.csA, decL_map unS1_cs, decL_map unLn_cs, decL_map unSr_cs, decL_map unBy_cs, decL_map unB1_cs, decL_map unR1_cs, decL_map unI1_cs]
theorem unVuA_inv : ∀ c a, unVuA c = some a → c = Vu.csA a.1 a.2 := by
  intro c a h; unfold unVuA at h; split at h
  · split at h
    · rename_i h1 h2 h3 h4 h5 h6 h7
      cases h
      rw [decL_inv unS1_inv _ _ h1, decL_inv unLn_inv _ _ h2, decL_inv unSr_inv _ _ h3, decL_inv unBy_inv _ _ h4, decL_inv unB1_inv _ _ h5, decL_inv unR1_inv _ _ h6, decL_inv unI1_inv _ _ h7]; rfl
    · cases h
  · cases h
def TsidA : List V → Option V
  | [.agg c, .int .i64 i] => (match unVuA c with
    | some v => (match sidF v.1.s v.1.p v.1.g i with
      | some S => some (.agg (S.map (V.int .i64)))
      | none => none)
    | none => none)
  | _ => none
theorem TsidA_at {v : Vu} {X : Value} {i : Int} {S : List Int} (h : sidF v.s v.p v.g i = some S) : TsidA [.agg [.str v.s.nm, .list 1 (v.s.bs.map s1), .list 5 (v.s.ls.map Ln.cs), .list 6 (v.s.ss.map Sr.cs), .list 12 (v.s.qs.map By.cs), .as X 1 (v.p.cl.map b1), .list 1 (v.p.lk.map r1), .list 1 (v.g.map i1)], .int .i64 i] = some (.agg (S.map (V.int .i64))) := by
  have := unVuA_cs v X
  unfold Vu.csA at this
  simp [TsidA, this, h]
theorem sidA_tab : ∀ vs u, TsidA vs = some u → PCall Try.prog 64 vs u := by
  intro vs u h; unfold TsidA at h; split at h
  · split at h
    · rename_i c i _ v hv
      split at h
      · rename_i S hS
        cases h
        rw [unVuA_inv _ _ hv]
        have hp : PCall Try.prog 64 [.agg v.1.cs, .int .i64 i] (.agg (S.map (V.int .i64))) := by
          refine sid_tab _ _ ?_
          exact Tsid_at (s := v.1.s) (p := v.1.p) (g := v.1.g) hS
        intro w ro args hro hsz hr
        refine hp w ro args hro hsz fun j c x hc hx => ?_
        match j with
        | 0 => simp at hc; subst hc; exact vcsA_cs (hr 0 _ x rfl hx)
        | 1 => exact hr 1 c x hc hx
        | j + 2 => simp at hc
      · cases h
    · cases h
  · cases h
def DA : Tab := add 64 TsidA (D5)
theorem DA_at (f : FuncId) (vs : List V) : DA.at' f vs = if f = 64 then TsidA vs else D5.at' f vs := rfl
theorem DA_fr (f : FuncId) : DA.fr f = if f = 64 then false else D5.fr f := rfl
theorem DA_gb (f : FuncId) : DA.gb f = D5.gb f := rfl
theorem DA_gv (f : FuncId) (vs : List V) : DA.gv f vs = D5.gv f vs := rfl
attribute [simp] DA_at DA_fr DA_gb DA_gv TsidA
theorem DA_ok : TabOK Try.prog DA := by
  refine add_ok (D5_ok) (by kernel_rfl) ?_
  · exact sidA_tab
attribute [-simp] TsidA
attribute [simp] TsidA_at
/-! ### the iterator's frame between two statements -/
theorem rig_val {W : World} {ro : Nat → Prop} {Y : Value} : Rig W ro (.val Y) := fun w1 ro1 lam1 x hk hr => by
  have := getD_val hr
  subst this; exact .val _
structure EG (n : Nat) (ro : Nat → Prop) (W : World) (L : List (Nat × V)) (J : List Ed → World → Prop) (pre : List Ed) (a : Act) (w : World) : Prop where
  dfr : a.defers = []
  size : n ≤ a.tmps.size
  env : ∀ t, R0 w ro (envL L t) (a.tmps.getD t Go.undef)
  kept : KR ro W w
  got : J pre w
section
variable {n : Nat} {ro ro1 : Nat → Prop} {W w w1 : World} {L L' : List (Nat × V)} {J : List Ed → World → Prop} {pre pre' : List Ed} {a a1 : Act} {lam1 : Lam} {s1 : St}
theorem EG.sim (hg : EG n ro W L J pre a w) (hro : ∀ b, ro b → b < W.heap.size) : Sim (.of w) n ro (fun _ => none) ⟨envL L, fun _ => none⟩ a w :=
  sim_mk hg.dfr hg.size (fun b hb => Nat.lt_of_lt_of_le (hro b hb) hg.kept.1) hg.env
theorem EG.step (hg : EG n ro W L J pre a w) (hro : ∀ b, ro b → b < W.heap.size) (hJ : Ab J) (hs : Sim (.of w) n ro1 lam1 s1 a1 w1) (hE : HasE s1.env L') (hR : RigE W ro L') : EG n ro W L' J pre a1 w1 := by
  have hk : KR ro W w1 := hg.kept.trans ⟨hs.below.size, fun b hb => hs.below.below.block b (Nat.lt_of_lt_of_le (hro b hb) hg.kept.1)⟩
  exact ⟨hs.dfr, hs.size, envL_sim (fun b h => hk.2 b h) hs L' hE hR, hk, hJ _ _ _ hg.got hs.below.below⟩
theorem EG.next (hg : EG n ro W L J pre a w) {d : Nat} {b : Bool} (hd : d < n) (hb : KR ro w w1) (hJ : J pre' w1) : EG n ro W ((d, .bool b) :: L) J pre' (a.put (some d) (.bool b)) w1 := by
  refine ⟨hg.dfr, by simpa [Act.put] using hg.size, fun t => ?_, hg.kept.trans hb, hJ⟩
  rw [getD_put (Nat.lt_of_lt_of_le hd hg.size)]
  simp only [envL, upd]
  split
  · exact .bool _
  · exact (hg.env t).mono (fun b h => hb.2 b h) (fun _ h => h)
end
theorem agg4 {w : World} {ro : Nat → Prop} {lam : Lam} {a b c d : Int} {z : Value} (h : R w ro lam (.agg [.int .i64 a, .int .i64 b, .int .i64 c, .int .i64 d]) z) : z = .agg #[.int .i64 a, .int .i64 b, .int .i64 c, .int .i64 d] := by
  obtain ⟨arr, rfl, hl, hr⟩ := h.agg_inv
  have hl' : arr.size = 4 := hl
  have e0 : arr[0] = .int .i64 a := (hr 0 _ _ rfl (Array.getElem?_eq_getElem (by omega))).int_inv
  have e1 : arr[1] = .int .i64 b := (hr 1 _ _ rfl (Array.getElem?_eq_getElem (by omega))).int_inv
  have e2 : arr[2] = .int .i64 c := (hr 2 _ _ rfl (Array.getElem?_eq_getElem (by omega))).int_inv
  have e3 : arr[3] = .int .i64 d := (hr 3 _ _ rfl (Array.getElem?_eq_getElem (by omega))).int_inv
  congr 1
  apply Array.ext
  · simpa using hl'
  · intro i h1 h2
    match i with
    | 0 => simpa using e0
    | 1 => simpa using e1
    | 2 => simpa using e2
    | 3 => simpa using e3
    | i + 4 => simp at h2; omega
def muE (a : Act) (_ : World) : Nat := 1001 - (match a.tmps.getD 10 Go.undef with
  | .int _ k => k.toNat
  | _ => 0)
def itL (Y : Value) (ad : Addr) (cs : List V) (X : Value) (xs : List (List V)) (n : Int) (k : Int) : List (Nat × V) := [(0, .val Y), (1, .vrp ad cs), (8, .as X 1 xs), (9, .int .i64 n), (10, .int .i64 k)]
theorem EG.mu {n : Nat} {ro : Nat → Prop} {W w : World} {J : List Ed → World → Prop} {pre : List Ed} {a : Act} {Y X : Value} {ad : Addr} {cs : List V} {xs : List (List V)} {N : Int} {k : Nat} (hg : EG n ro W (itL Y ad cs X xs N k) J pre a w) : muE a w = 1001 - k := by
  have := r0_int (hg.env 10)
  simp [muE, this]
theorem sides_some {v : Vu} (hw : wfG v.s v.p v.g.length = true) {k : Nat} (hk : k < v.s.qs.length) : ∃ a0 a1 c0 c1, sidF v.s v.p v.g k = some [a0, a1, c0, c1] := by
  obtain ⟨b, hb, -⟩ := at_ex (l := v.s.qs) (i := k) hk
  obtain ⟨l, hl, -⟩ := wf_at hw hb
  obtain ⟨a0, a1, c0, c1, hsd⟩ := sid4 v.g b l
  refine ⟨a0, a1, c0, c1, ?_⟩
  have : (k : Int) < v.s.qs.length := by omega
  rw [← hsd]; simp [sidF, hw, hb, hl, this]
theorem it_in (m l : Nat) (v : Vu) (ad : Addr) (ro : Nat → Prop) (W : World) (hro : ∀ b, ro b → b < W.heap.size) (hw : wfG v.s v.p v.g.length = true) (hcl : v.p.cl.length = v.s.qs.length)
    (hX : R0 W ro (.vrp ad v.cs) (.pointer (some ad))) (J Jx : List Ed → World → Prop) (hJ : Ab J) (hJx : Ab Jx)
    (hY : ∀ pre x W1, x ∈ edg v → J pre W1 → pre.length < (edg v).length → YieldAt Fence.wide (m - 1) Try.prog l x.arr W1 fun e W' =>
      (e = .returned (.bool true) ∧ J (pre ++ [x]) W' ∧ KR ro W1 W') ∨ (e = .returned (.bool false) ∧ Jx (pre ++ [x]) W'))
    (h0 : J [] W) : CallsIn Fence.wide m Try.prog 85 #[.func (.yield l) #[] #[], .pointer (some ad)] W fun e W' => (∃ v, e = .returned v) ∧ (J (edg v) W' ∨ ∃ pre, Jx pre W') := by
  obtain ⟨X, hXa, hXl⟩ := vuA hX
  have hq : v.s.qs.length ≤ 1000 := by simp only [wfG, Bool.and_eq_true, decide_eq_true_eq] at hw; exact hw.1
  have hsome : ∀ k, k < v.s.qs.length → ∃ a0 a1 c0 c1, sidF v.s v.p v.g k = some [a0, a1, c0, c1] := fun k hk => sides_some hw hk
  obtain ⟨N, hN⟩ : ∃ N, v.p.cl.length = N := ⟨_, rfl⟩
  rw [← hcl] at hq hsome
  rw [hN] at hq hsome
  have hed : edg v = edN v N := by rw [edg, hN]
  rw [hed] at hY ⊢
  clear hcl hed hX
  refine callsIn_of_wp Try.func85 rfl trivial ?_ rfl
  rw [Try.ntmps85]
  obtain ⟨Y, hYv⟩ : ∃ Y : Value, Y = .func (.yield l) #[] #[] := ⟨_, rfl⟩
  rw [← hYv]
  obtain ⟨cs, hcs⟩ : ∃ cs : List V, cs = v.csA X := ⟨_, rfl⟩
  rw [← hcs] at hXa
  obtain ⟨xs, hxs⟩ : ∃ xs, xs = v.p.cl.map b1 := ⟨_, rfl⟩
  rw [← hxs] at hXl
  have hrig : ∀ k : Nat, RigE W ro (itL Y ad cs X xs N k) := fun k => ⟨rig_val, rig_vrp hXa, rig_as hXl, rig_flat rfl, rig_flat rfl, trivial⟩
  have hs0 := sim_ini (n := 45) (w := W) (ro := ro) (args := #[Y, .pointer (some ad)]) (vs := [.val Y, .vrp ad cs]) hro rfl (by simp) (fun j c x hc hx => by
    match j with
    | 0 => simp at hc hx; subst hc; subst hx; exact .val _
    | 1 => simp at hc hx; subst hc; subst hx; exact hXa
    | j + 2 => simp at hc)
  refine wpIn_seq ?_
  refine wpIn_mono (cw_in (CW.of_cx (D := fun _ => none) DA_ok mixed _ (fun e s => e = .normal ∧ HasE s.env (itL Y ad cs X xs N (0 : Nat))) _ (by kernel_rfl) ?_) hs0) ?_
  · rw [hcs, hxs]
    clear hY hJ hJx hs0 hrig
    repeat' first
      | (with_reducible refine gw_bool (fun _ => ?_) (fun _ => ?_))
      | (with_reducible refine condw_bool (fun _ => ?_) (fun _ => ?_))
      | simp [*, Vu.csA, itL, HasE]
  rintro e a w ⟨s1, ro1, lam1, ⟨rfl, hE⟩, -, hs1⟩
  have hg0 : EG 45 ro W (itL Y ad cs X xs N (0 : Nat)) J [] a w := by
    have hk : KR ro W w := ⟨hs1.below.size, fun b hb => hs1.below.below.block b (hro b hb)⟩
    exact ⟨hs1.dfr, hs1.size, envL_sim (fun b h => hk.2 b h) hs1 _ hE (hrig 0), hk, hJ _ _ _ h0 hs1.below.below⟩
  clear hs1 hs0 hE
  refine wpIn_block ?_
  refine wpIn_loop (fun a w => ∃ k : Nat, k ≤ N ∧ EG 45 ro W (itL Y ad cs X xs N k) J (edN v k) a w) muE ⟨0, by omega, hg0⟩ ?_
  clear hg0 a w
  rintro a w ⟨k, hk, hg⟩
  have fin : ∀ e a' w', EG 45 ro W (itL Y ad cs X xs N k) J (edN v N) a' w' → e = Exit.normal → bodyPost Try.prog Try.f85 (fun e W' => (∃ v, e = .returned v) ∧ (J (edN v N) W' ∨ ∃ pre, Jx pre W')) e a' w' := by
    rintro e a' w' hg' rfl
    exact ⟨hg'.dfr, _, results_none rfl _ _ _, ⟨_, rfl⟩, .inl hg'.got⟩
  have w1 : IntKind.i64.wrap ((k : Int) + 1) = ((k + 1 : Nat) : Int) := wrap_succ (by omega)
  have hsim := hg.sim hro
  refine wpIn_seq ?_
  by_cases hlt : k < N
  · have f1 : ilt (k : Int) (N : Int) = true := ilt_t (by omega)
    refine wpIn_mono (cw_in (CW.of_cx (D := fun _ => none) DA_ok mixed _ (fun e s => e = .normal ∧ HasE s.env ((11, .bool true) :: itL Y ad cs X xs N k)) _ (by kernel_rfl) ?_) hsim) ?_
    · clear fin hY hJ hJx hsim hg hrig
      repeat' first
        | (with_reducible refine gw_bool (fun _ => ?_) (fun _ => ?_))
        | (with_reducible refine condw_bool (fun _ => ?_) (fun _ => ?_))
        | simp [*, itL, HasE, envL]
    rintro e a1 w1' ⟨s1, ro1, lam1, ⟨rfl, hE⟩, -, hs1⟩
    have hg1 := hg.step hro hJ hs1 hE ⟨rig_flat rfl, hrig k⟩
    clear hs1 hsim hE
    refine wpIn_seq ?_
    refine wpIn_mono (cw_in (CW.of_cx (D := fun _ => none) DA_ok mixed _ (fun e s => e = .normal ∧ HasE s.env (itL Y ad cs X xs N k)) _ (by kernel_rfl) ?_) (hg1.sim hro)) ?_
    · clear fin hY hJ hJx hg hg1 hrig
      repeat' first
        | (with_reducible refine gw_bool (fun _ => ?_) (fun _ => ?_))
        | (with_reducible refine condw_bool (fun _ => ?_) (fun _ => ?_))
        | simp [*, itL, HasE, envL]
    rintro e a2 w2 ⟨s2, ro2, lam2, ⟨rfl, hE⟩, -, hs2⟩
    have hg2 := hg1.step hro hJ hs2 hE (hrig k)
    clear hs2 hE hg1
    have hmu : ∀ (a' : Act) (w' : World) (pre' : List Ed), EG 45 ro W (itL Y ad cs X xs N ((k + 1 : Nat) : Int)) J pre' a' w' → muE a' w' < muE a w := fun a' w' pre' h => by
      rw [h.mu, hg.mu]; omega
    refine wpIn_seq (wpIn_mono (wpIn_block (Q := fun e a' w' => (e = .normal ∧ EG 45 ro W (itL Y ad cs X xs N k) J (edN v (k + 1)) a' w') ∨ (e = .ret ∧ bodyPost Try.prog Try.f85 (fun e W' => (∃ v, e = .returned v) ∧ (J (edN v N) W' ∨ ∃ pre, Jx pre W')) .ret a' w')) ?_) ?_)
    · obtain ⟨c, hc, hc'⟩ := at_ex (l := v.p.cl) (i := k) (by omega)
      obtain ⟨a0, a1', c0, c1, hS⟩ := hsome k hlt
      have hed : edOf v k = if isE c a0 a1' c0 c1 = true then some ⟨k, a0, a1', c0, c1⟩ else none := by simp [edOf, hc, hS]
      refine wpIn_seq ?_
      refine wpIn_mono (cw_in (CW.of_cx (D := fun _ => none) DA_ok mixed _ (fun e s => e = .normal ∧ HasE s.env ((3, .int .i64 k) :: (4, .bool c) :: itL Y ad cs X xs N k) ∧ s.heap 5 = none) _ (by kernel_rfl) ?_) (hg2.sim hro)) ?_
      · rw [hxs]
        clear fin hY hJ hJx hg hg2 hrig hmu
        repeat' first
          | (with_reducible refine gw_bool (fun _ => ?_) (fun _ => ?_))
          | (with_reducible refine condw_bool (fun _ => ?_) (fun _ => ?_))
          | simp [*, itL, HasE, envL, b1]
      rintro e a3 w3 ⟨s3, ro3, lam3, ⟨rfl, hE3, hh3⟩, -, hs3⟩
      refine wpIn_seq ?_
      refine wpIn_mono (cw_in (CW.of_cx (D := fun _ => none) DA_ok mixed _ (fun e s => e = .normal ∧ HasE s.env ((5, .ptr 5 0) :: (3, .int .i64 k) :: (4, .bool c) :: itL Y ad cs X xs N k) ∧ s.heap 5 = some ⟨58, [.int .i64 a0, .int .i64 a1', .int .i64 c0, .int .i64 c1]⟩) _ (by kernel_rfl) ?_) hs3) ?_
      · obtain ⟨en, he⟩ := s3
        simp only [HasE, itL] at hE3 hh3
        rw [hcs] at hE3 ⊢
        clear fin hY hJ hJx hg hg2 hrig hmu hs3
        simp only [Vu.csA] at hE3 ⊢
        repeat' first
          | (with_reducible refine gw_bool (fun _ => ?_) (fun _ => ?_))
          | (with_reducible refine condw_bool (fun _ => ?_) (fun _ => ?_))
          | simp [*, itL, HasE]
      rintro e a4 w4 ⟨s4, ro4, lam4, ⟨rfl, hE4, hh4⟩, -, hs4⟩
      clear hs3 hE3 hh3
      refine wpIn_seq ?_
      cases hu : isE c a0 a1' c0 c1
      · rw [hu, if_neg (by simp)] at hed
        refine wpIn_mono (cw_in (CW.of_cx (D := fun _ => none) DA_ok mixed _ (fun e s => e = .exit 1 ∧ HasE s.env (itL Y ad cs X xs N k)) _ (by kernel_rfl) ?_) hs4) ?_
        · obtain ⟨en, he⟩ := s4
          simp only [HasE, itL] at hE4 hh4
          clear fin hY hJ hJx hg hg2 hrig hmu hs4 hed
          replace hu : Hid (isE c a0 a1' c0 c1 = false) := hu
          cases c <;> cases q1 : ieq a0 c0 <;> cases q2 : ieq a1' c1 <;> cases q3 : ieq a0 0 <;> cases q4 : ieq c0 0
          all_goals first
            | (exfalso; have hu := hu.out; simp [isE, *] at hu; done)
            | skip
          all_goals
            repeat' first
              | (with_reducible refine gw_bool (fun _ => ?_) (fun _ => ?_))
              | (with_reducible refine condw_bool (fun _ => ?_) (fun _ => ?_))
              | simp [*, itL, HasE]
        rintro e a5 w5 ⟨s5, ro5, lam5, ⟨rfl, hE5⟩, -, hs5⟩
        have hg5 := hg2.step hro hJ hs5 hE5 (hrig k)
        rw [← edN_f hed] at hg5
        exact .inl ⟨rfl, hg5⟩
      · rw [hu, if_pos rfl] at hed
        refine wpIn_mono (cw_in (CW.of_cx (D := fun _ => none) DA_ok mixed _ (fun e s => e = .normal ∧ HasE s.env ((5, .ptr 5 0) :: (3, .int .i64 k) :: itL Y ad cs X xs N k) ∧ s.heap 5 = some ⟨58, [.int .i64 a0, .int .i64 a1', .int .i64 c0, .int .i64 c1]⟩) _ (by kernel_rfl) ?_) hs4) ?_
        · obtain ⟨en, he⟩ := s4
          simp only [HasE, itL] at hE4 hh4
          clear fin hY hJ hJx hg hg2 hrig hmu hs4 hed
          simp only [isE, Bool.and_eq_true, Bool.not_eq_true'] at hu
          obtain ⟨u1, u2, u3, u4⟩ := hu
          subst u1
          cases q1 : ieq a0 c0 <;> cases q2 : ieq a1' c1
          all_goals first
            | (exfalso; rw [q1, q2] at u2; cases u2; done)
            | skip
          all_goals clear u2
          all_goals
            repeat' first
              | (with_reducible refine gw_bool (fun _ => ?_) (fun _ => ?_))
              | (with_reducible refine condw_bool (fun _ => ?_) (fun _ => ?_))
              | simp [*, itL, HasE]
        rintro e a5 w5 ⟨s5, ro5, lam5, ⟨rfl, hE5, hh5⟩, -, hs5⟩
        clear hs4 hE4 hh4
        refine wpIn_seq ?_
        refine wpIn_region_list ?_
        rw [← List.take_append_drop 3 (Array.toList _)]
        refine eg_in DA_ok (K := fun s => HasE s.env ((39, .val Y) :: (40, .int .i64 k) :: (41, .agg [.int .i64 a0, .int .i64 a1', .int .i64 c0, .int .i64 c1]) :: itL Y ad cs X xs N k)) _ _ _ _ _ _ (by kernel_rfl) ?_ hs5 ?_
        · obtain ⟨en, he⟩ := s5
          simp only [HasE, itL] at hE5 hh5
          clear fin hY hJ hJx hg hg2 hrig hmu hs5 hed hu
          repeat' first
            | (with_reducible refine gw_bool (fun _ => ?_) (fun _ => ?_))
            | (with_reducible refine condw_bool (fun _ => ?_) (fun _ => ?_))
            | simp [*, itL, HasE]
        rintro s6 a6 ro6 lam6 w6 hE6 hs6
        have hg6 := hg2.step hro hJ hs6 hE6 ⟨rig_val, rig_flat rfl, rig_flat rfl, hrig k⟩
        have g39 : R w6 ro6 lam6 (.val Y) (a6.tmps.getD 39 Go.undef) := by have := hs6.env 39; rwa [hE6.1] at this
        have g40 : R w6 ro6 lam6 (.int .i64 k) (a6.tmps.getD 40 Go.undef) := by have := hs6.env 40; rwa [hE6.2.1] at this
        have g41 : R w6 ro6 lam6 (.agg [.int .i64 a0, .int .i64 a1', .int .i64 c0, .int .i64 c1]) (a6.tmps.getD 41 Go.undef) := by have := hs6.env 41; rwa [hE6.2.2.1] at this
        refine wpListIn_plain rfl fun K hK => ?_
        refine yield_in (l := l) (vals := Ed.arr ⟨k, a0, a1', c0, c1⟩) rfl ?_ ?_ (hY _ ⟨k, a0, a1', c0, c1⟩ w6 (List.mem_filterMap.2 ⟨k, List.mem_range.2 hlt, hed⟩) hg6.got ?_) ?_
        · show a6.tmps.getD 39 Go.undef = _
          rw [getD_val g39]; exact hYv
        · simp only [List.map_toArray, List.map_cons, List.map_nil]
          show #[a6.tmps.getD 40 Go.undef, a6.tmps.getD 41 Go.undef] = _
          rw [getD_int g40, agg4 g41]; rfl
        · have := edN_mono (v := v) (show k + 1 ≤ N by omega)
          rw [edN_t hed] at this
          simp only [List.length_append, List.length_singleton] at this
          exact this
        · rintro e W' (⟨rfl, hJ', hb'⟩ | ⟨rfl, hJx'⟩)
          · refine ⟨_, rfl, hK _ _ ?_⟩
            have hg7 : EG 45 ro W _ J _ (a6.put (some 42) (.bool true)) W' := hg6.next (d := 42) (b := true) (by decide) hb' hJ'
            rw [← edN_t hed] at hg7
            refine eg_in (rest := []) DA_ok (K := fun s => HasE s.env ((43, .bool false) :: itL Y ad cs X xs N k)) [_] _ _ _ _ _ (by kernel_rfl) ?_ (hg7.sim hro) ?_
            · clear fin hY hJ hJx hg hg2 hrig hmu hed hu hs5 hs6 hg6 hg7 hK hJ' hE5 hE6 hh5 g39 g40 g41
              repeat' first
                | (with_reducible refine gw_bool (fun _ => ?_) (fun _ => ?_))
                | (with_reducible refine condw_bool (fun _ => ?_) (fun _ => ?_))
                | simp [*, itL, HasE, envL]
            rintro s8 a8 ro8 lam8 w8 hE8 hs8
            refine wpIn_mono (cw_in (CW.of_cx (D := fun _ => none) DA_ok mixed (.cond (.tmp 43) .ret .skip) (fun e s => e = .normal ∧ HasE s.env (itL Y ad cs X xs N k)) _ (by kernel_rfl) ?_) hs8) ?_
            · obtain ⟨en, he⟩ := s8
              simp only [HasE, itL] at hE8
              clear fin hY hJ hJx hg hg2 hrig hmu hed hu hs5 hs6 hg6 hg7 hK hJ' hE5 hE6 hh5 g39 g40 g41 hs8
              repeat' first
                | (with_reducible refine gw_bool (fun _ => ?_) (fun _ => ?_))
                | (with_reducible refine condw_bool (fun _ => ?_) (fun _ => ?_))
                | simp [*, itL, HasE]
            rintro e a9 w9 ⟨s9, ro9, lam9, ⟨rfl, hE9⟩, -, hs9⟩
            exact .inl ⟨rfl, hg7.step hro hJ hs9 hE9 (hrig k)⟩
          · refine ⟨_, rfl, hK _ _ ?_⟩
            have hs7 : Sim (.of W') 45 (fun _ => False) (fun _ => none) ⟨upd (fun _ => .junk) 42 (.bool false), fun _ => none⟩ (a6.put (some 42) (.bool false)) W' := by
              refine sim_mk hg6.dfr (by simpa [Act.put] using hg6.size) (fun b hb => hb.elim) fun t => ?_
              rw [getD_put (Nat.lt_of_lt_of_le (by decide : 42 < 45) hg6.size)]
              by_cases h : t = 42
              · subst h; rw [upd_same, if_pos rfl]; exact .bool _
              · rw [upd_ne _ _ h]; exact .junk _
            refine eg_in (rest := []) DA_ok (K := fun s => s.env 43 = .bool true) [_] _ _ _ _ _ (by kernel_rfl) ?_ hs7 ?_
            · clear fin hY hJ hJx hg hg2 hrig hmu hed hu hs5 hs6 hg6 hs7 hK hJx' hE5 hE6 hh5 g39 g40 g41
              repeat' first
                | (with_reducible refine gw_bool (fun _ => ?_) (fun _ => ?_))
                | (with_reducible refine condw_bool (fun _ => ?_) (fun _ => ?_))
                | simp [*]
            rintro s8 a8 ro8 lam8 w8 r43 hs8
            refine wpIn_mono (cw_in (CW.of_cx (D := fun _ => none) DA_ok mixed (.cond (.tmp 43) .ret .skip) (fun e s => e = .ret) _ (by kernel_rfl) ?_) hs8) ?_
            · obtain ⟨en, he⟩ := s8
              simp only at r43
              clear fin hY hJ hJx hg hg2 hrig hmu hed hu hs5 hs6 hg6 hs7 hK hJx' hE5 hE6 hh5 g39 g40 g41 hs8
              repeat' first
                | (with_reducible refine gw_bool (fun _ => ?_) (fun _ => ?_))
                | (with_reducible refine condw_bool (fun _ => ?_) (fun _ => ?_))
                | simp [*]
            rintro e a9 w9 ⟨s9, ro9, lam9, rfl, -, hs9⟩
            exact .inr ⟨rfl, hs9.dfr, _, results_none rfl _ _ _, ⟨_, rfl⟩, .inr ⟨_, hJx _ _ _ hJx' hs9.below.below⟩⟩
    · rintro e a' w' (⟨rfl, hg'⟩ | ⟨rfl, hb⟩)
      · refine wpIn_mono (cw_in (CW.of_cx (D := fun _ => none) DA_ok mixed _ (fun e s => e = .normal ∧ HasE s.env (itL Y ad cs X xs N ((k + 1 : Nat) : Int))) _ (by kernel_rfl) ?_) (hg'.sim hro)) ?_
        · clear fin hY hJ hJx hg hg2 hrig hmu hg'
          repeat' first
            | (with_reducible refine gw_bool (fun _ => ?_) (fun _ => ?_))
            | (with_reducible refine condw_bool (fun _ => ?_) (fun _ => ?_))
            | simp [*, itL, HasE, envL]
        rintro e a3 w3 ⟨s3, ro3, lam3, ⟨rfl, hE3⟩, -, hs3⟩
        have hg3 := hg'.step hro hJ hs3 hE3 (hrig (k + 1))
        exact ⟨⟨k + 1, by omega, hg3⟩, hmu _ _ _ hg3⟩
      · exact hb
  · have f1 : ilt (k : Int) (N : Int) = false := ilt_f (by omega)
    refine wpIn_mono (cw_in (CW.of_cx (D := fun _ => none) DA_ok mixed _ (fun e s => e = .normal ∧ HasE s.env ((11, .bool false) :: itL Y ad cs X xs N k)) _ (by kernel_rfl) ?_) hsim) ?_
    · clear fin hY hJ hJx hsim hg hrig
      repeat' first
        | (with_reducible refine gw_bool (fun _ => ?_) (fun _ => ?_))
        | (with_reducible refine condw_bool (fun _ => ?_) (fun _ => ?_))
        | simp [*, itL, HasE, envL]
    rintro e a1 w1' ⟨s1, ro1, lam1, ⟨rfl, hE⟩, -, hs1⟩
    have hg1 := hg.step hro hJ hs1 hE ⟨rig_flat rfl, hrig k⟩
    clear hs1 hsim hE
    refine wpIn_seq ?_
    refine wpIn_mono (cw_in (CW.of_cx (D := fun _ => none) DA_ok mixed _ (fun e s => e = .exit 0 ∧ HasE s.env (itL Y ad cs X xs N k)) _ (by kernel_rfl) ?_) (hg1.sim hro)) ?_
    · clear fin hY hJ hJx hg hg1 hrig
      repeat' first
        | (with_reducible refine gw_bool (fun _ => ?_) (fun _ => ?_))
        | (with_reducible refine condw_bool (fun _ => ?_) (fun _ => ?_))
        | simp [*, itL, HasE, envL]
    rintro e a2 w2 ⟨s2, ro2, lam2, ⟨rfl, hE⟩, -, hs2⟩
    have hg2 := hg1.step hro hJ hs2 hE (hrig k)
    have hkN : k = N := by omega
    rw [show edN v k = edN v N by rw [hkN]] at hg2
    exact fin _ _ _ hg2 rfl
theorem it_ok (v : Vu) (ad : Addr) (ro : Nat → Prop) (w : World) (hro : ∀ b, ro b → b < w.heap.size) (hw : wfG v.s v.p v.g.length = true) (hcl : v.p.cl.length = v.s.qs.length) (hX : R0 w ro (.vrp ad v.cs) (.pointer (some ad))) :
    PIter Try.prog 85 #[.pointer (some ad)] Ed.arr ro (edg v) w := by
  intro m l J Jx W hk hJ hJx hY h0
  exact it_in m l v ad ro W (fun b hb => Nat.lt_of_lt_of_le (hro b hb) hk.1) hw hcl (hX.mono (fun b hb => hk.2 b hb) (fun _ h => h)) J Jx hJ hJx (fun pre x W1 _ => hY pre x W1) h0
theorem map_val_inj {α : Type} {p : α → Prop} : ∀ (a b : List { x // p x }), a.map Subtype.val = b.map Subtype.val → a = b
  | [], [], _ => rfl
  | [], _ :: _, h => by simp at h
  | _ :: _, [], h => by simp at h
  | x :: a, y :: b, h => by
    simp only [List.map_cons, List.cons.injEq] at h
    rw [Subtype.ext h.1, map_val_inj a b h.2]
theorem it_okS (v : Vu) (ad : Addr) (ro : Nat → Prop) (w : World) (hro : ∀ b, ro b → b < w.heap.size) (hw : wfG v.s v.p v.g.length = true) (hcl : v.p.cl.length = v.s.qs.length) (hX : R0 w ro (.vrp ad v.cs) (.pointer (some ad))) :
    PIter Try.prog 85 #[.pointer (some ad)] (fun x : { x : Ed // x ∈ edg v } => x.1.arr) ro (edg v).attach w := by
  intro m l J Jx W hk hJ hJx hY h0
  refine (it_in m l v ad ro W (fun b hb => Nat.lt_of_lt_of_le (hro b hb) hk.1) hw hcl (hX.mono (fun b hb => hk.2 b hb) (fun _ h => h)) (fun pre W => ∃ q : List { x : Ed // x ∈ edg v }, q.map Subtype.val = pre ∧ J q W) (fun pre W => ∃ q : List { x : Ed // x ∈ edg v }, q.map Subtype.val = pre ∧ Jx q W)
    (fun pre A B ⟨q, hq, hj⟩ hb => ⟨q, hq, hJ _ _ _ hj hb⟩) (fun pre A B ⟨q, hq, hj⟩ hb => ⟨q, hq, hJx _ _ _ hj hb⟩) ?_ ⟨[], rfl, h0⟩).mono ?_
  · rintro pre x W1 hx ⟨q, hq, hj⟩ hlt
    obtain ⟨fn, tmps, assign, body, hy, hR⟩ := hY q ⟨x, hx⟩ W1 hj (by rw [← hq] at hlt; simpa using hlt)
    refine ⟨fn, tmps, assign, body, hy, hR.mono fun e w' hr => ?_⟩
    rcases hr with ⟨he, hj', hk'⟩ | ⟨he, hj'⟩
    · exact .inl ⟨he, ⟨_, by simp [hq], hj'⟩, hk'⟩
    · exact .inr ⟨he, ⟨_, by simp [hq], hj'⟩⟩
  · rintro e W' ⟨he, ⟨q, hq, hj⟩ | ⟨pre, q, hq, hj⟩⟩
    · refine ⟨he, .inl ?_⟩
      have : q = (edg v).attach := map_val_inj _ _ (by rw [hq]; simp)
      rw [← this]; exact hj
    · exact ⟨he, .inr ⟨q, hj⟩⟩
end Go.Proofs.Ytcbddoopmkhlfaa
end
section
namespace Go.Proofs.Ytcbddoopmkhlfaa
open Go.Pv Go.RowKit
set_option linter.unusedSimpArgs false
set_option linter.unusedVariables false
set_option maxRecDepth 100000
set_option maxHeartbeats 2000000
attribute [-simp] Tclo_at Tgrp_at Tchk Tpchk TcI TcB Tclo Tgrp Tsid Tnod Tlook Tbnd TsidA

theorem td84 : td Try.prog 84 = some { size := 1, bytes := 8, agg := false, strct := false, zero := some [.junk], fields := [], arr := none, slc := none, int := none, isBool := false, isStr := false, eqg := false } := by kernel_rfl
theorem mtd84 : mtd Try.prog 84 = false := by kernel_rfl
theorem mtdN84 : mtdN Try.prog 84 = true := by kernel_rfl
theorem td123 : td Try.prog 123 = some { size := 1, bytes := 8, agg := false, strct := false, zero := some [.junk], fields := [], arr := none, slc := none, int := none, isBool := false, isStr := false, eqg := false } := by kernel_rfl
attribute [simp] td84 mtd84 mtdN84 td123
/-! ### generic -/
theorem eg_inR {Γ : Tab} (hΓ : TabOK Try.prog Γ) {n m l : Nat} {ops : Array Oper} {Q : Exit → Act → World → Prop} {K : St → Prop} {rest : List Oper} {w0 : Base} : ∀ (l' : List Oper) (st : St) (ro : Nat → Prop) (lam : Lam) (a : Act) (w : World), l'.all (fun o => fits n o.dst && notDefer o.op) = true →
    egX Try.prog Γ ops l' K st → Sim w0 n ro lam st a w → (∀ st' a' ro' lam' w', K st' → Ext w0 ro ro' → Sim w0 n ro' lam' st' a' w' → wpListIn (Fence.wide.inRound l) m Try.prog ops Q rest a' w') → wpListIn (Fence.wide.inRound l) m Try.prog ops Q (l' ++ rest) a w
  | [], st, ro, lam, a, w, _, h, hs, hK => hK _ _ _ _ _ h (Ext.refl _ _) hs
  | o :: l', st, ro, lam, a, w, hf, h, hs, hK => by
    simp only [List.all_cons, Bool.and_eq_true] at hf
    show if Region.wanted o (yielded ops a.tmps) then o.wpIn (Fence.wide.inRound l) m Try.prog a w (wpListIn (Fence.wide.inRound l) m Try.prog ops Q (l' ++ rest)) Q else (∀ f, o.about Try.prog w a.eval = some f → (Fence.wide.inRound l).fn f) ∧ wpListIn (Fence.wide.inRound l) m Try.prog ops Q (l' ++ rest) (a.put o.dst undef) w
    have hf2 : l'.all (fun o => fits n o.dst && notDefer o.op) = true := by simpa using hf.2
    simp only [egX] at h
    cases hw : wantV ops st o.guard with
    | none => rw [hw] at h; exact h.elim
    | some b =>
      rw [hw] at h
      rw [wantV_sound hs hw]
      cases b with
      | true =>
        rw [if_pos rfl]
        exact oper_inR hf.1.2 (swX_sound hΓ hs hf.1.1 h fun st' a' ro' lam' w' k hx hs' => eg_inR hΓ l' st' ro' lam' a' w' hf2 k hs' fun st2 a2 ro2 lam2 w2 k e hs2 => hK st2 a2 ro2 lam2 w2 k (hx.trans e) hs2)
      | false =>
        rw [if_neg (by simp)]
        exact ⟨fun _ _ => trivial, eg_inR hΓ l' _ ro lam _ w hf2 h (hs.put hf.1.1 (.pure _ _ .undef)) hK⟩
section
variable {n : Nat} {w0 : Base} {ro ro' : Nat → Prop} {lam lam' : Lam} {st st' : St} {a a' : Act} {w w' : World}
theorem Ext.sub {bl : List (Nat × Blk)} (hs : Sim w0 n ro lam st a w) (h : Ext ⟨w, ownB (lamK bl lam), []⟩ ro ro') : Ext w0 ro ro' :=
  ⟨h.1, fun b hb => (h.2 b hb).imp id (fun h => h.elim (fun ⟨k, hk⟩ => by
    unfold lamB lamK at hk
    by_cases hb : (blkOf bl k).isSome = true
    · simp only [if_pos hb] at hk; exact (hs.ob hk).1
    · simp only [if_neg hb] at hk; rcases hk with ⟨_, hk⟩ | hk <;> cases hk) (fun h => .inr (Nat.le_trans hs.below.size h)))⟩
/-- The heap is just that. -/
def HeapIs (h : Nat → Option Blk) (bl : List (Nat × Blk)) : Prop := KeepBl h bl ∧ ∀ k, blkOf bl k = none → h k = none
theorem HeapIs.eq {h : Nat → Option Blk} {bl : List (Nat × Blk)} (hh : HeapIs h bl) : h = blkOf bl := by
  funext k
  cases hb : blkOf bl k with
  | none => exact hh.2 k hb
  | some b => exact keepBl_at bl k b hh.1 hb
/-- What the function's start and the marks ask for. -/
structure MK (W0 : World) (ro0 : Nat → Prop) (Ds : List Nat) (ro : Nat → Prop) (lam : Lam) (a : Act) (w : World) : Prop where
  dfs : a.defers = marks Ds
  nd : Ds.Nodup
  at' : ∀ D ∈ Ds, w.heap[D]? = some (.deferred (some [])) ∧ ¬ ro D ∧ ¬ ownB lam D ∧ W0.heap.size ≤ D
  kept : Below W0.heap.size W0 w
  own : ∀ b, ownB lam b → W0.heap.size ≤ b
  up : ∀ b, ro0 b → ro b
  dn : ∀ b, ro b → ro0 b ∨ W0.heap.size ≤ b
theorem MK.move {W0 : World} {ro0 : Nat → Prop} {Ds : List Nat} (hm : MK W0 ro0 Ds ro lam a w) (hd : a'.defers = a.defers) (hk : Base.Keeps ⟨w, ownB lam, a.defers⟩ w') (hx : Ext ⟨w, ownB lam, a.defers⟩ ro ro') (ho : ∀ b, ownB lam' b → ownB lam b ∨ w.heap.size ≤ b) : MK W0 ro0 Ds ro' lam' a' w' := by
  refine ⟨hd.trans hm.dfs, hm.nd, fun D hD => ?_, ?_, fun b hb => ?_, fun b hb => hx.1 b (hm.up b hb), fun b hb => ?_⟩
  · obtain ⟨h1, h2, h3, h4⟩ := hm.at' D hD
    have hlt : D < w.heap.size := (Array.getElem?_eq_some_iff.1 h1).1
    refine ⟨(hk.block D hlt h3).trans h1, fun hr => ?_, fun hr => ?_, h4⟩
    · rcases hx.2 D hr with h | h
      · exact h2 h
      · rcases h with h | h
        · exact h3 h
        · exact Nat.lt_irrefl _ (Nat.lt_of_lt_of_le hlt h)
    · rcases ho D hr with h | h
      · exact h3 h
      · exact Nat.lt_irrefl _ (Nat.lt_of_lt_of_le hlt h)
  · exact ⟨hk.os.trans hm.kept.os, hk.tape.trans hm.kept.tape, hk.output.trans hm.kept.output, Nat.le_trans hm.kept.size hk.size, fun k hk' => (hk.block k (Nat.lt_of_lt_of_le hk' hm.kept.size) (fun h => by have := hm.own k h; omega)).trans (hm.kept.block k hk')⟩
  · rcases ho b hb with h | h
    · exact hm.own b h
    · exact Nat.le_trans hm.kept.size h
  · rcases hx.2 b hb with h | h
    · exact hm.dn b h
    · rcases h with h | h
      · exact .inr (hm.own b h)
      · exact .inr (Nat.le_trans hm.kept.size h)
theorem MK.step {W0 : World} {ro0 : Nat → Prop} {Ds : List Nat} (hm : MK W0 ro0 Ds ro lam a w) (hs : Sim ⟨w, ownB lam, a.defers⟩ n ro' lam' st' a' w') (hx : Ext ⟨w, ownB lam, a.defers⟩ ro ro') : MK W0 ro0 Ds ro' lam' a' w' :=
  hm.move hs.dfr hs.below hx (fun b ⟨k, hk⟩ => (hs.ob hk).1)
theorem MK.leave {W0 : World} {ro0 : Nat → Prop} {Ds : List Nat} (hm : MK W0 ro0 Ds ro lam a w) (hro : ∀ b, ro0 b → b < W0.heap.size) {fn : Func} {t : Nat} {x : Value} {v : V} (hr : fn.results = #[.tmp t]) (hx : a.tmps.getD t Go.undef = x) (hv : ∀ w ro, R0 w ro v x) {m : Nat} :
    LeavesInM Fence.wide m Try.prog fn a.tmps (fun e w' => ∃ rv ro', e = .returned rv ∧ Below W0.heap.size W0 w' ∧ (∀ b, ro0 b → ro' b) ∧ (∀ b, ro' b → ro0 b ∨ W0.heap.size ≤ b) ∧ (∀ b, ro' b → b < w'.heap.size) ∧ R0 w' ro' v rv) a.defers .returning w := by
  rw [hm.dfs]
  refine leaves_marks Ds w hm.nd (fun D hD => (hm.at' D hD).1) ⟨x, res_one hr hx, x, ro0, rfl, ?_, fun _ h => h, fun _ h => .inl h, fun b hb => ?_, hv _ _⟩
  · obtain ⟨o1, o2, o3⟩ := shut_os Ds w
    refine ⟨o1.trans hm.kept.os, o2.trans hm.kept.tape, o3.trans hm.kept.output, by rw [shut_size]; exact hm.kept.size, fun k hk => ?_⟩
    rw [shut_other Ds w k (fun h => by have := (hm.at' k h).2.2.2; omega)]
    exact hm.kept.block k hk
  · rw [shut_size]; exact Nat.lt_of_lt_of_le (hro b hb) hm.kept.size
theorem MK.mark {W0 : World} {ro0 : Nat → Prop} {Ds : List Nat} {l D : Nat} {e : Nat → V} {h : Nat → Option Blk} (hm : MK W0 ro0 Ds ro lam a w) (rj : RJ ⟨w, ownB lam, a.defers⟩ n ro l D e a h ro' lam' w') (hD : w.heap.size ≤ D) : MK W0 ro0 (D :: Ds) ro' lam' { a with defers := { target := .collected D, args := #[] } :: a.defers } w' := by
  have h1 := hm.move (a' := a) rfl rj.keeps rj.ext (fun b hb => rj.free b hb)
  refine ⟨by simp [marks, hm.dfs], List.nodup_cons.2 ⟨fun hh => ?_, hm.nd⟩, fun D' hD' => ?_, h1.kept, h1.own, h1.up, h1.dn⟩
  · have := (Array.getElem?_eq_some_iff.1 (hm.at' D hh).1).1
    omega
  · rcases List.mem_cons.1 hD' with rfl | hD'
    · exact ⟨rj.hD, rj.nD.1, rj.nD.2, Nat.le_trans hm.kept.size hD⟩
    · exact h1.at' D' hD'
theorem RJ.act {l D : Nat} {e : Nat → V} {h : Nat → Option Blk} (rj : RJ w0 n ro l D e a h ro' lam' w') (ds : List Deferred) : Sim ⟨w', ownB lam', ds⟩ n ro' lam' ⟨e, h⟩ { a with defers := ds } w' :=
  ⟨Base.Keeps.refl _ _ _, rfl, rj.sim.size, rj.sim.rolt, rj.sim.env, rj.sim.heap, rj.sim.dead, rj.sim.own, rj.sim.inj, rj.sim.maps⟩
end
theorem mkfunc_in {m : Nat} {o : Oper} {f : FuncId} {cs : Array Operand} {a : Act} {w : World} {next : Act → World → Prop} {Q : Exit → Act → World → Prop} (ho : o.op = .makeFunc (.func f) #[] cs) (h : next (a.put o.dst (.func (.func f) #[] (cs.map a.eval))) w) : o.wpIn Fence.wide m Try.prog a w next Q := by
  refine oper_in ?_
  unfold Oper.wp execOp
  simp only [ho, Instr.makeFunc, Sem.run_pure, Sem.run_bind, Result.andThen_ok, Oper.upon]
  have he : (#[] : Array Operand).map a.eval = #[] := by simp
  rw [he]; exact h
theorem assign_in {m : Nat} {o : Oper} {t : Nat} {a : Act} {w : World} {next : Act → World → Prop} {Q : Exit → Act → World → Prop} (ho : o.op = .assign (.tmp t)) (h : next (a.put o.dst (a.tmps.getD t Go.undef)) w) : o.wpIn Fence.wide m Try.prog a w next Q := by
  refine oper_in ?_
  unfold Oper.wp execOp
  simp only [ho, Sem.run_pure, Oper.upon]
  exact h
/-! ### the iterator is made -/
theorem edges_ok (v : Vu) (W : World) (ro : Nat → Prop) (V0 : Value) (hro : ∀ b, ro b → b < W.heap.size) (hV : R0 W ro (.agg v.cs) V0) : Calls Try.prog 51 #[V0] W fun e W' =>
    ∃ b ro', e = .returned (.func (.func 85) #[] #[.pointer (some ⟨b, 0, none⟩)]) ∧ Below W.heap.size W W' ∧ (∀ x, ro x → ro' x) ∧ (∀ x, ro' x → ro x ∨ W.heap.size ≤ x) ∧ (∀ x, ro' x → x < W'.heap.size) ∧ R0 W' ro' (.vrp ⟨b, 0, none⟩ v.cs) (.pointer (some ⟨b, 0, none⟩)) := by
  refine callsIn_wide.1 (callsIn_of_wp (n := 0) Try.func51 rfl trivial ?_ rfl)
  rw [Try.ntmps51]
  have hs0 := sim_ini (n := 4) (w := W) (ro := ro) (args := #[V0]) (vs := [.agg v.cs]) hro rfl (by simp) (fun j c x hc hx => by
    match j with
    | 0 => simp at hc hx; subst hc; subst hx; exact hV
    | j + 1 => simp at hc)
  refine wpIn_seq (wpIn_mono (cw_in (CW.of_cx (D := fun _ => none) noTab_ok mixed _ (fun e s => e = .normal ∧ s.env 1 = .ptr 1 0 ∧ s.heap 1 = some ⟨81, v.cs⟩) _ (by kernel_rfl) ?_) hs0) ?_)
  · clear hs0
    repeat' first
      | (with_reducible refine gw_bool (fun _ => ?_) (fun _ => ?_))
      | (with_reducible refine condw_bool (fun _ => ?_) (fun _ => ?_))
      | simp [*, Vu.cs]
  rintro e a w ⟨s1, ro1, lam1, ⟨rfl, e1, h1⟩, hx1, hs1⟩
  have p1 := hs1.env 1
  rw [e1] at p1
  obtain ⟨b, mm, hl, hx⟩ := p1.ptr_inv
  have hpub : R0 w (fun x => ro1 x ∨ x = b) (.vrp ⟨b, 0, none⟩ v.cs) (.pointer (some ⟨b, 0, none⟩)) := by
    rcases hs1.heap 1 _ h1 with ⟨hv, _⟩ | ⟨b', o, hv, _⟩ | ⟨b', m', arr, hl', hw, hsz, hle, hr⟩
    · rw [hl] at hv; cases hv
    · rw [hl] at hv; cases hv
    · rw [hl] at hl'
      simp only [Option.some.injEq, Prod.mk.injEq] at hl'
      obtain ⟨rfl, rfl⟩ := hl'
      have hat : ∀ j x, v.cs[j]? = some x → ∃ y, arr[j]? = some y := fun j x hj => by
        have : j < v.cs.length := (List.getElem?_eq_some_iff.1 hj).1
        have h2 : v.cs.length ≤ mm := hle
        exact ⟨_, Array.getElem?_eq_getElem (by omega)⟩
      refine .vrp _ _ (fun j => arr.getD j Go.undef) (.inr rfl) (fun j x hj => ?_) (fun j x hj => ?_)
      · obtain ⟨y, hy⟩ := hat j x hj
        have := cell_of_row w b j arr 81 (0, 0) hw
        have hadd : (⟨b, 0, none⟩ : Addr).add j = ⟨b, j, none⟩ := by
          unfold Addr.add
          by_cases h0 : j = 0
          · subst h0; simp
          · simp [h0]
        rw [hadd, this, hy]; simp [Array.getD_eq_getD_getElem?, hy]
      · obtain ⟨y, hy⟩ := hat j x hj
        have h2 := hr j x y hj hy
        have hp : ownC x = false := by
          have : v.cs.any ownC = false := rfl
          exact any_at this hj
        rw [show arr.getD j Go.undef = y by simp [Array.getD_eq_getD_getElem?, hy]]
        exact (h2.pureC hp).mono (fun _ _ => rfl) (fun _ h => .inl h)
  refine wpIn_seq ?_
  refine wpIn_region_list ?_
  refine wpListIn_plain rfl fun K hK => mkfunc_in rfl (hK _ _ ?_)
  have hev : (#[Operand.tmp 1] : Array Operand).map a.eval = #[.pointer (some ⟨b, 0, none⟩)] := by
    simp only [List.map_toArray, List.map_cons, List.map_nil]
    show #[a.tmps.getD 1 Go.undef] = _
    rw [hx]
  rw [hev]
  obtain ⟨F, hF⟩ : ∃ F : Value, F = .func (.func 85) #[] #[.pointer (some ⟨b, 0, none⟩)] := ⟨_, rfl⟩
  rw [← hF]
  have hs2 : Sim (.of W) 4 ro1 lam1 (s1.put (some 3) (.val F)) (a.put (some 3) F) w := hs1.put (by decide) (.pure _ _ (.val _))
  have hF3 : (a.put (some 3) F).tmps.getD 3 Go.undef = F := by
    have := hs2.env 3
    exact getD_val (show R w ro1 lam1 (.val F) _ from this)
  refine wpListIn_plain rfl fun K2 hK2 => assign_in rfl (hK2 _ _ ?_)
  rw [hF3]
  have hs3 : Sim (.of W) 4 ro1 lam1 ((s1.put (some 3) (.val F)).put (some 2) (.val F)) ((a.put (some 3) F).put (some 2) F) w := hs2.put (by decide) (.pure _ _ (.val _))
  have hF2 : ((a.put (some 3) F).put (some 2) F).tmps.getD 2 Go.undef = F := by
    have := hs3.env 2
    exact getD_val (show R w ro1 lam1 (.val F) _ from this)
  refine wpIn_ret ?_
  have hbw := hs1.own 1 b mm hl
  refine ⟨hs3.dfr, F, res_one rfl hF2, b, fun x => ro1 x ∨ x = b, by rw [hF], hs1.below.below, fun x h => .inl (hx1.1 x h), fun x h => ?_, fun x h => ?_, hpub⟩
  · rcases h with h | rfl
    · exact (hx1.2 x h).imp id (fun h => h.resolve_left (fun h => h))
    · exact .inr (hbw.1.resolve_left (fun h => h))
  · rcases h with h | rfl
    · exact hs1.rolt x h
    · exact hbw.2.1
/-! ### a node is visited -/
def nd2 (c : Int × Int) : List V := [.int .i64 c.1, .int .i64 c.2]
def ndC (L : List (Int × Int)) : List V := (L.map nd2).flatten
theorem ndC_len (L : List (Int × Int)) : (ndC L).length = L.length * 2 := flat_len (sz := 2) (fun _ => rfl) L
theorem ndC_pure (L : List (Int × Int)) : (ndC L).any ownC = false := flat_pure (fun _ => rfl) L
theorem ndC_scr (L : List (Int × Int)) (k : Nat) : (ndC L).map (scrC k) = ndC L := scrC_cells (ndC_pure L)
theorem ndC_snoc (L : List (Int × Int)) (x : Int × Int) : ndC (L ++ [x]) = ndC L ++ [.int .i64 x.1, .int .i64 x.2] := (flat_snoc L x).symm
theorem nodK_scr (L : List (Int × Int)) (k : Nat) : (L.map nodK).map (scrC k) = L.map nodK := scrC_cells (by
  rw [List.any_eq_false]; intro x hx; obtain ⟨c, _, rfl⟩ := List.mem_map.1 hx; simp [nodK, ownC])
theorem nodK_comp (k : Nat) : scrC k ∘ nodK = nodK := rfl
attribute [simp] ndC_len ndC_pure ndC_scr nodK_comp
def woV : Option (List (Int × Int)) → V
  | none => .val (.map none)
  | some L => .rset (L.map nodK)
def woL (o : Option (List (Int × Int))) : List (Int × Int) := o.getD []
def vis (o : Option (List (Int × Int))) (Q : List (Int × Int)) (n : Int × Int) : List (Int × Int) := if (!memN Q n.1 n.2 && !memN (woL o) n.1 n.2) = true then Q ++ [n] else Q
def subBl (o : Option (List (Int × Int))) (Q : List (Int × Int)) : List (Nat × Blk) := [(5, ⟨84, [woV o]⟩), (7, ⟨84, [.mp 13]⟩), (13, ⟨84, Q.map nodK⟩), (8, ⟨122, [.sl 17 0 Q.length 2]⟩), (17, ⟨57, ndC Q⟩)]
def VisPost (o : Option (List (Int × Int))) (Q : List (Int × Int)) (b7 b5 b8 : Nat) (s : St) : Prop := s.env 1 = .vptr b7 7 0 ∧ s.env 2 = .vptr b5 5 0 ∧ s.env 3 = .vptr b8 8 0 ∧ HeapIs s.heap (subBl o Q)
theorem memN_nil (a b : Int) : memN [] a b = false := rfl
theorem visit_ok (o : Option (List (Int × Int))) (Q : List (Int × Int)) (n : Int × Int) (b7 b5 b8 : Nat) (hQ : Q.length ≤ 10000) {W : World} {ro : Nat → Prop} {lam : Lam} (hs : HS W ro lam (blkOf (subBl o Q))) {args : Array Value} (hsz : args.size = 4)
    (hr : ∀ (j : Nat) (c : V) (x : Value), [V.agg [.int .i64 n.1, .int .i64 n.2], .vptr b7 7 0, .vptr b5 5 0, .vptr b8 8 0][j]? = some c → args[j]? = some x → R W ro lam c x) :
    Calls Try.prog 86 args W fun e W' => ∃ rv s' ro' lam' a', e = .returned rv ∧ VisPost o (vis o Q n) b7 b5 b8 s' ∧ Ext ⟨W, ownB lam, []⟩ ro ro' ∧ Sim ⟨W, ownB lam, []⟩ 21 ro' lam' s' a' W' := by
  refine effN_cx noTab_ok mixed (fun _ => none) Try.func86 rfl Try.ntmps86 rfl (by simp) (by kernel_rfl) ?_ hs (by simpa using hsz) hr
  clear hr hs
  obtain ⟨n0, n1⟩ := n
  have f5 : (Q.length + 1) * 16 ≤ 140737488355328 := by omega
  have f6 : Q.length + 1 ≤ 9223372036854775807 := by omega
  have hout : ∀ (Q' : List (Int × Int)) (k : Nat), blkOf (subBl o Q') k = none → k ≠ 5 ∧ k ≠ 7 ∧ k ≠ 13 ∧ k ≠ 8 ∧ k ≠ 17 := fun Q' k hk => by
    simp only [subBl, blkOf] at hk
    refine ⟨?_, ?_, ?_, ?_, ?_⟩ <;> (rintro rfl; simp at hk)
  cases h1 : memN Q n0 n1
  · cases o with
    | none =>
      have hv : vis none Q (n0, n1) = Q ++ [(n0, n1)] := by simp [vis, woL, memN_nil, h1]
      rw [hv]
      clear hv
      repeat' first
        | (with_reducible refine gw_bool (fun _ => ?_) (fun _ => ?_))
        | (with_reducible refine condw_bool (fun _ => ?_) (fun _ => ?_))
        | simp [*, subBl, blkOf, woV, appendV, srcCells, St.forget, scr, scrC]
      refine ⟨_, (View.forget _ _ 19).trans (View.forget _ _ 4), ?_, ?_, ?_, ?_, fun k hk => ?_⟩
      · simp [St.forget, scr, scrC, ini]
      · simp [St.forget, scr, scrC, ini]
      · simp [St.forget, scr, scrC, ini]
      · simp [subBl, KeepBl, woV, St.forget, scr, scrC, ndC_snoc, nodK, blkOf, *]
      · obtain ⟨k5, k7, k13, k8, k17⟩ := hout _ k hk
        by_cases e4 : k = 4
        · subst e4; simp [St.forget]
        · by_cases e19 : k = 19
          · subst e19; simp [St.forget]
          · simp [St.forget, subBl, blkOf, k5, k7, k13, k8, k17, e4, e19]
    | some L =>
      cases h2 : memN L n0 n1
      · have hv : vis (some L) Q (n0, n1) = Q ++ [(n0, n1)] := by simp [vis, woL, h1, h2]
        rw [hv]
        clear hv
        repeat' first
          | (with_reducible refine gw_bool (fun _ => ?_) (fun _ => ?_))
          | (with_reducible refine condw_bool (fun _ => ?_) (fun _ => ?_))
          | simp [*, subBl, blkOf, woV, appendV, srcCells, St.forget, scr, scrC]
        refine ⟨_, (View.forget _ _ 19).trans (View.forget _ _ 4), ?_, ?_, ?_, ?_, fun k hk => ?_⟩
        · simp [St.forget, scr, scrC, ini]
        · simp [St.forget, scr, scrC, ini]
        · simp [St.forget, scr, scrC, ini]
        · simp [subBl, KeepBl, woV, St.forget, scr, scrC, ndC_snoc, nodK, blkOf, *]
        · obtain ⟨k5, k7, k13, k8, k17⟩ := hout _ k hk
          by_cases e4 : k = 4
          · subst e4; simp [St.forget]
          · by_cases e19 : k = 19
            · subst e19; simp [St.forget]
            · simp [St.forget, subBl, blkOf, k5, k7, k13, k8, k17, e4, e19]
      · have hv : vis (some L) Q (n0, n1) = Q := by simp [vis, woL, h1, h2]
        rw [hv]
        clear hv
        repeat' first
          | (with_reducible refine gw_bool (fun _ => ?_) (fun _ => ?_))
          | (with_reducible refine condw_bool (fun _ => ?_) (fun _ => ?_))
          | simp [*, subBl, blkOf, woV]
        refine ⟨_, View.forget _ _ 4, ?_, ?_, ?_, ?_, fun k hk => ?_⟩
        · simp [St.forget, scr, scrC, ini]
        · simp [St.forget, scr, scrC, ini]
        · simp [St.forget, scr, scrC, ini]
        · simp [subBl, KeepBl, woV, St.forget, scr, scrC, nodK, blkOf, *]
        · obtain ⟨k5, k7, k13, k8, k17⟩ := hout _ k hk
          by_cases e4 : k = 4
          · subst e4; simp [St.forget]
          · simp [St.forget, subBl, blkOf, k5, k7, k13, k8, k17, e4]
  · have hv : vis o Q (n0, n1) = Q := by simp [vis, h1]
    rw [hv]
    clear hv
    cases o with
    | none =>
      repeat' first
        | (with_reducible refine gw_bool (fun _ => ?_) (fun _ => ?_))
        | (with_reducible refine condw_bool (fun _ => ?_) (fun _ => ?_))
        | simp [*, subBl, blkOf, woV]
      refine ⟨_, View.forget _ _ 4, ?_, ?_, ?_, ?_, fun k hk => ?_⟩
      · simp [St.forget, scr, scrC, ini]
      · simp [St.forget, scr, scrC, ini]
      · simp [St.forget, scr, scrC, ini]
      · simp [subBl, KeepBl, woV, St.forget, scr, scrC, nodK, blkOf, *]
      · obtain ⟨k5, k7, k13, k8, k17⟩ := hout _ k hk
        by_cases e4 : k = 4
        · subst e4; simp [St.forget]
        · simp [St.forget, subBl, blkOf, k5, k7, k13, k8, k17, e4]
    | some L =>
      repeat' first
        | (with_reducible refine gw_bool (fun _ => ?_) (fun _ => ?_))
        | (with_reducible refine condw_bool (fun _ => ?_) (fun _ => ?_))
        | simp [*, subBl, blkOf, woV]
      refine ⟨_, View.forget _ _ 4, ?_, ?_, ?_, ?_, fun k hk => ?_⟩
      · simp [St.forget, scr, scrC, ini]
      · simp [St.forget, scr, scrC, ini]
      · simp [St.forget, scr, scrC, ini]
      · simp [subBl, KeepBl, woV, St.forget, scr, scrC, nodK, blkOf, *]
      · obtain ⟨k5, k7, k13, k8, k17⟩ := hout _ k hk
        by_cases e4 : k = 4
        · subst e4; simp [St.forget]
        · simp [St.forget, subBl, blkOf, k5, k7, k13, k8, k17, e4]
end Go.Proofs.Ytcbddoopmkhlfaa
end
section
namespace Go.Proofs.Ytcbddoopmkhlfaa
open Go.Pv Go.RowKit
set_option linter.unusedSimpArgs false
set_option linter.unusedVariables false

abbrev Nd := Int × Int
theorem memN_iff {L : List Nd} {a b : Int} : memN L a b = true ↔ (a, b) ∈ L := by
  simp only [memN, List.any_eq_true, Bool.and_eq_true, ieq_iff]
  constructor
  · rintro ⟨⟨x, y⟩, h, rfl, rfl⟩; exact h
  · intro h; exact ⟨_, h, rfl, rfl⟩
theorem nodup_len {α : Type} [DecidableEq α] : ∀ (l m : List α), l.Nodup → (∀ x ∈ l, x ∈ m) → l.length ≤ m.length
  | [], m, _, _ => Nat.zero_le _
  | a :: l, m, hn, hs => by
    simp only [List.nodup_cons] at hn
    have ha : a ∈ m := hs a (by simp)
    have := nodup_len l (m.erase a) hn.2 (fun x hx => by
      have hxa : x ≠ a := by rintro rfl; exact hn.1 hx
      exact (List.mem_erase_of_ne hxa).2 (hs x (by simp [hx])))
    rw [List.length_erase_of_mem ha] at this
    have h0 : 0 < m.length := List.length_pos_of_mem ha
    simp only [List.length_cons]; omega
def eq2 (c d : Nd) : Bool := ieq c.1 d.1 && ieq c.2 d.2
theorem eq2_iff {c d : Nd} : eq2 c d = true ↔ c = d := by
  obtain ⟨c1, c2⟩ := c
  obtain ⟨d1, d2⟩ := d
  simp [eq2, ieq_iff]
def Ed.l (x : Ed) : Nd := (x.a0, x.a1)
def Ed.r (x : Ed) : Nd := (x.c0, x.c1)
def edv (o : Option (List Nd)) (c : Nd) (Q : List Nd) (x : Ed) : List Nd := if eq2 c x.l = true then vis o Q x.r else if eq2 c x.r = true then vis o Q x.l else Q
def rndF (o : Option (List Nd)) (c : Nd) (Q : List Nd) (E : List Ed) : List Nd := E.foldl (edv o c) Q
def bfs (o : Option (List Nd)) (E : List Ed) : Nat → Nat → List Nd → Bool
  | 0, _, _ => false
  | f + 1, i, Q => match Q[i]? with
    | none => false
    | some c => if ieq c.1 3 = true then true else bfs o E f (i + 1) (rndF o c Q E)
def reachF (o : Option (List Nd)) (E : List Ed) (c : Nd) : Bool := bfs o E 100 0 [c]
theorem vis_ext (o : Option (List Nd)) (Q : List Nd) (n : Nd) : ∃ t, vis o Q n = Q ++ t ∧ t.length ≤ 1 := by
  unfold vis
  split
  · exact ⟨[n], rfl, by simp⟩
  · exact ⟨[], by simp, by simp⟩
theorem edv_ext (o : Option (List Nd)) (c : Nd) (Q : List Nd) (x : Ed) : ∃ t, edv o c Q x = Q ++ t ∧ t.length ≤ 1 := by
  unfold edv
  split
  · exact vis_ext _ _ _
  · split
    · exact vis_ext _ _ _
    · exact ⟨[], by simp, by simp⟩
theorem rnd_ext (o : Option (List Nd)) (c : Nd) : ∀ (E : List Ed) (Q : List Nd), ∃ t, rndF o c Q E = Q ++ t ∧ t.length ≤ E.length
  | [], Q => ⟨[], by simp [rndF], by simp⟩
  | x :: E, Q => by
    obtain ⟨t1, h1, l1⟩ := edv_ext o c Q x
    obtain ⟨t2, h2, l2⟩ := rnd_ext o c E (edv o c Q x)
    refine ⟨t1 ++ t2, ?_, by simp only [List.length_append, List.length_cons]; omega⟩
    show rndF o c (edv o c Q x) E = _
    rw [h2, h1, List.append_assoc]
theorem rnd_snoc (o : Option (List Nd)) (c : Nd) (Q : List Nd) (E : List Ed) (x : Ed) : rndF o c Q (E ++ [x]) = edv o c (rndF o c Q E) x := by simp [rndF]
/-- The nodes of edges. -/
def nds (E : List Ed) : List Nd := (E.map Ed.l) ++ (E.map Ed.r)
structure QI (E : List Ed) (f : Nd) (Q : List Nd) : Prop where
  nd : Q.Nodup
  sub : ∀ n ∈ Q, n ∈ f :: nds E
theorem QI.len {E : List Ed} {f : Nd} {Q : List Nd} (h : QI E f Q) : Q.length ≤ 1 + 2 * E.length := by
  have := nodup_len Q (f :: nds E) h.nd h.sub
  simp only [nds, List.length_cons, List.length_append, List.length_map] at this; omega
theorem QI.visI {E : List Ed} {f : Nd} {Q : List Nd} (h : QI E f Q) {o : Option (List Nd)} {n : Nd} (hn : n ∈ nds E) : QI E f (vis o Q n) := by
  unfold vis
  split
  · rename_i hh
    simp only [Bool.and_eq_true, Bool.not_eq_true'] at hh
    have hm : n ∉ Q := fun hm => by have := memN_iff.2 (show (n.1, n.2) ∈ Q from hm); rw [hh.1] at this; cases this
    refine ⟨List.nodup_append.2 ⟨h.nd, by simp, fun a ha b hb => ?_⟩, fun x hx => ?_⟩
    · simp at hb; subst hb; rintro rfl; exact hm ha
    · rcases List.mem_append.1 hx with hx | hx
      · exact h.sub x hx
      · simp at hx; subst hx; simp [hn]
  · exact h
theorem QI.edvI {E : List Ed} {f : Nd} {Q : List Nd} (h : QI E f Q) {o : Option (List Nd)} {c : Nd} {x : Ed} (hx : x ∈ E) : QI E f (edv o c Q x) := by
  unfold edv
  split
  · exact h.visI (List.mem_append.2 (.inr (List.mem_map.2 ⟨x, hx, rfl⟩)))
  · split
    · exact h.visI (List.mem_append.2 (.inl (List.mem_map.2 ⟨x, hx, rfl⟩)))
    · exact h
theorem QI.rnd {E : List Ed} {f : Nd} {o : Option (List Nd)} {c : Nd} : ∀ (E' : List Ed) {Q : List Nd}, QI E f Q → (∀ x ∈ E', x ∈ E) → QI E f (rndF o c Q E')
  | [], Q, h, _ => h
  | x :: E', Q, h, hs => QI.rnd E' (h.edvI (o := o) (c := c) (hs x (by simp))) (fun y hy => hs y (by simp [hy]))
end Go.Proofs.Ytcbddoopmkhlfaa
end
section
namespace Go.Proofs.Ytcbddoopmkhlfaa
open Go.Pv Go.RowKit
set_option linter.unusedSimpArgs false
set_option linter.unusedVariables false
set_option maxRecDepth 100000
set_option maxHeartbeats 2000000
attribute [-simp] Tclo_at Tgrp_at Tchk Tpchk TcI TcB Tclo Tgrp Tsid Tnod Tlook Tbnd TsidA

theorem eg_inE {Γ : Tab} (hΓ : TabOK Try.prog Γ) {n m : Nat} {ops : Array Oper} {Q : Exit → Act → World → Prop} {K : St → Prop} {rest : List Oper} {w0 : Base} : ∀ (l' : List Oper) (st : St) (ro : Nat → Prop) (lam : Lam) (a : Act) (w : World), l'.all (fun o => fits n o.dst) = true →
    egX Try.prog Γ ops l' K st → Sim w0 n ro lam st a w → (∀ st' a' ro' lam' w', K st' → Ext w0 ro ro' → Sim w0 n ro' lam' st' a' w' → wpListIn Fence.wide m Try.prog ops Q rest a' w') → wpListIn Fence.wide m Try.prog ops Q (l' ++ rest) a w
  | [], st, ro, lam, a, w, _, h, hs, hK => hK _ _ _ _ _ h (Ext.refl _ _) hs
  | o :: l', st, ro, lam, a, w, hf, h, hs, hK => by
    simp only [List.all_cons, Bool.and_eq_true] at hf
    show if Region.wanted o (yielded ops a.tmps) then o.wpIn Fence.wide m Try.prog a w (wpListIn Fence.wide m Try.prog ops Q (l' ++ rest)) Q else (∀ f, o.about Try.prog w a.eval = some f → Fence.wide.fn f) ∧ wpListIn Fence.wide m Try.prog ops Q (l' ++ rest) (a.put o.dst undef) w
    simp only [egX] at h
    cases hw : wantV ops st o.guard with
    | none => rw [hw] at h; exact h.elim
    | some b =>
      rw [hw] at h
      rw [wantV_sound hs hw]
      cases b with
      | true =>
        rw [if_pos rfl]
        exact oper_in (swX_sound hΓ hs hf.1 h fun st' a' ro' lam' w' k hx hs' => eg_inE hΓ l' st' ro' lam' a' w' hf.2 k hs' fun st2 a2 ro2 lam2 w2 k e hs2 => hK st2 a2 ro2 lam2 w2 k (hx.trans e) hs2)
      | false =>
        rw [if_neg (by simp)]
        exact ⟨fun _ _ => trivial, eg_inE hΓ l' _ ro lam _ w hf.2 h (hs.put hf.1 (.pure _ _ .undef)) hK⟩
theorem envL_or {e : Nat → V} : ∀ (L : List (Nat × V)), HasE e L → ∀ t, envL L t = e t ∨ envL L t = .junk
  | [], _, t => .inr rfl
  | (t', v) :: r, h, t => by
    simp only [envL]
    by_cases ht : t = t'
    · subst ht; rw [upd_same]; exact .inl h.1.symm
    · rw [upd_ne _ _ ht]; exact envL_or r h.2 t
theorem toL {n : Nat} {w0 : Base} {ro : Nat → Prop} {lam : Lam} {st : St} {a : Act} {w : World} (hs : Sim w0 n ro lam st a w) {L : List (Nat × V)} {bl : List (Nat × Blk)} (hE : HasE st.env L) (hH : HeapIs st.heap bl) : Sim w0 n ro lam ⟨envL L, blkOf bl⟩ a w := by
  have h1 := hs.env' (e := envL L) (fun t => by
    rcases envL_or L hE t with h | h
    · rw [h]; exact hs.env t
    · rw [h]; exact .pure _ _ (.junk _))
  rwa [hH.eq] at h1
theorem blk_ne {bl : List (Nat × Blk)} {k key : Nat} (h : blkOf bl k = none) (hk : (blkOf bl key).isSome = true) : k ≠ key := by
  rintro rfl; rw [h] at hk; cases hk
def Lr (b3 b5 b7 b8 b9 b10 : Nat) : List (Nat × V) := [(3, .vptr b3 3 0), (5, .vptr b5 5 0), (7, .vptr b7 7 0), (8, .vptr b8 8 0), (9, .vptr b9 9 0), (10, .vptr b10 10 0)]
def mainBl (v : Vu) (o : Option (List Nd)) (F : Value) (i : Nat) (Q : List Nd) : List (Nat × Blk) := (3, ⟨81, v.cs⟩) :: (9, ⟨123, [.val F]⟩) :: (10, ⟨3, [.int .i64 i]⟩) :: subBl o Q
theorem main_out {v : Vu} {o : Option (List Nd)} {F : Value} {i : Nat} {Q : List Nd} {k : Nat} (h : blkOf (mainBl v o F i Q) k = none) : k ≠ 3 ∧ k ≠ 9 ∧ k ≠ 10 ∧ k ≠ 5 ∧ k ≠ 7 ∧ k ≠ 13 ∧ k ≠ 8 ∧ k ≠ 17 :=
  ⟨blk_ne h rfl, blk_ne h rfl, blk_ne h rfl, blk_ne h rfl, blk_ne h rfl, blk_ne h rfl, blk_ne h rfl, blk_ne h rfl⟩
def fV (b7 b5 b8 : Nat) : Value := .func (.func 86) #[] #[.pointer (some ⟨b7, 0, none⟩), .pointer (some ⟨b5, 0, none⟩), .pointer (some ⟨b8, 0, none⟩)]
/-- One round of the loop over the edges: a node is visited. -/
theorem visit_in {v : Vu} {o : Option (List Nd)} {i : Nat} {Q : List Nd} {b3 b5 b7 b8 b9 b10 : Nat} {n : Nd} (hQ : Q.length ≤ 10000) {c2 : List V} (hc2 : c2.any ownC = false) {l m : Nat} {w0 : Base} {ro : Nat → Prop} {lam : Lam} {st : St} {a : Act} {w : World} {op : Oper} {t : Nat} {K : Act → World → Prop} {QQ : Exit → Act → World → Prop}
    (hs : Sim w0 56 ro lam st a w) (hE : HasE st.env (Lr b3 b5 b7 b8 b9 b10)) (hH : HeapIs st.heap ((12, ⟨58, c2⟩) :: mainBl v o (fV b7 b5 b8) i Q)) {tf tn : Nat}
    (hf : st.env tf = .val (fV b7 b5 b8)) (hn : st.env tn = .agg [.int .i64 n.1, .int .i64 n.2]) (ho : op.op = .call { callee := .value (.tmp tf), args := #[.tmp tn], argTypes := #[57] }) (hd : op.dst = some t) (ht : t < 56) (hL : ∀ p ∈ Lr b3 b5 b7 b8 b9 b10, p.1 ≠ t)
    (hK : ∀ a' w' s' ro' lam', Ext w0 ro ro' → Sim w0 56 ro' lam' s' a' w' → HasE s'.env (Lr b3 b5 b7 b8 b9 b10) → HeapIs s'.heap ((12, ⟨58, c2⟩) :: mainBl v o (fV b7 b5 b8) i (vis o Q n)) → K a' w') :
    op.wpIn (Fence.wide.inRound l) m Try.prog a w K QQ := by
  have hF : a.tmps.getD tf Go.undef = fV b7 b5 b8 := by have := hs.env tf; rw [hf] at this; exact getD_val this
  have hN : R w ro lam (.agg [.int .i64 n.1, .int .i64 n.2]) (a.tmps.getD tn Go.undef) := by have := hs.env tn; rwa [hn] at this
  have hs1 := toL hs hE hH
  have e7 : R w ro lam (.vptr b7 7 0) (a.tmps.getD 7 Go.undef) := hs1.env 7
  have e5 : R w ro lam (.vptr b5 5 0) (a.tmps.getD 5 Go.undef) := hs1.env 5
  have e8 : R w ro lam (.vptr b8 8 0) (a.tmps.getD 8 Go.undef) := hs1.env 8
  obtain ⟨m7, l7, _⟩ := e7.vptr_inv
  obtain ⟨m5, l5, _⟩ := e5.vptr_inv
  obtain ⟨m8, l8, _⟩ := e8.vptr_inv
  have hsub : ∀ k : Nat, (blkOf (subBl o Q) k).isSome = true → lamK (subBl o Q) lam k = lam k := fun k hk => by unfold lamK; rw [if_pos hk]
  have hHS := HS.keep hs1 (bl := subBl o Q) (by
    refine ⟨?_, ?_, ?_, ?_, ?_, trivial⟩ <;> rfl) (by cases o <;> simp [closedB, subBl, woV, ownC, inC, blkOf, nodK])
  refine oper_inR (by rw [ho]; rfl) (callv_wp (g := 86) (fs := #[]) (cs := #[.pointer (some ⟨b7, 0, none⟩), .pointer (some ⟨b5, 0, none⟩), .pointer (some ⟨b8, 0, none⟩)]) ho (by show a.tmps.getD tf Go.undef = _; rw [hF]; rfl) (by kernel_rfl) ?_)
  have hargs : (#[] ++ (#[Operand.tmp tn] : Array Operand).map a.eval ++ #[Value.pointer (some ⟨b7, 0, none⟩), .pointer (some ⟨b5, 0, none⟩), .pointer (some ⟨b8, 0, none⟩)] : Array Value) = #[a.tmps.getD tn Go.undef, .pointer (some ⟨b7, 0, none⟩), .pointer (some ⟨b5, 0, none⟩), .pointer (some ⟨b8, 0, none⟩)] := by
    simp [Act.eval]
  rw [hargs]
  refine (visit_ok o Q n b7 b5 b8 hQ hHS (args := _) rfl ?_).mono ?_
  · intro j c x hc hx
    match j with
    | 0 =>
      have hc' : some (V.agg [.int .i64 n.1, .int .i64 n.2]) = some c := hc
      have hx' : some (a.tmps.getD tn Go.undef) = some x := hx
      cases hc'; cases hx'
      exact .pure _ _ (hN.pureA rfl)
    | 1 => simp at hc hx; subst hc; subst hx; exact .vptr 7 0 b7 m7 (by rw [hsub 7 rfl]; exact l7)
    | 2 => simp at hc hx; subst hc; subst hx; exact .vptr 5 0 b5 m5 (by rw [hsub 5 rfl]; exact l5)
    | 3 => simp at hc hx; subst hc; subst hx; exact .vptr 8 0 b8 m8 (by rw [hsub 8 rfl]; exact l8)
    | j + 4 => simp at hc
  · rintro e W' ⟨rv, s', ro', lam', a', rfl, ⟨p7, p5, p8, pH⟩, hext, hs'⟩
    refine ⟨rv, rfl, ?_⟩
    have q7 : R W' ro' lam' (.vptr b7 7 0) (a'.tmps.getD 1 Go.undef) := by have := hs'.env 1; rwa [p7] at this
    have q5 : R W' ro' lam' (.vptr b5 5 0) (a'.tmps.getD 2 Go.undef) := by have := hs'.env 2; rwa [p5] at this
    have q8 : R W' ro' lam' (.vptr b8 8 0) (a'.tmps.getD 3 Go.undef) := by have := hs'.env 3; rwa [p8] at this
    obtain ⟨n7, k7, _⟩ := q7.vptr_inv
    obtain ⟨n5, k5, _⟩ := q5.vptr_inv
    obtain ⟨n8, k8, _⟩ := q8.vptr_inv
    have hdomEq : ∀ k, (blkOf (subBl o Q) k = none) → (blkOf (subBl o (vis o Q n)) k = none) := fun k h => by
      have k5 := blk_ne h (key := 5) rfl
      have k7 := blk_ne h (key := 7) rfl
      have k13 := blk_ne h (key := 13) rfl
      have k8 := blk_ne h (key := 8) rfl
      have k17 := blk_ne h (key := 17) rfl
      simp [subBl, blkOf, k5, k7, k13, k8, k17]
    have hJ := hs1.join (bl := subBl o Q) hs' hext (fun k hk => pH.2 k (hdomEq k hk)) (fun k blk hk hb => by
      by_cases k12 : k = 12
      · subst k12; cases hb; exact hc2
      · by_cases k3 : k = 3
        · subst k3; cases hb; rfl
        · by_cases k9 : k = 9
          · subst k9; cases hb; rfl
          · by_cases k10 : k = 10
            · subst k10; cases hb; rfl
            · exfalso
              have : blkOf ((12, (⟨58, c2⟩ : Blk)) :: mainBl v o (fV b7 b5 b8) i Q) k = blkOf (subBl o Q) k := by simp [blkOf, mainBl, k12, k3, k9, k10]
              have hb' : blkOf ((12, (⟨58, c2⟩ : Blk)) :: mainBl v o (fV b7 b5 b8) i Q) k = some blk := hb
              rw [this, hk] at hb'; cases hb') (fun t => by
      show ownT (envL (Lr b3 b5 b7 b8 b9 b10) t) = false ∨ _
      by_cases h3 : t = 3
      · subst h3; exact .inr ⟨b3, 3, 0, rfl, .inl rfl⟩
      · by_cases h5 : t = 5
        · subst h5; exact .inr ⟨b5, 5, 0, rfl, .inr ⟨_, k5⟩⟩
        · by_cases h7 : t = 7
          · subst h7; exact .inr ⟨b7, 7, 0, rfl, .inr ⟨_, k7⟩⟩
          · by_cases h8 : t = 8
            · subst h8; exact .inr ⟨b8, 8, 0, rfl, .inr ⟨_, k8⟩⟩
            · by_cases h9 : t = 9
              · subst h9; exact .inr ⟨b9, 9, 0, rfl, .inl rfl⟩
              · by_cases h10 : t = 10
                · subst h10; exact .inr ⟨b10, 10, 0, rfl, .inl rfl⟩
                · left; simp [Lr, envL, upd, h3, h5, h7, h8, h9, h10, ownT, ownA, ownC])
    refine hK _ _ _ _ _ (Ext.sub hs1 hext) (hJ.put (d := op.dst) (v := .junk) (by rw [hd]; simpa [fits] using ht) (.pure _ _ (.junk rv))) ?_ ?_
    · rw [hd]
      have hne := hL
      simp only [Lr, List.mem_cons, List.not_mem_nil, or_false, forall_eq_or_imp, forall_eq] at hne
      obtain ⟨n3, n5', n7', n8', n9, n10⟩ := hne
      simp [HasE, Lr, St.put, envL, upd, n3, n5', n7', n8', n9, n10]
    · rw [hd]
      show HeapIs (heapJ (subBl o Q) (blkOf ((12, ⟨58, c2⟩) :: mainBl v o (fV b7 b5 b8) i Q)) s'.heap) _
      rw [pH.eq]
      refine ⟨⟨rfl, rfl, rfl, rfl, rfl, rfl, rfl, rfl, rfl, trivial⟩, fun k hk => ?_⟩
      have k12 : k ≠ 12 := blk_ne hk rfl
      have k3 : k ≠ 3 := blk_ne hk rfl
      have k9 : k ≠ 9 := blk_ne hk rfl
      have k10 : k ≠ 10 := blk_ne hk rfl
      have k5 : k ≠ 5 := blk_ne hk rfl
      have k7 : k ≠ 7 := blk_ne hk rfl
      have k13 : k ≠ 13 := blk_ne hk rfl
      have k8 : k ≠ 8 := blk_ne hk rfl
      have k17 : k ≠ 17 := blk_ne hk rfl
      simp [heapJ, subBl, blkOf, mainBl, k12, k3, k9, k10, k5, k7, k13, k8, k17]
end Go.Proofs.Ytcbddoopmkhlfaa
end
section
namespace Go.Proofs.Ytcbddoopmkhlfaa
open Go.Pv Go.RowKit
set_option linter.unusedSimpArgs false
set_option linter.unusedVariables false
set_option maxRecDepth 100000
set_option maxHeartbeats 4000000
attribute [-simp] Tclo_at Tgrp_at Tchk Tpchk TcI TcB Tclo Tgrp Tsid Tnod Tlook Tbnd TsidA

def rPost (W0 : World) (ro0 : Nat → Prop) (b : Bool) (e : Ending) (w' : World) : Prop := ∃ rv ro', e = .returned rv ∧ Below W0.heap.size W0 w' ∧ (∀ b, ro0 b → ro' b) ∧ (∀ b, ro' b → ro0 b ∨ W0.heap.size ≤ b) ∧ (∀ b, ro' b → b < w'.heap.size) ∧ R0 w' ro' (.bool b) rv
/-- Between two rounds of the outer loop. -/
structure RI (W0 : World) (ro0 : Nat → Prop) (v : Vu) (o : Option (List Nd)) (b3 b5 b7 b8 b9 : Nat) (i : Nat) (Q : List Nd) (d : Nat) (a : Act) (w : World) : Prop where
  ex : ∃ Ds ro lam b10, Sim ⟨w, ownB lam, a.defers⟩ 56 ro lam ⟨envL (Lr b3 b5 b7 b8 b9 b10), blkOf (mainBl v o (fV b7 b5 b8) i Q)⟩ a w ∧ MK W0 ro0 Ds ro lam a w ∧ Ds.length = d
theorem RI.dlen {W0 : World} {ro0 : Nat → Prop} {v : Vu} {o : Option (List Nd)} {b3 b5 b7 b8 b9 i d : Nat} {Q : List Nd} {a : Act} {w : World} (h : RI W0 ro0 v o b3 b5 b7 b8 b9 i Q d a w) : a.defers.length = d := by
  obtain ⟨Ds, ro, lam, b10, _, hm, hl⟩ := h.ex
  rw [hm.dfs]; simp [marks, hl]
theorem cw_inE {n m : Nat} {c : Code} {Q : Exit → St → Prop} {st : St} (h : CW Try.prog n c Q st) {ro : Nat → Prop} {lam : Lam} {a : Act} {w : World} (hs : Sim ⟨w, ownB lam, a.defers⟩ n ro lam st a w) {W0 : World} {ro0 : Nat → Prop} {Ds : List Nat} (hm : MK W0 ro0 Ds ro lam a w) :
    c.wpIn Fence.wide m Try.prog (fun e a' w' => ∃ st' ro' lam', Q e st' ∧ Sim ⟨w', ownB lam', a'.defers⟩ n ro' lam' st' a' w' ∧ MK W0 ro0 Ds ro' lam' a' w') a w := by
  refine wpIn_mono (cw_in h hs) ?_
  rintro e a' w' ⟨st', ro', lam', hq, hx, hs'⟩
  exact ⟨st', ro', lam', hq, hs'.rebase, hm.step hs' hx⟩
theorem view_inE {n : Nat} {st st' : St} (hv : View n st st') {ro : Nat → Prop} {lam : Lam} {a : Act} {w : World} (hs : Sim ⟨w, ownB lam, a.defers⟩ n ro lam st a w) {W0 : World} {ro0 : Nat → Prop} {Ds : List Nat} (hm : MK W0 ro0 Ds ro lam a w) : ∃ ro' lam', Sim ⟨w, ownB lam', a.defers⟩ n ro' lam' st' a w ∧ MK W0 ro0 Ds ro' lam' a w := by
  obtain ⟨ro', lam', hx, hs'⟩ := hv _ _ _ _ _ hs
  exact ⟨ro', lam', hs'.rebase, hm.step hs' hx⟩
theorem heap_cons {h : Nat → Option Blk} {bl : List (Nat × Blk)} (hk : KeepBl h bl) (hn : ∀ k, blkOf bl k = none → h k = none) : HeapIs h bl := ⟨hk, hn⟩
theorem scr_vcs (v : Vu) (k : Nat) : v.cs.map (scrC k) = v.cs := scrC_cells (by rfl)
theorem scr_wo (o : Option (List Nd)) (k : Nat) : scrC k (woV o) = woV o := by cases o <;> rfl
theorem forget_main {n : Nat} {w0 : Base} {ro : Nat → Prop} {lam : Lam} {a : Act} {w : World} {v : Vu} {o : Option (List Nd)} {F : Value} {i : Nat} {Q : List Nd} {b3 b5 b7 b8 b9 b10 : Nat} {c2 : List V} {st : St} (hs : Sim w0 n ro lam st a w) (hE : HasE st.env (Lr b3 b5 b7 b8 b9 b10)) (hH : HeapIs st.heap ((12, ⟨58, c2⟩) :: mainBl v o F i Q)) :
    Sim w0 n ro (upd lam 12 none) ⟨envL (Lr b3 b5 b7 b8 b9 b10), blkOf (mainBl v o F i Q)⟩ a w := by
  refine toL ((toL hs hE hH).forget 12) ?_ ?_
  · simp [HasE, Lr, St.forget, envL, upd, scr]
  · refine ⟨?_, fun k hk => ?_⟩
    · refine ⟨?_, ?_, ?_, ?_, ?_, ?_, ?_, ?_, trivial⟩
      all_goals (cases o <;> simp [St.forget, blkOf, mainBl, subBl, woV, scrC, scr_vcs, ndC_scr])
    · obtain ⟨k3, k9, k10, k5, k7, k13, k8, k17⟩ := main_out hk
      by_cases k12 : k = 12
      · subst k12; simp [St.forget]
      · simp [St.forget, blkOf, mainBl, subBl, k12, k3, k9, k10, k5, k7, k13, k8, k17]
theorem rnd_at {o : Option (List Nd)} {c : Nd} {Q : List Nd} {i : Nat} {pre : List Ed} (h : Q[i]? = some c) : (rndF o c Q pre)[i]? = some c ∧ i < (rndF o c Q pre).length := by
  obtain ⟨t, ht, _⟩ := rnd_ext o c pre Q
  have hi := (List.getElem?_eq_some_iff.1 h).1
  rw [ht]
  exact ⟨by rw [List.getElem?_append_left hi]; exact h, by simp; omega⟩
theorem ndC_part {Q : List Nd} {i : Nat} {c : Nd} (h : Q[i]? = some c) : ((ndC Q).drop (i * 2)).take 2 = [.int .i64 c.1, .int .i64 c.2] := flat_part (sz := 2) (fun _ => rfl) Q i c h
theorem ndC_at0 {Q : List Nd} {i : Nat} {c : Nd} (h : Q[i]? = some c) : (ndC Q)[i * 2]? = some (.int .i64 c.1) := by
  have := ndC_part h
  have h2 : (((ndC Q).drop (i * 2)).take 2)[0]? = some (.int .i64 c.1) := by rw [this]; rfl
  simpa [List.getElem?_take, List.getElem?_drop] using h2
theorem reaches_ok (v : Vu) (o : Option (List Nd)) (f : Nd) (hw : wfG v.s v.p v.g.length = true) (hcl : v.p.cl.length = v.s.qs.length) (hn : v.s.qs.length ≤ 16) : PCall Try.prog 52 [.agg v.cs, .agg [.int .i64 f.1, .int .i64 f.2], woV o] (.bool (reachF o (edg v) f)) := by
  have hE16 : (edg v).length ≤ 16 := by
    have := edN_len v v.p.cl.length
    unfold edg; omega
  obtain ⟨E, hEE⟩ : ∃ E, edg v = E := ⟨_, rfl⟩
  obtain ⟨RR, hR⟩ : ∃ RR, reachF o E f = RR := ⟨_, rfl⟩
  rw [hEE] at hE16 ⊢
  rw [hR]
  intro W0 ro0 args hro hsz hr
  have hs0 := sim_ini (n := 56) hro hsz (by simp) hr
  refine callsIn_wide.1 (callsIn_of_wp_marks (n := 0) Try.func52 rfl trivial ?_ rfl)
  rw [Try.ntmps52]
  have hm0 : MK W0 ro0 [] ro0 (fun _ => none) { tmps := args ++ Array.replicate (56 - args.size) Go.undef, defers := [] } W0 :=
    ⟨rfl, List.nodup_nil, fun D hD => (by simp at hD), Below.refl _ _, fun b ⟨k, hk⟩ => (by rcases hk with ⟨_, hk⟩ | hk <;> cases hk), fun _ h => h, fun _ h => .inl h⟩
  have hs0' := hs0.rebase
  clear hs0
  obtain ⟨A0, hA0⟩ : ∃ A0 : Act, { tmps := args ++ Array.replicate (56 - args.size) Go.undef, defers := [] } = A0 := ⟨_, rfl⟩
  rw [hA0] at hm0 hs0' ⊢
  -- the boxes
  refine wpIn_seq (wpIn_mono (cw_inE (CW.of_cx (D := fun _ => none) noTab_ok mixed _ (fun e s => e = .normal ∧ HasE s.env [(3, .ptr 3 0), (4, .ptr 4 0), (5, .ptr 5 0)] ∧ HeapIs s.heap [(3, ⟨81, v.cs⟩), (4, ⟨57, [.int .i64 f.1, .int .i64 f.2]⟩), (5, ⟨84, [woV o]⟩)]) _ (by kernel_rfl) ?_) hs0' hm0) ?_)
  · clear hs0' hm0 hr hA0
    cases o
    all_goals
      repeat' first
        | (with_reducible refine gw_bool (fun _ => ?_) (fun _ => ?_))
        | (with_reducible refine condw_bool (fun _ => ?_) (fun _ => ?_))
        | simp [*, Vu.cs, woV, HasE]
    all_goals
      refine ⟨by simp [KeepBl], fun k hk => ?_⟩
      have k3 : k ≠ 3 := blk_ne hk rfl
      have k4 : k ≠ 4 := blk_ne hk rfl
      have k5 : k ≠ 5 := blk_ne hk rfl
      simp [k3, k4, k5]
  rintro e a1 w1 ⟨s1, ro1, lam1, ⟨rfl, hE1, hH1⟩, hs1, hm1⟩
  replace hs1 := toL hs1 hE1 hH1
  clear hs0' hm0 hE1 hH1
  refine wpIn_seq (wpIn_mono (cw_inE (CW.of_cx (D := fun _ => none) noTab_ok mixed _ (fun e s => e = .normal ∧ HasE s.env [(3, .ptr 3 0), (4, .ptr 4 0), (5, .ptr 5 0), (7, .ptr 7 0)] ∧ HeapIs s.heap [(3, ⟨81, v.cs⟩), (4, ⟨57, [.int .i64 f.1, .int .i64 f.2]⟩), (5, ⟨84, [woV o]⟩), (13, ⟨84, [nodK f]⟩), (7, ⟨84, [.mp 13]⟩)]) _ (by kernel_rfl) ?_) hs1 hm1) ?_)
  · clear hs1 hm1 hr hA0
    have hf0 : findN [] f.1 f.2 = some false := rfl
    cases o
    all_goals
      repeat' first
        | (with_reducible refine gw_bool (fun _ => ?_) (fun _ => ?_))
        | (with_reducible refine condw_bool (fun _ => ?_) (fun _ => ?_))
        | simp [*, woV, HasE, envL, blkOf]
    all_goals
      refine ⟨by simp [KeepBl, blkOf], fun k hk => ?_⟩
      have k3 : k ≠ 3 := blk_ne hk rfl
      have k4 : k ≠ 4 := blk_ne hk rfl
      have k5 : k ≠ 5 := blk_ne hk rfl
      have k7 : k ≠ 7 := blk_ne hk rfl
      have k13 : k ≠ 13 := blk_ne hk rfl
      simp [k3, k4, k5, k7, k13, blkOf]
  rintro e a2 w2 ⟨s2, ro2, lam2, ⟨rfl, hE2, hH2⟩, hs2, hm2⟩
  replace hs2 := toL hs2 hE2 hH2
  clear hs1 hm1 hE2 hH2
  refine wpIn_seq (wpIn_mono (cw_inE (CW.of_cx (D := fun _ => none) noTab_ok mixed _ (fun e s => e = .normal ∧ HasE s.env [(3, .ptr 3 0), (5, .ptr 5 0), (7, .ptr 7 0), (8, .ptr 8 0)] ∧ HeapIs s.heap ((4, ⟨57, [.int .i64 f.1, .int .i64 f.2]⟩) :: (3, ⟨81, v.cs⟩) :: subBl o [f])) _ (by kernel_rfl) ?_) hs2 hm2) ?_)
  · clear hs2 hm2 hr hA0
    cases o
    all_goals
      repeat' first
        | (with_reducible refine gw_bool (fun _ => ?_) (fun _ => ?_))
        | (with_reducible refine condw_bool (fun _ => ?_) (fun _ => ?_))
        | simp [*, woV, HasE, envL, blkOf]
    all_goals
      refine ⟨by simp [KeepBl, blkOf, subBl, ndC, nd2, woV], fun k hk => ?_⟩
      have k3 : k ≠ 3 := blk_ne hk rfl
      have k4 : k ≠ 4 := blk_ne hk rfl
      have k5 : k ≠ 5 := blk_ne hk rfl
      have k7 : k ≠ 7 := blk_ne hk rfl
      have k13 : k ≠ 13 := blk_ne hk rfl
      have k8 : k ≠ 8 := blk_ne hk rfl
      have k17 : k ≠ 17 := blk_ne hk rfl
      simp [k3, k4, k5, k7, k13, k8, k17, blkOf]
  rintro e a3 w3 ⟨s3, ro3, lam3, ⟨rfl, hE3, hH3⟩, hs3, hm3⟩
  replace hs3 := toL hs3 hE3 hH3
  clear hs2 hm2 hE3 hH3
  -- the closure
  have p7 : R w3 ro3 lam3 (.ptr 7 0) (a3.tmps.getD 7 Go.undef) := hs3.env 7
  have p5 : R w3 ro3 lam3 (.ptr 5 0) (a3.tmps.getD 5 Go.undef) := hs3.env 5
  have p8 : R w3 ro3 lam3 (.ptr 8 0) (a3.tmps.getD 8 Go.undef) := hs3.env 8
  have p3 : R w3 ro3 lam3 (.ptr 3 0) (a3.tmps.getD 3 Go.undef) := hs3.env 3
  obtain ⟨b7, m7, l7, x7⟩ := p7.ptr_inv
  obtain ⟨b5, m5, l5, x5⟩ := p5.ptr_inv
  obtain ⟨b8, m8, l8, x8⟩ := p8.ptr_inv
  obtain ⟨b3, m3, l3, x3⟩ := p3.ptr_inv
  have hs4 := hs3.env' (e := envL [(3, .vptr b3 3 0), (5, .vptr b5 5 0), (7, .vptr b7 7 0), (8, .vptr b8 8 0)]) (fun t => by
    simp only [envL]
    by_cases h3 : t = 3
    · subst h3; rw [upd_same, x3]; exact .vptr 3 0 b3 m3 l3
    · rw [upd_ne _ _ h3]
      by_cases h5 : t = 5
      · subst h5; rw [upd_same, x5]; exact .vptr 5 0 b5 m5 l5
      · rw [upd_ne _ _ h5]
        by_cases h7 : t = 7
        · subst h7; rw [upd_same, x7]; exact .vptr 7 0 b7 m7 l7
        · rw [upd_ne _ _ h7]
          by_cases h8 : t = 8
          · subst h8; rw [upd_same, x8]; exact .vptr 8 0 b8 m8 l8
          · rw [upd_ne _ _ h8]; exact .pure _ _ (.junk _))
  clear hs3 p7 p5 p8 p3
  refine wpIn_seq ?_
  refine wpIn_region_list ?_
  refine wpListIn_plain rfl fun K hK => mkfunc_in rfl (hK _ _ ?_)
  have hev : (#[Operand.tmp 7, .tmp 5, .tmp 8] : Array Operand).map a3.eval = #[.pointer (some ⟨b7, 0, none⟩), .pointer (some ⟨b5, 0, none⟩), .pointer (some ⟨b8, 0, none⟩)] := by
    simp only [List.map_toArray, List.map_cons, List.map_nil]
    show #[a3.tmps.getD 7 Go.undef, a3.tmps.getD 5 Go.undef, a3.tmps.getD 8 Go.undef] = _
    rw [x7, x5, x8]
  rw [hev]
  show wpListIn _ _ _ _ _ _ (a3.put (some 18) (fV b7 b5 b8)) w3
  have hs5 : Sim ⟨w3, ownB lam3, (a3.put (some 18) (fV b7 b5 b8)).defers⟩ 56 ro3 lam3 _ (a3.put (some 18) (fV b7 b5 b8)) w3 := hs4.put (d := some 18) (v := .val (fV b7 b5 b8)) (by decide) (.pure _ _ (.val _))
  have hm5 : MK W0 ro0 [] ro3 lam3 (a3.put (some 18) (fV b7 b5 b8)) w3 := ⟨hm3.dfs, hm3.nd, hm3.at', hm3.kept, hm3.own, hm3.up, hm3.dn⟩
  clear hK
  refine eg_inE (rest := []) noTab_ok (K := fun s => HasE s.env [(3, .vptr b3 3 0), (5, .vptr b5 5 0), (7, .vptr b7 7 0), (8, .vptr b8 8 0), (9, .ptr 9 0)] ∧ HeapIs s.heap ((9, ⟨123, [.val (fV b7 b5 b8)]⟩) :: (4, ⟨57, [.int .i64 f.1, .int .i64 f.2]⟩) :: (3, ⟨81, v.cs⟩) :: subBl o [f])) [_, _] _ _ _ _ _ (by kernel_rfl) ?_ hs5 ?_
  · clear hs4 hs5 hm5 hm3 hr hA0
    repeat' first
      | (with_reducible refine gw_bool (fun _ => ?_) (fun _ => ?_))
      | (with_reducible refine condw_bool (fun _ => ?_) (fun _ => ?_))
      | simp [*, HasE, envL, St.put, blkOf, subBl, fV]
    refine ⟨by simp [KeepBl, blkOf, subBl], fun k hk => ?_⟩
    have k9 : k ≠ 9 := blk_ne hk rfl
    have k3 : k ≠ 3 := blk_ne hk rfl
    have k4 : k ≠ 4 := blk_ne hk rfl
    have k5 : k ≠ 5 := blk_ne hk rfl
    have k7 : k ≠ 7 := blk_ne hk rfl
    have k13 : k ≠ 13 := blk_ne hk rfl
    have k8 : k ≠ 8 := blk_ne hk rfl
    have k17 : k ≠ 17 := blk_ne hk rfl
    simp [k9, k3, k4, k5, k7, k13, k8, k17, blkOf, subBl]
  rintro s6 a6 ro6 lam6 w6 ⟨hE6, hH6⟩ hx6 hs6
  have hm6 := hm5.step hs6 hx6
  replace hs6 := toL hs6.rebase hE6 hH6
  clear hs4 hs5 hm5 hm3 hE6 hH6 hx6
  obtain ⟨ro7, lam7, hs7, hm7⟩ := view_inE (View.forget 56 _ 4) hs6 hm6
  replace hs7 := toL hs7 (L := [(3, .vptr b3 3 0), (5, .vptr b5 5 0), (7, .vptr b7 7 0), (8, .vptr b8 8 0), (9, .ptr 9 0)]) (bl := (9, ⟨123, [.val (fV b7 b5 b8)]⟩) :: (3, ⟨81, v.cs⟩) :: subBl o [f]) (by simp [HasE, St.forget, envL, upd, scr]) (by
    refine ⟨?_, fun k hk => ?_⟩
    · refine ⟨?_, ?_, ?_, ?_, ?_, ?_, ?_, trivial⟩
      all_goals (cases o <;> simp [St.forget, blkOf, subBl, woV, scrC, scr_vcs, ndC_scr, nodK])
    · have k9 : k ≠ 9 := blk_ne hk rfl
      have k3 : k ≠ 3 := blk_ne hk rfl
      have k5 : k ≠ 5 := blk_ne hk rfl
      have k7 : k ≠ 7 := blk_ne hk rfl
      have k13 : k ≠ 13 := blk_ne hk rfl
      have k8 : k ≠ 8 := blk_ne hk rfl
      have k17 : k ≠ 17 := blk_ne hk rfl
      by_cases k4 : k = 4
      · subst k4; simp [St.forget]
      · simp [St.forget, blkOf, subBl, k4, k9, k3, k5, k7, k13, k8, k17])
  clear hs6 hm6
  have p9 : R w6 ro7 lam7 (.ptr 9 0) (a6.tmps.getD 9 Go.undef) := hs7.env 9
  obtain ⟨b9, m9, l9, x9⟩ := p9.ptr_inv
  have y3 : R w6 ro7 lam7 (.vptr b3 3 0) (a6.tmps.getD 3 Go.undef) := hs7.env 3
  have y5 : R w6 ro7 lam7 (.vptr b5 5 0) (a6.tmps.getD 5 Go.undef) := hs7.env 5
  have y7 : R w6 ro7 lam7 (.vptr b7 7 0) (a6.tmps.getD 7 Go.undef) := hs7.env 7
  have y8 : R w6 ro7 lam7 (.vptr b8 8 0) (a6.tmps.getD 8 Go.undef) := hs7.env 8
  replace hs7 := hs7.env' (e := envL [(3, .vptr b3 3 0), (5, .vptr b5 5 0), (7, .vptr b7 7 0), (8, .vptr b8 8 0), (9, .vptr b9 9 0)]) (fun t => by
    simp only [envL]
    by_cases h3 : t = 3
    · subst h3; rw [upd_same]; exact y3
    · rw [upd_ne _ _ h3]
      by_cases h5 : t = 5
      · subst h5; rw [upd_same]; exact y5
      · rw [upd_ne _ _ h5]
        by_cases h7 : t = 7
        · subst h7; rw [upd_same]; exact y7
        · rw [upd_ne _ _ h7]
          by_cases h8 : t = 8
          · subst h8; rw [upd_same]; exact y8
          · rw [upd_ne _ _ h8]
            by_cases h9 : t = 9
            · subst h9; rw [upd_same, x9]; exact .vptr 9 0 b9 m9 l9
            · rw [upd_ne _ _ h9]; exact .pure _ _ (.junk _))
  clear p9 y3 y5 y7 y8
  -- a fresh box for the index gives the loop's state
  have mkRI : ∀ (i : Nat) (Q : List Nd) (Ds : List Nat) (ro : Nat → Prop) (lam : Lam) (a : Act) (w : World) (s : St), Sim ⟨w, ownB lam, a.defers⟩ 56 ro lam s a w → MK W0 ro0 Ds ro lam a w → HasE s.env [(3, .vptr b3 3 0), (5, .vptr b5 5 0), (7, .vptr b7 7 0), (8, .vptr b8 8 0), (9, .vptr b9 9 0), (10, .ptr 10 0)] → HeapIs s.heap (mainBl v o (fV b7 b5 b8) i Q) → RI W0 ro0 v o b3 b5 b7 b8 b9 i Q Ds.length a w := by
    intro i Q Ds ro lam a w s hs hm hE hH
    replace hs := toL hs hE hH
    have p10 : R w ro lam (.ptr 10 0) (a.tmps.getD 10 Go.undef) := hs.env 10
    obtain ⟨b10, m10, l10, x10⟩ := p10.ptr_inv
    refine ⟨Ds, ro, lam, b10, hs.env' (fun t => ?_), hm, rfl⟩
    have ht := hs.env t
    simp only [Lr, envL] at ht ⊢
    by_cases h3 : t = 3
    · subst h3; exact ht
    · rw [upd_ne _ _ h3] at ht ⊢
      by_cases h5 : t = 5
      · subst h5; exact ht
      · rw [upd_ne _ _ h5] at ht ⊢
        by_cases h7 : t = 7
        · subst h7; exact ht
        · rw [upd_ne _ _ h7] at ht ⊢
          by_cases h8 : t = 8
          · subst h8; exact ht
          · rw [upd_ne _ _ h8] at ht ⊢
            by_cases h9 : t = 9
            · subst h9; exact ht
            · rw [upd_ne _ _ h9] at ht ⊢
              by_cases h10 : t = 10
              · subst h10; rw [upd_same, x10]; exact .vptr 10 0 b10 m10 l10
              · rw [upd_ne _ _ h10]; exact .pure _ _ (.junk _)
  refine wpIn_seq (wpIn_mono (Q := fun e a w => (e = .normal ∧ RR = false ∧ ∃ Ds ro lam s, Sim ⟨w, ownB lam, a.defers⟩ 56 ro lam s a w ∧ MK W0 ro0 Ds ro lam a w) ∨ (e = .ret ∧ bodyPostM Fence.wide 0 Try.prog Try.f52 (rPost W0 ro0 RR) .ret a w)) ?_ ?_)
  · refine wpIn_seq (wpIn_mono (cw_inE (CW.of_cx (D := fun _ => none) noTab_ok mixed _ (fun e s => e = .normal ∧ HasE s.env [(3, .vptr b3 3 0), (5, .vptr b5 5 0), (7, .vptr b7 7 0), (8, .vptr b8 8 0), (9, .vptr b9 9 0), (10, .ptr 10 0)] ∧ HeapIs s.heap (mainBl v o (fV b7 b5 b8) 0 [f])) _ (by kernel_rfl) ?_) hs7 hm7) ?_)
    · clear hs7 hm7 hr hA0 mkRI
      repeat' first
        | (with_reducible refine gw_bool (fun _ => ?_) (fun _ => ?_))
        | (with_reducible refine condw_bool (fun _ => ?_) (fun _ => ?_))
        | simp [*, HasE, envL, blkOf, subBl]
      refine ⟨by simp [KeepBl, blkOf, subBl, mainBl], fun k hk => ?_⟩
      obtain ⟨k3, k9, k10, k5, k7, k13, k8, k17⟩ := main_out hk
      simp [k9, k3, k10, k5, k7, k13, k8, k17, blkOf, subBl]
    rintro e a8 w8 ⟨s8, ro8, lam8, ⟨rfl, hE8, hH8⟩, hs8, hm8⟩
    have hri := mkRI 0 [f] [] ro8 lam8 a8 w8 s8 hs8 hm8 hE8 hH8
    clear hs7 hm7 hs8 hm8 hE8 hH8
    refine wpIn_block ?_
    refine wpIn_loop (fun a w => ∃ i Q, RI W0 ro0 v o b3 b5 b7 b8 b9 i Q i a w ∧ i ≤ Q.length ∧ bfs o E (100 - i) i Q = RR ∧ QI E f Q) (fun a _ => 101 - a.defers.length) ⟨0, [f], hri, by simp, hR, ⟨by simp, fun n hn => by simp at hn; simp [hn]⟩⟩ ?_
    clear hri
    rintro a w ⟨i, Q, hri, hiQ, hbf, hqi⟩
    have hdl := hri.dlen
    obtain ⟨Ds, ro, lam, b10, hs, hm, hDs⟩ := hri.ex
    have hQl : Q.length ≤ 33 := by have := hqi.len; omega
    have hQi : Q.length ≤ 9223372036854775807 := by omega
    obtain ⟨qn, hqn⟩ : ∃ n, Q.length = n := ⟨_, rfl⟩
    have w1 : IntKind.i64.wrap ((i : Int) + 1) = ((i + 1 : Nat) : Int) := wrap_succ (by omega)
    have hfu : 100 - i = (99 - i) + 1 := by omega
    rw [hfu] at hbf
    by_cases hlt : i < qn
    · obtain ⟨c, hc, -⟩ := at_ex (l := Q) (i := i) (by omega)
      simp only [bfs, hc] at hbf
      have f1 : ilt (i : Int) (qn : Int) = true := ilt_t (by omega)
      refine wpIn_seq (wpIn_mono (cw_inE (CW.of_cx (D := fun _ => none) noTab_ok mixed _ (fun e s => e = .normal ∧ HasE s.env (Lr b3 b5 b7 b8 b9 b10) ∧ HeapIs s.heap (mainBl v o (fV b7 b5 b8) i Q)) _ (by kernel_rfl) ?_) hs hm) ?_)
      · clear hs hm hr hA0 mkRI hri hbf hqi
        repeat' first
          | (with_reducible refine gw_bool (fun _ => ?_) (fun _ => ?_))
          | (with_reducible refine condw_bool (fun _ => ?_) (fun _ => ?_))
          | simp [*, HasE, envL, blkOf, subBl, mainBl, Lr]
        exact ⟨by simp [KeepBl, blkOf], fun k hk => hk⟩
      rintro e a1 w1' ⟨s1, ro1, lam1, ⟨rfl, hE1, hH1⟩, hs1, hm1⟩
      replace hs1 := toL hs1 hE1 hH1
      clear hs hm hE1 hH1
      refine wpIn_seq (wpIn_mono (wpIn_block (Q := fun e a' w' => (e = .normal ∧ ieq c.1 3 = false ∧ ∃ Ds' ro lam, Sim ⟨w', ownB lam, a'.defers⟩ 56 ro lam ⟨envL (Lr b3 b5 b7 b8 b9 b10), blkOf (mainBl v o (fV b7 b5 b8) i (rndF o c Q E))⟩ a' w' ∧ MK W0 ro0 Ds' ro lam a' w' ∧ Ds'.length = i + 1) ∨ (e = .ret ∧ bodyPostM Fence.wide 0 Try.prog Try.f52 (rPost W0 ro0 RR) .ret a' w')) ?_) ?_)
      · have hat0 := ndC_at0 hc
        have hat1 : ∀ h : i * 2 < (ndC Q).length, (ndC Q)[i * 2] = .int .i64 c.1 := fun h => by rw [List.getElem?_eq_getElem h] at hat0; exact Option.some.inj hat0
        have hprt := ndC_part hc
        have hi2 : i * 2 < qn * 2 := by omega
        have hi3 : i * 2 + 2 ≤ qn * 2 := by omega
        have hci : (i : Int) < (qn : Int) := by omega
        refine wpIn_seq ?_
        cases q3 : ieq c.1 3
        case true =>
          rw [q3, if_pos rfl] at hbf
          refine wpIn_mono (cw_inE (CW.of_cx (D := fun _ => none) noTab_ok mixed _ (fun e s => e = .ret ∧ s.env 6 = .bool true) _ (by kernel_rfl) ?_) hs1 hm1) ?_
          · clear hs1 hm1 hr hA0 mkRI hri hbf hqi
            repeat' first
              | (with_reducible refine gw_bool (fun _ => ?_) (fun _ => ?_))
              | (with_reducible refine condw_bool (fun _ => ?_) (fun _ => ?_))
              | simp [*, HasE, envL, blkOf, subBl, mainBl, Lr]
          rintro e a2 w2 ⟨s2, ro2, lam2, ⟨rfl, h6⟩, hs2, hm2⟩
          refine .inr ⟨rfl, ?_⟩
          have h6' : a2.tmps.getD 6 Go.undef = .bool true := by
            have := hs2.env 6
            rw [h6] at this
            exact this.bool_inv
          have hRt : RR = true := hbf.symm
          rw [hRt]
          exact MK.leave hm2 hro rfl h6' (fun _ _ => .bool _)
        rw [q3, if_neg (by simp)] at hbf
        refine wpIn_mono (cw_inE (CW.of_cx (D := fun _ => none) noTab_ok mixed _ (fun e s => e = .normal ∧ HasE s.env (Lr b3 b5 b7 b8 b9 b10) ∧ HeapIs s.heap (mainBl v o (fV b7 b5 b8) i Q)) _ (by kernel_rfl) ?_) hs1 hm1) ?_
        · clear hs1 hm1 hr hA0 mkRI hri hbf hqi
          repeat' first
            | (with_reducible refine gw_bool (fun _ => ?_) (fun _ => ?_))
            | (with_reducible refine condw_bool (fun _ => ?_) (fun _ => ?_))
            | simp [*, HasE, envL, blkOf, subBl, mainBl, Lr]
          exact ⟨by simp [KeepBl, blkOf], fun k hk => hk⟩
        rintro e a2 w2 ⟨s2, ro2, lam2, ⟨rfl, hE2, hH2⟩, hs2, hm2⟩
        replace hs2 := toL hs2 hE2 hH2
        clear hs1 hm1 hE2 hH2
        refine wpIn_seq ?_
        refine wpIn_region_list ?_
        rw [← List.take_append_drop 1 (Array.toList _)]
        refine eg_inE noTab_ok (K := fun s => HasE s.env ((31, .agg v.cs) :: Lr b3 b5 b7 b8 b9 b10) ∧ HeapIs s.heap (mainBl v o (fV b7 b5 b8) i Q)) _ _ _ _ _ _ (by kernel_rfl) ?_ hs2 ?_
        · clear hs2 hm2 hr hA0 mkRI hri hbf hqi
          repeat' first
            | (with_reducible refine gw_bool (fun _ => ?_) (fun _ => ?_))
            | (with_reducible refine condw_bool (fun _ => ?_) (fun _ => ?_))
            | simp [*, HasE, envL, blkOf, subBl, mainBl, Lr, Vu.cs]
          exact ⟨by simp [KeepBl, blkOf], fun k hk => hk⟩
        rintro s3 a3' ro3' lam3' w3' ⟨hE3, hH3⟩ hx3 hs3'
        have hm3' := hm2.step hs3' hx3
        replace hs3' := toL hs3'.rebase hE3 hH3
        clear hs2 hm2 hE3 hH3 hx3
        refine wpListIn_plain rfl fun K hK => oper_in (call_wp rfl (by kernel_rfl) ?_)
        have hV : R w3' ro3' lam3' (.agg v.cs) (a3'.tmps.getD 31 Go.undef) := hs3'.env 31
        have hmap : (#[Operand.tmp 31] : Array Operand).map a3'.eval = #[a3'.tmps.getD 31 Go.undef] := by
          simp only [List.map_toArray, List.map_cons, List.map_nil]; rfl
        rw [hmap]
        refine (edges_ok v w3' ro3' _ hs3'.rolt (hV.pureA rfl)).mono ?_
        rintro e w4 ⟨bE, ro4, rfl, hb4, hup, hdn, hlt4, hv4⟩
        refine ⟨_, rfl, hK _ _ ?_⟩
        clear hK
        obtain ⟨F2, hF2⟩ : ∃ F2 : Value, F2 = .func (.func 85) #[] #[.pointer (some ⟨bE, 0, none⟩)] := ⟨_, rfl⟩
        rw [← hF2]
        have hs4 : Sim ⟨w4, ownB lam3', (a3'.put (some 32) F2).defers⟩ 56 ro4 lam3' _ (a3'.put (some 32) F2) w4 := (((hs3'.world hb4).more hup hlt4 (fun key b mm hl hb => by
            rcases hdn b hb with h | h
            · exact (hs3'.own key b mm hl).2.2 h
            · have := (hs3'.own key b mm hl).2.1; omega) (fun key b hl hb => by
            rcases hdn b hb with h | h
            · exact (hs3'.maps key b hl).1.2.2 h
            · have := (hs3'.maps key b hl).1.2.1; omega)).put (d := some 32) (v := .val F2) (by decide) (.pure _ _ (.val _))).rebase
        have hm4 : MK W0 ro0 Ds ro4 lam3' (a3'.put (some 32) F2) w4 := hm3'.move rfl ((Base.Keeps.refl _ _ _).after hb4) ⟨hup, fun b hb => (hdn b hb).imp id .inr⟩ (fun b hb => .inl hb)
        obtain ⟨a4, ha4⟩ : ∃ a4, a3'.put (some 32) F2 = a4 := ⟨_, rfl⟩
        rw [ha4] at hs4 hm4 ⊢
        replace hs4 := toL hs4 (L := (32, .val F2) :: Lr b3 b5 b7 b8 b9 b10) (bl := mainBl v o (fV b7 b5 b8) i Q) (by simp [HasE, St.put, envL, upd, Lr]) ⟨by simp [St.put, KeepBl, blkOf, mainBl, subBl], fun k hk => hk⟩
        have hg4 : a4.eval (.tmp 32) = F2 := getD_val (show R w4 ro4 lam3' (.val F2) _ from hs4.env 32)
        have hz4 : 56 ≤ a4.tmps.size := hs4.size
        clear hs3' hm3' hV hmap
        have hset : ∀ x : Ed, setPs #[33, 34] x.arr a4.tmps = (a4.tmps.setIfInBounds 33 (.int .i64 x.i)).setIfInBounds 34 (.agg #[.int .i64 x.a0, .int .i64 x.a1, .int .i64 x.c0, .int .i64 x.c1]) := fun x => by simp [setPs, Ed.arr]
        refine wpIn_block ?_
        refine range_in hs4 (hg4.trans hF2) (callFunc_run (by kernel_rfl)) (encs := Ed.arr) (xs := edg v) (fun _ => rfl) (it_ok v _ ro4 w4 hlt4 hw hcl hv4) ?_ (fun pre h => HeapIs h (mainBl v o (fV b7 b5 b8) i (rndF o c Q pre))) (fun _ _ _ => False) ⟨by simp [KeepBl, blkOf, mainBl, subBl, rndF], fun k hk => hk⟩ (fun x => envL ((34, .agg x.ns) :: (32, .val F2) :: Lr b3 b5 b7 b8 b9 b10)) ?_ ?_ ?_ ?_ ?_
        · intro t
          show stays (envL ((32, .val F2) :: Lr b3 b5 b7 b8 b9 b10) t) = true
          simp only [envL, Lr, upd]
          repeat' (split; · rfl)
          rfl
        · intro x ro' lam' W hRR t
          rw [hset x]
          simp only [envL]
          by_cases ht : t = 34
          · subst ht
            rw [upd_same, Array.getD_eq_getD_getElem?, Array.getElem?_setIfInBounds, if_pos rfl, if_pos (by simp; omega)]
            refine .pure _ _ (.agg _ _ rfl fun j c y hc hy => ?_)
            match j with
            | 0 => simp [Ed.ns] at hc hy; subst hc; subst hy; exact .int _ _
            | 1 => simp [Ed.ns] at hc hy; subst hc; subst hy; exact .int _ _
            | 2 => simp [Ed.ns] at hc hy; subst hc; subst hy; exact .int _ _
            | 3 => simp [Ed.ns] at hc hy; subst hc; subst hy; exact .int _ _
            | j + 4 => simp [Ed.ns] at hc
          · rw [upd_ne _ _ ht]
            by_cases ht3 : t = 33
            · subst ht3; simp only [Lr, envL, upd]; exact .pure _ _ (.junk _)
            · have := hRR t
              rw [Array.getD_eq_getD_getElem?, Array.getElem?_setIfInBounds, if_neg (fun e => ht e.symm), Array.getElem?_setIfInBounds, if_neg (fun e => ht3 e.symm), ← Array.getD_eq_getD_getElem?]
              exact this
        · intro x; rw [hset x]; simp
        · intro pre x h hI hplt
          rw [hEE] at hplt
          obtain ⟨hQi', hQil⟩ := rnd_at (o := o) (pre := pre) hc
          obtain ⟨tt, htt, htl⟩ := rnd_ext o c pre Q
          have hQ9 : (rndF o c Q pre).length ≤ 1000 := by rw [htt]; simp; omega
          have hnext := rnd_snoc o c Q pre x
          clear htt htl hat0 hat1 hprt
          generalize rndF o c Q pre = Q' at hI hQi' hQil hQ9 hnext
          have hprt := ndC_part hQi'
          obtain ⟨qm, hqm⟩ : ∃ n, Q'.length = n := ⟨_, rfl⟩
          have hci' : (i : Int) < (qm : Int) := by omega
          have hi3' : i * 2 + 2 ≤ qm * 2 := by omega
          have hheq := hI.eq
          subst hheq
          clear hs4 hm4 hr hA0 mkRI hri hbf hqi hset hv4 hI
          refine (CWR.of_cx (D := fun _ => none) noTab_ok _ (fun e s => e = .normal ∧ HasE s.env ((12, .ptr 12 0) :: Lr b3 b5 b7 b8 b9 b10) ∧ HeapIs s.heap ((12, ⟨58, x.ns⟩) :: mainBl v o (fV b7 b5 b8) i Q')) _ (by kernel_rfl) ?_).mono ?_
          · skip
            repeat' first
              | (with_reducible refine gw_bool (fun _ => ?_) (fun _ => ?_))
              | (with_reducible refine condw_bool (fun _ => ?_) (fun _ => ?_))
              | simp [*, HasE, envL, blkOf, subBl, mainBl, Lr, Ed.ns]
            refine ⟨by simp [KeepBl, blkOf], fun k hk => ?_⟩
            have k12 : k ≠ 12 := blk_ne hk rfl
            simp only [blkOf, if_neg k12] at hk
            simp [k12, blkOf, hk]
            try exact hk
          rintro e s ⟨rfl, hE, hH⟩
          refine ⟨rfl, ?_⟩
          intro l m w0 ro lam a w hs
          replace hs := toL hs hE hH
          clear hE hH
          have fin : ∀ (Q2 : List Nd) (ro' : Nat → Prop) (lam' : Lam) (s' : St) (a' : Act) (w' : World), Q2 = edv o c Q' x → Ext w0 ro ro' → Sim w0 56 ro' lam' s' a' w' → HasE s'.env (Lr b3 b5 b7 b8 b9 b10) → HeapIs s'.heap ((12, ⟨58, x.ns⟩) :: mainBl v o (fV b7 b5 b8) i Q2) →
              ∃ st' ro' lam', Rp 56 (fun pre h => HeapIs h (mainBl v o (fV b7 b5 b8) i (rndF o c Q pre))) (fun _ _ _ => False) (pre ++ [x]) (envL ((32, .val F2) :: Lr b3 b5 b7 b8 b9 b10)) .normal st' ∧ Ext w0 ro ro' ∧ Sim w0 56 ro' lam' st' a' w' := by
            intro Q2 ro' lam' s' a' w' hQ2 hx hs' hE' hH'
            have hf := forget_main hs' hE' hH'
            refine ⟨_, ro', _, ⟨_, View.refl _ _, fun t ht => ?_, ?_⟩, hx, hf⟩
            · show envL (Lr b3 b5 b7 b8 b9 b10) t = envL ((32, .val F2) :: Lr b3 b5 b7 b8 b9 b10) t
              have ht' : isVp (envL ((32, .val F2) :: Lr b3 b5 b7 b8 b9 b10) t) = true := ht
              by_cases h32 : t = 32
              · subst h32; simp [envL, upd, isVp] at ht'
              · simp [envL, upd, h32]
            · show HeapIs (blkOf (mainBl v o (fV b7 b5 b8) i Q2)) (mainBl v o (fV b7 b5 b8) i (rndF o c Q (pre ++ [x])))
              rw [hnext, hQ2]
              exact ⟨by simp [KeepBl, blkOf, mainBl, subBl], fun k hk => hk⟩
          refine wpIn_block ?_
          refine wpIn_seq (wpIn_mono (CWR.of_cx (D := fun _ => none) noTab_ok _ (fun e s => e = .normal ∧ HasE s.env ((38, .agg [.int .i64 c.1, .int .i64 c.2]) :: (12, .ptr 12 0) :: Lr b3 b5 b7 b8 b9 b10) ∧ HeapIs s.heap ((12, ⟨58, x.ns⟩) :: mainBl v o (fV b7 b5 b8) i Q')) _ (by kernel_rfl) ?_ l m w0 ro lam a w hs) ?_)
          · clear hs fin
            repeat' first
              | (with_reducible refine gw_bool (fun _ => ?_) (fun _ => ?_))
              | (with_reducible refine condw_bool (fun _ => ?_) (fun _ => ?_))
              | simp [*, HasE, envL, blkOf, subBl, mainBl, Lr, Ed.ns]
            exact ⟨by simp [KeepBl, blkOf], fun k hk => hk⟩
          rintro e a1 w1 ⟨s1, ro1, lam1, ⟨rfl, hE1, hH1⟩, hx1, hs1⟩
          replace hs1 := toL hs1 hE1 hH1
          clear hs hE1 hH1
          refine wpIn_block ?_
          refine wpIn_seq (wpIn_mono (CWR.of_cx (D := fun _ => none) noTab_ok _ (fun e s => e = .normal ∧ HasE s.env ((39, .bool (eq2 c x.l)) :: (38, .agg [.int .i64 c.1, .int .i64 c.2]) :: (12, .ptr 12 0) :: Lr b3 b5 b7 b8 b9 b10) ∧ HeapIs s.heap ((12, ⟨58, x.ns⟩) :: mainBl v o (fV b7 b5 b8) i Q')) _ (by kernel_rfl) ?_ l m w0 ro1 lam1 a1 w1 hs1) ?_)
          · clear hs1 fin
            repeat' first
              | (with_reducible refine gw_bool (fun _ => ?_) (fun _ => ?_))
              | (with_reducible refine condw_bool (fun _ => ?_) (fun _ => ?_))
              | simp [*, HasE, envL, blkOf, subBl, mainBl, Lr, Ed.ns, eq2, Ed.l]
            exact ⟨by simp [KeepBl, blkOf], fun k hk => hk⟩
          rintro e a2 w2 ⟨s2, ro2, lam2, ⟨rfl, hE2, hH2⟩, hx2, hs2⟩
          replace hs2 := toL hs2 hE2 hH2
          clear hs1 hE2 hH2
          have hb39 : a2.eval (.tmp 39) = .bool (eq2 c x.l) := (show R w2 ro2 lam2 (.bool (eq2 c x.l)) _ from hs2.env 39).bool_inv
          refine wpIn_cond hb39 ?_
          cases qL : eq2 c x.l
          case true =>
            rw [if_pos rfl]
            refine wpIn_region_list ?_
            rw [← List.take_append_drop 3 (Array.toList _)]
            refine eg_inR noTab_ok (n := 56) (K := fun s => HasE s.env ((43, .val (fV b7 b5 b8)) :: (45, .agg [.int .i64 x.r.1, .int .i64 x.r.2]) :: Lr b3 b5 b7 b8 b9 b10) ∧ HeapIs s.heap ((12, ⟨58, x.ns⟩) :: mainBl v o (fV b7 b5 b8) i Q')) _ _ _ _ _ _ (by kernel_rfl) ?_ hs2 ?_
            · clear hs2 fin hb39
              repeat' first
                | (with_reducible refine gw_bool (fun _ => ?_) (fun _ => ?_))
                | (with_reducible refine condw_bool (fun _ => ?_) (fun _ => ?_))
                | simp [*, HasE, envL, blkOf, subBl, mainBl, Lr, Ed.ns, Ed.r, fV]
              exact ⟨by simp [KeepBl, blkOf], fun k hk => hk⟩
            rintro s3 a3 ro3 lam3 w3 ⟨hE3, hH3⟩ hx3 hs3
            refine wpListIn_plain rfl fun K hK => ?_
            refine visit_in (n := x.r) (tf := 43) (tn := 45) (t := 46) (c2 := x.ns) (by omega) rfl hs3 hE3.2.2 hH3 hE3.1 hE3.2.1 rfl rfl (by decide) (by simp [Lr]) ?_
            intro a' w' s' ro' lam' hx' hs' hE' hH'
            refine hK _ _ ?_
            exact fin _ ro' lam' s' a' w' (by rw [edv, if_pos qL]) ((hx1.trans hx2).trans (hx3.trans hx')) hs' hE' hH'
          rw [if_neg (by simp)]
          refine wpIn_seq (wpIn_mono (CWR.of_cx (D := fun _ => none) noTab_ok _ (fun e s => e = .normal ∧ HasE s.env ((47, .bool (eq2 c x.r)) :: (12, .ptr 12 0) :: Lr b3 b5 b7 b8 b9 b10) ∧ HeapIs s.heap ((12, ⟨58, x.ns⟩) :: mainBl v o (fV b7 b5 b8) i Q')) _ (by kernel_rfl) ?_ l m w0 ro2 lam2 a2 w2 hs2) ?_)
          · clear hs2 fin hb39
            repeat' first
              | (with_reducible refine gw_bool (fun _ => ?_) (fun _ => ?_))
              | (with_reducible refine condw_bool (fun _ => ?_) (fun _ => ?_))
              | simp [*, HasE, envL, blkOf, subBl, mainBl, Lr, Ed.ns, eq2, Ed.r]
            exact ⟨by simp [KeepBl, blkOf], fun k hk => hk⟩
          rintro e a3 w3 ⟨s3, ro3, lam3, ⟨rfl, hE3, hH3⟩, hx3, hs3⟩
          replace hs3 := toL hs3 hE3 hH3
          clear hs2 hE3 hH3 hb39
          have hb47 : a3.eval (.tmp 47) = .bool (eq2 c x.r) := (show R w3 ro3 lam3 (.bool (eq2 c x.r)) _ from hs3.env 47).bool_inv
          refine wpIn_cond hb47 ?_
          cases qR : eq2 c x.r
          · rw [if_neg (by simp)]
            refine wpIn_skip ?_
            exact fin Q' ro3 lam3 _ a3 w3 (by rw [edv, if_neg (by rw [qL]; simp), if_neg (by rw [qR]; simp)]) ((hx1.trans hx2).trans hx3) hs3 (by simp [HasE, envL, upd, Lr]) ⟨by simp [KeepBl, blkOf, mainBl, subBl], fun k hk => hk⟩
          · rw [if_pos rfl]
            refine wpIn_region_list ?_
            rw [← List.take_append_drop 3 (Array.toList _)]
            refine eg_inR noTab_ok (n := 56) (K := fun s => HasE s.env ((51, .val (fV b7 b5 b8)) :: (53, .agg [.int .i64 x.l.1, .int .i64 x.l.2]) :: Lr b3 b5 b7 b8 b9 b10) ∧ HeapIs s.heap ((12, ⟨58, x.ns⟩) :: mainBl v o (fV b7 b5 b8) i Q')) _ _ _ _ _ _ (by kernel_rfl) ?_ hs3 ?_
            · clear hs3 fin hb47
              repeat' first
                | (with_reducible refine gw_bool (fun _ => ?_) (fun _ => ?_))
                | (with_reducible refine condw_bool (fun _ => ?_) (fun _ => ?_))
                | simp [*, HasE, envL, blkOf, subBl, mainBl, Lr, Ed.ns, Ed.l, fV]
              exact ⟨by simp [KeepBl, blkOf], fun k hk => hk⟩
            rintro s4 a4' ro4' lam4 w4' ⟨hE4, hH4⟩ hx4 hs4
            refine wpListIn_plain rfl fun K hK => ?_
            refine visit_in (n := x.l) (tf := 51) (tn := 53) (t := 54) (c2 := x.ns) (by omega) rfl hs4 hE4.2.2 hH4 hE4.1 hE4.2.1 rfl rfl (by decide) (by simp [Lr]) ?_
            intro a' w' s' ro' lam' hx' hs' hE' hH'
            refine hK _ _ ?_
            exact fin _ ro' lam' s' a' w' (by rw [edv, if_neg (by rw [qL]; simp), if_pos qR]) (((hx1.trans hx2).trans hx3).trans (hx4.trans hx')) hs' hE' hH'
        · rintro D ro5 lam5 h W5 hI rj hDl
          rw [hEE] at hI
          have hsd := RJ.act rj ({ target := .collected D, args := #[] } :: a4.defers)
          have hmd := hm4.mark rj hDl
          refine .inl ⟨rfl, rfl, D :: Ds, ro5, lam5, toL hsd (by simp [HasE, envL, upd, Lr]) hI, hmd, by simp [hDs]⟩
        · rintro D cc pre ro' lam' h W hf
          exact hf.elim
      · rintro e a2 w2 (⟨rfl, q3, Ds2, ro2, lam2, hs2, hm2, hl2⟩ | ⟨rfl, hb⟩)
        · rw [q3, if_neg (by simp)] at hbf
          obtain ⟨tt, htt, htl⟩ := rnd_ext o c E Q
          have hqi2 : QI E f (rndF o c Q E) := hqi.rnd E (fun x hx => hx)
          have hle2 : i + 1 ≤ (rndF o c Q E).length := by rw [htt]; simp; omega
          obtain ⟨Q', hQ'⟩ : ∃ Q', rndF o c Q E = Q' := ⟨_, rfl⟩
          rw [hQ'] at hs2 hbf hqi2 hle2
          clear htt htl
          refine wpIn_seq (wpIn_seq (wpIn_mono (cw_inE (CW.of_cx (D := fun _ => none) noTab_ok mixed _ (fun e s => e = .normal ∧ HasE s.env ((55, .int .i64 i) :: Lr b3 b5 b7 b8 b9 b10) ∧ HeapIs s.heap (mainBl v o (fV b7 b5 b8) i Q')) _ (by kernel_rfl) ?_) hs2 hm2) ?_))
          · clear hs2 hm2 hr hA0 mkRI hri hbf hqi
            repeat' first
              | (with_reducible refine gw_bool (fun _ => ?_) (fun _ => ?_))
              | (with_reducible refine condw_bool (fun _ => ?_) (fun _ => ?_))
              | simp [*, HasE, envL, blkOf, subBl, mainBl, Lr]
            exact ⟨by simp [KeepBl, blkOf], fun k hk => hk⟩
          rintro e a3 w3 ⟨s3, ro3, lam3, ⟨rfl, hE3, hH3⟩, hs3, hm3⟩
          replace hs3 := toL hs3 hE3 hH3
          clear hs2 hm2 hE3 hH3
          obtain ⟨ro4, lam4, hs4, hm4⟩ := view_inE (View.forget 56 _ 10) hs3 hm3
          replace hs4 := toL hs4 (L := [(55, .int .i64 i), (3, .vptr b3 3 0), (5, .vptr b5 5 0), (7, .vptr b7 7 0), (8, .vptr b8 8 0), (9, .vptr b9 9 0)]) (bl := (3, ⟨81, v.cs⟩) :: (9, ⟨123, [.val (fV b7 b5 b8)]⟩) :: subBl o Q') (by simp [HasE, St.forget, envL, upd, scr, Lr]) (by
            refine ⟨?_, fun k hk => ?_⟩
            · refine ⟨?_, ?_, ?_, ?_, ?_, ?_, ?_, trivial⟩
              all_goals (cases o <;> simp [St.forget, blkOf, subBl, mainBl, woV, scrC, scr_vcs, ndC_scr])
            · have k9 : k ≠ 9 := blk_ne hk rfl
              have k3 : k ≠ 3 := blk_ne hk rfl
              have k5 : k ≠ 5 := blk_ne hk rfl
              have k7 : k ≠ 7 := blk_ne hk rfl
              have k13 : k ≠ 13 := blk_ne hk rfl
              have k8 : k ≠ 8 := blk_ne hk rfl
              have k17 : k ≠ 17 := blk_ne hk rfl
              by_cases k10 : k = 10
              · subst k10; simp [St.forget]
              · simp [St.forget, blkOf, subBl, mainBl, k10, k9, k3, k5, k7, k13, k8, k17])
          clear hs3 hm3
          refine wpIn_mono (cw_inE (CW.of_cx (D := fun _ => none) noTab_ok mixed _ (fun e s => e = .normal ∧ HasE s.env [(3, .vptr b3 3 0), (5, .vptr b5 5 0), (7, .vptr b7 7 0), (8, .vptr b8 8 0), (9, .vptr b9 9 0), (10, .ptr 10 0)] ∧ HeapIs s.heap (mainBl v o (fV b7 b5 b8) i Q')) _ (by kernel_rfl) ?_) hs4 hm4) ?_
          · clear hs4 hm4 hr hA0 mkRI hri hbf hqi
            repeat' first
              | (with_reducible refine gw_bool (fun _ => ?_) (fun _ => ?_))
              | (with_reducible refine condw_bool (fun _ => ?_) (fun _ => ?_))
              | simp [*, HasE, envL, blkOf, subBl, mainBl, Lr]
            refine ⟨by simp [KeepBl, blkOf, subBl, mainBl], fun k hk => ?_⟩
            have k10 : k ≠ 10 := blk_ne hk rfl
            have k9 : k ≠ 9 := blk_ne hk rfl
            have k3 : k ≠ 3 := blk_ne hk rfl
            have k5 : k ≠ 5 := blk_ne hk rfl
            have k7 : k ≠ 7 := blk_ne hk rfl
            have k13 : k ≠ 13 := blk_ne hk rfl
            have k8 : k ≠ 8 := blk_ne hk rfl
            have k17 : k ≠ 17 := blk_ne hk rfl
            simp [k9, k3, k10, k5, k7, k13, k8, k17, blkOf, subBl]
          rintro e a5 w5 ⟨s5, ro5, lam5, ⟨rfl, hE5, hH5⟩, hs5, hm5⟩
          replace hs5 := toL hs5 hE5 hH5
          clear hs4 hm4 hE5 hH5
          refine wpIn_mono (cw_inE (CW.of_cx (D := fun _ => none) noTab_ok mixed _ (fun e s => e = .normal ∧ HasE s.env [(3, .vptr b3 3 0), (5, .vptr b5 5 0), (7, .vptr b7 7 0), (8, .vptr b8 8 0), (9, .vptr b9 9 0), (10, .ptr 10 0)] ∧ HeapIs s.heap (mainBl v o (fV b7 b5 b8) (i + 1) Q')) _ (by kernel_rfl) ?_) hs5 hm5) ?_
          · clear hs5 hm5 hr hA0 mkRI hri hbf hqi
            repeat' first
              | (with_reducible refine gw_bool (fun _ => ?_) (fun _ => ?_))
              | (with_reducible refine condw_bool (fun _ => ?_) (fun _ => ?_))
              | simp [*, HasE, envL, blkOf, subBl, mainBl, Lr, setsV]
            refine ⟨by simp [KeepBl, blkOf, subBl, mainBl], fun k hk => ?_⟩
            have k10 : k ≠ 10 := blk_ne hk rfl
            have k9 : k ≠ 9 := blk_ne hk rfl
            have k3 : k ≠ 3 := blk_ne hk rfl
            have k5 : k ≠ 5 := blk_ne hk rfl
            have k7 : k ≠ 7 := blk_ne hk rfl
            have k13 : k ≠ 13 := blk_ne hk rfl
            have k8 : k ≠ 8 := blk_ne hk rfl
            have k17 : k ≠ 17 := blk_ne hk rfl
            simp [k9, k3, k10, k5, k7, k13, k8, k17, blkOf, subBl]
          rintro e a6' w6' ⟨s6, ro6', lam6', ⟨rfl, hE6, hH6⟩, hs6, hm6⟩
          have hri2 := mkRI (i + 1) Q' Ds2 ro6' lam6' a6' w6' s6 hs6 hm6 hE6 hH6
          rw [hl2] at hri2
          have hdl2 := hri2.dlen
          refine ⟨⟨i + 1, Q', hri2, hle2, ?_, hqi2⟩, ?_⟩
          · rw [show 100 - (i + 1) = 99 - i by omega]; exact hbf
          · show 101 - a6'.defers.length < 101 - a.defers.length
            rw [hdl2, hdl]; omega
        · exact .inr ⟨rfl, hb⟩
    · have f1 : ilt (i : Int) (qn : Int) = false := ilt_f (by omega)
      have hnone : Q[i]? = none := List.getElem?_eq_none (by omega)
      simp only [bfs, hnone] at hbf
      refine wpIn_seq (wpIn_mono (cw_inE (CW.of_cx (D := fun _ => none) noTab_ok mixed _ (fun e s => e = .exit 0) _ (by kernel_rfl) ?_) hs hm) ?_)
      · clear hs hm hr hA0 mkRI hri hbf hqi
        repeat' first
          | (with_reducible refine gw_bool (fun _ => ?_) (fun _ => ?_))
          | (with_reducible refine condw_bool (fun _ => ?_) (fun _ => ?_))
          | simp [*, HasE, envL, blkOf, subBl, mainBl, Lr]
      rintro e a1 w1' ⟨s1, ro1, lam1, rfl, hs1, hm1⟩
      exact .inl ⟨rfl, hbf.symm, Ds, ro1, lam1, s1, hs1, hm1⟩
  · rintro e a w (⟨rfl, hRf, Ds, ro, lam, s, hs, hm⟩ | ⟨rfl, hb⟩)
    · refine wpIn_seq (wpIn_mono (cw_inE (CW.of_cx (D := fun _ => none) noTab_ok mixed _ (fun e s => e = .normal ∧ s.env 6 = .bool false) _ (by kernel_rfl) ?_) hs hm) ?_)
      · clear hs hm hr hA0 mkRI
        obtain ⟨en, he⟩ := s
        repeat' first
          | (with_reducible refine gw_bool (fun _ => ?_) (fun _ => ?_))
          | (with_reducible refine condw_bool (fun _ => ?_) (fun _ => ?_))
          | simp [*]
      rintro e a2 w2 ⟨s2, ro2, lam2, ⟨rfl, h6⟩, hs2, hm2⟩
      refine wpIn_ret ?_
      have h6' : a2.tmps.getD 6 Go.undef = .bool false := by
        have := hs2.env 6
        rw [h6] at this
        exact this.bool_inv
      rw [hRf]
      exact MK.leave hm2 hro rfl h6' (fun _ _ => .bool _)
    · exact hb
end Go.Proofs.Ytcbddoopmkhlfaa
end
section
namespace Go.Proofs.Ytcbddoopmkhlfaa
open Go.Pv Go.RowKit
set_option linter.unusedSimpArgs false
set_option linter.unusedVariables false
set_option maxRecDepth 100000
set_option maxHeartbeats 4000000
attribute [-simp] Tclo_at Tgrp_at Tchk Tpchk TcI TcB Tclo Tgrp Tsid Tnod Tlook Tbnd TsidA

def unKs : List V → Option (List Nd)
  | [] => some []
  | k :: ks => (match unK k, unKs ks with
    | some c, some L => some (c :: L)
    | _, _ => none)
theorem unKs_nodes : ∀ L : List Nd, unKs (L.map nodK) = some L
  | [] => rfl
  | c :: L => by
    have : unK (nodK c) = some c := rfl
    simp only [List.map_cons, unKs, this, unKs_nodes L]
theorem unKs_inv : ∀ (ks : List V) (L : List Nd), unKs ks = some L → ks = L.map nodK
  | [], L, h => by simp only [unKs, Option.some.injEq] at h; subst h; rfl
  | k :: ks, L, h => by
    simp only [unKs] at h
    split at h
    · rename_i c L' h1 h2
      cases h
      rw [unK_some h1, unKs_inv ks L' h2]; rfl
    · cases h
def unWo : V → Option (Option (List Nd))
  | .val (.map none) => some none
  | .rset ks => (unKs ks).map some
  | _ => none
theorem unWo_inv {M : V} {o : Option (List Nd)} (h : unWo M = some o) : M = woV o := by
  unfold unWo at h
  split at h
  · cases h; rfl
  · simp only [Option.map_eq_some_iff] at h
    obtain ⟨L, hL, rfl⟩ := h
    rw [unKs_inv _ _ hL]; rfl
  · cases h
theorem unWo_at (o : Option (List Nd)) : unWo (woV o) = some o := by
  cases o with
  | none => rfl
  | some L => simp [unWo, woV, unKs_nodes]
def reOk (v : Vu) : Bool := wfG v.s v.p v.g.length && (decide (v.p.cl.length = v.s.qs.length) && decide (v.s.qs.length ≤ 16))
def Tre : List V → Option V
  | [.agg c, .agg [.int .i64 a, .int .i64 b], M] => (match unVu c, unWo M with
    | some v, some o => if reOk v = true then some (.bool (reachF o (edg v) (a, b))) else none
    | _, _ => none)
  | _ => none
theorem Tre_at {s : Stn} {p : Pos} {g : List Int} {a b : Int} (h : reOk ⟨s, p, g⟩ = true) : Tre [.agg [.str s.nm, .list 1 (s.bs.map s1), .list 5 (s.ls.map Ln.cs), .list 6 (s.ss.map Sr.cs), .list 12 (s.qs.map By.cs), .list 1 (p.cl.map b1), .list 1 (p.lk.map r1), .list 1 (g.map i1)], .agg [.int .i64 a, .int .i64 b], .val (.map none)] = some (.bool (reachF none (edg ⟨s, p, g⟩) (a, b))) := by
  have := unVu_cs ⟨s, p, g⟩
  unfold Vu.cs at this
  simp [Tre, this, unWo, h]
theorem Tre_at2 {s : Stn} {p : Pos} {g : List Int} {a b : Int} {L : List Nd} (h : reOk ⟨s, p, g⟩ = true) : Tre [.agg [.str s.nm, .list 1 (s.bs.map s1), .list 5 (s.ls.map Ln.cs), .list 6 (s.ss.map Sr.cs), .list 12 (s.qs.map By.cs), .list 1 (p.cl.map b1), .list 1 (p.lk.map r1), .list 1 (g.map i1)], .agg [.int .i64 a, .int .i64 b], .rset (L.map nodK)] = some (.bool (reachF (some L) (edg ⟨s, p, g⟩) (a, b))) := by
  have := unVu_cs ⟨s, p, g⟩
  unfold Vu.cs at this
  simp [Tre, this, unWo, unKs_nodes, h]
theorem re_tab : ∀ vs u, Tre vs = some u → PCall Try.prog 52 vs u := by
  intro vs u h; unfold Tre at h; split at h
  · split at h
    · rename_i h1 h2
      split at h
      · rename_i hl
        cases h
        rw [unVu_inv _ _ h1, unWo_inv h2]
        simp only [reOk, Bool.and_eq_true, decide_eq_true_eq] at hl
        exact reaches_ok _ _ (_, _) hl.1 hl.2.1 hl.2.2
      · cases h
    · cases h
  · cases h
def G1 : Tab := add 52 Tre (D5)
theorem G1_at (f : FuncId) (vs : List V) : G1.at' f vs = if f = 52 then Tre vs else D5.at' f vs := rfl
theorem G1_fr (f : FuncId) : G1.fr f = if f = 52 then false else D5.fr f := rfl
theorem G1_gb (f : FuncId) : G1.gb f = D5.gb f := rfl
theorem G1_gv (f : FuncId) (vs : List V) : G1.gv f vs = D5.gv f vs := rfl
attribute [simp] G1_at G1_fr G1_gb G1_gv Tre
theorem G1_ok : TabOK Try.prog G1 := by
  refine add_ok (D5_ok) (by kernel_rfl) ?_
  · exact re_tab
attribute [-simp] Tre
attribute [simp] Tre_at Tre_at2
theorem reOk_of {s : Stn} {p : Pos} (h : okP s p = true) : reOk ⟨s, p, grp s p⟩ = true := by
  obtain ⟨c1, c2⟩ := okP_iff h
  have hF := fine_of c1
  have hP := pfine_of c2
  simp only [reOk, Bool.and_eq_true, decide_eq_true_eq]
  exact ⟨wfg_of h, hP.nc, hF.nq⟩
def liveF (s : Stn) (p : Pos) (k o : Int) : Bool := match nodF s (grp s p) k o with
  | some n => reachF none (edg ⟨s, p, grp s p⟩) n
  | none => false
theorem Live_ok {s : Stn} {p : Pos} (h : okP s p = true) (k o : Int) : PCall Try.prog 26 [.agg s.cs, .agg p.cs, .agg [.int .i64 k, .int .i64 o]] (.bool (liveF s p k o)) := by
  have hre := reOk_of h
  have hgl : (grp s p).length = s.bs.length := by rw [grp, grpN_len]
  cases hN : nodF s (grp s p) k o with
  | none =>
    have hv : liveF s p k o = false := by simp [liveF, hN]
    rw [hv]
    refine pcall_cx G1_ok mixed (fun _ => none) Try.func26 rfl Try.ntmps26 Try.results26 (by simp) (by kernel_rfl) ?_
    repeat' first
      | (with_reducible refine gw_bool (fun _ => ?_) (fun _ => ?_))
      | (with_reducible refine condw_bool (fun _ => ?_) (fun _ => ?_))
      | simp [*, Stn.cs, Pos.cs, Vu.cs, nodV]
  | some n =>
    obtain ⟨n0, n1⟩ := n
    have hv : liveF s p k o = reachF none (edg ⟨s, p, grp s p⟩) (n0, n1) := by simp [liveF, hN]
    rw [hv]
    refine pcall_cx G1_ok mixed (fun _ => none) Try.func26 rfl Try.ntmps26 Try.results26 (by simp) (by kernel_rfl) ?_
    repeat' first
      | (with_reducible refine gw_bool (fun _ => ?_) (fun _ => ?_))
      | (with_reducible refine condw_bool (fun _ => ?_) (fun _ => ?_))
      | simp [*, Stn.cs, Pos.cs, Vu.cs, nodV]
theorem Groups_ok {s : Stn} {p : Pos} (h : okP s p = true) : PCall Try.prog 33 [.agg s.cs, .agg p.cs] (.list 1 ((grp s p).map i1)) := by
  refine pcall_cx G1_ok mixed (fun _ => none) Try.func33 rfl Try.ntmps33 Try.results33 (by simp) (by kernel_rfl) ?_
  repeat' first
    | (with_reducible refine gw_bool (fun _ => ?_) (fun _ => ?_))
    | (with_reducible refine condw_bool (fun _ => ?_) (fun _ => ?_))
    | simp [*, Stn.cs, Pos.cs, Vu.cs]
end Go.Proofs.Ytcbddoopmkhlfaa
end
section
namespace Go.Proofs.Ytcbddoopmkhlfaa
open Go.Pv Go.RowKit
set_option linter.unusedSimpArgs false
set_option linter.unusedVariables false
set_option maxRecDepth 100000
set_option maxHeartbeats 4000000
attribute [-simp] Tclo_at Tgrp_at Tchk Tpchk TcI TcB Tclo Tgrp Tsid Tnod Tlook Tbnd TsidA Tre

/-! ### a region of a round that draws its order -/
theorem wp_weak {o : Oper} {a : Act} {w : World} {K : Act → World → Prop} {Q : Exit → Act → World → Prop} (h : o.wp Try.prog a w K (fun _ _ _ => False)) : o.wp Try.prog a w K Q := by
  unfold Oper.wp at *
  cases hr : (execOp a.eval o).run Try.prog w with
  | ok nx w' =>
    rw [hr] at h
    cases nx <;> simp only [Oper.upon] at h ⊢ <;>
      first
        | exact h
        | exact h.mono (fun e w'' he => by cases e <;> first | exact he | (obtain ⟨_, _, hf⟩ := he; exact hf.elim) | exact False.elim he)
        | exact h.mono (fun _ _ he => he)
  | halt ht w' =>
    rw [hr] at h
    cases ht <;> simp only [Oper.upon] at h ⊢ <;> first | exact h | exact h.elim
theorem wpAnyR_of_cAny {Γ : Tab} (hΓ : TabOK Try.prog Γ) {n m l : Nat} {w0 : Base} {ops : Array Oper} {K : St → Prop} {Q : Exit → Act → World → Prop} {ro0 : Nat → Prop} (hd : ops.toList.all (fun o => notDefer o.op) = true) (hQ : ∀ a' ro' lam' w' st', Ext w0 ro0 ro' → Sim w0 n ro' lam' st' a' w' → K st' → Q .normal a' w') :
    ∀ (fuel : Nat) (listed : Array Bool) (st : St) (ro : Nat → Prop) (lam : Lam) (a : Act) (w : World), Ext w0 ro0 ro → Sim w0 n ro lam st a w → cAny Try.prog Γ n ops K fuel listed st → wpAnyIn (Fence.wide.inRound l) m Try.prog .any ops Q fuel listed a w
  | 0, listed, st, ro, lam, a, w, hext, hs, h => ⟨h.1, hQ _ _ _ _ _ hext hs h.2⟩
  | fuel + 1, listed, st, ro, lam, a, w, hext, hs, h => by
    refine ⟨fun h0 => hQ _ _ _ _ _ hext hs (h.1 h0), fun i hi => ?_⟩
    have h1 := h.2 i hi
    unfold cOp at h1
    unfold wpOpIn
    split
    · rename_i ho
      simp only [ho] at h1
      exact wpAnyR_of_cAny hΓ hd hQ fuel _ st ro lam a w hext hs h1
    · rename_i o ho
      simp only [ho] at h1
      obtain ⟨st', h2, h3⟩ := h1
      have hnd : notDefer o.op = true := List.all_eq_true.1 hd o (List.mem_of_getElem? (i := i) (by simpa using ho))
      have hst := stepO_sound (Q := fun _ _ _ => False) (K := wpAnyIn (Fence.wide.inRound l) m Try.prog .any ops Q fuel (listed.setIfInBounds i true)) hΓ hs h2 fun a' ro' lam' w' hext' hs' => wpAnyR_of_cAny hΓ hd hQ fuel _ st' ro' lam' a' w' (hext.trans hext') hs' h3
      by_cases hw : Region.wanted o (yielded ops a.tmps) = true
      · rw [if_pos hw] at hst ⊢
        rcases hst with hst | ⟨_, _, _, hst⟩
        · exact oper_inR hnd (wp_weak hst)
        · exact hst.elim
      · rw [if_neg hw] at hst ⊢
        exact ⟨fun _ _ => trivial, hst⟩
theorem cwr_draw {Γ : Tab} (hΓ : TabOK Try.prog Γ) {n id : Nat} {ops : List Oper} {Q : Exit → St → Prop} {st : St} (hd : ops.all (fun o => notDefer o.op) = true) (hB : drawB ops.toArray = true) (h : ew Try.prog Γ n ops.toArray ops (Q .normal) st) : CWR Try.prog n (.region id ops.toArray true) Q st := by
  obtain ⟨st', h1, h2⟩ := h
  intro l m w0 ro lam a w hs
  have hs' : Sim w0 n ro lam st a { w with drawn := w.drawn + 1 } := hs.world ((Below.refl _ _).drew)
  refine wpIn_region_any mixed (wpAnyR_of_cAny hΓ (K := fun s => s = st') (by simpa using hd) (fun a' ro' lam' w' s hext hs hk => by subst hk; exact ⟨s, ro', lam', h2, hext, hs⟩) _ _ st ro lam a _ (Ext.refl _ _) hs' ?_)
  have := cAny_lex (P := Try.prog) (Γ := Γ) (n := n) (K := fun s => s = st') ops 0 (Array.replicate ops.toArray.size false) st st' (by simp) (fun j oj hj hl => by rw [Array.getD_eq_getD_getElem?, Array.getElem?_replicate] at hl; split at hl <;> cases hl) (by simpa [drawB] using hB) h1 rfl
  simpa using this
end Go.Proofs.Ytcbddoopmkhlfaa
end
section
namespace Go.Proofs.Ytcbddoopmkhlfaa
open Go.Pv Go.RowKit
set_option linter.unusedSimpArgs false
set_option linter.unusedVariables false
set_option maxRecDepth 100000
set_option maxHeartbeats 4000000
attribute [-simp] Tclo_at Tgrp_at Tchk Tpchk TcI TcB Tclo Tgrp Tsid Tnod Tlook Tbnd TsidA Tre

def insF (s : Stn) (g : List Int) (L : List Nd) (z : Nd) : List Nd := match nodF s g z.1 z.2 with
  | some n => if memN L n.1 n.2 = true then L else L ++ [n]
  | none => L
def insN (s : Stn) (g : List Int) (zs : List Nd) (i : Nat) : List Nd := (zs.take i).foldl (insF s g) []
def insA (s : Stn) (g : List Int) (zs : List Nd) : List Nd := insN s g zs zs.length
theorem insN_step {s : Stn} {g : List Int} {zs : List Nd} {i : Nat} {z : Nd} (h : zs[i]? = some z) : insN s g zs (i + 1) = insF s g (insN s g zs i) z := by
  simp [insN, take_snoc h]
/-- What an edge of the bay answers. -/
def fedX (v : Vu) (L : List Nd) (x : Ed) : Bool :=
  if (memN L x.a0 x.a1 == memN L x.c0 x.c1) = true then false
  else reachF (some L) (edg v) (if memN L x.a0 x.a1 = true then x.r else x.l)
def fedV (v : Vu) (L : List Nd) (bay : Int) : Bool := match (edg v).find? (fun x => ieq x.i bay) with
  | some x => fedX v L x
  | none => false
def fedF (s : Stn) (p : Pos) (zs : List Nd) (bay : Int) : Bool := fedV ⟨s, p, grp s p⟩ (insA s (grp s p) zs) bay
theorem edN_i {v : Vu} : ∀ {n : Nat} {x : Ed}, x ∈ edN v n → x.i < n ∧ edOf v x.i = some x
  | 0, x, h => by simp [edN] at h
  | n + 1, x, h => by
    cases hu : edOf v n with
    | none =>
      rw [edN_f hu] at h
      obtain ⟨h1, h2⟩ := edN_i h
      exact ⟨by omega, h2⟩
    | some y =>
      rw [edN_t hu] at h
      rcases List.mem_append.1 h with h | h
      · obtain ⟨h1, h2⟩ := edN_i h
        exact ⟨by omega, h2⟩
      · simp at h; subst h
        have : x.i = n := by
          unfold edOf at hu
          split at hu
          · split at hu
            · cases hu; rfl
            · cases hu
          · cases hu
        exact ⟨by omega, by rw [this]; exact hu⟩
theorem edg_uniq {v : Vu} {x y : Ed} (hx : x ∈ edg v) (hy : y ∈ edg v) (h : x.i = y.i) : x = y := by
  have h1 := (edN_i hx).2
  have h2 := (edN_i hy).2
  rw [h, h2] at h1
  exact (Option.some.inj h1).symm
theorem fedV_at {v : Vu} {L : List Nd} {bay : Int} {x : Ed} (hx : x ∈ edg v) (h : ieq x.i bay = true) : fedV v L bay = fedX v L x := by
  unfold fedV
  cases hf : (edg v).find? (fun x => ieq x.i bay) with
  | none =>
    have := List.find?_eq_none.1 hf x hx
    simp [h] at this
  | some y =>
    have h1 := List.find?_some hf
    have h2 := List.mem_of_find?_eq_some hf
    have e1 := ieq_iff.1 h
    have e2 := ieq_iff.1 h1
    have : x.i = y.i := by omega
    rw [edg_uniq hx h2 this]
theorem fedV_none {v : Vu} {L : List Nd} {bay : Int} (h : ∀ x ∈ edg v, ieq x.i bay = false) : fedV v L bay = false := by
  unfold fedV
  have : (edg v).find? (fun x => ieq x.i bay) = none := List.find?_eq_none.2 fun x hx => by rw [h x hx]; simp
  rw [this]
/-- The frame's blocks. -/
def fedBl (s : Stn) (p : Pos) (bay : Int) (L : List Nd) : List (Nat × Blk) := [(4, ⟨35, s.cs⟩), (5, ⟨38, p.cs⟩), (7, ⟨3, [.int .i64 bay]⟩), (8, ⟨4, [.bool false]⟩), (9, ⟨81, Vu.cs ⟨s, p, grp s p⟩⟩), (27, ⟨84, L.map nodK⟩), (11, ⟨84, [.mp 27]⟩)]
theorem MK.leaveC {n : Nat} {st : St} {ro : Nat → Prop} {lam : Lam} {a : Act} {w W0 : World} {ro0 : Nat → Prop} {Ds : List Nat} (hs : Sim ⟨w, ownB lam, a.defers⟩ n ro lam st a w) (hm : MK W0 ro0 Ds ro lam a w) (hro : ∀ b, ro0 b → b < W0.heap.size) {fn : Func} {b : Bool} (hr : resL Try.prog st fn.results.toList = some [.bool b]) {m : Nat} :
    LeavesInM Fence.wide m Try.prog fn a.tmps (rPost W0 ro0 b) a.defers .returning w := by
  rw [hm.dfs]
  have hs2 := hs.move (W' := shut Ds w) (by rw [shut_size]; exact Nat.le_refl _) (fun b hb => shut_other Ds w b (fun h => (hm.at' b h).2.1 hb)) (fun b hb => shut_other Ds w b (fun h => (hm.at' b h).2.2.1 hb))
  obtain ⟨zs, hz, hra⟩ := resL_sound hs2 _ _ hr
  have hl : zs.length = 1 := by simpa using hra.1
  obtain ⟨x, rfl⟩ := List.length_eq_one_iff.1 hl
  have hrun := results_run (P := Try.prog) fn a.tmps (shut Ds w) hz
  simp only [List.size_toArray, List.length_cons, List.length_nil, dite_true] at hrun
  have hx : R (shut Ds w) ro lam (.bool b) x := hra.2 0 _ x rfl rfl
  have hxb := hx.bool_inv
  refine leaves_marks Ds w hm.nd (fun D hD => (hm.at' D hD).1) ⟨x, hrun, x, ro0, rfl, ?_, fun _ h => h, fun _ h => .inl h, fun b hb => ?_, by rw [hxb]; exact .bool _⟩
  · obtain ⟨o1, o2, o3⟩ := shut_os Ds w
    refine ⟨o1.trans hm.kept.os, o2.trans hm.kept.tape, o3.trans hm.kept.output, by rw [shut_size]; exact hm.kept.size, fun k hk => ?_⟩
    rw [shut_other Ds w k (fun h => by have := (hm.at' k h).2.2.2; omega)]
    exact hm.kept.block k hk
  · rw [shut_size]; exact Nat.lt_of_lt_of_le (hro b hb) hm.kept.size
theorem cwr_drawX {Γ : Tab} (hΓ : TabOK Try.prog Γ) {n id : Nat} {ops : Array Oper} {Q : Exit → St → Prop} {st : St} (hf : ops.toList.all (fun o => fits n o.dst) = true) (hd : ops.toList.all (fun o => notDefer o.op) = true) (hB : drawB ops = true) (h : cx Try.prog Γ n (fun _ => none) (.region id ops true) Q st) : CWR Try.prog n (.region id ops true) Q st := by
  simp only [cx] at h
  have he : ops = ops.toList.toArray := by simp
  rw [he]
  exact cwr_draw hΓ hd (by simpa using hB) (ew_of_eg hf (by simpa using h))
def Lf (b7 b8 b9 b11 : Nat) : List (Nat × V) := [(7, .vptr b7 7 0), (8, .vptr b8 8 0), (9, .vptr b9 9 0), (11, .vptr b11 11 0)]
theorem keep_env {n : Nat} {w0 : Base} {ro : Nat → Prop} {lam : Lam} {st : St} {a : Act} {w : World} (hs : Sim w0 n ro lam st a w) {L : List (Nat × V)} (hE : HasE st.env L) : Sim w0 n ro lam ⟨envL L, st.heap⟩ a w :=
  hs.env' (fun t => by
    rcases envL_or L hE t with h | h
    · rw [h]; exact hs.env t
    · rw [h]; exact .pure _ _ (.junk _))
theorem asPtr {n : Nat} {w0 : Base} {ro : Nat → Prop} {lam : Lam} {st : St} {a : Act} {w : World} {t b key off : Nat} (hs : Sim w0 n ro lam st a w) (h : st.env t = .vptr b key off) : Sim w0 n ro lam ⟨upd (fun _ => .junk) t (.ptr key off), st.heap⟩ a w :=
  hs.env' (fun u => by
    by_cases e : u = t
    · subst e; rw [upd_same]
      have := hs.env u
      rw [h] at this
      obtain ⟨m, hl, hx⟩ := this.vptr_inv
      rw [hx]; exact .ptr key off b m hl
    · rw [upd_ne _ _ e]; exact .pure _ _ (.junk _))
theorem Fed_ok {s : Stn} {p : Pos} (hok : okP s p = true) (zs : List Nd) (hz : zs.length ≤ 9223372036854775806) (bay : Int) : PCall Try.prog 22 [.agg s.cs, .agg p.cs, .list 2 (zs.map nd2), .int .i64 bay] (.bool (fedF s p zs bay)) := by
  have hre := reOk_of hok
  have hgl : (grp s p).length = s.bs.length := by rw [grp, grpN_len]
  have hfed : fedF s p zs bay = fedV ⟨s, p, grp s p⟩ (insA s (grp s p) zs) bay := rfl
  have hP := pfine_of (okP_iff hok).2
  have hcl : p.cl.length = s.qs.length := hP.nc
  have hwf := wfg_of hok
  clear hP
  obtain ⟨RR, hRR⟩ : ∃ RR, fedF s p zs bay = RR := ⟨_, rfl⟩
  rw [hRR]
  rw [hfed] at hRR
  clear hfed
  intro W0 ro0 args hro hsz hr
  have hs0 := sim_ini (n := 71) hro hsz (by simp) hr
  refine callsIn_wide.1 (callsIn_of_wp_marks (n := 0) Try.func22 rfl trivial ?_ rfl)
  rw [Try.ntmps22]
  have hm0 : MK W0 ro0 [] ro0 (fun _ => none) { tmps := args ++ Array.replicate (71 - args.size) Go.undef, defers := [] } W0 :=
    ⟨rfl, List.nodup_nil, fun D hD => (by simp at hD), Below.refl _ _, fun b ⟨k, hk⟩ => (by rcases hk with ⟨_, hk⟩ | hk <;> cases hk), fun _ h => h, fun _ h => .inl h⟩
  have hs0' := hs0.rebase
  clear hs0
  obtain ⟨A0, hA0⟩ : ∃ A0 : Act, { tmps := args ++ Array.replicate (71 - args.size) Go.undef, defers := [] } = A0 := ⟨_, rfl⟩
  rw [hA0] at hm0 hs0' ⊢
  clear hA0 hr
  refine wpIn_seq (wpIn_mono (cw_inE (CW.of_cx (D := fun _ => none) G1_ok mixed _ (fun e t => e = .normal ∧ HasE t.env [(2, .list 2 (zs.map nd2)), (4, .ptr 4 0), (5, .ptr 5 0), (7, .ptr 7 0), (8, .ptr 8 0)] ∧ HeapIs t.heap [(4, ⟨35, s.cs⟩), (5, ⟨38, p.cs⟩), (7, ⟨3, [.int .i64 bay]⟩), (8, ⟨4, [.bool false]⟩)]) _ (by kernel_rfl) ?_) hs0' hm0) ?_)
  · clear hs0' hm0
    repeat' first
      | (with_reducible refine gw_bool (fun _ => ?_) (fun _ => ?_))
      | (with_reducible refine condw_bool (fun _ => ?_) (fun _ => ?_))
      | simp [*, HasE, Stn.cs, Pos.cs]
    refine ⟨by simp [KeepBl], fun k hk => ?_⟩
    have k4 : k ≠ 4 := blk_ne hk rfl
    have k5 : k ≠ 5 := blk_ne hk rfl
    have k7 : k ≠ 7 := blk_ne hk rfl
    have k8 : k ≠ 8 := blk_ne hk rfl
    simp [k4, k5, k7, k8]
  rintro e a1 w1 ⟨s1, ro1, lam1, ⟨rfl, hE1, hH1⟩, hs1, hm1⟩
  replace hs1 := toL hs1 hE1 hH1
  clear hs0' hm0 hE1 hH1
  refine wpIn_seq (wpIn_mono (cw_inE (CW.of_cx (D := fun _ => none) G1_ok mixed _ (fun e t => e = .normal ∧ HasE t.env [(10, .bool true), (2, .list 2 (zs.map nd2)), (7, .ptr 7 0), (8, .ptr 8 0), (9, .ptr 9 0)] ∧ HeapIs t.heap [(4, ⟨35, s.cs⟩), (5, ⟨38, p.cs⟩), (7, ⟨3, [.int .i64 bay]⟩), (8, ⟨4, [.bool false]⟩), (9, ⟨81, Vu.cs ⟨s, p, grp s p⟩⟩)]) _ (by kernel_rfl) ?_) hs1 hm1) ?_)
  · clear hs1 hm1
    repeat' first
      | (with_reducible refine gw_bool (fun _ => ?_) (fun _ => ?_))
      | (with_reducible refine condw_bool (fun _ => ?_) (fun _ => ?_))
      | simp [*, HasE, envL, blkOf, Stn.cs, Pos.cs, Vu.cs]
    refine ⟨by simp [KeepBl, blkOf], fun k hk => ?_⟩
    have k4 : k ≠ 4 := blk_ne hk rfl
    have k5 : k ≠ 5 := blk_ne hk rfl
    have k7 : k ≠ 7 := blk_ne hk rfl
    have k8 : k ≠ 8 := blk_ne hk rfl
    have k9 : k ≠ 9 := blk_ne hk rfl
    simp [k4, k5, k7, k8, k9, blkOf]
  rintro e a2 w2 ⟨s2, ro2, lam2, ⟨rfl, hE2, hH2⟩, hs2, hm2⟩
  replace hs2 := toL hs2 hE2 hH2
  clear hs1 hm1 hE2 hH2
  refine wpIn_seq (wpIn_mono (cw_inE (CW.of_cx (D := fun _ => none) G1_ok mixed _ (fun e t => e = .normal ∧ HasE t.env [(2, .list 2 (zs.map nd2)), (7, .ptr 7 0), (8, .ptr 8 0), (9, .ptr 9 0)] ∧ HeapIs t.heap [(4, ⟨35, s.cs⟩), (5, ⟨38, p.cs⟩), (7, ⟨3, [.int .i64 bay]⟩), (8, ⟨4, [.bool false]⟩), (9, ⟨81, Vu.cs ⟨s, p, grp s p⟩⟩)]) _ (by kernel_rfl) ?_) hs2 hm2) ?_)
  · clear hs2 hm2
    repeat' first
      | (with_reducible refine gw_bool (fun _ => ?_) (fun _ => ?_))
      | (with_reducible refine condw_bool (fun _ => ?_) (fun _ => ?_))
      | simp [*, HasE, envL]
    exact ⟨by simp [KeepBl, blkOf], fun k hk => hk⟩
  rintro e a3 w3 ⟨s3, ro3, lam3, ⟨rfl, hE3, hH3⟩, hs3, hm3⟩
  replace hs3 := toL hs3 hE3 hH3
  clear hs2 hm2 hE3 hH3
  refine wpIn_seq (wpIn_mono (cw_inE (CW.of_cx (D := fun _ => none) G1_ok mixed _ (fun e t => e = .normal ∧ HasE t.env [(2, .list 2 (zs.map nd2)), (7, .ptr 7 0), (8, .ptr 8 0), (9, .ptr 9 0), (11, .ptr 11 0)] ∧ HeapIs t.heap (fedBl s p bay [])) _ (by kernel_rfl) ?_) hs3 hm3) ?_)
  · clear hs3 hm3
    repeat' first
      | (with_reducible refine gw_bool (fun _ => ?_) (fun _ => ?_))
      | (with_reducible refine condw_bool (fun _ => ?_) (fun _ => ?_))
      | simp [*, HasE, envL, blkOf]
    refine ⟨by simp [KeepBl, blkOf, fedBl], fun k hk => ?_⟩
    have k4 : k ≠ 4 := blk_ne hk rfl
    have k5 : k ≠ 5 := blk_ne hk rfl
    have k7 : k ≠ 7 := blk_ne hk rfl
    have k8 : k ≠ 8 := blk_ne hk rfl
    have k9 : k ≠ 9 := blk_ne hk rfl
    have k27 : k ≠ 27 := blk_ne hk rfl
    have k11 : k ≠ 11 := blk_ne hk rfl
    simp [k4, k5, k7, k8, k9, k27, k11, blkOf]
  rintro e a4 w4 ⟨s4, ro4, lam4, ⟨rfl, hE4, hH4⟩, hs4, hm4⟩
  replace hs4 := toL hs4 hE4 hH4
  clear hs3 hm3 hE4 hH4
  obtain ⟨L, hL⟩ : ∃ L, insA s (grp s p) zs = L := ⟨_, rfl⟩
  rw [hL] at hRR
  -- the zones
  refine wpIn_seq (wpIn_mono (cw_inE (CW.of_cx (D := fun _ => none) G1_ok mixed _ (fun e t => e = .normal ∧ HasE t.env [(7, .ptr 7 0), (8, .ptr 8 0), (9, .ptr 9 0), (11, .ptr 11 0)] ∧ KeepBl t.heap (fedBl s p bay L) ∧ t.heap 17 = none ∧ t.heap 18 = none) _ (by kernel_rfl) ?_) hs4 hm4) ?_)
  · clear hs4 hm4 hRR
    obtain ⟨nz, hnz⟩ : ∃ n, zs.length = n := ⟨_, rfl⟩
    rw [hnz] at hz
    replace hL : Hid (insN s (grp s p) zs nz = L) := by rw [insA, hnz] at hL; exact hL
    repeat' first
      | (with_reducible refine gw_bool (fun _ => ?_) (fun _ => ?_))
      | (with_reducible refine condw_bool (fun _ => ?_) (fun _ => ?_))
      | simp [*, HasE, envL, blkOf, fedBl, Stn.cs, Pos.cs, Vu.cs]
    refine lp_go (D := (fun _ => none)) G1_ok mixed (by kernel_rfl) [7, 8, 9, 11, 28, 29, 46, 47] [4, 5, 7, 8, 9, 11, 13, 14, 17, 18] (α := Nat) (fun i e h => i ≤ nz ∧ e 30 = .int .i64 i ∧ h 27 = some ⟨84, (insN s (grp s p) zs i).map nodK⟩) (fun i => nz - i) 0 ?_ ?_
    · exact ⟨by omega, by simp, by simp [insN, blkOf]⟩
    rintro i e h hk hkh ⟨hi, g7, g27⟩
    simp [Keep] at hk
    simp [KeepH, blkOf, Stn.cs, Pos.cs, Vu.cs] at hkh
    by_cases hlt : i < nz
    · obtain ⟨z, hzz, hzz'⟩ := at_ex (l := zs) (i := i) (by omega)
      have f1 : ilt (i : Int) (nz : Int) = true := ilt_t (by omega)
      have w1 : IntKind.i64.wrap ((i : Int) + 1) = ((i + 1 : Nat) : Int) := wrap_succ (by omega)
      have hst : Hid (insN s (grp s p) zs (i + 1) = insF s (grp s p) (insN s (grp s p) zs i) z) := insN_step hzz
      generalize insN s (grp s p) zs i = C at g27 hst
      clear hL
      cases hN : nodF s (grp s p) z.1 z.2 with
      | none =>
        have hst' : insN s (grp s p) zs (i + 1) = C := by have := hst.out; simpa [insF, hN] using this
        replace hst' : Hid (insN s (grp s p) zs (i + 1) = C) := hst'
        clear hst
        repeat' first
          | (with_reducible refine gw_bool (fun _ => ?_) (fun _ => ?_))
          | (with_reducible refine condw_bool (fun _ => ?_) (fun _ => ?_))
          | simp [*, nd2, Vu.cs, nodV]
        refine nxt_go (i + 1) ((View.forget _ _ 13).trans ((View.forget _ _ 14))) (by omega) (by simp [*, Keep, St.forget, scr, scrC]) (by simp [*, KeepH, St.forget, scr, scrC]) ?_
        refine ⟨by omega, by simp [*, St.forget, scr, scrC], ?_⟩
        rw [hst'.out]; simp [*, St.forget, scr, scrC]
      | some nn =>
        obtain ⟨n0, n1⟩ := nn
        cases hM : memN C n0 n1
        · have hst' : insN s (grp s p) zs (i + 1) = C ++ [(n0, n1)] := by have := hst.out; simpa [insF, hN, hM] using this
          replace hst' : Hid (insN s (grp s p) zs (i + 1) = C ++ [(n0, n1)]) := hst'
          clear hst
          repeat' first
            | (with_reducible refine gw_bool (fun _ => ?_) (fun _ => ?_))
            | (with_reducible refine condw_bool (fun _ => ?_) (fun _ => ?_))
            | simp [*, nd2, Vu.cs, nodV]
          refine nxt_go (i + 1) ((View.forget _ _ 13).trans ((View.forget _ _ 14))) (by omega) (by simp [*, Keep, St.forget, scr, scrC]) (by simp [*, KeepH, St.forget, scr, scrC]) ?_
          refine ⟨by omega, by simp [*, St.forget, scr, scrC], ?_⟩
          rw [hst'.out]; simp [*, St.forget, scr, scrC, nodK]
        · have hst' : insN s (grp s p) zs (i + 1) = C := by have := hst.out; simpa [insF, hN, hM] using this
          replace hst' : Hid (insN s (grp s p) zs (i + 1) = C) := hst'
          clear hst
          repeat' first
            | (with_reducible refine gw_bool (fun _ => ?_) (fun _ => ?_))
            | (with_reducible refine condw_bool (fun _ => ?_) (fun _ => ?_))
            | simp [*, nd2, Vu.cs, nodV]
          refine nxt_go (i + 1) ((View.forget _ _ 13).trans ((View.forget _ _ 14))) (by omega) (by simp [*, Keep, St.forget, scr, scrC]) (by simp [*, KeepH, St.forget, scr, scrC]) ?_
          refine ⟨by omega, by simp [*, St.forget, scr, scrC], ?_⟩
          rw [hst'.out]; simp [*, St.forget, scr, scrC]
    · have f1 : ilt (i : Int) (nz : Int) = false := ilt_f (by omega)
      have e1 : i = nz := by omega
      rw [e1, hL.out] at g27
      clear hL
      repeat' first
        | (with_reducible refine gw_bool (fun _ => ?_) (fun _ => ?_))
        | (with_reducible refine condw_bool (fun _ => ?_) (fun _ => ?_))
        | simp [*, HasE, KeepBl, fedBl, Stn.cs, Pos.cs, Vu.cs]
  rintro e a5 w5 ⟨s5, ro5, lam5, ⟨rfl, hE5, hH5, h17, h18⟩, hs5, hm5⟩
  clear hs4 hm4
  have p7 : R w5 ro5 lam5 (.ptr 7 0) (a5.tmps.getD 7 Go.undef) := by have := hs5.env 7; rwa [hE5.1] at this
  have p8 : R w5 ro5 lam5 (.ptr 8 0) (a5.tmps.getD 8 Go.undef) := by have := hs5.env 8; rwa [hE5.2.1] at this
  have p9 : R w5 ro5 lam5 (.ptr 9 0) (a5.tmps.getD 9 Go.undef) := by have := hs5.env 9; rwa [hE5.2.2.1] at this
  have p11 : R w5 ro5 lam5 (.ptr 11 0) (a5.tmps.getD 11 Go.undef) := by have := hs5.env 11; rwa [hE5.2.2.2.1] at this
  obtain ⟨b7, m7, l7, x7⟩ := p7.ptr_inv
  obtain ⟨b8, m8, l8, x8⟩ := p8.ptr_inv
  obtain ⟨b9, m9, l9, x9⟩ := p9.ptr_inv
  obtain ⟨b11, m11, l11, x11⟩ := p11.ptr_inv
  replace hs5 := hs5.env' (e := envL (Lf b7 b8 b9 b11)) (fun t => by
    simp only [envL, Lf]
    by_cases h7 : t = 7
    · subst h7; rw [upd_same, x7]; exact .vptr 7 0 b7 m7 l7
    · rw [upd_ne _ _ h7]
      by_cases h8 : t = 8
      · subst h8; rw [upd_same, x8]; exact .vptr 8 0 b8 m8 l8
      · rw [upd_ne _ _ h8]
        by_cases h9 : t = 9
        · subst h9; rw [upd_same, x9]; exact .vptr 9 0 b9 m9 l9
        · rw [upd_ne _ _ h9]
          by_cases h11 : t = 11
          · subst h11; rw [upd_same, x11]; exact .vptr 11 0 b11 m11 l11
          · rw [upd_ne _ _ h11]; exact .pure _ _ (.junk _))
  clear p7 p8 p9 p11 hE5
  obtain ⟨H5, hH5e⟩ : ∃ H5, s5.heap = H5 := ⟨_, rfl⟩
  rw [hH5e] at hs5 hH5 h17 h18
  obtain ⟨v, hv⟩ : ∃ v : Vu, v = ⟨s, p, grp s p⟩ := ⟨_, rfl⟩
  have hfv : fedBl s p bay L = [(4, ⟨35, s.cs⟩), (5, ⟨38, p.cs⟩), (7, ⟨3, [.int .i64 bay]⟩), (8, ⟨4, [.bool false]⟩), (9, ⟨81, v.cs⟩), (27, ⟨84, L.map nodK⟩), (11, ⟨84, [.mp 27]⟩)] := by rw [hv]; rfl
  refine wpIn_seq (wpIn_mono (Q := fun e a w => (e = .normal ∧ RR = false ∧ ∃ Ds ro lam t, Sim ⟨w, ownB lam, a.defers⟩ 71 ro lam t a w ∧ MK W0 ro0 Ds ro lam a w ∧ t.env 8 = .vptr b8 8 0 ∧ t.heap 8 = some ⟨4, [.bool false]⟩) ∨ (e = .ret ∧ bodyPostM Fence.wide 0 Try.prog Try.f22 (rPost W0 ro0 RR) .ret a w)) ?_ ?_)
  · refine wpIn_seq ?_
    refine wpIn_region_list ?_
    rw [← List.take_append_drop 1 (Array.toList _)]
    refine eg_inE G1_ok (K := fun t => HasE t.env ((44, .agg v.cs) :: Lf b7 b8 b9 b11) ∧ t.heap = H5) _ _ _ _ _ _ (by kernel_rfl) ?_ hs5 ?_
    · clear hs5 hm5
      rw [hfv] at hH5
      simp only [KeepBl, Vu.cs] at hH5
      repeat' first
        | (with_reducible refine gw_bool (fun _ => ?_) (fun _ => ?_))
        | (with_reducible refine condw_bool (fun _ => ?_) (fun _ => ?_))
        | simp [*, HasE, envL, Lf, Vu.cs]
    rintro s6 a6 ro6 lam6 w6 ⟨hE6, hH6⟩ hx6 hs6
    have hm6 := hm5.step hs6 hx6
    replace hs6 := keep_env hs6.rebase hE6
    rw [hH6] at hs6
    clear hs5 hm5 hE6 hx6
    refine wpListIn_plain rfl fun K hK => oper_in (call_wp rfl (by kernel_rfl) ?_)
    have hV : R w6 ro6 lam6 (.agg v.cs) (a6.tmps.getD 44 Go.undef) := hs6.env 44
    have hmap : (#[Operand.tmp 44] : Array Operand).map a6.eval = #[a6.tmps.getD 44 Go.undef] := by
      simp only [List.map_toArray, List.map_cons, List.map_nil]; rfl
    rw [hmap]
    refine (edges_ok v w6 ro6 _ hs6.rolt (hV.pureA rfl)).mono ?_
    rintro e w7 ⟨bE, ro7, rfl, hb7, hup, hdn, hlt7, hv7⟩
    refine ⟨_, rfl, hK _ _ ?_⟩
    clear hK
    obtain ⟨F2, hF2⟩ : ∃ F2 : Value, F2 = .func (.func 85) #[] #[.pointer (some ⟨bE, 0, none⟩)] := ⟨_, rfl⟩
    rw [← hF2]
    have hs7 : Sim ⟨w7, ownB lam6, (a6.put (some 45) F2).defers⟩ 71 ro7 lam6 _ (a6.put (some 45) F2) w7 := (((hs6.world hb7).more hup hlt7 (fun key b mm hl hb => by
        rcases hdn b hb with h | h
        · exact (hs6.own key b mm hl).2.2 h
        · have := (hs6.own key b mm hl).2.1; omega) (fun key b hl hb => by
        rcases hdn b hb with h | h
        · exact (hs6.maps key b hl).1.2.2 h
        · have := (hs6.maps key b hl).1.2.1; omega)).put (d := some 45) (v := .val F2) (by decide) (.pure _ _ (.val _))).rebase
    have hm7 : MK W0 ro0 [] ro7 lam6 (a6.put (some 45) F2) w7 := hm6.move rfl ((Base.Keeps.refl _ _ _).after hb7) ⟨hup, fun b hb => (hdn b hb).imp id .inr⟩ (fun b hb => .inl hb)
    obtain ⟨a7, ha7⟩ : ∃ a7, a6.put (some 45) F2 = a7 := ⟨_, rfl⟩
    rw [ha7] at hs7 hm7 ⊢
    replace hs7 := keep_env hs7 (L := (45, .val F2) :: Lf b7 b8 b9 b11) (by simp [HasE, St.put, envL, upd, Lf])
    have hs7' : Sim ⟨w7, ownB lam6, a7.defers⟩ 71 ro7 lam6 ⟨envL ((45, .val F2) :: Lf b7 b8 b9 b11), H5⟩ a7 w7 := hs7
    clear hs7
    have hg7 : a7.eval (.tmp 45) = F2 := getD_val (show R w7 ro7 lam6 (.val F2) _ from hs7'.env 45)
    have hz7 : 71 ≤ a7.tmps.size := hs7'.size
    clear hs6 hm6 hV hmap
    have hset : ∀ x : Ed, setPs #[46, 47] x.arr a7.tmps = (a7.tmps.setIfInBounds 46 (.int .i64 x.i)).setIfInBounds 47 (.agg #[.int .i64 x.a0, .int .i64 x.a1, .int .i64 x.c0, .int .i64 x.c1]) := fun x => by simp [setPs, Ed.arr]
    have hwfv : wfG v.s v.p v.g.length = true := by rw [hv]; exact hwf
    have hclv : v.p.cl.length = v.s.qs.length := by rw [hv]; exact hcl
    have hrev : reOk v = true := by rw [hv]; exact hre
    rw [← hv] at hRR
    refine wpIn_block ?_
    refine range_in hs7' (hg7.trans hF2) (callFunc_run (by kernel_rfl)) (encs := fun x : { x : Ed // x ∈ edg v } => x.1.arr) (xs := (edg v).attach) (fun _ => rfl) (it_okS v _ ro7 w7 hlt7 hwfv hclv hv7) ?_
      (fun pre h => KeepBl h (fedBl s p bay L) ∧ h 17 = none ∧ h 18 = none ∧ ∀ y ∈ pre, ieq y.1.i bay = false) (fun c pre h => c = .ret ∧ h 8 = some ⟨4, [.bool RR]⟩) ⟨hH5, h17, h18, fun y hy => by simp at hy⟩
      (fun x => envL ((47, .agg x.1.ns) :: (46, .int .i64 x.1.i) :: (45, .val F2) :: Lf b7 b8 b9 b11)) ?_ ?_ ?_ ?_ ?_
    · intro t
      show stays (envL ((45, .val F2) :: Lf b7 b8 b9 b11) t) = true
      simp only [envL, Lf, upd]
      repeat' (split; · rfl)
      rfl
    · intro x ro' lam' W hRR' t
      rw [hset x.1]
      simp only [envL]
      by_cases ht : t = 47
      · subst ht
        rw [upd_same, Array.getD_eq_getD_getElem?, Array.getElem?_setIfInBounds, if_pos rfl, if_pos (by simp; omega)]
        refine .pure _ _ (.agg _ _ rfl fun j c y hc hy => ?_)
        match j with
        | 0 => simp [Ed.ns] at hc hy; subst hc; subst hy; exact .int _ _
        | 1 => simp [Ed.ns] at hc hy; subst hc; subst hy; exact .int _ _
        | 2 => simp [Ed.ns] at hc hy; subst hc; subst hy; exact .int _ _
        | 3 => simp [Ed.ns] at hc hy; subst hc; subst hy; exact .int _ _
        | j + 4 => simp [Ed.ns] at hc
      · rw [upd_ne _ _ ht]
        by_cases ht3 : t = 46
        · subst ht3
          rw [upd_same, Array.getD_eq_getD_getElem?, Array.getElem?_setIfInBounds, if_neg (by decide), Array.getElem?_setIfInBounds, if_pos rfl, if_pos (by omega)]
          exact .pure _ _ (.int _ _)
        · have := hRR' t
          rw [upd_ne _ _ ht3, Array.getD_eq_getD_getElem?, Array.getElem?_setIfInBounds, if_neg (fun e => ht e.symm), Array.getElem?_setIfInBounds, if_neg (fun e => ht3 e.symm), ← Array.getD_eq_getD_getElem?]
          exact this
    · intro x; rw [hset x.1]; simp
    · rintro pre ⟨x, hxm⟩ h ⟨hK1, hn17, hn18, hpre⟩ hplt
      simp only
      have hvx : ieq x.i bay = true → RR = fedX v L x := fun hh => by rw [← hRR]; exact fedV_at hxm hh
      rw [hfv] at hK1
      simp only [KeepBl] at hK1
      clear hs7' hm7 hset hv7 hH5 h17 h18 hplt hRR
      refine (CWR.of_cx (D := fun _ => none) G1_ok _ (fun e t => e = .normal ∧ HasE t.env ((16, .int .i64 x.i) :: (17, .ptr 17 0) :: Lf b7 b8 b9 b11) ∧ KeepBl t.heap ((17, ⟨58, x.ns⟩) :: fedBl s p bay L) ∧ t.heap 18 = none) _ (by kernel_rfl) ?_).mono ?_
      · rw [hfv]
        repeat' first
          | (with_reducible refine gw_bool (fun _ => ?_) (fun _ => ?_))
          | (with_reducible refine condw_bool (fun _ => ?_) (fun _ => ?_))
          | simp [*, HasE, envL, Lf, Ed.ns, KeepBl]
      rintro e t ⟨rfl, hE, hH, hh18⟩
      refine ⟨rfl, ?_⟩
      intro l m w0 ro lam a w hs
      replace hs := keep_env hs hE
      obtain ⟨Ht, hHt⟩ : ∃ Ht, t.heap = Ht := ⟨_, rfl⟩
      rw [hHt] at hs hH hh18
      clear hE hK1 hn17 hn18
      have hvp : ∀ (t : Nat) (e : Nat → V), HasE e (Lf b7 b8 b9 b11) → isVp (envL ((45, .val F2) :: Lf b7 b8 b9 b11) t) = true → e t = envL ((45, .val F2) :: Lf b7 b8 b9 b11) t := fun t e he ht => by
        simp only [HasE, Lf] at he
        simp only [envL, Lf, upd] at ht ⊢
        by_cases h45 : t = 45
        · subst h45; simp [isVp] at ht
        · simp only [if_neg h45] at ht ⊢
          by_cases h7 : t = 7
          · subst h7; simpa using he.1
          · simp only [if_neg h7] at ht ⊢
            by_cases h8 : t = 8
            · subst h8; simpa using he.2.1
            · simp only [if_neg h8] at ht ⊢
              by_cases h9 : t = 9
              · subst h9; simpa using he.2.2.1
              · simp only [if_neg h9] at ht ⊢
                by_cases h11 : t = 11
                · subst h11; simpa using he.2.2.2.1
                · simp [h11, isVp] at ht
      rw [hfv] at hH
      refine wpIn_block ?_
      refine wpIn_seq ?_
      cases hxb : ieq x.i bay
      · refine wpIn_mono (CWR.of_cx (D := fun _ => none) G1_ok _ (fun e t => e = .exit 3 ∧ HasE t.env (Lf b7 b8 b9 b11) ∧ KeepBl t.heap ((17, ⟨58, x.ns⟩) :: fedBl s p bay L) ∧ t.heap 18 = none) _ (by kernel_rfl) ?_ l m w0 ro lam a w hs) ?_
        · clear hs hvp hvx
          rw [hfv]
          simp only [KeepBl] at hH
          repeat' first
            | (with_reducible refine gw_bool (fun _ => ?_) (fun _ => ?_))
            | (with_reducible refine condw_bool (fun _ => ?_) (fun _ => ?_))
            | simp [*, HasE, envL, Lf, KeepBl]
        rintro e a1 w1 ⟨s1, ro1, lam1, ⟨rfl, hE1, hH1, h18'⟩, hx1, hs1⟩
        refine ⟨_, ro1, _, ⟨_, View.forget _ _ 17, fun t ht => ?_, ?_⟩, hx1, hs1⟩
        · have := hvp t s1.env hE1 ht
          show scr 17 (s1.env t) = _
          rw [this]
          simp only [envL, Lf, upd] at ht ⊢
          repeat' (split; · rfl)
          rfl
        · rw [hfv] at hH1
          simp only [KeepBl] at hH1
          refine ⟨?_, ?_, ?_, ?_⟩
          · rw [hfv]; simp [KeepBl, St.forget, hH1, scrC, Stn.cs, Pos.cs, Vu.cs, nodK_scr]
          · simp [St.forget]
          · simp [St.forget, h18']
          · intro y hy
            rcases List.mem_append.1 hy with hy | hy
            · exact hpre y hy
            · simp at hy; subst hy; exact hxb
      · have hRx := hvx hxb
        clear hvx
        refine wpIn_mono (CWR.of_cx (D := fun _ => none) G1_ok _ (fun e t => e = .normal ∧ HasE t.env ((17, .ptr 17 0) :: Lf b7 b8 b9 b11) ∧ t.heap = Ht) _ (by kernel_rfl) ?_ l m w0 ro lam a w hs) ?_
        · clear hs hvp
          simp only [KeepBl] at hH
          repeat' first
            | (with_reducible refine gw_bool (fun _ => ?_) (fun _ => ?_))
            | (with_reducible refine condw_bool (fun _ => ?_) (fun _ => ?_))
            | simp [*, HasE, envL, Lf, KeepBl]
        rintro e a1 w1 ⟨s1, ro1, lam1, ⟨rfl, hE1, hH1⟩, hx1, hs1⟩
        replace hs1 := keep_env hs1 hE1
        rw [hH1] at hs1
        clear hs hE1 hH1
        simp only [KeepBl] at hH
        refine wpIn_seq (wpIn_seq (wpIn_mono (cwr_drawX G1_ok (Q := fun e t => e = .normal ∧ HasE t.env ((59, .bool (memN L x.a0 x.a1 == memN L x.c0 x.c1)) :: (17, .ptr 17 0) :: Lf b7 b8 b9 b11) ∧ t.heap = Ht) (by kernel_rfl) (by kernel_rfl) (by kernel_rfl) ?_ l m w0 ro1 lam1 a1 w1 hs1) ?_))
        · clear hs1 hvp
          repeat' first
            | (with_reducible refine gw_bool (fun _ => ?_) (fun _ => ?_))
            | (with_reducible refine condw_bool (fun _ => ?_) (fun _ => ?_))
            | simp [*, HasE, envL, Lf, Ed.ns]
        rintro e a2 w2 ⟨s2, ro2, lam2, ⟨rfl, hE2, hH2⟩, hx2, hs2⟩
        replace hs2 := keep_env hs2 hE2
        rw [hH2] at hs2
        clear hs1 hE2 hH2
        cases hq : (memN L x.a0 x.a1 == memN L x.c0 x.c1)
        · rw [hq] at hs2
          refine wpIn_mono (CWR.of_cx (D := fun _ => none) G1_ok _ (fun e t => e = .normal ∧ HasE t.env ((17, .ptr 17 0) :: Lf b7 b8 b9 b11) ∧ t.heap = Ht) _ (by kernel_rfl) ?_ l m w0 ro2 lam2 a2 w2 hs2) ?_
          · clear hs2 hvp
            repeat' first
              | (with_reducible refine gw_bool (fun _ => ?_) (fun _ => ?_))
              | (with_reducible refine condw_bool (fun _ => ?_) (fun _ => ?_))
              | simp [*, HasE, envL, Lf]
          rintro e a3 w3 ⟨s3, ro3, lam3, ⟨rfl, hE3, hH3⟩, hx3, hs3⟩
          replace hs3 := keep_env hs3 hE3
          rw [hH3] at hs3
          clear hs2 hE3 hH3
          have hRx2 : RR = reachF (some L) (edg v) (if memN L x.a0 x.a1 = true then x.r else x.l) := by rw [hRx, fedX, hq]; simp
          have hTre : ∀ a b : Int, Tre [.agg v.cs, .agg [.int .i64 a, .int .i64 b], .rset (L.map nodK)] = some (.bool (reachF (some L) (edg v) (a, b))) := fun a b => Tre_at2 (s := v.s) (p := v.p) (g := v.g) hrev
          refine wpIn_mono (CWR.of_cx (D := fun _ => none) G1_ok _ (fun e t => e = .ret ∧ HasE t.env (Lf b7 b8 b9 b11) ∧ t.heap 8 = some ⟨4, [.bool RR]⟩) _ (by kernel_rfl) ?_ l m w0 ro3 lam3 a3 w3 hs3) ?_
          · clear hs3 hvp hRx
            cases hmm : memN L x.a0 x.a1
            · rw [hmm, if_neg (by simp)] at hRx2
              have hT := hTre x.a0 x.a1
              rw [show reachF (some L) (edg v) (x.a0, x.a1) = RR from hRx2.symm] at hT
              clear hRx2 hTre hre
              simp only [Vu.cs, hv] at hT
              repeat' first
                | (with_reducible refine gw_bool (fun _ => ?_) (fun _ => ?_))
                | (with_reducible refine condw_bool (fun _ => ?_) (fun _ => ?_))
                | simp [*, HasE, envL, Lf, Ed.ns, Vu.cs, setsV]
            · rw [hmm, if_pos rfl] at hRx2
              have hT := hTre x.c0 x.c1
              rw [show reachF (some L) (edg v) (x.c0, x.c1) = RR from hRx2.symm] at hT
              clear hRx2 hTre hre
              simp only [Vu.cs, hv] at hT
              repeat' first
                | (with_reducible refine gw_bool (fun _ => ?_) (fun _ => ?_))
                | (with_reducible refine condw_bool (fun _ => ?_) (fun _ => ?_))
                | simp [*, HasE, envL, Lf, Ed.ns, Vu.cs, setsV]
          rintro e a4 w4 ⟨s4, ro4, lam4, ⟨rfl, hE4, hH4⟩, hx4, hs4⟩
          exact ⟨s4, ro4, lam4, ⟨s4, View.refl _ _, fun t ht => hvp t s4.env hE4 ht, rfl, hH4⟩, ((hx1.trans hx2).trans (hx3.trans hx4)), hs4⟩
        · rw [hq] at hs2
          have hRf : RR = false := by rw [hRx, fedX, hq]; rfl
          refine wpIn_mono (CWR.of_cx (D := fun _ => none) G1_ok _ (fun e t => e = .ret ∧ HasE t.env (Lf b7 b8 b9 b11) ∧ t.heap 8 = some ⟨4, [.bool false]⟩) _ (by kernel_rfl) ?_ l m w0 ro2 lam2 a2 w2 hs2) ?_
          · clear hs2 hvp hRx hRf
            repeat' first
              | (with_reducible refine gw_bool (fun _ => ?_) (fun _ => ?_))
              | (with_reducible refine condw_bool (fun _ => ?_) (fun _ => ?_))
              | simp [*, HasE, envL, Lf, setsV]
          rintro e a4 w4 ⟨s4, ro4, lam4, ⟨rfl, hE4, hH4⟩, hx4, hs4⟩
          rw [← hRf] at hH4
          exact ⟨s4, ro4, lam4, ⟨s4, View.refl _ _, fun t ht => hvp t s4.env hE4 ht, rfl, hH4⟩, ((hx1.trans hx2).trans hx4), hs4⟩
    · rintro D ro8 lam8 h W8 ⟨hK8, -, -, hall⟩ rj hDl
      have hsd := RJ.act rj ({ target := .collected D, args := #[] } :: a7.defers)
      have hmd := hm7.mark rj hDl
      refine .inl ⟨rfl, ?_, [D], ro8, lam8, _, keep_env hsd (L := [(8, .vptr b8 8 0)]) (by simp [HasE, envL, upd, Lf]), hmd, ?_, ?_⟩
      · rw [← hRR]; exact fedV_none fun x hx => hall ⟨x, hx⟩ (by simp)
      · simp [envL, upd]
      · rw [hfv] at hK8; exact hK8.2.2.2.1
    · rintro D c pre ro8 lam8 h W8 ⟨rfl, hh8⟩ rj hDl
      have hsd := RJ.act rj ({ target := .collected D, args := #[] } :: a7.defers)
      have hmd := hm7.mark rj hDl
      refine wpIn_ret (.inr ⟨rfl, MK.leaveC (asPtr hsd (t := 8) (b := b8) (key := 8) (off := 0) (by simp [envL, upd, Lf])) hmd hro ?_⟩)
      rw [Try.results22]
      simp [resL, resV, upd, hh8, loadV]
  · rintro e a w (⟨rfl, hRf, Ds, ro, lam, t, hs, hm, h8, hh8⟩ | ⟨rfl, hb⟩)
    · refine wpIn_seq (wpIn_mono (cw_inE (CW.of_cx (D := fun _ => none) G1_ok mixed _ (fun e t => e = .normal ∧ t.env 8 = .vptr b8 8 0 ∧ t.heap 8 = some ⟨4, [.bool false]⟩) _ (by kernel_rfl) ?_) hs hm) ?_)
      · clear hs hm
        obtain ⟨en, he⟩ := t
        simp only at h8 hh8
        repeat' first
          | (with_reducible refine gw_bool (fun _ => ?_) (fun _ => ?_))
          | (with_reducible refine condw_bool (fun _ => ?_) (fun _ => ?_))
          | simp [*, setsV]
      rintro e a2 w2 ⟨s2, ro2, lam2, ⟨rfl, h8', hh8'⟩, hs2, hm2⟩
      refine wpIn_ret ?_
      rw [hRf]
      refine MK.leaveC (asPtr hs2 h8') hm2 hro ?_
      rw [Try.results22]
      simp [resL, resV, upd, hh8', loadV]
    · exact hb
end Go.Proofs.Ytcbddoopmkhlfaa
end
section
namespace Go.Proofs.Ytcbddoopmkhlfaa
open Go.Pv Go.RowKit
set_option linter.unusedSimpArgs false
set_option linter.unusedVariables false

def Adj (E : List Ed) (m n : Nd) : Prop := ∃ x ∈ E, (m = x.l ∧ n = x.r) ∨ (m = x.r ∧ n = x.l)
/-- What can be reached from a node through edges, without some nodes. -/
inductive Rch (o : Option (List Nd)) (E : List Ed) (c : Nd) : Nd → Prop
  | refl : Rch o E c c
  | step {m n : Nd} : Rch o E c m → Adj E m n → n ∉ woL o → Rch o E c n
theorem Rch.mono {o o' : Option (List Nd)} {E E' : List Ed} {c n : Nd} (ho : ∀ x ∈ woL o', x ∈ woL o) (hE : ∀ x ∈ E, x ∈ E') (h : Rch o E c n) : Rch o' E' c n := by
  induction h with
  | refl => exact .refl
  | step _ ha hn ih =>
    obtain ⟨x, hx, h⟩ := ha
    exact .step ih ⟨x, hE x hx, h⟩ (fun h2 => hn (ho _ h2))
theorem memN_f {L : List Nd} {n : Nd} (h : n ∉ L) : memN L n.1 n.2 = false := by
  cases h2 : memN L n.1 n.2
  · rfl
  · exact absurd (memN_iff.1 h2) h
theorem memN_t {L : List Nd} {n : Nd} (h : n ∈ L) : memN L n.1 n.2 = true := memN_iff.2 h
theorem vis_mem {o : Option (List Nd)} {Q : List Nd} {n m : Nd} : m ∈ vis o Q n ↔ m ∈ Q ∨ (m = n ∧ n ∉ woL o) := by
  unfold vis
  by_cases h1 : n ∈ Q
  · rw [if_neg (by simp [memN_t h1])]
    constructor
    · exact .inl
    · rintro (h | ⟨rfl, _⟩)
      · exact h
      · exact h1
  · by_cases h2 : n ∈ woL o
    · rw [if_neg (by simp [memN_t h2])]
      constructor
      · exact .inl
      · rintro (h | ⟨rfl, h⟩)
        · exact h
        · exact absurd h2 h
    · rw [if_pos (by simp [memN_f h1, memN_f h2])]
      simp [h2]
theorem edv_mem {o : Option (List Nd)} {Q : List Nd} {c m : Nd} {x : Ed} : m ∈ edv o c Q x ↔ m ∈ Q ∨ (((c = x.l ∧ m = x.r) ∨ (c = x.r ∧ m = x.l)) ∧ m ∉ woL o) := by
  unfold edv
  by_cases h1 : c = x.l
  · rw [if_pos (eq2_iff.2 h1), vis_mem]
    constructor
    · rintro (h | ⟨rfl, h⟩)
      · exact .inl h
      · exact .inr ⟨.inl ⟨h1, rfl⟩, h⟩
    · rintro (h | ⟨⟨_, rfl⟩ | ⟨h2, rfl⟩, h⟩)
      · exact .inl h
      · exact .inr ⟨rfl, h⟩
      · have e : x.l = x.r := h1.symm.trans h2
        exact .inr ⟨e, e ▸ h⟩
  · rw [if_neg (fun h => h1 (eq2_iff.1 h))]
    by_cases h2 : c = x.r
    · rw [if_pos (eq2_iff.2 h2), vis_mem]
      constructor
      · rintro (h | ⟨rfl, h⟩)
        · exact .inl h
        · exact .inr ⟨.inr ⟨h2, rfl⟩, h⟩
      · rintro (h | ⟨⟨h3, _⟩ | ⟨_, rfl⟩, h⟩)
        · exact .inl h
        · exact absurd h3 h1
        · exact .inr ⟨rfl, h⟩
    · rw [if_neg (fun h => h2 (eq2_iff.1 h))]
      constructor
      · exact .inl
      · rintro (h | ⟨⟨h3, _⟩ | ⟨h3, _⟩, _⟩)
        · exact h
        · exact absurd h3 h1
        · exact absurd h3 h2
theorem rnd_mem {o : Option (List Nd)} {c m : Nd} : ∀ {E : List Ed} {Q : List Nd}, m ∈ rndF o c Q E ↔ m ∈ Q ∨ (Adj E c m ∧ m ∉ woL o)
  | [], Q => by simp [rndF, Adj]
  | x :: E, Q => by
    show m ∈ rndF o c (edv o c Q x) E ↔ _
    rw [rnd_mem, edv_mem]
    constructor
    · rintro ((h | ⟨h, h2⟩) | ⟨⟨y, hy, h⟩, h2⟩)
      · exact .inl h
      · exact .inr ⟨⟨x, by simp, h⟩, h2⟩
      · exact .inr ⟨⟨y, by simp [hy], h⟩, h2⟩
    · rintro (h | ⟨⟨y, hy, h⟩, h2⟩)
      · exact .inl (.inl h)
      · rcases List.mem_cons.1 hy with rfl | hy
        · exact .inl (.inr ⟨h, h2⟩)
        · exact .inr ⟨⟨y, hy, h⟩, h2⟩
theorem bfs_sound {o : Option (List Nd)} {E : List Ed} {c : Nd} : ∀ (f i : Nat) (Q : List Nd), (∀ n ∈ Q, Rch o E c n) → bfs o E f i Q = true → ∃ n, Rch o E c n ∧ n.1 = 3
  | 0, i, Q, _, h => by simp [bfs] at h
  | f + 1, i, Q, hQ, h => by
    unfold bfs at h
    split at h
    · cases h
    · rename_i d hd
      have hr := hQ d (List.mem_of_getElem? hd)
      split at h
      · rename_i h3; exact ⟨d, hr, ieq_iff.1 h3⟩
      · refine bfs_sound f (i + 1) _ (fun n hn => ?_) h
        rcases rnd_mem.1 hn with hn | ⟨h1, h2⟩
        · exact hQ n hn
        · exact .step hr h1 h2
theorem bfs_true {o : Option (List Nd)} {E : List Ed} {c : Nd} (hE : E.length ≤ 40) {n0 : Nd} (hn0 : Rch o E c n0) (h30 : n0.1 = 3) : ∀ (f i : Nat) (Q : List Nd), 100 ≤ f + i → QI E c Q → c ∈ Q → i ≤ Q.length → (∀ j n, j < i → Q[j]? = some n → n.1 ≠ 3 ∧ ∀ m, Adj E n m → m ∉ woL o → m ∈ Q) → bfs o E f i Q = true
  | 0, i, Q, hf, hq, _, hi, _ => by have := hq.len; omega
  | f + 1, i, Q, hf, hq, hc, hi, hinv => by
    unfold bfs
    cases hd : Q[i]? with
    | none =>
      exfalso
      have hl : Q.length ≤ i := List.getElem?_eq_none_iff.1 hd
      have hall : ∀ n, Rch o E c n → n ∈ Q := fun n hn => by
        induction hn with
        | refl => exact hc
        | step _ ha hw ih =>
          obtain ⟨j, hj, e⟩ := List.mem_iff_getElem.1 ih
          exact (hinv j _ (by omega) (by rw [List.getElem?_eq_getElem hj, e])).2 _ ha hw
      obtain ⟨j, hj, e⟩ := List.mem_iff_getElem.1 (hall n0 hn0)
      exact (hinv j _ (by omega) (by rw [List.getElem?_eq_getElem hj, e])).1 h30
    | some d =>
      simp only
      split
      · rfl
      · rename_i h3
        have h3' : d.1 ≠ 3 := fun h => h3 (ieq_iff.2 h)
        obtain ⟨t, ht, _⟩ := rnd_ext o d E Q
        have hid := (List.getElem?_eq_some_iff.1 hd).1
        refine bfs_true hE hn0 h30 f (i + 1) _ (by omega) (QI.rnd E hq (fun x hx => hx)) (rnd_mem.2 (.inl hc)) (by rw [ht]; simp; omega) (fun j n hj hn => ?_)
        rw [ht, List.getElem?_append_left (by omega)] at hn
        by_cases hji : j < i
        · obtain ⟨h1, h2⟩ := hinv j n hji hn
          exact ⟨h1, fun m hm hw => rnd_mem.2 (.inl (h2 m hm hw))⟩
        · have : j = i := by omega
          subst this
          rw [hd] at hn
          cases hn
          exact ⟨h3', fun m hm hw => rnd_mem.2 (.inr ⟨hm, hw⟩)⟩
theorem reach_iff {o : Option (List Nd)} {E : List Ed} {c : Nd} (hE : E.length ≤ 40) : reachF o E c = true ↔ ∃ n, Rch o E c n ∧ n.1 = 3 := by
  constructor
  · exact bfs_sound 100 0 [c] (fun n hn => by simp at hn; subst hn; exact .refl)
  · rintro ⟨n, hn, h3⟩
    exact bfs_true hE hn h3 100 0 [c] (by omega) ⟨by simp, fun n hn => by simp at hn; subst hn; simp⟩ (by simp) (by simp) (fun j n hj => by omega)
theorem ins_mem {s : Stn} {g : List Int} {n : Nd} : ∀ {zs L : List Nd}, n ∈ zs.foldl (insF s g) L ↔ n ∈ L ∨ ∃ z ∈ zs, nodF s g z.1 z.2 = some n
  | [], L => by simp
  | z :: zs, L => by
    rw [List.foldl_cons, ins_mem]
    have : n ∈ insF s g L z ↔ n ∈ L ∨ nodF s g z.1 z.2 = some n := by
      unfold insF
      split
      · rename_i m hm
        split
        · rename_i h
          constructor
          · exact .inl
          · rintro (h2 | h2)
            · exact h2
            · rw [hm] at h2; cases h2; exact memN_iff.1 h
        · simp [hm, eq_comm]
      · rename_i hm; simp [hm]
    rw [this]
    simp [or_assoc]
theorem insA_mem {s : Stn} {g : List Int} {zs : List Nd} {n : Nd} : n ∈ insA s g zs ↔ ∃ z ∈ zs, nodF s g z.1 z.2 = some n := by
  rw [insA, insN, List.take_length, ins_mem]; simp
theorem edg_len (v : Vu) : (edg v).length ≤ v.p.cl.length := edN_len _ _
theorem fedV_some {v : Vu} {L : List Nd} {bay : Int} (h : fedV v L bay = true) : ∃ x ∈ edg v, x.i = bay ∧ fedX v L x = true := by
  unfold fedV at h
  split at h
  · rename_i x hx
    exact ⟨x, List.mem_of_find?_eq_some hx, by have := List.find?_some hx; exact ieq_iff.1 this, h⟩
  · cases h
theorem fed_nil (s : Stn) (p : Pos) (b : Int) : fedF s p [] b = false := by
  cases h : fedF s p [] b
  · rfl
  · obtain ⟨x, _, _, hx⟩ := fedV_some h
    simp [fedX, insA, insN, memN] at hx
theorem edg_cl {v : Vu} {x : Ed} (h : x ∈ edg v) : v.p.cl[x.i]? = some true := by
  have := (edN_i h).2
  unfold edOf at this
  split at this
  · rename_i c a0 a1 c0 c1 h1 h2
    split at this
    · rename_i hh
      simp only [isE, Bool.and_eq_true] at hh
      rw [h1, hh.1]
    · cases this
  · cases this
theorem fed_union {s : Stn} {p : Pos} {zs : List Nd} {k : Nat} (hc : p.cl.length ≤ 40) (h : fedF s p zs k = true) : p.cl[k]? = some true ∧ ∃ z ∈ zs, fedF s p [z] k = true := by
  obtain ⟨x, hx, hi, hf⟩ := fedV_some h
  have hik : x.i = k := by omega
  refine ⟨by rw [← hik]; exact edg_cl hx, ?_⟩
  have hEl : (edg ⟨s, p, grp s p⟩).length ≤ 40 := Nat.le_trans (edg_len _) hc
  have key : ∀ z ∈ zs, ∀ (a b : Nd), nodF s (grp s p) z.1 z.2 = some a → b ∉ insA s (grp s p) zs → reachF (some (insA s (grp s p) zs)) (edg ⟨s, p, grp s p⟩) b = true → (∀ n, n ∈ insA s (grp s p) [z] ↔ n = a) ∧ b ≠ a ∧ reachF (some (insA s (grp s p) [z])) (edg ⟨s, p, grp s p⟩) b = true := by
    intro z hz a b ha hb hr
    have e : ∀ n, n ∈ insA s (grp s p) [z] ↔ n = a := fun n => by rw [insA_mem]; simp [ha, eq_comm]
    refine ⟨e, fun h => hb (h ▸ insA_mem.2 ⟨z, hz, ha⟩), ?_⟩
    rw [reach_iff hEl] at hr ⊢
    obtain ⟨n, hn, h3⟩ := hr
    exact ⟨n, hn.mono (fun y hy => by
      have := (e y).1 hy
      subst this
      exact insA_mem.2 ⟨z, hz, ha⟩) (fun _ h => h), h3⟩
  have hfx : ∀ L, fedF s p L k = true ↔ fedX ⟨s, p, grp s p⟩ (insA s (grp s p) L) x = true := fun L => by
    rw [fedF, fedV_at hx (ieq_iff.2 hi)]
  unfold fedX at hf
  split at hf
  · cases hf
  rename_i hne
  cases hm : memN (insA s (grp s p) zs) x.a0 x.a1
  · rw [hm] at hf hne
    have hm2 : memN (insA s (grp s p) zs) x.c0 x.c1 = true := by
      cases h2 : memN (insA s (grp s p) zs) x.c0 x.c1
      · rw [h2] at hne; simp at hne
      · rfl
    obtain ⟨z, hz, hzn⟩ := insA_mem.1 (memN_iff.1 hm2)
    have hb : (x.a0, x.a1) ∉ insA s (grp s p) zs := fun h => by rw [memN_iff.2 h] at hm; cases hm
    obtain ⟨e, hne2, hr⟩ := key z hz _ _ hzn hb (by simpa [Ed.l, Ed.r] using hf)
    refine ⟨z, hz, (hfx _).2 ?_⟩
    have m1 : memN (insA s (grp s p) [z]) x.a0 x.a1 = false := memN_f (n := (x.a0, x.a1)) (fun h => hne2 ((e _).1 h))
    have m2 : memN (insA s (grp s p) [z]) x.c0 x.c1 = true := memN_iff.2 ((e _).2 rfl)
    simp [fedX, m1, m2]
    simpa [Ed.l, Ed.r] using hr
  · rw [hm] at hf hne
    have hm2 : memN (insA s (grp s p) zs) x.c0 x.c1 = false := by
      cases h2 : memN (insA s (grp s p) zs) x.c0 x.c1
      · rfl
      · rw [h2] at hne; simp at hne
    obtain ⟨z, hz, hzn⟩ := insA_mem.1 (memN_iff.1 hm)
    have hb : (x.c0, x.c1) ∉ insA s (grp s p) zs := fun h => by rw [memN_iff.2 h] at hm2; cases hm2
    obtain ⟨e, hne2, hr⟩ := key z hz _ _ hzn hb (by simpa [Ed.l, Ed.r] using hf)
    refine ⟨z, hz, (hfx _).2 ?_⟩
    have m1 : memN (insA s (grp s p) [z]) x.c0 x.c1 = false := memN_f (n := (x.c0, x.c1)) (fun h => hne2 ((e _).1 h))
    have m2 : memN (insA s (grp s p) [z]) x.a0 x.a1 = true := memN_iff.2 ((e _).2 rfl)
    simp [fedX, m1, m2]
    simpa [Ed.l, Ed.r] using hr
end Go.Proofs.Ytcbddoopmkhlfaa
end
section
namespace Go.Proofs.Ytcbddoopmkhlfaa
open Go.Pv Go.RowKit
set_option linter.unusedSimpArgs false
set_option linter.unusedVariables false

theorem has_nd {cs : List V} (h : HasC (.struct [.int .i64, .int .i64]) cs) : ∃ x : Nd, cs = nd2 x := by
  simp only [HasL, HasC] at h
  obtain ⟨_, _, rfl, ⟨a, rfl, _⟩, _, _, rfl, ⟨b, rfl, _⟩, rfl⟩ := h
  exact ⟨(a, b), rfl⟩
theorem has_zs {u : V} (h : HasV (.slice (.struct [.int .i64, .int .i64])) u) : ∃ zs : List Nd, u = .list 2 (zs.map nd2) ∧ zs.length ≤ maxLen := by
  obtain ⟨xs, rfl, hl, hx⟩ := has_slice h
  obtain ⟨f, rfl⟩ := rows_of (enc := nd2) fun x hx2 => has_nd (hx x hx2)
  exact ⟨f, rfl, by simpa using hl⟩
theorem has_z {u : V} (h : HasV (.struct [.int .i64, .int .i64]) u) : ∃ z : Nd, u = .agg (nd2 z) := by
  have h' : ∃ cs, u = .agg cs ∧ HasL [.int .i64, .int .i64] cs := by simpa only [HasV] using h
  clear h
  obtain ⟨cs, rfl, h⟩ := h'
  obtain ⟨z, rfl⟩ := has_nd (cs := cs) (by rw [HasC]; exact h)
  exact ⟨z, rfl⟩
theorem has_int {u : V} (h : HasV (.int .i64) u) : ∃ x : Int, u = .int .i64 x ∧ -9223372036854775808 ≤ x ∧ x ≤ 9223372036854775807 := by
  simp only [HasV, HasC] at h
  obtain ⟨a, ha, h1⟩ := h
  cases ha
  exact ⟨a, rfl, h1⟩
end Go.Proofs.Ytcbddoopmkhlfaa
end
