/-
  Views: the iterator over the edges.
-/
import Derived.Test.YtcbddoopmkhlfaaSt14
import Derived.Test.YtcbddoopmkhlfaaPv21
namespace Go.Proofs.Ytcbddoopmkhlfaa
open Go.Pv Go.RowKit
set_option linter.unusedSimpArgs false
set_option linter.unusedVariables false
set_option maxRecDepth 100000
set_option maxHeartbeats 2000000
attribute [-simp] Tclo_at Tgrp_at Tchk Tpchk TcI TcB Tclo Tgrp Tsid Tnod Tlook Tbnd

structure Ed where
  i : Nat
  a0 : Int
  a1 : Int
  c0 : Int
  c1 : Int
def Ed.ns (x : Ed) : List V := [.int .i64 x.a0, .int .i64 x.a1, .int .i64 x.c0, .int .i64 x.c1]
def Ed.arr (x : Ed) : Array Value := #[.int .i64 x.i, .agg #[.int .i64 x.a0, .int .i64 x.a1, .int .i64 x.c0, .int .i64 x.c1]]
def isE (c : Bool) (a0 a1 c0 c1 : Int) : Bool := c && (!(ieq a0 c0 && ieq a1 c1) && (!ieq a0 0 && !ieq c0 0))
def edOf (v : Vu) (i : Nat) : Option Ed := match v.p.cl[i]?, sidF v.s v.p v.g i with
  | some c, some [a0, a1, c0, c1] => if isE c a0 a1 c0 c1 = true then some ⟨i, a0, a1, c0, c1⟩ else none
  | _, _ => none
def edN (v : Vu) (m : Nat) : List Ed := (List.range m).filterMap (edOf v)
def edg (v : Vu) : List Ed := edN v v.p.cl.length
theorem edN_t {v : Vu} {n : Nat} {x : Ed} (h : edOf v n = some x) : edN v (n + 1) = edN v n ++ [x] := by
  simp [edN, List.range_succ, List.filterMap_append, h]
theorem edN_f {v : Vu} {n : Nat} (h : edOf v n = none) : edN v (n + 1) = edN v n := by
  simp [edN, List.range_succ, List.filterMap_append, h]
theorem edN_mono {v : Vu} {a b : Nat} (h : a ≤ b) : (edN v a).length ≤ (edN v b).length := by
  induction h with
  | refl => exact Nat.le_refl _
  | step _ ih =>
    rename_i m _
    cases hu : edOf v m with
    | none => rw [edN_f hu]; exact ih
    | some x => rw [edN_t hu]; simp; omega
theorem edN_len (v : Vu) (n : Nat) : (edN v n).length ≤ n := by
  unfold edN
  exact Nat.le_trans (List.length_filterMap_le _ _) (by simp)
/-! ### a view's cells, the breakers by their value -/
def Vu.csA (v : Vu) (X : Value) : List V := [.str v.s.nm, .list 1 (v.s.bs.map s1), .list 5 (v.s.ls.map Ln.cs), .list 6 (v.s.ss.map Sr.cs), .list 12 (v.s.qs.map By.cs), .as X 1 (v.p.cl.map b1), .list 1 (v.p.lk.map r1), .list 1 (v.g.map i1)]
theorem vcsA_at {v : Vu} {X : Value} {j : Nat} {c : V} (h : (v.csA X)[j]? = some c) : ∃ d, v.cs[j]? = some d ∧ ((j ≠ 5 ∧ c = d) ∨ (j = 5 ∧ d = .list 1 (v.p.cl.map b1) ∧ c = .as X 1 (v.p.cl.map b1))) := by
  match j with
  | 0 => exact ⟨_, rfl, .inl ⟨by decide, by simpa [Vu.csA] using h.symm⟩⟩
  | 1 => exact ⟨_, rfl, .inl ⟨by decide, by simpa [Vu.csA] using h.symm⟩⟩
  | 2 => exact ⟨_, rfl, .inl ⟨by decide, by simpa [Vu.csA] using h.symm⟩⟩
  | 3 => exact ⟨_, rfl, .inl ⟨by decide, by simpa [Vu.csA] using h.symm⟩⟩
  | 4 => exact ⟨_, rfl, .inl ⟨by decide, by simpa [Vu.csA] using h.symm⟩⟩
  | 5 => exact ⟨_, rfl, .inr ⟨rfl, rfl, by simpa [Vu.csA] using h.symm⟩⟩
  | 6 => exact ⟨_, rfl, .inl ⟨by decide, by simpa [Vu.csA] using h.symm⟩⟩
  | 7 => exact ⟨_, rfl, .inl ⟨by decide, by simpa [Vu.csA] using h.symm⟩⟩
  | j + 8 => simp [Vu.csA] at h
theorem vuA {w : World} {ro : Nat → Prop} {v : Vu} {ad : Addr} (h : R0 w ro (.vrp ad v.cs) (.pointer (some ad))) : ∃ X, R0 w ro (.vrp ad (v.csA X)) (.pointer (some ad)) ∧ R0 w ro (.list 1 (v.p.cl.map b1)) X := by
  cases h with
  | vrp _ _ g h1 h2 h3 =>
    refine ⟨g 5, .vrp _ _ g h1 (fun j x hj => ?_) (fun j x hj => ?_), h3 5 _ rfl⟩
    · obtain ⟨d, hd, _⟩ := vcsA_at hj
      exact h2 j d hd
    · obtain ⟨d, hd, ⟨_, rfl⟩ | ⟨rfl, rfl, rfl⟩⟩ := vcsA_at hj
      · exact h3 j _ hd
      · exact .as _ _ _ (h3 5 _ hd)
theorem vcsA_cs {w : World} {ro : Nat → Prop} {v : Vu} {X y : Value} (h : R0 w ro (.agg (v.csA X)) y) : R0 w ro (.agg v.cs) y := by
  cases h with
  | agg _ arr hl hr =>
    refine .agg _ _ hl fun j c x hc hx => ?_
    have hj : j < (v.csA X).length := (List.getElem?_eq_some_iff.1 hc).1
    obtain ⟨d, hd, ⟨_, e⟩ | ⟨rfl, e1, e2⟩⟩ := vcsA_at (List.getElem?_eq_getElem hj)
    · rw [hc] at hd; cases hd
      have := hr j _ x (List.getElem?_eq_getElem hj) hx
      rwa [e] at this
    · rw [hc] at hd; cases hd
      have := hr 5 _ x (List.getElem?_eq_getElem hj) hx
      rw [e2] at this
      rw [e1]
      exact as_list this
def unVuA : List V → Option (Vu × Value)
  | [.str nm, .list 1 bs, .list 5 ls, .list 6 ss, .list 12 qs, .as X 1 a, .list 1 b, .list 1 g] => (match decL unS1 bs, decL unLn ls, decL unSr ss, decL unBy qs, decL unB1 a, decL unR1 b, decL unI1 g with
    | some bs, some ls, some ss, some qs, some a, some b, some g => some (⟨⟨nm, bs, ls, ss, qs⟩, ⟨a, b⟩, g⟩, X)
    | _, _, _, _, _, _, _ => none)
  | _ => none
theorem unVuA_cs (v : Vu) (X : Value) : unVuA (v.csA X) = some (v, X) := by simp [unVuA, Vu.csA, decL_map unS1_cs, decL_map unLn_cs, decL_map unSr_cs, decL_map unBy_cs, decL_map unB1_cs, decL_map unR1_cs, decL_map unI1_cs]
theorem unVuA_inv : ∀ c a, unVuA c = some a → c = Vu.csA a.1 a.2 := by
  intro c a h; unfold unVuA at h; split at h
  · split at h
    · rename_i h1 h2 h3 h4 h5 h6 h7
      cases h
      rw [decL_inv unS1_inv _ _ h1, decL_inv unLn_inv _ _ h2, decL_inv unSr_inv _ _ h3, decL_inv unBy_inv _ _ h4, decL_inv unB1_inv _ _ h5, decL_inv unR1_inv _ _ h6, decL_inv unI1_inv _ _ h7]; rfl
    · cases h
  · cases h
def TsidA : List V → Option V
  | [.agg c, .int .i64 i] => (match unVuA c with
    | some v => (match sidF v.1.s v.1.p v.1.g i with
      | some S => some (.agg (S.map (V.int .i64)))
      | none => none)
    | none => none)
  | _ => none
theorem TsidA_at {v : Vu} {X : Value} {i : Int} {S : List Int} (h : sidF v.s v.p v.g i = some S) : TsidA [.agg [.str v.s.nm, .list 1 (v.s.bs.map s1), .list 5 (v.s.ls.map Ln.cs), .list 6 (v.s.ss.map Sr.cs), .list 12 (v.s.qs.map By.cs), .as X 1 (v.p.cl.map b1), .list 1 (v.p.lk.map r1), .list 1 (v.g.map i1)], .int .i64 i] = some (.agg (S.map (V.int .i64))) := by
  have := unVuA_cs v X
  unfold Vu.csA at this
  simp [TsidA, this, h]
theorem sidA_tab : ∀ vs u, TsidA vs = some u → PCall Try.prog 64 vs u := by
  intro vs u h; unfold TsidA at h; split at h
  · split at h
    · rename_i c i _ v hv
      split at h
      · rename_i S hS
        cases h
        rw [unVuA_inv _ _ hv]
        have hp : PCall Try.prog 64 [.agg v.1.cs, .int .i64 i] (.agg (S.map (V.int .i64))) := by
          refine sid_tab _ _ ?_
          exact Tsid_at (s := v.1.s) (p := v.1.p) (g := v.1.g) hS
        intro w ro args hro hsz hr
        refine hp w ro args hro hsz fun j c x hc hx => ?_
        match j with
        | 0 => simp at hc; subst hc; exact vcsA_cs (hr 0 _ x rfl hx)
        | 1 => exact hr 1 c x hc hx
        | j + 2 => simp at hc
      · cases h
    · cases h
  · cases h
def DA : Tab := add 64 TsidA (D5)
theorem DA_at (f : FuncId) (vs : List V) : DA.at' f vs = if f = 64 then TsidA vs else D5.at' f vs := rfl
theorem DA_fr (f : FuncId) : DA.fr f = if f = 64 then false else D5.fr f := rfl
theorem DA_gb (f : FuncId) : DA.gb f = D5.gb f := rfl
theorem DA_gv (f : FuncId) (vs : List V) : DA.gv f vs = D5.gv f vs := rfl
attribute [simp] DA_at DA_fr DA_gb DA_gv TsidA
theorem DA_ok : TabOK Try.prog DA := by
  refine add_ok (D5_ok) (by kernel_rfl) ?_
  · exact sidA_tab
attribute [-simp] TsidA
attribute [simp] TsidA_at
/-! ### the iterator's frame between two statements -/
theorem rig_val {W : World} {ro : Nat → Prop} {Y : Value} : Rig W ro (.val Y) := fun w1 ro1 lam1 x hk hr => by
  have := getD_val hr
  subst this; exact .val _
structure EG (n : Nat) (ro : Nat → Prop) (W : World) (L : List (Nat × V)) (J : List Ed → World → Prop) (pre : List Ed) (a : Act) (w : World) : Prop where
  dfr : a.defers = []
  size : n ≤ a.tmps.size
  env : ∀ t, R0 w ro (envL L t) (a.tmps.getD t Go.undef)
  kept : KR ro W w
  got : J pre w
section
variable {n : Nat} {ro ro1 : Nat → Prop} {W w w1 : World} {L L' : List (Nat × V)} {J : List Ed → World → Prop} {pre pre' : List Ed} {a a1 : Act} {lam1 : Lam} {s1 : St}
theorem EG.sim (hg : EG n ro W L J pre a w) (hro : ∀ b, ro b → b < W.heap.size) : Sim (.of w) n ro (fun _ => none) ⟨envL L, fun _ => none⟩ a w :=
  sim_mk hg.dfr hg.size (fun b hb => Nat.lt_of_lt_of_le (hro b hb) hg.kept.1) hg.env
theorem EG.step (hg : EG n ro W L J pre a w) (hro : ∀ b, ro b → b < W.heap.size) (hJ : Ab J) (hs : Sim (.of w) n ro1 lam1 s1 a1 w1) (hE : HasE s1.env L') (hR : RigE W ro L') : EG n ro W L' J pre a1 w1 := by
  have hk : KR ro W w1 := hg.kept.trans ⟨hs.below.size, fun b hb => hs.below.below.block b (Nat.lt_of_lt_of_le (hro b hb) hg.kept.1)⟩
  exact ⟨hs.dfr, hs.size, envL_sim (fun b h => hk.2 b h) hs L' hE hR, hk, hJ _ _ _ hg.got hs.below.below⟩
theorem EG.next (hg : EG n ro W L J pre a w) {d : Nat} {b : Bool} (hd : d < n) (hb : KR ro w w1) (hJ : J pre' w1) : EG n ro W ((d, .bool b) :: L) J pre' (a.put (some d) (.bool b)) w1 := by
  refine ⟨hg.dfr, by simpa [Act.put] using hg.size, fun t => ?_, hg.kept.trans hb, hJ⟩
  rw [getD_put (Nat.lt_of_lt_of_le hd hg.size)]
  simp only [envL, upd]
  split
  · exact .bool _
  · exact (hg.env t).mono (fun b h => hb.2 b h) (fun _ h => h)
end
theorem agg4 {w : World} {ro : Nat → Prop} {lam : Lam} {a b c d : Int} {z : Value} (h : R w ro lam (.agg [.int .i64 a, .int .i64 b, .int .i64 c, .int .i64 d]) z) : z = .agg #[.int .i64 a, .int .i64 b, .int .i64 c, .int .i64 d] := by
  obtain ⟨arr, rfl, hl, hr⟩ := h.agg_inv
  have hl' : arr.size = 4 := hl
  have e0 : arr[0] = .int .i64 a := (hr 0 _ _ rfl (Array.getElem?_eq_getElem (by omega))).int_inv
  have e1 : arr[1] = .int .i64 b := (hr 1 _ _ rfl (Array.getElem?_eq_getElem (by omega))).int_inv
  have e2 : arr[2] = .int .i64 c := (hr 2 _ _ rfl (Array.getElem?_eq_getElem (by omega))).int_inv
  have e3 : arr[3] = .int .i64 d := (hr 3 _ _ rfl (Array.getElem?_eq_getElem (by omega))).int_inv
  congr 1
  apply Array.ext
  · simpa using hl'
  · intro i h1 h2
    match i with
    | 0 => simpa using e0
    | 1 => simpa using e1
    | 2 => simpa using e2
    | 3 => simpa using e3
    | i + 4 => simp at h2; omega
def muE (a : Act) (_ : World) : Nat := 1001 - (match a.tmps.getD 10 Go.undef with
  | .int _ k => k.toNat
  | _ => 0)
def itL (Y : Value) (ad : Addr) (cs : List V) (X : Value) (xs : List (List V)) (n : Int) (k : Int) : List (Nat × V) := [(0, .val Y), (1, .vrp ad cs), (8, .as X 1 xs), (9, .int .i64 n), (10, .int .i64 k)]
theorem EG.mu {n : Nat} {ro : Nat → Prop} {W w : World} {J : List Ed → World → Prop} {pre : List Ed} {a : Act} {Y X : Value} {ad : Addr} {cs : List V} {xs : List (List V)} {N : Int} {k : Nat} (hg : EG n ro W (itL Y ad cs X xs N k) J pre a w) : muE a w = 1001 - k := by
  have := r0_int (hg.env 10)
  simp [muE, this]
theorem sides_some {v : Vu} (hw : wfG v.s v.p v.g.length = true) {k : Nat} (hk : k < v.s.qs.length) : ∃ a0 a1 c0 c1, sidF v.s v.p v.g k = some [a0, a1, c0, c1] := by
  obtain ⟨b, hb, -⟩ := at_ex (l := v.s.qs) (i := k) hk
  obtain ⟨l, hl, -⟩ := wf_at hw hb
  obtain ⟨a0, a1, c0, c1, hsd⟩ := sid4 v.g b l
  refine ⟨a0, a1, c0, c1, ?_⟩
  have : (k : Int) < v.s.qs.length := by omega
  rw [← hsd]; simp [sidF, hw, hb, hl, this]
theorem it_in (m l : Nat) (v : Vu) (ad : Addr) (ro : Nat → Prop) (W : World) (hro : ∀ b, ro b → b < W.heap.size) (hw : wfG v.s v.p v.g.length = true) (hcl : v.p.cl.length = v.s.qs.length)
    (hX : R0 W ro (.vrp ad v.cs) (.pointer (some ad))) (J Jx : List Ed → World → Prop) (hJ : Ab J) (hJx : Ab Jx)
    (hY : ∀ pre x W1, x ∈ edg v → J pre W1 → pre.length < (edg v).length → YieldAt Fence.wide (m - 1) Try.prog l x.arr W1 fun e W' =>
      (e = .returned (.bool true) ∧ J (pre ++ [x]) W' ∧ KR ro W1 W') ∨ (e = .returned (.bool false) ∧ Jx (pre ++ [x]) W'))
    (h0 : J [] W) : CallsIn Fence.wide m Try.prog 85 #[.func (.yield l) #[] #[], .pointer (some ad)] W fun e W' => (∃ v, e = .returned v) ∧ (J (edg v) W' ∨ ∃ pre, Jx pre W') := by
  obtain ⟨X, hXa, hXl⟩ := vuA hX
  have hq : v.s.qs.length ≤ 1000 := by simp only [wfG, Bool.and_eq_true, decide_eq_true_eq] at hw; exact hw.1
  have hsome : ∀ k, k < v.s.qs.length → ∃ a0 a1 c0 c1, sidF v.s v.p v.g k = some [a0, a1, c0, c1] := fun k hk => sides_some hw hk
  obtain ⟨N, hN⟩ : ∃ N, v.p.cl.length = N := ⟨_, rfl⟩
  rw [← hcl] at hq hsome
  rw [hN] at hq hsome
  have hed : edg v = edN v N := by rw [edg, hN]
  rw [hed] at hY ⊢
  clear hcl hed hX
  refine callsIn_of_wp Try.func85 rfl trivial ?_ rfl
  rw [Try.ntmps85]
  obtain ⟨Y, hYv⟩ : ∃ Y : Value, Y = .func (.yield l) #[] #[] := ⟨_, rfl⟩
  rw [← hYv]
  obtain ⟨cs, hcs⟩ : ∃ cs : List V, cs = v.csA X := ⟨_, rfl⟩
  rw [← hcs] at hXa
  obtain ⟨xs, hxs⟩ : ∃ xs, xs = v.p.cl.map b1 := ⟨_, rfl⟩
  rw [← hxs] at hXl
  have hrig : ∀ k : Nat, RigE W ro (itL Y ad cs X xs N k) := fun k => ⟨rig_val, rig_vrp hXa, rig_as hXl, rig_flat rfl, rig_flat rfl, trivial⟩
  have hs0 := sim_ini (n := 45) (w := W) (ro := ro) (args := #[Y, .pointer (some ad)]) (vs := [.val Y, .vrp ad cs]) hro rfl (by simp) (fun j c x hc hx => by
    match j with
    | 0 => simp at hc hx; subst hc; subst hx; exact .val _
    | 1 => simp at hc hx; subst hc; subst hx; exact hXa
    | j + 2 => simp at hc)
  refine wpIn_seq ?_
  refine wpIn_mono (cw_in (CW.of_cx (D := fun _ => none) DA_ok mixed _ (fun e s => e = .normal ∧ HasE s.env (itL Y ad cs X xs N (0 : Nat))) _ (by kernel_rfl) ?_) hs0) ?_
  · rw [hcs, hxs]
    clear hY hJ hJx hs0 hrig
    repeat' first
      | (with_reducible refine gw_bool (fun _ => ?_) (fun _ => ?_))
      | (with_reducible refine condw_bool (fun _ => ?_) (fun _ => ?_))
      | simp [*, Vu.csA, itL, HasE]
  rintro e a w ⟨s1, ro1, lam1, ⟨rfl, hE⟩, -, hs1⟩
  have hg0 : EG 45 ro W (itL Y ad cs X xs N (0 : Nat)) J [] a w := by
    have hk : KR ro W w := ⟨hs1.below.size, fun b hb => hs1.below.below.block b (hro b hb)⟩
    exact ⟨hs1.dfr, hs1.size, envL_sim (fun b h => hk.2 b h) hs1 _ hE (hrig 0), hk, hJ _ _ _ h0 hs1.below.below⟩
  clear hs1 hs0 hE
  refine wpIn_block ?_
  refine wpIn_loop (fun a w => ∃ k : Nat, k ≤ N ∧ EG 45 ro W (itL Y ad cs X xs N k) J (edN v k) a w) muE ⟨0, by omega, hg0⟩ ?_
  clear hg0 a w
  rintro a w ⟨k, hk, hg⟩
  have fin : ∀ e a' w', EG 45 ro W (itL Y ad cs X xs N k) J (edN v N) a' w' → e = Exit.normal → bodyPost Try.prog Try.f85 (fun e W' => (∃ v, e = .returned v) ∧ (J (edN v N) W' ∨ ∃ pre, Jx pre W')) e a' w' := by
    rintro e a' w' hg' rfl
    exact ⟨hg'.dfr, _, results_none rfl _ _ _, ⟨_, rfl⟩, .inl hg'.got⟩
  have w1 : IntKind.i64.wrap ((k : Int) + 1) = ((k + 1 : Nat) : Int) := wrap_succ (by omega)
  have hsim := hg.sim hro
  refine wpIn_seq ?_
  by_cases hlt : k < N
  · have f1 : ilt (k : Int) (N : Int) = true := ilt_t (by omega)
    refine wpIn_mono (cw_in (CW.of_cx (D := fun _ => none) DA_ok mixed _ (fun e s => e = .normal ∧ HasE s.env ((11, .bool true) :: itL Y ad cs X xs N k)) _ (by kernel_rfl) ?_) hsim) ?_
    · clear fin hY hJ hJx hsim hg hrig
      repeat' first
        | (with_reducible refine gw_bool (fun _ => ?_) (fun _ => ?_))
        | (with_reducible refine condw_bool (fun _ => ?_) (fun _ => ?_))
        | simp [*, itL, HasE, envL]
    rintro e a1 w1' ⟨s1, ro1, lam1, ⟨rfl, hE⟩, -, hs1⟩
    have hg1 := hg.step hro hJ hs1 hE ⟨rig_flat rfl, hrig k⟩
    clear hs1 hsim hE
    refine wpIn_seq ?_
    refine wpIn_mono (cw_in (CW.of_cx (D := fun _ => none) DA_ok mixed _ (fun e s => e = .normal ∧ HasE s.env (itL Y ad cs X xs N k)) _ (by kernel_rfl) ?_) (hg1.sim hro)) ?_
    · clear fin hY hJ hJx hg hg1 hrig
      repeat' first
        | (with_reducible refine gw_bool (fun _ => ?_) (fun _ => ?_))
        | (with_reducible refine condw_bool (fun _ => ?_) (fun _ => ?_))
        | simp [*, itL, HasE, envL]
    rintro e a2 w2 ⟨s2, ro2, lam2, ⟨rfl, hE⟩, -, hs2⟩
    have hg2 := hg1.step hro hJ hs2 hE (hrig k)
    clear hs2 hE hg1
    have hmu : ∀ (a' : Act) (w' : World) (pre' : List Ed), EG 45 ro W (itL Y ad cs X xs N ((k + 1 : Nat) : Int)) J pre' a' w' → muE a' w' < muE a w := fun a' w' pre' h => by
      rw [h.mu, hg.mu]; omega
    refine wpIn_seq (wpIn_mono (wpIn_block (Q := fun e a' w' => (e = .normal ∧ EG 45 ro W (itL Y ad cs X xs N k) J (edN v (k + 1)) a' w') ∨ (e = .ret ∧ bodyPost Try.prog Try.f85 (fun e W' => (∃ v, e = .returned v) ∧ (J (edN v N) W' ∨ ∃ pre, Jx pre W')) .ret a' w')) ?_) ?_)
    · obtain ⟨c, hc, hc'⟩ := at_ex (l := v.p.cl) (i := k) (by omega)
      obtain ⟨a0, a1', c0, c1, hS⟩ := hsome k hlt
      have hed : edOf v k = if isE c a0 a1' c0 c1 = true then some ⟨k, a0, a1', c0, c1⟩ else none := by simp [edOf, hc, hS]
      refine wpIn_seq ?_
      refine wpIn_mono (cw_in (CW.of_cx (D := fun _ => none) DA_ok mixed _ (fun e s => e = .normal ∧ HasE s.env ((3, .int .i64 k) :: (4, .bool c) :: itL Y ad cs X xs N k) ∧ s.heap 5 = none) _ (by kernel_rfl) ?_) (hg2.sim hro)) ?_
      · rw [hxs]
        clear fin hY hJ hJx hg hg2 hrig hmu
        repeat' first
          | (with_reducible refine gw_bool (fun _ => ?_) (fun _ => ?_))
          | (with_reducible refine condw_bool (fun _ => ?_) (fun _ => ?_))
          | simp [*, itL, HasE, envL, b1]
      rintro e a3 w3 ⟨s3, ro3, lam3, ⟨rfl, hE3, hh3⟩, -, hs3⟩
      refine wpIn_seq ?_
      refine wpIn_mono (cw_in (CW.of_cx (D := fun _ => none) DA_ok mixed _ (fun e s => e = .normal ∧ HasE s.env ((5, .ptr 5 0) :: (3, .int .i64 k) :: (4, .bool c) :: itL Y ad cs X xs N k) ∧ s.heap 5 = some ⟨58, [.int .i64 a0, .int .i64 a1', .int .i64 c0, .int .i64 c1]⟩) _ (by kernel_rfl) ?_) hs3) ?_
      · obtain ⟨en, he⟩ := s3
        simp only [HasE, itL] at hE3 hh3
        rw [hcs] at hE3 ⊢
        clear fin hY hJ hJx hg hg2 hrig hmu hs3
        simp only [Vu.csA] at hE3 ⊢
        repeat' first
          | (with_reducible refine gw_bool (fun _ => ?_) (fun _ => ?_))
          | (with_reducible refine condw_bool (fun _ => ?_) (fun _ => ?_))
          | simp [*, itL, HasE]
      rintro e a4 w4 ⟨s4, ro4, lam4, ⟨rfl, hE4, hh4⟩, -, hs4⟩
      clear hs3 hE3 hh3
      refine wpIn_seq ?_
      cases hu : isE c a0 a1' c0 c1
      · rw [hu, if_neg (by simp)] at hed
        refine wpIn_mono (cw_in (CW.of_cx (D := fun _ => none) DA_ok mixed _ (fun e s => e = .exit 1 ∧ HasE s.env (itL Y ad cs X xs N k)) _ (by kernel_rfl) ?_) hs4) ?_
        · obtain ⟨en, he⟩ := s4
          simp only [HasE, itL] at hE4 hh4
          clear fin hY hJ hJx hg hg2 hrig hmu hs4 hed
          replace hu : Hid (isE c a0 a1' c0 c1 = false) := hu
          cases c <;> cases q1 : ieq a0 c0 <;> cases q2 : ieq a1' c1 <;> cases q3 : ieq a0 0 <;> cases q4 : ieq c0 0
          all_goals first
            | (exfalso; have hu := hu.out; simp [isE, *] at hu; done)
            | skip
          all_goals
            repeat' first
              | (with_reducible refine gw_bool (fun _ => ?_) (fun _ => ?_))
              | (with_reducible refine condw_bool (fun _ => ?_) (fun _ => ?_))
              | simp [*, itL, HasE]
        rintro e a5 w5 ⟨s5, ro5, lam5, ⟨rfl, hE5⟩, -, hs5⟩
        have hg5 := hg2.step hro hJ hs5 hE5 (hrig k)
        rw [← edN_f hed] at hg5
        exact .inl ⟨rfl, hg5⟩
      · rw [hu, if_pos rfl] at hed
        refine wpIn_mono (cw_in (CW.of_cx (D := fun _ => none) DA_ok mixed _ (fun e s => e = .normal ∧ HasE s.env ((5, .ptr 5 0) :: (3, .int .i64 k) :: itL Y ad cs X xs N k) ∧ s.heap 5 = some ⟨58, [.int .i64 a0, .int .i64 a1', .int .i64 c0, .int .i64 c1]⟩) _ (by kernel_rfl) ?_) hs4) ?_
        · obtain ⟨en, he⟩ := s4
          simp only [HasE, itL] at hE4 hh4
          clear fin hY hJ hJx hg hg2 hrig hmu hs4 hed
          simp only [isE, Bool.and_eq_true, Bool.not_eq_true'] at hu
          obtain ⟨u1, u2, u3, u4⟩ := hu
          subst u1
          cases q1 : ieq a0 c0 <;> cases q2 : ieq a1' c1
          all_goals first
            | (exfalso; rw [q1, q2] at u2; cases u2; done)
            | skip
          all_goals clear u2
          all_goals
            repeat' first
              | (with_reducible refine gw_bool (fun _ => ?_) (fun _ => ?_))
              | (with_reducible refine condw_bool (fun _ => ?_) (fun _ => ?_))
              | simp [*, itL, HasE]
        rintro e a5 w5 ⟨s5, ro5, lam5, ⟨rfl, hE5, hh5⟩, -, hs5⟩
        clear hs4 hE4 hh4
        refine wpIn_seq ?_
        refine wpIn_region_list ?_
        rw [← List.take_append_drop 3 (Array.toList _)]
        refine eg_in DA_ok (K := fun s => HasE s.env ((39, .val Y) :: (40, .int .i64 k) :: (41, .agg [.int .i64 a0, .int .i64 a1', .int .i64 c0, .int .i64 c1]) :: itL Y ad cs X xs N k)) _ _ _ _ _ _ (by kernel_rfl) ?_ hs5 ?_
        · obtain ⟨en, he⟩ := s5
          simp only [HasE, itL] at hE5 hh5
          clear fin hY hJ hJx hg hg2 hrig hmu hs5 hed hu
          repeat' first
            | (with_reducible refine gw_bool (fun _ => ?_) (fun _ => ?_))
            | (with_reducible refine condw_bool (fun _ => ?_) (fun _ => ?_))
            | simp [*, itL, HasE]
        rintro s6 a6 ro6 lam6 w6 hE6 hs6
        have hg6 := hg2.step hro hJ hs6 hE6 ⟨rig_val, rig_flat rfl, rig_flat rfl, hrig k⟩
        have g39 : R w6 ro6 lam6 (.val Y) (a6.tmps.getD 39 Go.undef) := by have := hs6.env 39; rwa [hE6.1] at this
        have g40 : R w6 ro6 lam6 (.int .i64 k) (a6.tmps.getD 40 Go.undef) := by have := hs6.env 40; rwa [hE6.2.1] at this
        have g41 : R w6 ro6 lam6 (.agg [.int .i64 a0, .int .i64 a1', .int .i64 c0, .int .i64 c1]) (a6.tmps.getD 41 Go.undef) := by have := hs6.env 41; rwa [hE6.2.2.1] at this
        refine wpListIn_plain rfl fun K hK => ?_
        refine yield_in (l := l) (vals := Ed.arr ⟨k, a0, a1', c0, c1⟩) rfl ?_ ?_ (hY _ ⟨k, a0, a1', c0, c1⟩ w6 (List.mem_filterMap.2 ⟨k, List.mem_range.2 hlt, hed⟩) hg6.got ?_) ?_
        · show a6.tmps.getD 39 Go.undef = _
          rw [getD_val g39]; exact hYv
        · simp only [List.map_toArray, List.map_cons, List.map_nil]
          show #[a6.tmps.getD 40 Go.undef, a6.tmps.getD 41 Go.undef] = _
          rw [getD_int g40, agg4 g41]; rfl
        · have := edN_mono (v := v) (show k + 1 ≤ N by omega)
          rw [edN_t hed] at this
          simp only [List.length_append, List.length_singleton] at this
          exact this
        · rintro e W' (⟨rfl, hJ', hb'⟩ | ⟨rfl, hJx'⟩)
          · refine ⟨_, rfl, hK _ _ ?_⟩
            have hg7 : EG 45 ro W _ J _ (a6.put (some 42) (.bool true)) W' := hg6.next (d := 42) (b := true) (by decide) hb' hJ'
            rw [← edN_t hed] at hg7
            refine eg_in (rest := []) DA_ok (K := fun s => HasE s.env ((43, .bool false) :: itL Y ad cs X xs N k)) [_] _ _ _ _ _ (by kernel_rfl) ?_ (hg7.sim hro) ?_
            · clear fin hY hJ hJx hg hg2 hrig hmu hed hu hs5 hs6 hg6 hg7 hK hJ' hE5 hE6 hh5 g39 g40 g41
              repeat' first
                | (with_reducible refine gw_bool (fun _ => ?_) (fun _ => ?_))
                | (with_reducible refine condw_bool (fun _ => ?_) (fun _ => ?_))
                | simp [*, itL, HasE, envL]
            rintro s8 a8 ro8 lam8 w8 hE8 hs8
            refine wpIn_mono (cw_in (CW.of_cx (D := fun _ => none) DA_ok mixed (.cond (.tmp 43) .ret .skip) (fun e s => e = .normal ∧ HasE s.env (itL Y ad cs X xs N k)) _ (by kernel_rfl) ?_) hs8) ?_
            · obtain ⟨en, he⟩ := s8
              simp only [HasE, itL] at hE8
              clear fin hY hJ hJx hg hg2 hrig hmu hed hu hs5 hs6 hg6 hg7 hK hJ' hE5 hE6 hh5 g39 g40 g41 hs8
              repeat' first
                | (with_reducible refine gw_bool (fun _ => ?_) (fun _ => ?_))
                | (with_reducible refine condw_bool (fun _ => ?_) (fun _ => ?_))
                | simp [*, itL, HasE]
            rintro e a9 w9 ⟨s9, ro9, lam9, ⟨rfl, hE9⟩, -, hs9⟩
            exact .inl ⟨rfl, hg7.step hro hJ hs9 hE9 (hrig k)⟩
          · refine ⟨_, rfl, hK _ _ ?_⟩
            have hs7 : Sim (.of W') 45 (fun _ => False) (fun _ => none) ⟨upd (fun _ => .junk) 42 (.bool false), fun _ => none⟩ (a6.put (some 42) (.bool false)) W' := by
              refine sim_mk hg6.dfr (by simpa [Act.put] using hg6.size) (fun b hb => hb.elim) fun t => ?_
              rw [getD_put (Nat.lt_of_lt_of_le (by decide : 42 < 45) hg6.size)]
              by_cases h : t = 42
              · subst h; rw [upd_same, if_pos rfl]; exact .bool _
              · rw [upd_ne _ _ h]; exact .junk _
            refine eg_in (rest := []) DA_ok (K := fun s => s.env 43 = .bool true) [_] _ _ _ _ _ (by kernel_rfl) ?_ hs7 ?_
            · clear fin hY hJ hJx hg hg2 hrig hmu hed hu hs5 hs6 hg6 hs7 hK hJx' hE5 hE6 hh5 g39 g40 g41
              repeat' first
                | (with_reducible refine gw_bool (fun _ => ?_) (fun _ => ?_))
                | (with_reducible refine condw_bool (fun _ => ?_) (fun _ => ?_))
                | simp [*]
            rintro s8 a8 ro8 lam8 w8 r43 hs8
            refine wpIn_mono (cw_in (CW.of_cx (D := fun _ => none) DA_ok mixed (.cond (.tmp 43) .ret .skip) (fun e s => e = .ret) _ (by kernel_rfl) ?_) hs8) ?_
            · obtain ⟨en, he⟩ := s8
              simp only at r43
              clear fin hY hJ hJx hg hg2 hrig hmu hed hu hs5 hs6 hg6 hs7 hK hJx' hE5 hE6 hh5 g39 g40 g41 hs8
              repeat' first
                | (with_reducible refine gw_bool (fun _ => ?_) (fun _ => ?_))
                | (with_reducible refine condw_bool (fun _ => ?_) (fun _ => ?_))
                | simp [*]
            rintro e a9 w9 ⟨s9, ro9, lam9, rfl, -, hs9⟩
            exact .inr ⟨rfl, hs9.dfr, _, results_none rfl _ _ _, ⟨_, rfl⟩, .inr ⟨_, hJx _ _ _ hJx' hs9.below.below⟩⟩
    · rintro e a' w' (⟨rfl, hg'⟩ | ⟨rfl, hb⟩)
      · refine wpIn_mono (cw_in (CW.of_cx (D := fun _ => none) DA_ok mixed _ (fun e s => e = .normal ∧ HasE s.env (itL Y ad cs X xs N ((k + 1 : Nat) : Int))) _ (by kernel_rfl) ?_) (hg'.sim hro)) ?_
        · clear fin hY hJ hJx hg hg2 hrig hmu hg'
          repeat' first
            | (with_reducible refine gw_bool (fun _ => ?_) (fun _ => ?_))
            | (with_reducible refine condw_bool (fun _ => ?_) (fun _ => ?_))
            | simp [*, itL, HasE, envL]
        rintro e a3 w3 ⟨s3, ro3, lam3, ⟨rfl, hE3⟩, -, hs3⟩
        have hg3 := hg'.step hro hJ hs3 hE3 (hrig (k + 1))
        exact ⟨⟨k + 1, by omega, hg3⟩, hmu _ _ _ hg3⟩
      · exact hb
  · have f1 : ilt (k : Int) (N : Int) = false := ilt_f (by omega)
    refine wpIn_mono (cw_in (CW.of_cx (D := fun _ => none) DA_ok mixed _ (fun e s => e = .normal ∧ HasE s.env ((11, .bool false) :: itL Y ad cs X xs N k)) _ (by kernel_rfl) ?_) hsim) ?_
    · clear fin hY hJ hJx hsim hg hrig
      repeat' first
        | (with_reducible refine gw_bool (fun _ => ?_) (fun _ => ?_))
        | (with_reducible refine condw_bool (fun _ => ?_) (fun _ => ?_))
        | simp [*, itL, HasE, envL]
    rintro e a1 w1' ⟨s1, ro1, lam1, ⟨rfl, hE⟩, -, hs1⟩
    have hg1 := hg.step hro hJ hs1 hE ⟨rig_flat rfl, hrig k⟩
    clear hs1 hsim hE
    refine wpIn_seq ?_
    refine wpIn_mono (cw_in (CW.of_cx (D := fun _ => none) DA_ok mixed _ (fun e s => e = .exit 0 ∧ HasE s.env (itL Y ad cs X xs N k)) _ (by kernel_rfl) ?_) (hg1.sim hro)) ?_
    · clear fin hY hJ hJx hg hg1 hrig
      repeat' first
        | (with_reducible refine gw_bool (fun _ => ?_) (fun _ => ?_))
        | (with_reducible refine condw_bool (fun _ => ?_) (fun _ => ?_))
        | simp [*, itL, HasE, envL]
    rintro e a2 w2 ⟨s2, ro2, lam2, ⟨rfl, hE⟩, -, hs2⟩
    have hg2 := hg1.step hro hJ hs2 hE (hrig k)
    have hkN : k = N := by omega
    rw [show edN v k = edN v N by rw [hkN]] at hg2
    exact fin _ _ _ hg2 rfl
theorem it_ok (v : Vu) (ad : Addr) (ro : Nat → Prop) (w : World) (hro : ∀ b, ro b → b < w.heap.size) (hw : wfG v.s v.p v.g.length = true) (hcl : v.p.cl.length = v.s.qs.length) (hX : R0 w ro (.vrp ad v.cs) (.pointer (some ad))) :
    PIter Try.prog 85 #[.pointer (some ad)] Ed.arr ro (edg v) w := by
  intro m l J Jx W hk hJ hJx hY h0
  exact it_in m l v ad ro W (fun b hb => Nat.lt_of_lt_of_le (hro b hb) hk.1) hw hcl (hX.mono (fun b hb => hk.2 b hb) (fun _ h => h)) J Jx hJ hJx (fun pre x W1 _ => hY pre x W1) h0
theorem map_val_inj {α : Type} {p : α → Prop} : ∀ (a b : List { x // p x }), a.map Subtype.val = b.map Subtype.val → a = b
  | [], [], _ => rfl
  | [], _ :: _, h => by simp at h
  | _ :: _, [], h => by simp at h
  | x :: a, y :: b, h => by
    simp only [List.map_cons, List.cons.injEq] at h
    rw [Subtype.ext h.1, map_val_inj a b h.2]
theorem it_okS (v : Vu) (ad : Addr) (ro : Nat → Prop) (w : World) (hro : ∀ b, ro b → b < w.heap.size) (hw : wfG v.s v.p v.g.length = true) (hcl : v.p.cl.length = v.s.qs.length) (hX : R0 w ro (.vrp ad v.cs) (.pointer (some ad))) :
    PIter Try.prog 85 #[.pointer (some ad)] (fun x : { x : Ed // x ∈ edg v } => x.1.arr) ro (edg v).attach w := by
  intro m l J Jx W hk hJ hJx hY h0
  refine (it_in m l v ad ro W (fun b hb => Nat.lt_of_lt_of_le (hro b hb) hk.1) hw hcl (hX.mono (fun b hb => hk.2 b hb) (fun _ h => h)) (fun pre W => ∃ q : List { x : Ed // x ∈ edg v }, q.map Subtype.val = pre ∧ J q W) (fun pre W => ∃ q : List { x : Ed // x ∈ edg v }, q.map Subtype.val = pre ∧ Jx q W)
    (fun pre A B ⟨q, hq, hj⟩ hb => ⟨q, hq, hJ _ _ _ hj hb⟩) (fun pre A B ⟨q, hq, hj⟩ hb => ⟨q, hq, hJx _ _ _ hj hb⟩) ?_ ⟨[], rfl, h0⟩).mono ?_
  · rintro pre x W1 hx ⟨q, hq, hj⟩ hlt
    obtain ⟨fn, tmps, assign, body, hy, hR⟩ := hY q ⟨x, hx⟩ W1 hj (by rw [← hq] at hlt; simpa using hlt)
    refine ⟨fn, tmps, assign, body, hy, hR.mono fun e w' hr => ?_⟩
    rcases hr with ⟨he, hj', hk'⟩ | ⟨he, hj'⟩
    · exact .inl ⟨he, ⟨_, by simp [hq], hj'⟩, hk'⟩
    · exact .inr ⟨he, ⟨_, by simp [hq], hj'⟩⟩
  · rintro e W' ⟨he, ⟨q, hq, hj⟩ | ⟨pre, q, hq, hj⟩⟩
    · refine ⟨he, .inl ?_⟩
      have : q = (edg v).attach := map_val_inj _ _ (by rw [hq]; simp)
      rw [← this]; exact hj
    · exact ⟨he, .inr ⟨q, hj⟩⟩
end Go.Proofs.Ytcbddoopmkhlfaa
