/-
  Frequency: the upward crossings of a series, and the iterator over them.
-/
import Derived.Test.YtacmchjaldljjaaFrq
import Derived.Test.YtacmchjaldljjaaPv19
namespace Go.Proofs.Ytacmchjaldljjaa
open Go.Pv Go.RowKit
set_option linter.unusedSimpArgs false
set_option linter.unusedVariables false
set_option maxRecDepth 100000
set_option maxHeartbeats 400000

structure Pt where
  k : Int
  n : Int
  d : Int
def Pt.cs (p : Pt) : List V := [.int .i64 p.k, .int .i64 p.n, .int .i64 p.d]
def Pt.arr (p : Pt) : Array Value := #[.agg #[.int .i64 p.k, .int .i64 p.n, .int .i64 p.d]]
def upAt (l : List Int) (k : Nat) : Bool := ilt (l.getD k 0) 0 && !ilt (l.getD (k + 1) 0) 0
def ptAt (l : List Int) (k : Nat) : Pt := ⟨k, (low (-(l.getD k 0)) (l.getD (k + 1) 0 - l.getD k 0)).1, (low (-(l.getD k 0)) (l.getD (k + 1) 0 - l.getD k 0)).2⟩
def crsN (l : List Int) (n : Nat) : List Pt := ((List.range n).filter (upAt l)).map (ptAt l)
theorem crsN_t {l : List Int} {n : Nat} (h : upAt l n = true) : crsN l (n + 1) = crsN l n ++ [ptAt l n] := by
  simp [crsN, List.range_succ, List.filter_append, h]
theorem crsN_f {l : List Int} {n : Nat} (h : upAt l n = false) : crsN l (n + 1) = crsN l n := by
  simp [crsN, List.range_succ, List.filter_append, h]
theorem crsN_mono {l : List Int} {a b : Nat} (h : a ≤ b) : (crsN l a).length ≤ (crsN l b).length := by
  induction h with
  | refl => exact Nat.le_refl _
  | step _ ih =>
    rename_i m _
    cases hu : upAt l m
    · rw [crsN_f hu]; exact ih
    · rw [crsN_t hu]; simp; omega
theorem crsN_len (l : List Int) (n : Nat) : (crsN l n).length ≤ n := by
  simp only [crsN, List.length_map]
  exact Nat.le_trans (List.length_filter_le _ _) (by simp)
def crs (l : List Int) : List Pt := crsN l (l.length - 1)
theorem gD {l : List Int} {i : Nat} {x : Int} (h : l[i]? = some x) : l.getD i 0 = x := by rw [List.getD_eq_getElem?_getD, h]; rfl

/-- The iterator's frame between two statements. -/
structure Good (W : World) (ro : Nat → Prop) (ad : Addr) (Y : Value) (J : List Pt → World → Prop) (pre : List Pt) (k : Int) (a : Act) (w : World) : Prop where
  dfr : a.defers = []
  size : 52 ≤ a.tmps.size
  t0 : a.tmps.getD 0 Go.undef = Y
  t1 : a.tmps.getD 1 Go.undef = .pointer (some ad)
  t3 : a.tmps.getD 3 Go.undef = .int .i64 k
  kept : KR ro W w
  got : J pre w
def itE (Y : Value) (ad : Addr) (cs : List V) (k : Int) : Nat → V := upd (upd (upd (fun _ => .junk) 3 (.int .i64 k)) 1 (.vrp ad cs)) 0 (.val Y)
section
variable {W w : World} {ad : Addr} {Y : Value} {J : List Pt → World → Prop} {pre : List Pt} {k k' : Int} {a a1 : Act} {w1 : World} {ro ro1 : Nat → Prop} {lam1 : Lam} {s1 : St} {cs : List V}
theorem Good.sim (hg : Good W ro ad Y J pre k a w) (hro : ∀ b, ro b → b < W.heap.size) (hX : R0 W ro (.vrp ad cs) (.pointer (some ad))) : Sim (.of w) 52 ro (fun _ => none) ⟨itE Y ad cs k, fun _ => none⟩ a w := by
  refine sim_mk hg.dfr hg.size (fun b hb => Nat.lt_of_lt_of_le (hro b hb) hg.kept.1) fun t => ?_
  unfold itE
  by_cases h0 : t = 0
  · subst h0; rw [upd_same, hg.t0]; exact .val _
  · rw [upd_ne _ _ h0]
    by_cases h1 : t = 1
    · subst h1; rw [upd_same, hg.t1]; exact hX.mono (fun b hb => hg.kept.2 b hb) (fun _ h => h)
    · rw [upd_ne _ _ h1]
      by_cases h3 : t = 3
      · subst h3; rw [upd_same, hg.t3]; exact .int _ _
      · rw [upd_ne _ _ h3]; exact .junk _
theorem Good.step (hg : Good W ro ad Y J pre k a w) (hro : ∀ b, ro b → b < W.heap.size) (hJ : Ab J) (hs : Sim (.of w) 52 ro1 lam1 s1 a1 w1) (h0 : s1.env 0 = .val Y) (h1 : s1.env 1 = .vrp ad cs) (h3 : s1.env 3 = .int .i64 k') : Good W ro ad Y J pre k' a1 w1 := by
  have e0 := hs.env 0
  have e1 := hs.env 1
  have e3 := hs.env 3
  rw [h0] at e0
  rw [h1] at e1
  rw [h3] at e3
  exact ⟨hs.dfr, hs.size, getD_val e0, e1.vrp_rp.1, e3.int_inv, hg.kept.trans ⟨hs.below.size, fun b hb => hs.below.below.block b (Nat.lt_of_lt_of_le (hro b hb) hg.kept.1)⟩, hJ _ _ _ hg.got hs.below.below⟩
theorem Good.next (hg : Good W ro ad Y J pre k a w) {pre' : List Pt} {v : Value} {d : Nat} {w' : World} (hb : KR ro w w') (hJ : J pre' w') (h0 : d ≠ 0) (h1 : d ≠ 1) (h3 : d ≠ 3) : Good W ro ad Y J pre' k (a.put (some d) v) w' := by
  have hp : ∀ t, d ≠ t → (a.put (some d) v).tmps.getD t Go.undef = a.tmps.getD t Go.undef := fun t ht => by
    simp only [Act.put, Array.getD_eq_getD_getElem?, Array.getElem?_setIfInBounds, ht, if_false]
  exact ⟨hg.dfr, by simpa [Act.put] using hg.size, by rw [hp 0 h0]; exact hg.t0, by rw [hp 1 h1]; exact hg.t1, by rw [hp 3 h3]; exact hg.t3, hg.kept.trans hb, hJ⟩
end
theorem agg3 {w : World} {ro : Nat → Prop} {lam : Lam} {a b c : Int} {z : Value} (h : R w ro lam (.agg [.int .i64 a, .int .i64 b, .int .i64 c]) z) : z = .agg #[.int .i64 a, .int .i64 b, .int .i64 c] := by
  obtain ⟨arr, rfl, hl, hr⟩ := h.agg_inv
  have hl' : arr.size = 3 := hl
  have e0 : arr[0] = .int .i64 a := (hr 0 _ _ rfl (Array.getElem?_eq_getElem (by omega))).int_inv
  have e1 : arr[1] = .int .i64 b := (hr 1 _ _ rfl (Array.getElem?_eq_getElem (by omega))).int_inv
  have e2 : arr[2] = .int .i64 c := (hr 2 _ _ rfl (Array.getElem?_eq_getElem (by omega))).int_inv
  congr 1
  apply Array.ext
  · simpa using hl'
  · intro i h1 h2
    match i with
    | 0 => simpa using e0
    | 1 => simpa using e1
    | 2 => simpa using e2
    | i + 3 => simp at h2; omega
theorem getD_put_same {a : Act} {d : Nat} {v : Value} (h : d < a.tmps.size) : (a.put (some d) v).tmps.getD d Go.undef = v := by
  simp [Act.put, Array.getD_eq_getD_getElem?, Array.getElem?_setIfInBounds, h]
def muI (a : Act) (_ : World) : Nat := 1000 - (match a.tmps.getD 3 Go.undef with
  | .int _ k => k.toNat
  | _ => 0)
theorem muI_at {a : Act} {w : World} {k : Nat} (h : a.tmps.getD 3 Go.undef = .int .i64 k) : muI a w = 1000 - k := by simp [muI, h]

theorem iter_in (m l : Nat) (xs : List Int) (ad : Addr) (ro : Nat → Prop) (W : World) (hro : ∀ b, ro b → b < W.heap.size) (hlen : xs.length ≤ 240) (hsm : xs.all smp = true)
    (hX : R0 W ro (.vrp ad [.list 1 (xs.map il)]) (.pointer (some ad))) (J Jx : List Pt → World → Prop) (hJ : Ab J) (hJx : Ab Jx)
    (hY : ∀ pre x W1, J pre W1 → pre.length < (crs xs).length → YieldAt Fence.wide (m - 1) Try.prog l x.arr W1 fun e W' =>
      (e = .returned (.bool true) ∧ J (pre ++ [x]) W' ∧ KR ro W1 W') ∨ (e = .returned (.bool false) ∧ Jx (pre ++ [x]) W'))
    (h0 : J [] W) : CallsIn Fence.wide m Try.prog 27 #[.func (.yield l) #[] #[], .pointer (some ad)] W fun e W' => (∃ v, e = .returned v) ∧ (J (crs xs) W' ∨ ∃ pre, Jx pre W') := by
  refine callsIn_of_wp Try.func27 rfl trivial ?_ rfl
  rw [Try.ntmps27]
  obtain ⟨Y, hYv⟩ : ∃ Y : Value, Y = .func (.yield l) #[] #[] := ⟨_, rfl⟩
  rw [← hYv]
  obtain ⟨cs, hcs⟩ : ∃ cs : List V, cs = [.list 1 (xs.map il)] := ⟨_, rfl⟩
  rw [← hcs] at hX
  have hs0 := sim_ini (n := 52) (w := W) (ro := ro) (args := #[Y, .pointer (some ad)]) (vs := [.val Y, .vrp ad cs]) hro rfl (by simp) (fun j c x hc hx => by
    match j with
    | 0 => simp at hc hx; subst hc; subst hx; exact .val _
    | 1 => simp at hc hx; subst hc; subst hx; exact hX
    | j + 2 => simp at hc)
  refine wpIn_seq ?_
  refine wpIn_mono (cw_in (CW.of_cx (D := fun _ => none) G2_ok mixed _ (fun e s => e = .normal ∧ s.env 0 = .val Y ∧ s.env 1 = .vrp ad cs ∧ s.env 3 = .int .i64 0) _ (by kernel_rfl) ?_) hs0) ?_
  · skip
    repeat' first
      | (refine gw_bool (fun _ => ?_) (fun _ => ?_))
      | (refine condw_bool (fun _ => ?_) (fun _ => ?_))
      | simp [*]
  rintro e a w ⟨s1, ro1, lam1, ⟨rfl, e0, e1, e3⟩, -, hs1⟩
  have hg0 : Good W ro ad Y J [] 0 a w := by
    have f0 := hs1.env 0
    have f1 := hs1.env 1
    have f3 := hs1.env 3
    rw [e0] at f0
    rw [e1] at f1
    rw [e3] at f3
    exact ⟨hs1.dfr, hs1.size, getD_val f0, f1.vrp_rp.1, f3.int_inv, ⟨hs1.below.size, fun b hb => hs1.below.below.block b (hro b hb)⟩, hJ _ _ _ h0 hs1.below.below⟩
  clear hs1 hs0 e0 e1 e3
  refine wpIn_block ?_
  refine wpIn_loop (fun a w => ∃ k : Nat, k ≤ xs.length - 1 ∧ Good W ro ad Y J (crsN xs k) k a w) muI ⟨0, by omega, hg0⟩ ?_
  clear hg0 a w
  rintro a w ⟨k, hk, hg⟩
  have hsim := hg.sim hro hX
  have fin : ∀ (kk : Int) e a' w', Good W ro ad Y J (crsN xs (xs.length - 1)) kk a' w' → e = Exit.normal → bodyPost Try.prog Try.f27 (fun e W' => (∃ v, e = .returned v) ∧ (J (crs xs) W' ∨ ∃ pre, Jx pre W')) e a' w' := by
    rintro kk e a' w' hg' rfl
    exact ⟨hg'.dfr, _, results_none rfl _ _ _, ⟨_, rfl⟩, .inl hg'.got⟩
  obtain ⟨N, hN⟩ : ∃ N, xs.length = N := ⟨_, rfl⟩
  have w1 : IntKind.i64.wrap ((k : Int) + 1) = ((k + 1 : Nat) : Int) := wrap_succ (by omega)
  have p0 : (0 : Int) ≤ (k : Int) + 1 := by omega
  refine wpIn_seq ?_
  by_cases hlt : k + 1 < xs.length
  · have f1 : ilt ((k : Int) + 1) (N : Int) = true := ilt_t (by omega)
    refine wpIn_mono (cw_in (CW.of_cx (D := fun _ => none) G2_ok mixed _ (fun e s => e = .normal ∧ s.env 0 = .val Y ∧ s.env 1 = .vrp ad cs ∧ s.env 3 = .int .i64 k) _ (by kernel_rfl) ?_) hsim) ?_
    · rw [hcs]
      clear fin hY hJ hJx hsim hg
      repeat' first
        | (refine gw_bool (fun _ => ?_) (fun _ => ?_))
        | (refine condw_bool (fun _ => ?_) (fun _ => ?_))
        | simp [*, itE]
    rintro e a1 w1' ⟨s1, ro1, lam1, ⟨rfl, e0, e1, e3⟩, -, hs1⟩
    have hg1 := hg.step hro hJ hs1 e0 e1 e3
    clear hs1 hsim e0 e1 e3
    have hmu : ∀ (a' : Act) (w' : World), a'.tmps.getD 3 Go.undef = .int .i64 ((k + 1 : Nat) : Int) → muI a' w' < muI a w := fun a' w' h => by
      rw [muI_at h, muI_at hg.t3]; omega
    refine wpIn_seq (wpIn_mono (wpIn_block (Q := fun e a' w' => (e = .normal ∧ Good W ro ad Y J (crsN xs (k + 1)) k a' w') ∨ (e = .ret ∧ bodyPost Try.prog Try.f27 (fun e W' => (∃ v, e = .returned v) ∧ (J (crs xs) W' ∨ ∃ pre, Jx pre W')) .ret a' w')) ?_) ?_)
    · have hsim := hg1.sim hro hX
      obtain ⟨x, hx, hx'⟩ := at_ex (show k < xs.length by omega)
      obtain ⟨y, hy, hy'⟩ := at_ex (show k + 1 < xs.length by omega)
      have hup : upAt xs k = (ilt x 0 && !ilt y 0) := by rw [upAt, gD hx, gD hy]
      refine wpIn_seq ?_
      cases hu : upAt xs k
      · rw [hu] at hup
        refine wpIn_mono (cw_in (CW.of_cx (D := fun _ => none) G2_ok mixed _ (fun e s => e = .exit 1 ∧ s.env 0 = .val Y ∧ s.env 1 = .vrp ad cs ∧ s.env 3 = .int .i64 k) _ (by kernel_rfl) ?_) hsim) ?_
        · rw [hcs]
          clear fin hY hJ hJx hsim hg hg1 hmu hu
          cases c1 : ilt x 0
          · clear hup
            repeat' first
              | (refine gw_bool (fun _ => ?_) (fun _ => ?_))
              | (refine condw_bool (fun _ => ?_) (fun _ => ?_))
              | simp [*, itE, il]
          · have c2 : ilt y 0 = true := by simpa [c1] using hup.symm
            clear hup
            repeat' first
              | (refine gw_bool (fun _ => ?_) (fun _ => ?_))
              | (refine condw_bool (fun _ => ?_) (fun _ => ?_))
              | simp [*, itE, il]
        rintro e a1 w1' ⟨s1, ro1, lam1, ⟨rfl, e0, e1, e3⟩, -, hs1⟩
        have hg2 := hg1.step hro hJ hs1 e0 e1 e3
        rw [← crsN_f hu] at hg2
        exact .inl ⟨rfl, hg2⟩
      · rw [hu] at hup
        have c1 : ilt x 0 = true := by cases h : ilt x 0 <;> simp [h] at hup ⊢
        have c2 : ilt y 0 = false := by cases h : ilt y 0 <;> simp [h] at hup ⊢
        refine wpIn_mono (cw_in (CW.of_cx (D := fun _ => none) G2_ok mixed _ (fun e s => e = .normal ∧ s.env 0 = .val Y ∧ s.env 1 = .vrp ad cs ∧ s.env 3 = .int .i64 k) _ (by kernel_rfl) ?_) hsim) ?_
        · rw [hcs]
          clear fin hY hJ hJx hsim hg hg1 hmu hu hup
          repeat' first
            | (refine gw_bool (fun _ => ?_) (fun _ => ?_))
            | (refine condw_bool (fun _ => ?_) (fun _ => ?_))
            | simp [*, itE, il]
        rintro e a2 w2 ⟨s1, ro1, lam1, ⟨rfl, e0, e1, e3⟩, -, hs1⟩
        have hg2 := hg1.step hro hJ hs1 e0 e1 e3
        clear hs1 hsim e0 e1 e3
        have hsim := hg2.sim hro hX
        have hxs := smp_b (List.all_eq_true.1 hsm x (List.mem_of_getElem? hx))
        have hys := smp_b (List.all_eq_true.1 hsm y (List.mem_of_getElem? hy))
        have d1 := ilt_iff.1 c1
        have d2 := ilt_iff'.1 c2
        have v1 : IntKind.i64.wrap (-x) = -x := wrap_id (by omega) (by omega)
        have v2 : IntKind.i64.wrap (y - x) = y - x := wrap_id (by omega) (by omega)
        have q1 : 0 < y - x := by omega
        have q2 : y - x ≤ 4611686018427387904 := by omega
        have q3 : 0 ≤ -x := by omega
        have q4 : -x ≤ 4611686018427387904 := by omega
        have hpt : ptAt xs k = ⟨k, (low (-x) (y - x)).1, (low (-x) (y - x)).2⟩ := by rw [ptAt, gD hx, gD hy]
        obtain ⟨⟨pn, pd⟩, hl⟩ : ∃ r, low (-x) (y - x) = r := ⟨_, rfl⟩
        rw [hl] at hpt
        obtain ⟨mx, hmx⟩ : ∃ z, -x = z := ⟨_, rfl⟩
        obtain ⟨yx, hyx⟩ : ∃ z, y - x = z := ⟨_, rfl⟩
        rw [hmx] at v1 q3 q4 hl
        rw [hyx] at v2 q1 q2 hl
        refine wpIn_seq ?_
        refine wpIn_mono (cw_in (CW.of_cx (D := fun _ => none) G2_ok mixed _ (fun e s => e = .normal ∧ s.env 0 = .val Y ∧ s.env 1 = .vrp ad cs ∧ s.env 3 = .int .i64 k ∧ s.env 4 = .int .i64 pn ∧ s.env 5 = .int .i64 pd) _ (by kernel_rfl) ?_) hsim) ?_
        · rw [hcs]
          clear fin hY hJ hJx hsim hg hg1 hg2 hmu hu hup hxs hys d1 d2 hpt
          repeat' first
            | (refine gw_bool (fun _ => ?_) (fun _ => ?_))
            | (refine condw_bool (fun _ => ?_) (fun _ => ?_))
            | simp [*, itE, il, vI]
        rintro e a3 w3 ⟨s3, ro3, lam3, ⟨rfl, e0, e1, e3, e4, e5⟩, -, hs3⟩
        refine wpIn_seq ?_
        refine wpIn_region_list ?_
        rw [← List.take_append_drop 5 (Array.toList _)]
        refine eg_in G2_ok (K := fun s => s.env 0 = .val Y ∧ s.env 1 = .vrp ad cs ∧ s.env 3 = .int .i64 k ∧ s.env 45 = .val Y ∧ s.env 49 = .agg [.int .i64 k, .int .i64 pn, .int .i64 pd]) _ _ _ _ _ _ (by kernel_rfl) ?_ hs3 ?_
        · clear fin hY hJ hJx hsim hg hg1 hg2 hmu hu hup hxs hys d1 d2 hpt hs3
          obtain ⟨en, he⟩ := s3
          simp only at e0 e1 e3 e4 e5
          repeat' first
            | (refine gw_bool (fun _ => ?_) (fun _ => ?_))
            | (refine condw_bool (fun _ => ?_) (fun _ => ?_))
            | simp [*]
        rintro s4 a4 ro4 lam4 w4 ⟨g0, g1, g3, g45, g49⟩ hs4
        have hg4 := hg2.step hro hJ hs4 g0 g1 g3
        refine wpListIn_plain rfl fun K hK => ?_
        refine yield_in (l := l) (vals := (ptAt xs k).arr) rfl ?_ ?_ (hY _ (ptAt xs k) w4 hg4.got ?_) ?_
        · have := hs4.ev (.tmp 45)
          rw [show ev s4 (.tmp 45) = norm (s4.env 45) from rfl, g45] at this
          rw [getD_val this]; exact hYv
        · have := hs4.ev (.tmp 49)
          rw [show ev s4 (.tmp 49) = norm (s4.env 49) from rfl, g49] at this
          rw [hpt, Pt.arr]
          rw [← agg3 this]; simp only [List.map_toArray, List.map_cons, List.map_nil]
        · have := crsN_mono (l := xs) (show k + 1 ≤ xs.length - 1 by omega)
          rw [crsN_t hu] at this
          simp only [List.length_append, List.length_singleton] at this
          exact this
        · have hsz : 50 < a4.tmps.size := by have := hs4.size; omega
          rintro e W' (⟨rfl, hJ', hb'⟩ | ⟨rfl, hJx'⟩)
          · refine ⟨_, rfl, hK _ _ ?_⟩
            have hg5 : Good W ro ad Y J _ k (a4.put (some 50) (.bool true)) W' := hg4.next hb' hJ' (by decide) (by decide) (by decide)
            rw [← crsN_t hu] at hg5
            have hs5 := hg5.sim hro hX
            have hs6 : Sim (.of W') 52 ro (fun _ => none) ⟨upd (itE Y ad cs k) 50 (.bool true), fun _ => none⟩ (a4.put (some 50) (.bool true)) W' := by
              refine ⟨hs5.below, hs5.dfr, hs5.size, hs5.rolt, fun t => ?_, hs5.heap, hs5.dead, hs5.own, hs5.inj⟩
              show R W' ro _ (upd (itE Y ad cs k) 50 (.bool true) t) _
              by_cases h : t = 50
              · subst h; rw [upd_same, getD_put_same hsz]; exact .pure _ _ (.bool _)
              · rw [upd_ne _ _ h]; exact hs5.env t
            refine eg_in (rest := []) G2_ok (K := fun s => s.env 0 = .val Y ∧ s.env 1 = .vrp ad cs ∧ s.env 3 = .int .i64 k ∧ s.env 51 = .bool false) [_] _ _ _ _ _ (by kernel_rfl) ?_ hs6 ?_
            · clear fin hY hJ hJx hsim hg hg1 hg2 hmu hu hup hxs hys d1 d2 hpt hs3 hs4 hs5 hs6 hg4 hg5 hK hJ'
              repeat' first
                | (refine gw_bool (fun _ => ?_) (fun _ => ?_))
                | (refine condw_bool (fun _ => ?_) (fun _ => ?_))
                | simp [*, itE]
            rintro s6 a6 ro6 lam6 w6 ⟨r0, r1, r3, r51⟩ hs7
            refine wpIn_mono (cw_in (CW.of_cx (D := fun _ => none) G2_ok mixed (.cond (.tmp 51) .ret .skip) (fun e s => e = .normal ∧ s.env 0 = .val Y ∧ s.env 1 = .vrp ad cs ∧ s.env 3 = .int .i64 k) _ (by kernel_rfl) ?_) hs7) ?_
            · clear fin hY hJ hJx hsim hg hg1 hg2 hmu hu hup hxs hys d1 d2 hpt hs3 hs4 hs5 hs6 hs7 hg4 hg5 hK hJ'
              obtain ⟨en, he⟩ := s6
              simp only at r0 r1 r3 r51
              repeat' first
                | (refine gw_bool (fun _ => ?_) (fun _ => ?_))
                | (refine condw_bool (fun _ => ?_) (fun _ => ?_))
                | simp [*]
            rintro e a8 w8 ⟨s8, ro8, lam8, ⟨rfl, r0, r1, r3⟩, -, hs8⟩
            exact .inl ⟨rfl, hg5.step hro hJ hs8 r0 r1 r3⟩
          · refine ⟨_, rfl, hK _ _ ?_⟩
            have hs6 : Sim (.of W') 52 (fun _ => False) (fun _ => none) ⟨upd (fun _ => .junk) 50 (.bool false), fun _ => none⟩ (a4.put (some 50) (.bool false)) W' := by
              refine sim_mk hg4.dfr (by simpa [Act.put] using hg4.size) (fun b hb => hb.elim) fun t => ?_
              by_cases h : t = 50
              · subst h; rw [upd_same, getD_put_same hsz]; exact .bool _
              · rw [upd_ne _ _ h]; exact .junk _
            refine eg_in (rest := []) G2_ok (K := fun s => s.env 51 = .bool true) [_] _ _ _ _ _ (by kernel_rfl) ?_ hs6 ?_
            · clear fin hY hJ hJx hsim hg hg1 hg2 hmu hu hup hxs hys d1 d2 hpt hs3 hs4 hs6 hg4 hK hJx'
              repeat' first
                | (refine gw_bool (fun _ => ?_) (fun _ => ?_))
                | (refine condw_bool (fun _ => ?_) (fun _ => ?_))
                | simp [*]
            rintro s6 a6 ro6 lam6 w6 r51 hs7
            refine wpIn_mono (cw_in (CW.of_cx (D := fun _ => none) G2_ok mixed (.cond (.tmp 51) .ret .skip) (fun e s => e = .ret) _ (by kernel_rfl) ?_) hs7) ?_
            · clear fin hY hJ hJx hsim hg hg1 hg2 hmu hu hup hxs hys d1 d2 hpt hs3 hs4 hs6 hs7 hg4 hK hJx'
              obtain ⟨en, he⟩ := s6
              simp only at r51
              repeat' first
                | (refine gw_bool (fun _ => ?_) (fun _ => ?_))
                | (refine condw_bool (fun _ => ?_) (fun _ => ?_))
                | simp [*]
            rintro e a8 w8 ⟨s8, ro8, lam8, rfl, -, hs8⟩
            exact .inr ⟨rfl, hs8.dfr, _, results_none rfl _ _ _, ⟨_, rfl⟩, .inr ⟨_, hJx _ _ _ hJx' hs8.below.below⟩⟩
    · rintro e a' w' (⟨rfl, hg'⟩ | ⟨rfl, hb⟩)
      · refine wpIn_mono (cw_in (CW.of_cx (D := fun _ => none) G2_ok mixed _ (fun e s => e = .normal ∧ s.env 0 = .val Y ∧ s.env 1 = .vrp ad cs ∧ s.env 3 = .int .i64 ((k + 1 : Nat) : Int)) _ (by kernel_rfl) ?_) (hg'.sim hro hX)) ?_
        · clear fin hY hJ hJx hg hg1 hmu hg'
          repeat' first
            | (refine gw_bool (fun _ => ?_) (fun _ => ?_))
            | (refine condw_bool (fun _ => ?_) (fun _ => ?_))
            | simp [*, itE]
        rintro e a2 w2 ⟨s1, ro1, lam1, ⟨rfl, e0, e1, e3⟩, -, hs1⟩
        have hg2 := hg'.step hro hJ hs1 e0 e1 e3
        exact ⟨⟨k + 1, by omega, hg2⟩, hmu _ _ hg2.t3⟩
      · exact hb
  · have f1 : ilt ((k : Int) + 1) (N : Int) = false := ilt_f (by omega)
    refine wpIn_mono (cw_in (CW.of_cx (D := fun _ => none) G2_ok mixed _ (fun e s => e = .exit 0 ∧ s.env 0 = .val Y ∧ s.env 1 = .vrp ad cs ∧ s.env 3 = .int .i64 k) _ (by kernel_rfl) ?_) hsim) ?_
    · rw [hcs]
      clear fin hY hJ hJx hsim hg
      repeat' first
        | (refine gw_bool (fun _ => ?_) (fun _ => ?_))
        | (refine condw_bool (fun _ => ?_) (fun _ => ?_))
        | simp [*, itE]
    rintro e a1 w1' ⟨s1, ro1, lam1, ⟨rfl, e0, e1, e3⟩, -, hs1⟩
    have hg1 := hg.step hro hJ hs1 e0 e1 e3
    rw [show k = xs.length - 1 by omega] at hg1
    exact fin _ _ _ _ hg1 rfl
theorem iter_ok (xs : List Int) (ad : Addr) (ro : Nat → Prop) (w : World) (hro : ∀ b, ro b → b < w.heap.size) (hok : okS xs = true) (hX : R0 w ro (.vrp ad [.list 1 (xs.map il)]) (.pointer (some ad))) :
    PIter Try.prog 27 #[.pointer (some ad)] Pt.arr ro (crs xs) w := by
  simp only [okS, Bool.and_eq_true, decide_eq_true_eq] at hok
  intro m l J Jx W hk hJ hJx hY h0
  exact iter_in m l xs ad ro W (fun b hb => Nat.lt_of_lt_of_le (hro b hb) hk.1) hok.1 hok.2 (hX.mono (fun b hb => hk.2 b hb) (fun _ h => h)) J Jx hJ hJx hY h0
end Go.Proofs.Ytacmchjaldljjaa
