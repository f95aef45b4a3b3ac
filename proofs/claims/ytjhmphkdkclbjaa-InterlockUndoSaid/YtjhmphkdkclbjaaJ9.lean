/-
  Interlocked switching: operations of breakers.
  Interlocked switching: operations of disconnectors.
  Interlocked switching: what is allowed.
  Interlocked switching: an operation begins and ends.
  Interlocked switching: an operation ends.
  Interlocked switching: operations one after the other.
  Interlocked switching: the law's diagram of two buses, and its sanity check.
-/
import Derived.Test.YtjhmphkdkclbjaaJ8
import Derived.Test.YtjhmphkdkclbjaaJ6
import Derived.Test.YtjhmphkdkclbjaaJ7
section
namespace Go.Proofs.Ytjhmphkdkclbjaa
open Go.Pv Go.RowKit
set_option linter.unusedSimpArgs false
set_option linter.unusedVariables false
set_option maxRecDepth 100000
set_option maxHeartbeats 4000000
attribute [-simp] Tclo_at Tgrp_at Tchk Tpchk TcI TcB Tclo Tgrp Tsid Tnod Tlook Tbnd Tres TSd TBd Tix Tcon Tgps Tsg Tmv Tck Tkn Tjo

def isCp (s : Stn) (c : Nat) : Bool := match s.qs[c]? with
  | some k => ieq k.kind 3
  | none => false
def Ttr : List V → Option V
  | [.agg a, .agg b, .int .i64 c, .int .i64 i] => (match unStn a, unPos b with
    | some s, some p => if okP s p = true ∧ 0 ≤ c ∧ 0 ≤ i ∧ i < s.qs.length ∧ isCp s c.toNat = true then some (.bool (traF s p c.toNat i.toNat)) else none
    | _, _ => none)
  | _ => none
theorem Ttr_at {s : Stn} {p : Pos} {c i : Nat} (h : okP s p = true) (hi : i < s.qs.length) (hc : isCp s c = true) : Ttr [.agg [.str s.nm, .list 1 (s.bs.map s1), .list 5 (s.ls.map Ln.cs), .list 6 (s.ss.map Sr.cs), .list 12 (s.qs.map By.cs)], .agg [.list 1 (p.cl.map b1), .list 1 (p.lk.map r1)], .int .i64 c, .int .i64 i] = some (.bool (traF s p c i)) := by
  have e1 := unStn_cs s
  have e2 := unPos_cs p
  unfold Stn.cs at e1
  unfold Pos.cs at e2
  simp only [Ttr, e1, e2, Int.toNat_natCast]
  exact if_pos ⟨h, by omega, by omega, by omega, hc⟩
theorem tr_tab : ∀ vs v, Ttr vs = some v → PCall Try.prog 88 vs v := by
  intro vs v h; unfold Ttr at h; split at h
  · split at h
    · rename_i h1 h2
      split at h
      · rename_i hl
        obtain ⟨l1, l2, l3, l4, l5⟩ := hl
        cases h; rw [unStn_inv _ _ h1, unPos_inv _ _ h2]
        obtain ⟨c, rfl⟩ := Int.eq_ofNat_of_zero_le l2
        obtain ⟨i, rfl⟩ := Int.eq_ofNat_of_zero_le l3
        simp only [Int.toNat_natCast] at l5 ⊢
        unfold isCp at l5
        split at l5
        · rename_i k hk
          exact transferred_ok l1 hk l5 (by omega)
        · cases l5
      · cases h
    · cases h
  · cases h
def HT : Tab := add 88 Ttr (HQ)
theorem HT_at (f : FuncId) (vs : List V) : HT.at' f vs = if f = 88 then Ttr vs else HQ.at' f vs := rfl
theorem HT_fr (f : FuncId) : HT.fr f = if f = 88 then false else HQ.fr f := rfl
theorem HT_gb (f : FuncId) : HT.gb f = HQ.gb f := rfl
theorem HT_gv (f : FuncId) (vs : List V) : HT.gv f vs = HQ.gv f vs := rfl
attribute [simp] HT_at HT_fr HT_gb HT_gv Ttr
theorem HT_ok : TabOK Try.prog HT := by
  refine add_ok (HQ_ok) (by kernel_rfl) ?_
  · exact tr_tab
attribute [-simp] Ttr
def traA (s : Stn) (p : Pos) (b : Nat) : Bool := (List.range s.qs.length).any (traF s p b)
theorem traA_t {s : Stn} {p : Pos} {b i : Nat} (hi : i < s.qs.length) (h : traF s p b i = true) : traA s p b = true := by
  rw [traA, List.any_eq_true]
  exact ⟨i, by simpa using hi, h⟩
theorem traA_f {s : Stn} {p : Pos} {b : Nat} (h : ∀ i, i < s.qs.length → traF s p b i = false) : traA s p b = false := by
  rw [traA, List.any_eq_false]
  intro i hi
  have := h i (by simpa using hi)
  simp [this]
/-- What is answered to an operation of the breaker of bay b. -/
def swE (s : Stn) (p : Pos) (b : Nat) (c : Bool) : Int := match p.cl[b]? with
  | some z => if z = c then 44 else if (c || !isCp s b) = true then 0 else if traA s p b = true then 42 else 0
  | none => 0
theorem switching_ok {s : Stn} {p : Pos} (hok : okP s p = true) {b : Nat} {k : Int} {c : Bool} (hbl : b < s.qs.length) : PCall Try.prog 64 [.agg s.cs, .agg p.cs, .agg [.int .i64 b, .int .i64 k, .bool c]] (.int .i64 (swE s p b c)) := by
  have hF := fine_of (okP_iff hok).1
  have hP := pfine_of (okP_iff hok).2
  have hq := hF.nq
  have hnc := hP.nc
  obtain ⟨x, hb, hb'⟩ := at_ex (l := s.qs) (i := b) hbl
  obtain ⟨z, hz, hz'⟩ := at_ex (l := p.cl) (i := b) (by omega)
  have hT : Hid (isCp s b = true → ∀ i, i < s.qs.length → Ttr [.agg [.str s.nm, .list 1 (s.bs.map s1), .list 5 (s.ls.map Ln.cs), .list 6 (s.ss.map Sr.cs), .list 12 (s.qs.map By.cs)], .agg [.list 1 (p.cl.map b1), .list 1 (p.lk.map r1)], .int .i64 b, .int .i64 i] = some (.bool (traF s p b i))) := show _ from fun h i hi => Ttr_at hok hi h
  have htt : Hid (∀ i, i < s.qs.length → traF s p b i = true → traA s p b = true) := show _ from fun i hi h => traA_t hi h
  have htf : Hid ((∀ i, i < s.qs.length → traF s p b i = false) → traA s p b = false) := show _ from traA_f
  obtain ⟨n, hn⟩ : ∃ n, s.qs.length = n := ⟨_, rfl⟩
  rw [hn] at hq hbl hT htt htf hnc
  have b1' : (b : Int) < n := by omega
  have b2 : b + 1 ≤ n := by omega
  have hcp : isCp s b = ieq x.kind 3 := by simp [isCp, hb]
  have hv : swE s p b c = if z = c then 44 else if (c || !ieq x.kind 3) = true then 0 else if traA s p b = true then 42 else 0 := by simp [swE, hz, hcp]
  rw [hv]
  clear hv
  by_cases h1 : z = c
  · rw [if_pos h1]
    subst h1
    clear hT htt htf
    cases z
    · refine pcall_cx HT_ok mixed (fun _ => none) Try.func64 rfl Try.ntmps64 Try.results64 (by simp) (by kernel_rfl) ?_
      repeat' first
        | (with_reducible refine gw_bool (fun _ => ?_) (fun _ => ?_))
        | (with_reducible refine condw_bool (fun _ => ?_) (fun _ => ?_))
        | simp [*, Stn.cs, Pos.cs, By.cs, b1]
    · refine pcall_cx HT_ok mixed (fun _ => none) Try.func64 rfl Try.ntmps64 Try.results64 (by simp) (by kernel_rfl) ?_
      repeat' first
        | (with_reducible refine gw_bool (fun _ => ?_) (fun _ => ?_))
        | (with_reducible refine condw_bool (fun _ => ?_) (fun _ => ?_))
        | simp [*, Stn.cs, Pos.cs, By.cs, b1]
  · rw [if_neg h1]
    cases c
    · have hzt : z = true := by cases z <;> simp_all
      subst hzt
      clear h1
      cases q3 : ieq x.kind 3
      · rw [if_pos (by simp)]
        clear hT htt htf
        refine pcall_cx HT_ok mixed (fun _ => none) Try.func64 rfl Try.ntmps64 Try.results64 (by simp) (by kernel_rfl) ?_
        repeat' first
          | (with_reducible refine gw_bool (fun _ => ?_) (fun _ => ?_))
          | (with_reducible refine condw_bool (fun _ => ?_) (fun _ => ?_))
          | simp [*, Stn.cs, Pos.cs, By.cs, b1]
      · rw [if_neg (by simp)]
        replace hT := hT.out (by rw [hcp, q3])
        replace hT : Hid (_) := hT
        obtain ⟨R, hR⟩ : ∃ R, traA s p b = R := ⟨_, rfl⟩
        rw [hR] at htt htf ⊢
        refine pcall_cx HT_ok mixed (fun _ => none) Try.func64 rfl Try.ntmps64 Try.results64 (by simp) (by kernel_rfl) ?_
        repeat' first
          | (with_reducible refine gw_bool (fun _ => ?_) (fun _ => ?_))
          | (with_reducible refine condw_bool (fun _ => ?_) (fun _ => ?_))
          | simp [*, Stn.cs, Pos.cs, By.cs, b1]
        refine lp_go (D := (fun _ => none)) HT_ok mixed (by kernel_rfl) [3, 4, 5, 31] [3, 4, 5] (α := Nat) (fun i e h => i ≤ n ∧ e 32 = .int .i64 i ∧ ∀ j, j < i → traF s p b j = false) (fun i => n - i) 0 ?_ ?_
        · exact ⟨by omega, by simp, fun j hj => by omega⟩
        rintro i e h hk hkh ⟨hi, g54, hold⟩
        replace hold : Hid (_) := hold
        simp [Keep] at hk
        simp [KeepH] at hkh
        by_cases hlt : i < n
        · have f1 : ilt (i : Int) (n : Int) = true := ilt_t (by omega)
          have w1 : IntKind.i64.wrap ((i : Int) + 1) = ((i + 1 : Nat) : Int) := wrap_succ (by omega)
          have hTr := hT.out i hlt
          have hstep : Hid (traF s p b i = false → ∀ j, j < i + 1 → traF s p b j = false) := show _ from fun h j hj => by
            by_cases e : j = i
            · subst e; exact h
            · exact hold.out j (by omega)
          have htr := htt.out i hlt
          cases q4 : traF s p b i
          · have hnx : Hid (_) := hstep.out q4
            rw [q4] at hTr
            clear hT htt htf hold hstep htr q4
            repeat' first
              | (with_reducible refine gw_bool (fun _ => ?_) (fun _ => ?_))
              | (with_reducible refine condw_bool (fun _ => ?_) (fun _ => ?_))
              | simp [*]
            refine nxt_go (i + 1) (View.refl _ _) (by omega) (by simp [*, Keep, St.forget, scr, scrC]) (by simp [*, KeepH, St.forget, scr, scrC]) ?_
            exact ⟨by omega, by simp [*], hnx.out⟩
          · have hRt := htr q4
            subst hRt
            rw [q4] at hTr
            clear hT htt htf hold hstep htr q4
            repeat' first
              | (with_reducible refine gw_bool (fun _ => ?_) (fun _ => ?_))
              | (with_reducible refine condw_bool (fun _ => ?_) (fun _ => ?_))
              | simp [*]
        · have f1 : ilt (i : Int) (n : Int) = false := ilt_f (by omega)
          have e1 : i = n := by omega
          subst e1
          have hRf := htf.out hold.out
          subst hRf
          clear hT htt htf hold
          repeat' first
            | (with_reducible refine gw_bool (fun _ => ?_) (fun _ => ?_))
            | (with_reducible refine condw_bool (fun _ => ?_) (fun _ => ?_))
            | simp [*]
    · have hzf : z = false := by cases z <;> simp_all
      subst hzf
      rw [if_pos (by simp)]
      clear hT htt htf h1
      refine pcall_cx HT_ok mixed (fun _ => none) Try.func64 rfl Try.ntmps64 Try.results64 (by simp) (by kernel_rfl) ?_
      repeat' first
        | (with_reducible refine gw_bool (fun _ => ?_) (fun _ => ?_))
        | (with_reducible refine condw_bool (fun _ => ?_) (fun _ => ?_))
        | simp [*, Stn.cs, Pos.cs, By.cs, b1]
def Tsw : List V → Option V
  | [.agg a, .agg b, .agg [.int .i64 x, .int .i64 k, .bool c]] => (match unStn a, unPos b with
    | some s, some p => if okP s p = true ∧ 0 ≤ x ∧ x < s.qs.length then some (.int .i64 (swE s p x.toNat c)) else none
    | _, _ => none)
  | _ => none
theorem Tsw_at {s : Stn} {p : Pos} {b : Nat} {k : Int} {c : Bool} (h : okP s p = true) (hb : b < s.qs.length) : Tsw [.agg [.str s.nm, .list 1 (s.bs.map s1), .list 5 (s.ls.map Ln.cs), .list 6 (s.ss.map Sr.cs), .list 12 (s.qs.map By.cs)], .agg [.list 1 (p.cl.map b1), .list 1 (p.lk.map r1)], .agg [.int .i64 b, .int .i64 k, .bool c]] = some (.int .i64 (swE s p b c)) := by
  have e1 := unStn_cs s
  have e2 := unPos_cs p
  unfold Stn.cs at e1
  unfold Pos.cs at e2
  simp only [Tsw, e1, e2, Int.toNat_natCast]
  exact if_pos ⟨h, by omega, by omega⟩
theorem sw_tab : ∀ vs v, Tsw vs = some v → PCall Try.prog 64 vs v := by
  intro vs v h; unfold Tsw at h; split at h
  · split at h
    · rename_i h1 h2
      split at h
      · rename_i hl
        obtain ⟨l1, l2, l3⟩ := hl
        cases h; rw [unStn_inv _ _ h1, unPos_inv _ _ h2]
        rename_i x _ _ _ _
        obtain ⟨c, hc⟩ := Int.eq_ofNat_of_zero_le l2
        subst hc
        simp only [Int.toNat_natCast]
        exact switching_ok l1 (by omega)
      · cases h
    · cases h
  · cases h
end Go.Proofs.Ytjhmphkdkclbjaa
end
section
namespace Go.Proofs.Ytjhmphkdkclbjaa
open Go.Pv Go.RowKit
set_option linter.unusedSimpArgs false
set_option linter.unusedVariables false
set_option maxRecDepth 100000
set_option maxHeartbeats 4000000
attribute [-simp] Tclo_at Tgrp_at Tchk Tpchk TcI TcB Tclo Tgrp Tsid Tnod Tlook Tbnd Tres TSd TBd Tix Tcon Tgps Tsg Tmv Tck Tkn Tjo Ttr

/-- The other link that is closed. -/
def othL (l : List Int) (k : Nat) : Option Nat := match l, k with
  | [_, v], 0 => if ieq v 1 = true then some 1 else none
  | [u, _], 1 => if ieq u 1 = true then some 0 else none
  | _, _ => none
/-- The position in which the two links must be at one potential. -/
def movP (p : Pos) (b k : Nat) (l : List Int) (c : Bool) : Pos := if c = true then p else setR p b (l.set k 0)
def movE (s : Stn) (p : Pos) (b k : Nat) (c : Bool) : Int := match s.qs[b]?, p.lk[b]?, p.cl[b]? with
  | some x, some l, some z => (match othL l k with
    | some j => (match x.lks[k]?, x.lks[j]? with
      | some a, some d => if joiF s (movP p b k l c) a.bus d.bus = true then 0 else 41
      | _, _ => 0)
    | none => if z = true then 40 else 0)
  | _, _, _ => 0
theorem moving_ok {s : Stn} {p : Pos} (hok : okP s p = true) {b k : Nat} {x : By} {l : List Int} (hb : s.qs[b]? = some x) (hl : p.lk[b]? = some l) (hk : k < l.length) (k3 : ieq x.kind 3 = false) (c : Bool) : PCall Try.prog 66 [.agg s.cs, .agg p.cs, .agg [.int .i64 b, .int .i64 k, .bool c]] (.int .i64 (movE s p b k c)) := by
  have hF := fine_of (okP_iff hok).1
  have hP := pfine_of (okP_iff hok).2
  have hq := hF.nq
  have hnc := hP.nc
  have hnk := hP.nk
  have hbl := (List.getElem?_eq_some_iff.1 hb).1
  have hb' := (List.getElem?_eq_some_iff.1 hb).2
  have hl' := (List.getElem?_eq_some_iff.1 hl).2
  obtain ⟨z, hz, hz'⟩ := at_ex (l := p.cl) (i := b) (by omega)
  obtain ⟨hll, hlo⟩ := hP.row b x l hb hl
  obtain ⟨hbus, hx3, hx1, hx2⟩ := hF.lk x (List.mem_of_getElem? hb)
  have hT := Tcl_at (smC_of hok) hl
  obtain ⟨a1, a2, a3, a4, l1, r1', r2, r3, c1, c2, c3, c4⟩ := clo_pack (c := 430000) (K := 430099) rfl hl
  have hM0 : Hid (∀ row, chunks 1 s.qs.length ((p.lk.map r0).set b (.list 1 (row.map i1))) = (p.lk.set b row).map r1) := show _ from fun row => set_chunks hnk
  have hJp : Hid (∀ y z, Tjo [.agg [.str s.nm, .list 1 (s.bs.map s1), .list 5 (s.ls.map Ln.cs), .list 6 (s.ss.map Sr.cs), .list 12 (s.qs.map By.cs)], .agg [.list 1 (p.cl.map b1), .list 1 (p.lk.map r1)], .int .i64 y, .int .i64 z] = some (.bool (joiF s p y z))) := show _ from fun y z => Tjo_at hok
  have hJq : Hid (∀ row y z, row.length = x.lks.length → (∀ t ∈ row, okL x.kind t = true) → Tjo [.agg [.str s.nm, .list 1 (s.bs.map s1), .list 5 (s.ls.map Ln.cs), .list 6 (s.ss.map Sr.cs), .list 12 (s.qs.map By.cs)], .agg [.list 1 (p.cl.map b1), .list 1 ((p.lk.set b row).map r1)], .int .i64 y, .int .i64 z] = some (.bool (joiF s (setR p b row) y z))) := show _ from fun row y z h1 h2 => Tjo_at (p := setR p b row) (okP_set hok hb h1 h2)
  obtain ⟨n, hn⟩ : ∃ n, s.qs.length = n := ⟨_, rfl⟩
  rw [hn] at hq hbl hM0 hnc hnk
  obtain ⟨nc, hncc⟩ : ∃ n, p.cl.length = n := ⟨_, rfl⟩
  generalize hA : p.cl.map V.bool = A at hT a1 a2 a3 a4
  generalize hL : cloL b p.lk p.lk.length = L at hT l1
  rw [hncc] at a3 a4 hT hnc
  rw [hnk] at c1 hT
  subst hnc
  generalize hC : cloK 430099 b p.lk = C at l1 c1 c2 c3 c4
  clear hA hL hC
  have c3' : C[b]'(by omega) = .sl 430099 0 l.length 1 := (List.getElem?_eq_some_iff.1 c3).2
  have b1' : (b : Int) < nc := by omega
  have b2 : b + 1 ≤ nc := by omega
  have HX_ok := HR_ok b
  by_cases h1 : l.length = 1
  · obtain ⟨u, hu⟩ := List.length_eq_one_iff.1 h1
    subst hu
    have hk0 : k = 0 := by simp at hk; omega
    subst hk0
    have hv : movE s p b 0 c = if z = true then 40 else 0 := by simp [movE, hb, hl, hz, othL]
    rw [hv]
    clear hJp hJq hM0 hv hlo hbus hT a1 a2 a3 a4 l1 r1' r2 r3 c1 c2 c3 c4 c3'
    cases z
    · refine pcall_cx HX_ok mixed (fun _ => none) Try.func66 rfl Try.ntmps66 Try.results66 (by simp) (by kernel_rfl) ?_
      repeat' first
        | (with_reducible refine gw_bool (fun _ => ?_) (fun _ => ?_))
        | (with_reducible refine condw_bool (fun _ => ?_) (fun _ => ?_))
        | (refine lp_unroll (D := (fun _ => none)) HX_ok mixed (by kernel_rfl) ?_)
        | simp [*, Stn.cs, Pos.cs, By.cs, Lk.cs, i1, r1, b1]
    · refine pcall_cx HX_ok mixed (fun _ => none) Try.func66 rfl Try.ntmps66 Try.results66 (by simp) (by kernel_rfl) ?_
      repeat' first
        | (with_reducible refine gw_bool (fun _ => ?_) (fun _ => ?_))
        | (with_reducible refine condw_bool (fun _ => ?_) (fun _ => ?_))
        | (refine lp_unroll (D := (fun _ => none)) HX_ok mixed (by kernel_rfl) ?_)
        | simp [*, Stn.cs, Pos.cs, By.cs, Lk.cs, i1, r1, b1]
  · obtain ⟨u, v, huv⟩ := two_of (show l.length = 2 by omega)
    subst huv
    obtain ⟨a, d, had⟩ := two_of (show x.lks.length = 2 by rw [← hll]; rfl)
    have ok0 : okL x.kind 0 = true := by simp [okL, k3]
    have ok1 : okL x.kind 1 = true := by simp [okL, ieq]
    by_cases hk0 : k = 0
    · subst hk0
      cases q1 : ieq v 1
      · have hv : movE s p b 0 c = if z = true then 40 else 0 := by simp [movE, hb, hl, hz, othL, q1]
        rw [hv]
        clear hJp hJq hM0 hv hlo hbus hT a1 a2 a3 a4 l1 r1' r2 r3 c1 c2 c3 c4 c3' ok0 ok1
        cases z
        · refine pcall_cx HX_ok mixed (fun _ => none) Try.func66 rfl Try.ntmps66 Try.results66 (by simp) (by kernel_rfl) ?_
          repeat' first
            | (with_reducible refine gw_bool (fun _ => ?_) (fun _ => ?_))
            | (with_reducible refine condw_bool (fun _ => ?_) (fun _ => ?_))
            | (refine lp_unroll (D := (fun _ => none)) HX_ok mixed (by kernel_rfl) ?_)
            | simp [*, Stn.cs, Pos.cs, By.cs, Lk.cs, i1, r1, b1]
        · refine pcall_cx HX_ok mixed (fun _ => none) Try.func66 rfl Try.ntmps66 Try.results66 (by simp) (by kernel_rfl) ?_
          repeat' first
            | (with_reducible refine gw_bool (fun _ => ?_) (fun _ => ?_))
            | (with_reducible refine condw_bool (fun _ => ?_) (fun _ => ?_))
            | (refine lp_unroll (D := (fun _ => none)) HX_ok mixed (by kernel_rfl) ?_)
            | simp [*, Stn.cs, Pos.cs, By.cs, Lk.cs, i1, r1, b1]
      · have hv : movE s p b 0 c = if joiF s (movP p b 0 [u, v] c) a.bus d.bus = true then 0 else 41 := by simp [movE, hb, hl, hz, othL, q1, had]
        have e1 := ieq_iff.1 q1
        subst e1
        rw [hv]
        cases c
        · have hM := hM0.out [0, 1]
          have hJ := hJq.out [0, 1] a.bus d.bus (by simp [had]) (by intro t ht; simp at ht; rcases ht with rfl | rfl <;> assumption)
          have e3 : movP p b 0 [u, 1] false = setR p b [0, 1] := by simp [movP]
          rw [e3]
          generalize (p.lk.set b [0, 1]).map r1 = M at hM hJ
          simp only [List.map_cons, List.map_nil, i1] at hM
          simp only [List.map_cons, List.map_nil] at hT
          simp only [List.length_cons, List.length_nil, Nat.zero_add, Nat.reduceAdd] at c3 c4 c3'
          clear hJp hJq hM0 hv hlo hbus e3 ok0 ok1 r1' r2 r3
          cases q5 : joiF s (setR p b [0, 1]) a.bus d.bus
          · rw [q5] at hJ
            refine pcall_cx HX_ok mixed (fun _ => none) Try.func66 rfl Try.ntmps66 Try.results66 (by simp) (by kernel_rfl) ?_
            repeat' first
              | (with_reducible refine gw_bool (fun _ => ?_) (fun _ => ?_))
              | (with_reducible refine condw_bool (fun _ => ?_) (fun _ => ?_))
              | (refine lp_unroll (D := (fun _ => none)) HX_ok mixed (by kernel_rfl) ?_)
              | simp [*, Stn.cs, Pos.cs, By.cs, Lk.cs, i1, r1, b1, setsV]
          · rw [q5] at hJ
            refine pcall_cx HX_ok mixed (fun _ => none) Try.func66 rfl Try.ntmps66 Try.results66 (by simp) (by kernel_rfl) ?_
            repeat' first
              | (with_reducible refine gw_bool (fun _ => ?_) (fun _ => ?_))
              | (with_reducible refine condw_bool (fun _ => ?_) (fun _ => ?_))
              | (refine lp_unroll (D := (fun _ => none)) HX_ok mixed (by kernel_rfl) ?_)
              | simp [*, Stn.cs, Pos.cs, By.cs, Lk.cs, i1, r1, b1, setsV]
        · have hJ := hJp.out a.bus d.bus
          have e3 : movP p b 0 [u, 1] true = p := by simp [movP]
          rw [e3]
          clear hJp hJq hM0 hv hlo hbus e3 ok0 ok1 hT a1 a2 a3 a4 l1 r1' r2 r3 c1 c2 c3 c4 c3'
          cases q5 : joiF s p a.bus d.bus
          · rw [q5] at hJ
            refine pcall_cx HX_ok mixed (fun _ => none) Try.func66 rfl Try.ntmps66 Try.results66 (by simp) (by kernel_rfl) ?_
            repeat' first
              | (with_reducible refine gw_bool (fun _ => ?_) (fun _ => ?_))
              | (with_reducible refine condw_bool (fun _ => ?_) (fun _ => ?_))
              | (refine lp_unroll (D := (fun _ => none)) HX_ok mixed (by kernel_rfl) ?_)
              | simp [*, Stn.cs, Pos.cs, By.cs, Lk.cs, i1, r1, b1, setsV]
          · rw [q5] at hJ
            refine pcall_cx HX_ok mixed (fun _ => none) Try.func66 rfl Try.ntmps66 Try.results66 (by simp) (by kernel_rfl) ?_
            repeat' first
              | (with_reducible refine gw_bool (fun _ => ?_) (fun _ => ?_))
              | (with_reducible refine condw_bool (fun _ => ?_) (fun _ => ?_))
              | (refine lp_unroll (D := (fun _ => none)) HX_ok mixed (by kernel_rfl) ?_)
              | simp [*, Stn.cs, Pos.cs, By.cs, Lk.cs, i1, r1, b1, setsV]
    · have hk1 : k = 1 := by simp at hk; omega
      subst hk1
      cases q1 : ieq u 1
      · have hv : movE s p b 1 c = if z = true then 40 else 0 := by simp [movE, hb, hl, hz, othL, q1]
        rw [hv]
        clear hJp hJq hM0 hv hlo hbus hT a1 a2 a3 a4 l1 r1' r2 r3 c1 c2 c3 c4 c3' ok0 ok1
        cases z
        · refine pcall_cx HX_ok mixed (fun _ => none) Try.func66 rfl Try.ntmps66 Try.results66 (by simp) (by kernel_rfl) ?_
          repeat' first
            | (with_reducible refine gw_bool (fun _ => ?_) (fun _ => ?_))
            | (with_reducible refine condw_bool (fun _ => ?_) (fun _ => ?_))
            | (refine lp_unroll (D := (fun _ => none)) HX_ok mixed (by kernel_rfl) ?_)
            | simp [*, Stn.cs, Pos.cs, By.cs, Lk.cs, i1, r1, b1]
        · refine pcall_cx HX_ok mixed (fun _ => none) Try.func66 rfl Try.ntmps66 Try.results66 (by simp) (by kernel_rfl) ?_
          repeat' first
            | (with_reducible refine gw_bool (fun _ => ?_) (fun _ => ?_))
            | (with_reducible refine condw_bool (fun _ => ?_) (fun _ => ?_))
            | (refine lp_unroll (D := (fun _ => none)) HX_ok mixed (by kernel_rfl) ?_)
            | simp [*, Stn.cs, Pos.cs, By.cs, Lk.cs, i1, r1, b1]
      · have hv : movE s p b 1 c = if joiF s (movP p b 1 [u, v] c) d.bus a.bus = true then 0 else 41 := by simp [movE, hb, hl, hz, othL, q1, had]
        have e1 := ieq_iff.1 q1
        subst e1
        rw [hv]
        cases c
        · have hM := hM0.out [1, 0]
          have hJ := hJq.out [1, 0] d.bus a.bus (by simp [had]) (by intro t ht; simp at ht; rcases ht with rfl | rfl <;> assumption)
          have e3 : movP p b 1 [1, v] false = setR p b [1, 0] := by simp [movP]
          rw [e3]
          generalize (p.lk.set b [1, 0]).map r1 = M at hM hJ
          simp only [List.map_cons, List.map_nil, i1] at hM
          simp only [List.map_cons, List.map_nil] at hT
          simp only [List.length_cons, List.length_nil, Nat.zero_add, Nat.reduceAdd] at c3 c4 c3'
          clear hJp hJq hM0 hv hlo hbus e3 ok0 ok1 r1' r2 r3
          cases q5 : joiF s (setR p b [1, 0]) d.bus a.bus
          · rw [q5] at hJ
            refine pcall_cx HX_ok mixed (fun _ => none) Try.func66 rfl Try.ntmps66 Try.results66 (by simp) (by kernel_rfl) ?_
            repeat' first
              | (with_reducible refine gw_bool (fun _ => ?_) (fun _ => ?_))
              | (with_reducible refine condw_bool (fun _ => ?_) (fun _ => ?_))
              | (refine lp_unroll (D := (fun _ => none)) HX_ok mixed (by kernel_rfl) ?_)
              | simp [*, Stn.cs, Pos.cs, By.cs, Lk.cs, i1, r1, b1, setsV]
          · rw [q5] at hJ
            refine pcall_cx HX_ok mixed (fun _ => none) Try.func66 rfl Try.ntmps66 Try.results66 (by simp) (by kernel_rfl) ?_
            repeat' first
              | (with_reducible refine gw_bool (fun _ => ?_) (fun _ => ?_))
              | (with_reducible refine condw_bool (fun _ => ?_) (fun _ => ?_))
              | (refine lp_unroll (D := (fun _ => none)) HX_ok mixed (by kernel_rfl) ?_)
              | simp [*, Stn.cs, Pos.cs, By.cs, Lk.cs, i1, r1, b1, setsV]
        · have hJ := hJp.out d.bus a.bus
          have e3 : movP p b 1 [1, v] true = p := by simp [movP]
          rw [e3]
          clear hJp hJq hM0 hv hlo hbus e3 ok0 ok1 hT a1 a2 a3 a4 l1 r1' r2 r3 c1 c2 c3 c4 c3'
          cases q5 : joiF s p d.bus a.bus
          · rw [q5] at hJ
            refine pcall_cx HX_ok mixed (fun _ => none) Try.func66 rfl Try.ntmps66 Try.results66 (by simp) (by kernel_rfl) ?_
            repeat' first
              | (with_reducible refine gw_bool (fun _ => ?_) (fun _ => ?_))
              | (with_reducible refine condw_bool (fun _ => ?_) (fun _ => ?_))
              | (refine lp_unroll (D := (fun _ => none)) HX_ok mixed (by kernel_rfl) ?_)
              | simp [*, Stn.cs, Pos.cs, By.cs, Lk.cs, i1, r1, b1, setsV]
          · rw [q5] at hJ
            refine pcall_cx HX_ok mixed (fun _ => none) Try.func66 rfl Try.ntmps66 Try.results66 (by simp) (by kernel_rfl) ?_
            repeat' first
              | (with_reducible refine gw_bool (fun _ => ?_) (fun _ => ?_))
              | (with_reducible refine condw_bool (fun _ => ?_) (fun _ => ?_))
              | (refine lp_unroll (D := (fun _ => none)) HX_ok mixed (by kernel_rfl) ?_)
              | simp [*, Stn.cs, Pos.cs, By.cs, Lk.cs, i1, r1, b1, setsV]
end Go.Proofs.Ytjhmphkdkclbjaa
end
section
namespace Go.Proofs.Ytjhmphkdkclbjaa
open Go.Pv Go.RowKit
set_option linter.unusedSimpArgs false
set_option linter.unusedVariables false
set_option maxRecDepth 100000
set_option maxHeartbeats 4000000
attribute [-simp] Tclo_at Tgrp_at Tchk Tpchk TcI TcB Tclo Tgrp Tsid Tnod Tlook Tbnd Tres TSd TBd Tix Tcon Tgps Tsg Tmv Tck Tkn Tjo Ttr

def movOK (s : Stn) (p : Pos) (b k : Nat) : Bool := match s.qs[b]?, p.lk[b]? with
  | some x, some l => !ieq x.kind 3 && decide (k < l.length)
  | _, _ => false
def Tmg : List V → Option V
  | [.agg a, .agg b, .agg [.int .i64 x, .int .i64 k, .bool c]] => (match unStn a, unPos b with
    | some s, some p => if okP s p = true ∧ 0 ≤ x ∧ 0 ≤ k ∧ movOK s p x.toNat k.toNat = true then some (.int .i64 (movE s p x.toNat k.toNat c)) else none
    | _, _ => none)
  | _ => none
theorem Tmg_at {s : Stn} {p : Pos} {b k : Nat} {c : Bool} (h : okP s p = true) (hm : movOK s p b k = true) : Tmg [.agg [.str s.nm, .list 1 (s.bs.map s1), .list 5 (s.ls.map Ln.cs), .list 6 (s.ss.map Sr.cs), .list 12 (s.qs.map By.cs)], .agg [.list 1 (p.cl.map b1), .list 1 (p.lk.map r1)], .agg [.int .i64 b, .int .i64 k, .bool c]] = some (.int .i64 (movE s p b k c)) := by
  have e1 := unStn_cs s
  have e2 := unPos_cs p
  unfold Stn.cs at e1
  unfold Pos.cs at e2
  simp only [Tmg, e1, e2, Int.toNat_natCast]
  exact if_pos ⟨h, by omega, by omega, hm⟩
theorem mg_tab : ∀ vs v, Tmg vs = some v → PCall Try.prog 66 vs v := by
  intro vs v h; unfold Tmg at h; split at h
  · split at h
    · rename_i h1 h2
      split at h
      · rename_i hl
        obtain ⟨l1, l2, l3, l4⟩ := hl
        cases h; rw [unStn_inv _ _ h1, unPos_inv _ _ h2]
        rename_i x k _ _ _ _
        obtain ⟨c, hc⟩ := Int.eq_ofNat_of_zero_le l2
        obtain ⟨d, hd⟩ := Int.eq_ofNat_of_zero_le l3
        subst hc
        subst hd
        simp only [Int.toNat_natCast] at l4 ⊢
        unfold movOK at l4
        split at l4
        · rename_i y l hy hl
          simp only [Bool.and_eq_true, Bool.not_eq_true', decide_eq_true_eq] at l4
          exact moving_ok l1 hy hl l4.2 l4.1 _
        · cases l4
      · cases h
    · cases h
  · cases h
def HU : Tab := add 64 Tsw (add 66 Tmg (HT))
theorem HU_at (f : FuncId) (vs : List V) : HU.at' f vs = if f = 64 then Tsw vs else if f = 66 then Tmg vs else HT.at' f vs := rfl
theorem HU_fr (f : FuncId) : HU.fr f = if f = 64 then false else if f = 66 then false else HT.fr f := rfl
theorem HU_gb (f : FuncId) : HU.gb f = HT.gb f := rfl
theorem HU_gv (f : FuncId) (vs : List V) : HU.gv f vs = HT.gv f vs := rfl
attribute [simp] HU_at HU_fr HU_gb HU_gv Tmg Tsw
theorem HU_ok : TabOK Try.prog HU := by
  refine add_ok (add_ok (HT_ok) (by kernel_rfl) ?_) (by kernel_rfl) ?_
  · exact mg_tab
  · exact sw_tab
attribute [-simp] Tsw Tmg
def mvgR (p : Pos) (b : Nat) : Bool := match p.lk[b]? with
  | some l => decide ((2 : Int) ∈ l)
  | none => false
def idlR (p : Pos) (b k : Nat) (c : Bool) : Bool := match p.lk[b]? with
  | some l => (match l[k]? with
    | some y => ieq y (tgt c)
    | none => false)
  | none => false
/-- What is answered to an operation. -/
def alwE (s : Stn) (p : Pos) (o : Op') : Int :=
  if ieq (chkE s p) 0 = false then chkE s p else if knwF s o = false then 9 else if (isCp s o.bay.toNat && !ieq o.link (-1)) = true then 10 else if mvgR p o.bay.toNat = true then 43 else
    if ieq o.link (-1) = true then swE s p o.bay.toNat o.cl else if idlR p o.bay.toNat o.link.toNat o.cl = true then 44 else movE s p o.bay.toNat o.link.toNat o.cl
theorem knw_at {s : Stn} {o : Op'} (h : knwF s o = true) : ∃ (b : Nat) (x : By), o.bay = b ∧ s.qs[b]? = some x ∧ -1 ≤ o.link ∧ o.link < x.lks.length := by
  unfold knwF at h
  split at h
  · cases h
  · rename_i hc
    simp only [Bool.or_eq_true, not_or, Bool.not_eq_true, Bool.not_eq_true'] at hc
    obtain ⟨h1, h2⟩ := hc
    have p1 := ilt_iff'.1 h1
    obtain ⟨b, hb⟩ := Int.eq_ofNat_of_zero_le p1
    split at h
    · rename_i x hx
      rw [hb, Int.toNat_natCast] at hx
      simp only [Bool.and_eq_true, Bool.not_eq_true', ilt, decide_eq_true_eq, decide_eq_false_iff_not] at h
      exact ⟨b, x, hb, hx, by omega, h.2⟩
    · cases h
theorem allowed_ok {s : Stn} {p : Pos} {o : Op'} (hl : lenB s p = true) : PCall Try.prog 27 [.agg s.cs, .agg p.cs, .agg o.cs] (.int .i64 (alwE s p o)) := by
  have hT := Tck_at hl
  cases h0 : ieq (chkE s p) 0
  · have hv : alwE s p o = chkE s p := by simp [alwE, h0]
    rw [hv]
    clear hl
    refine pcall_cx HU_ok mixed (fun _ => none) Try.func27 rfl Try.ntmps27 Try.results27 (by simp) (by kernel_rfl) ?_
    repeat' first
      | (with_reducible refine gw_bool (fun _ => ?_) (fun _ => ?_))
      | (with_reducible refine condw_bool (fun _ => ?_) (fun _ => ?_))
      | simp [*, Stn.cs, Pos.cs, Op'.cs]
  · have hok : okP s p = true := by rw [← chkE_ok]; exact h0
    have hF := fine_of (okP_iff hok).1
    have hP := pfine_of (okP_iff hok).2
    have hK := Tkn_at (o := o) hF
    clear hl
    cases hkn : knwF s o
    · have hv : alwE s p o = 9 := by simp [alwE, h0, hkn]
      rw [hv]
      rw [hkn] at hK
      clear hkn
      refine pcall_cx HU_ok mixed (fun _ => none) Try.func27 rfl Try.ntmps27 Try.results27 (by simp) (by kernel_rfl) ?_
      repeat' first
        | (with_reducible refine gw_bool (fun _ => ?_) (fun _ => ?_))
        | (with_reducible refine condw_bool (fun _ => ?_) (fun _ => ?_))
        | simp [*, Stn.cs, Pos.cs, Op'.cs]
    · rw [hkn] at hK
      obtain ⟨b, x, hbb, hb, hlo, hhi⟩ := knw_at hkn
      obtain ⟨bay, lnk, c⟩ := o
      simp only at hbb hlo hhi hK
      subst hbb
      have hq := hF.nq
      have hnk := hP.nk
      have hbl := (List.getElem?_eq_some_iff.1 hb).1
      have hb' := (List.getElem?_eq_some_iff.1 hb).2
      obtain ⟨l, hl, hl'⟩ := at_ex (l := p.lk) (i := b) (by omega)
      obtain ⟨hll, hlok⟩ := hP.row b x l hb hl
      obtain ⟨hbus, hx3, hx1, hx2⟩ := hF.lk x (List.mem_of_getElem? hb)
      have hC := Tcon_at (l := l) (x := 2) (by omega)
      have hS := @Tsw_at s p b lnk c hok hbl
      have hM : Hid (∀ k : Nat, lnk = k → ieq x.kind 3 = false → Tmg [.agg [.str s.nm, .list 1 (s.bs.map s1), .list 5 (s.ls.map Ln.cs), .list 6 (s.ss.map Sr.cs), .list 12 (s.qs.map By.cs)], .agg [.list 1 (p.cl.map b1), .list 1 (p.lk.map r1)], .agg [.int .i64 b, .int .i64 lnk, .bool c]] = some (.int .i64 (movE s p b k c))) := show _ from fun k hk hx => by
        subst hk
        exact Tmg_at hok (by simp [movOK, hb, hl, hx]; omega)
      have hcp : isCp s b = ieq x.kind 3 := by simp [isCp, hb]
      have hmv : mvgR p b = decide ((2 : Int) ∈ l) := by simp [mvgR, hl]
      obtain ⟨n, hn⟩ : ∃ n, s.qs.length = n := ⟨_, rfl⟩
      rw [hn] at hq hbl hnk
      have b1' : (b : Int) < n := by omega
      have b2 : b + 1 ≤ n := by omega
      have hlm : l.length ≤ 1000000 := by omega
      have hv : alwE s p ⟨b, lnk, c⟩ = if (ieq x.kind 3 && !ieq lnk (-1)) = true then 10 else if decide ((2 : Int) ∈ l) = true then 43 else if ieq lnk (-1) = true then swE s p b c else if idlR p b lnk.toNat c = true then 44 else movE s p b lnk.toNat c := by
        simp [alwE, h0, hkn, hcp, hmv]
      rw [hv]
      clear hv hbus hlok hkn
      cases q1 : ieq lnk (-1)
      · cases q3 : ieq x.kind 3
        · obtain ⟨k, hk⟩ : ∃ k : Nat, lnk = k := Int.eq_ofNat_of_zero_le (by have := ieq_iff'.1 q1; omega)
          subst hk
          have hM' := hM.out k rfl q3
          obtain ⟨y, hy, hy'⟩ := at_ex (l := l) (i := k) (by omega)
          have hid : idlR p b k c = ieq y (tgt c) := by simp [idlR, hl, hy]
          simp only [Int.toNat_natCast, hid]
          obtain ⟨m, hm⟩ : ∃ m, l.length = m := ⟨_, rfl⟩
          rw [hm] at hll hlm
          have k1 : (k : Int) < m := by omega
          have k2 : k + 1 ≤ m := by omega
          generalize decide ((2 : Int) ∈ l) = B at hC ⊢
          clear hM hS hid hcp hmv
          cases B
          · cases q4 : ieq y (tgt c)
            · refine pcall_cx HU_ok mixed (fun _ => none) Try.func27 rfl Try.ntmps27 Try.results27 (by simp) (by kernel_rfl) ?_
              repeat' first
                | (with_reducible refine gw_bool (fun _ => ?_) (fun _ => ?_))
                | (with_reducible refine condw_bool (fun _ => ?_) (fun _ => ?_))
                | simp [*, Stn.cs, Pos.cs, Op'.cs, By.cs, i1, r1, Ttg]
            · refine pcall_cx HU_ok mixed (fun _ => none) Try.func27 rfl Try.ntmps27 Try.results27 (by simp) (by kernel_rfl) ?_
              repeat' first
                | (with_reducible refine gw_bool (fun _ => ?_) (fun _ => ?_))
                | (with_reducible refine condw_bool (fun _ => ?_) (fun _ => ?_))
                | simp [*, Stn.cs, Pos.cs, Op'.cs, By.cs, i1, r1, Ttg]
          · refine pcall_cx HU_ok mixed (fun _ => none) Try.func27 rfl Try.ntmps27 Try.results27 (by simp) (by kernel_rfl) ?_
            repeat' first
              | (with_reducible refine gw_bool (fun _ => ?_) (fun _ => ?_))
              | (with_reducible refine condw_bool (fun _ => ?_) (fun _ => ?_))
              | simp [*, Stn.cs, Pos.cs, Op'.cs, By.cs, i1, r1]
        · clear hM hS hcp hmv
          refine pcall_cx HU_ok mixed (fun _ => none) Try.func27 rfl Try.ntmps27 Try.results27 (by simp) (by kernel_rfl) ?_
          repeat' first
            | (with_reducible refine gw_bool (fun _ => ?_) (fun _ => ?_))
            | (with_reducible refine condw_bool (fun _ => ?_) (fun _ => ?_))
            | simp [*, Stn.cs, Pos.cs, Op'.cs, By.cs, i1, r1]
      · have e1 := ieq_iff.1 q1
        subst e1
        generalize decide ((2 : Int) ∈ l) = B at hC ⊢
        clear hM hcp hmv
        cases q3 : ieq x.kind 3
        · cases B
          · refine pcall_cx HU_ok mixed (fun _ => none) Try.func27 rfl Try.ntmps27 Try.results27 (by simp) (by kernel_rfl) ?_
            repeat' first
              | (with_reducible refine gw_bool (fun _ => ?_) (fun _ => ?_))
              | (with_reducible refine condw_bool (fun _ => ?_) (fun _ => ?_))
              | simp [*, Stn.cs, Pos.cs, Op'.cs, By.cs, i1, r1]
          · refine pcall_cx HU_ok mixed (fun _ => none) Try.func27 rfl Try.ntmps27 Try.results27 (by simp) (by kernel_rfl) ?_
            repeat' first
              | (with_reducible refine gw_bool (fun _ => ?_) (fun _ => ?_))
              | (with_reducible refine condw_bool (fun _ => ?_) (fun _ => ?_))
              | simp [*, Stn.cs, Pos.cs, Op'.cs, By.cs, i1, r1]
        · cases B
          · refine pcall_cx HU_ok mixed (fun _ => none) Try.func27 rfl Try.ntmps27 Try.results27 (by simp) (by kernel_rfl) ?_
            repeat' first
              | (with_reducible refine gw_bool (fun _ => ?_) (fun _ => ?_))
              | (with_reducible refine condw_bool (fun _ => ?_) (fun _ => ?_))
              | simp [*, Stn.cs, Pos.cs, Op'.cs, By.cs, i1, r1]
          · refine pcall_cx HU_ok mixed (fun _ => none) Try.func27 rfl Try.ntmps27 Try.results27 (by simp) (by kernel_rfl) ?_
            repeat' first
              | (with_reducible refine gw_bool (fun _ => ?_) (fun _ => ?_))
              | (with_reducible refine condw_bool (fun _ => ?_) (fun _ => ?_))
              | simp [*, Stn.cs, Pos.cs, Op'.cs, By.cs, i1, r1]
def Tal : List V → Option V
  | [.agg a, .agg b, .agg c] => (match unStn a, unPos b, unOp c with
    | some s, some p, some o => if lenB s p = true then some (.int .i64 (alwE s p o)) else none
    | _, _, _ => none)
  | _ => none
theorem Tal_at {s : Stn} {p : Pos} {o : Op'} (h : lenB s p = true) : Tal [.agg [.str s.nm, .list 1 (s.bs.map s1), .list 5 (s.ls.map Ln.cs), .list 6 (s.ss.map Sr.cs), .list 12 (s.qs.map By.cs)], .agg [.list 1 (p.cl.map b1), .list 1 (p.lk.map r1)], .agg [.int .i64 o.bay, .int .i64 o.link, .bool o.cl]] = some (.int .i64 (alwE s p o)) := by
  have e1 := unStn_cs s
  have e2 := unPos_cs p
  unfold Stn.cs at e1
  unfold Pos.cs at e2
  have e3 : unOp [.int .i64 o.bay, .int .i64 o.link, .bool o.cl] = some o := rfl
  simp [Tal, e1, e2, e3, h]
theorem al_tab : ∀ vs v, Tal vs = some v → PCall Try.prog 27 vs v := by
  intro vs v h; unfold Tal at h; split at h
  · split at h
    · rename_i h1 h2 h3
      split at h
      · rename_i hl; cases h; rw [unStn_inv _ _ h1, unPos_inv _ _ h2, unOp_inv _ _ h3]; exact allowed_ok hl
      · cases h
    · cases h
  · cases h
def HV : Tab := add 27 Tal (HU)
theorem HV_at (f : FuncId) (vs : List V) : HV.at' f vs = if f = 27 then Tal vs else HU.at' f vs := rfl
theorem HV_fr (f : FuncId) : HV.fr f = if f = 27 then false else HU.fr f := rfl
theorem HV_gb (f : FuncId) : HV.gb f = HU.gb f := rfl
theorem HV_gv (f : FuncId) (vs : List V) : HV.gv f vs = HU.gv f vs := rfl
attribute [simp] HV_at HV_fr HV_gb HV_gv Tal
theorem HV_ok : TabOK Try.prog HV := by
  refine add_ok (HU_ok) (by kernel_rfl) ?_
  · exact al_tab
attribute [-simp] Tal
def HW (b : Nat) : Tab := addG 67 (Tcl b) HV
theorem HW_at (b : Nat) (f : FuncId) (vs : List V) : (HW b).at' f vs = HV.at' f vs := rfl
theorem HW_fr (b : Nat) (f : FuncId) : (HW b).fr f = HV.fr f := rfl
theorem HW_gb (b : Nat) (f : FuncId) : (HW b).gb f = if f = 67 then true else HV.gb f := rfl
theorem HW_gv (b : Nat) (f : FuncId) (vs : List V) : (HW b).gv f vs = if f = 67 then Tcl b vs else HV.gv f vs := rfl
attribute [simp] HW_at HW_fr HW_gb HW_gv
theorem HW_ok (b : Nat) : TabOK Try.prog (HW b) := addG_ok HV_ok (by kernel_rfl) (cl_tab b)
end Go.Proofs.Ytjhmphkdkclbjaa
end
section
namespace Go.Proofs.Ytjhmphkdkclbjaa
open Go.Pv Go.RowKit
set_option linter.unusedSimpArgs false
set_option linter.unusedVariables false
set_option maxRecDepth 100000
set_option maxHeartbeats 4000000
attribute [-simp] Tclo_at Tgrp_at Tchk Tpchk TcI TcB Tclo Tgrp Tsid Tnod Tlook Tbnd Tres TSd TBd Tix Tcon Tgps Tsg Tmv Tck Tkn Tjo Ttr Tsw Tmg Tal

/-- What an allowed operation is like. -/
structure Alw (s : Stn) (p : Pos) (o : Op') (b : Nat) (x : By) (l : List Int) : Prop where
  ok : okP s p = true
  bay : o.bay = b
  qb : s.qs[b]? = some x
  lb : p.lk[b]? = some l
  len : l.length = x.lks.length
  nom : (2 : Int) ∉ l
  lnk : (o.link = -1 ∧ swE s p b o.cl = 0) ∨ ∃ k : Nat, o.link = k ∧ k < l.length ∧ ieq x.kind 3 = false ∧ l[k]? ≠ some (tgt o.cl) ∧ movE s p b k o.cl = 0
theorem alw_zero {s : Stn} {p : Pos} {o : Op'} (h : alwE s p o = 0) : ∃ b x l, Alw s p o b x l := by
  unfold alwE at h
  split at h
  · rename_i h0; rw [h] at h0; cases h0
  · rename_i h0
    have hok : okP s p = true := by rw [← chkE_ok]; simpa using h0
    have hP := pfine_of (okP_iff hok).2
    have hnk := hP.nk
    split at h
    · cases h
    · rename_i hkn
      obtain ⟨b, x, hbb, hb, hlo, hhi⟩ := knw_at (by simpa using hkn)
      have hbl := (List.getElem?_eq_some_iff.1 hb).1
      obtain ⟨l, hl, _⟩ := at_ex (l := p.lk) (i := b) (by omega)
      obtain ⟨hll, hlok⟩ := hP.row b x l hb hl
      rw [hbb, Int.toNat_natCast] at h
      have hcp : isCp s b = ieq x.kind 3 := by simp [isCp, hb]
      have hmv : mvgR p b = decide ((2 : Int) ∈ l) := by simp [mvgR, hl]
      rw [hcp, hmv] at h
      split at h
      · cases h
      · rename_i hk
        split at h
        · cases h
        · rename_i hm
          have hm' : (2 : Int) ∉ l := by simpa using hm
          refine ⟨b, x, l, hok, hbb, hb, hl, hll, hm', ?_⟩
          split at h
          · rename_i hq
            exact .inl ⟨ieq_iff.1 hq, h⟩
          · rename_i hq
            have hq' : ieq o.link (-1) = false := by simpa using hq
            obtain ⟨k, hkk⟩ : ∃ k : Nat, o.link = k := Int.eq_ofNat_of_zero_le (by have := ieq_iff'.1 hq'; omega)
            rw [hkk, Int.toNat_natCast] at h
            split at h
            · cases h
            · rename_i hi
              have hkl : k < l.length := by omega
              refine .inr ⟨k, hkk, hkl, ?_, ?_, h⟩
              · rw [hq'] at hk; simpa using hk
              · obtain ⟨y, hy, _⟩ := at_ex (l := l) (i := k) hkl
                simp only [idlR, hl, hy] at hi
                rw [hy]
                intro hc
                simp only [Option.some.injEq] at hc
                exact hi (ieq_iff.2 hc)
theorem set_same {α : Type} {l : List α} {b : Nat} {x : α} (h : l[b]? = some x) : l.set b x = l := by
  apply List.ext_getElem?
  intro i
  rw [List.getElem?_set]
  split
  · rename_i e; subst e
    have := (List.getElem?_eq_some_iff.1 h).1
    rw [if_pos this, h]
  · rfl
def begP (p : Pos) (o : Op') : Pos := if ieq o.link (-1) = true then ⟨p.cl.set o.bay.toNat o.cl, p.lk⟩ else match p.lk[o.bay.toNat]? with
  | some l => setR p o.bay.toNat (l.set o.link.toNat 2)
  | none => p
def nilP : V := .agg [.nils, .nils]
def begV (s : Stn) (p : Pos) (o : Op') : V := if ieq (alwE s p o) 0 = true then .tup [.agg (begP p o).cs, .int .i64 0] else .tup [nilP, .int .i64 (alwE s p o)]
theorem begin_ok {s : Stn} {p : Pos} {o : Op'} (hl : lenB s p = true) : PCall Try.prog 28 [.agg s.cs, .agg p.cs, .agg o.cs] (begV s p o) := by
  have hT := Tal_at (o := o) hl
  cases h0 : ieq (alwE s p o) 0
  · have hv : begV s p o = .tup [nilP, .int .i64 (alwE s p o)] := by simp [begV, h0]
    rw [hv, nilP]
    clear hl
    refine pcall_cx HV_ok mixed (fun _ => none) Try.func28 rfl Try.ntmps28 Try.results28 (by simp) (by kernel_rfl) ?_
    repeat' first
      | (with_reducible refine gw_bool (fun _ => ?_) (fun _ => ?_))
      | (with_reducible refine condw_bool (fun _ => ?_) (fun _ => ?_))
      | simp [*, Stn.cs, Pos.cs, Op'.cs, setsV]
  · have hv : begV s p o = .tup [.agg (begP p o).cs, .int .i64 0] := by simp [begV, h0]
    rw [hv]
    have h1 := ieq_iff.1 h0
    obtain ⟨b, x, l, hA⟩ := alw_zero h1
    rw [h1] at hT
    have hok := hA.ok
    have hb := hA.qb
    have hlb := hA.lb
    have hP := pfine_of (okP_iff hok).2
    have hnc := hP.nc
    have hnk := hP.nk
    have hbl := (List.getElem?_eq_some_iff.1 hb).1
    have hq := (fine_of (okP_iff hok).1).nq
    have hTc := Tcl_at (smC_of hok) hlb
    obtain ⟨a1, a2, a3, a4, l1, r1', r2, r3, c1, c2, c3, c4⟩ := clo_pack (c := 200000) (K := 200099) rfl hlb
    have hM0 : Hid (∀ row, chunks 1 s.qs.length ((p.lk.map r0).set b (.list 1 (row.map i1))) = (p.lk.set b row).map r1) := show _ from fun row => set_chunks hnk
    obtain ⟨bay, lnk, c⟩ := o
    have hbay := hA.bay
    have hcase := hA.lnk
    simp only at hbay hcase hT
    subst hbay
    have hA2 : Hid (chunks 1 p.cl.length ((p.cl.map V.bool).set b (.bool c)) = (p.cl.set b c).map b1) := show _ = _ by
      have := chunks_b1 (p.cl.set b c)
      rwa [List.length_set, List.map_set] at this
    have hA3 : ((p.cl.map V.bool).set b (.bool c)).any ownC = false := by rw [← List.map_set]; exact pure_b1 _
    have hch := chunks_i1 l
    obtain ⟨n, hn⟩ : ∃ n, s.qs.length = n := ⟨_, rfl⟩
    obtain ⟨m, hm⟩ : ∃ m, l.length = m := ⟨_, rfl⟩
    have hR2 : Hid (∀ k : Nat, chunks 1 m ((l.map (V.int .i64)).set k (.int .i64 2)) = (l.set k 2).map i1) := show _ from fun k => by
      have := chunks_i1 (l.set k 2)
      rwa [List.length_set, List.map_set, hm] at this
    have hR3 : Hid (∀ k : Nat, ((l.map (V.int .i64)).set k (.int .i64 2)).any ownC = false) := show _ from fun k => by rw [← List.map_set]; exact pure_i1 _
    rw [hn] at hq hbl hM0 hnc hnk
    generalize hAA : p.cl.map V.bool = A at hTc a1 a2 a3 a4 hA2 hA3
    generalize hLL : cloL b p.lk p.lk.length = L at hTc l1
    generalize hRR : l.map (V.int .i64) = R at hTc r1' r2 r3 hR2 hR3 hch
    rw [hnc] at a3 a4 hTc hA2
    rw [hnk] at c1 hTc
    rw [hm] at r3 c3 c4 hch
    generalize hC : cloK 200099 b p.lk = C at l1 c1 c2 c3 c4
    clear hAA hLL hRR hC
    have c3' : C[b]'(by omega) = .sl 200099 0 m 1 := (List.getElem?_eq_some_iff.1 c3).2
    have b1' : (b : Int) < n := by omega
    have b2 : b + 1 ≤ n := by omega
    have HX_ok := HW_ok b
    have hbp : begP p ⟨b, lnk, c⟩ = if ieq lnk (-1) = true then ⟨p.cl.set b c, p.lk⟩ else setR p b (l.set lnk.toNat 2) := by simp [begP, hlb]
    rw [hbp]
    clear hbp hv h0 h1 hA hl hP
    rcases hcase with ⟨rfl, _⟩ | ⟨k, rfl, hkl, k3, _, _⟩
    · have hM := hM0.out l
      rw [set_same hlb] at hM
      have hA2' := hA2.out
      rw [if_pos (by rfl)]
      simp only [Pos.cs]
      generalize (p.cl.set b c).map b1 = A4 at hA2' ⊢
      clear hM0 hR2 hR3 hA2
      refine pcall_cx HX_ok mixed (fun _ => none) Try.func28 rfl Try.ntmps28 Try.results28 (by simp) (by kernel_rfl) ?_
      repeat' first
        | (with_reducible refine gw_bool (fun _ => ?_) (fun _ => ?_))
        | (with_reducible refine condw_bool (fun _ => ?_) (fun _ => ?_))
        | simp [*, Stn.cs, Pos.cs, Op'.cs, setsV]
    · have hM := hM0.out (l.set k 2)
      have hR2' := hR2.out k
      have hR3' := hR3.out k
      generalize (l.set k 2).map i1 = M1 at hM hR2'
      have kk : ieq (k : Int) (-1) = false := by rw [ieq_iff']; omega
      rw [kk]
      simp only [Bool.false_eq_true, if_false, Int.toNat_natCast, setR, Pos.cs]
      have k1 : (k : Int) < m := by omega
      have k2 : k + 1 ≤ m := by omega
      generalize (p.lk.set b (l.set k 2)).map r1 = M at hM ⊢
      clear hM0 hR2 hR3 hA2 hA3 hch
      refine pcall_cx HX_ok mixed (fun _ => none) Try.func28 rfl Try.ntmps28 Try.results28 (by simp) (by kernel_rfl) ?_
      repeat' first
        | (with_reducible refine gw_bool (fun _ => ?_) (fun _ => ?_))
        | (with_reducible refine condw_bool (fun _ => ?_) (fun _ => ?_))
        | simp [*, Stn.cs, Pos.cs, Op'.cs, setsV]
end Go.Proofs.Ytjhmphkdkclbjaa
end
section
namespace Go.Proofs.Ytjhmphkdkclbjaa
open Go.Pv Go.RowKit
set_option linter.unusedSimpArgs false
set_option linter.unusedVariables false
set_option maxRecDepth 100000
set_option maxHeartbeats 4000000
attribute [-simp] Tclo_at Tgrp_at Tchk Tpchk TcI TcB Tclo Tgrp Tsid Tnod Tlook Tbnd Tres TSd TBd Tix Tcon Tgps Tsg Tmv Tck Tkn Tjo Ttr Tsw Tmg Tal

theorem begV_tup {s : Stn} {p : Pos} {o : Op'} : ∃ a b, begV s p o = .tup [a, b] := by
  unfold begV; split
  · exact ⟨_, _, rfl⟩
  · exact ⟨_, _, rfl⟩
def endP (p : Pos) (o : Op') : Pos := match p.lk[o.bay.toNat]? with
  | some l => if 0 ≤ o.link ∧ l[o.link.toNat]? = some 2 then setR p o.bay.toNat (l.set o.link.toNat (tgt o.cl)) else p
  | none => p
def endE (s : Stn) (p : Pos) (o : Op') : Int := if ieq (chkE s p) 0 = false then chkE s p else if knwF s o = false then 9 else 0
def endV (s : Stn) (p : Pos) (o : Op') : V := if ieq (endE s p o) 0 = true then .tup [.agg (endP p o).cs, .int .i64 0] else .tup [nilP, .int .i64 (endE s p o)]
theorem end_ok {s : Stn} {p : Pos} {o : Op'} (hl : lenB s p = true) : PCall Try.prog 29 [.agg s.cs, .agg p.cs, .agg o.cs] (endV s p o) := by
  have hT := Tck_at hl
  cases h0 : ieq (chkE s p) 0
  · have he : endE s p o = chkE s p := by simp [endE, h0]
    have hv : endV s p o = .tup [nilP, .int .i64 (chkE s p)] := by simp [endV, he, h0]
    rw [hv, nilP]
    clear hl he hv
    refine pcall_cx HV_ok mixed (fun _ => none) Try.func29 rfl Try.ntmps29 Try.results29 (by simp) (by kernel_rfl) ?_
    repeat' first
      | (with_reducible refine gw_bool (fun _ => ?_) (fun _ => ?_))
      | (with_reducible refine condw_bool (fun _ => ?_) (fun _ => ?_))
      | simp [*, Stn.cs, Pos.cs, Op'.cs, setsV]
  · have hok : okP s p = true := by rw [← chkE_ok]; exact h0
    have hF := fine_of (okP_iff hok).1
    have hP := pfine_of (okP_iff hok).2
    have hK := Tkn_at (o := o) hF
    clear hl
    cases hkn : knwF s o
    · have he : endE s p o = 9 := by simp [endE, h0, hkn]
      have hv : endV s p o = .tup [nilP, .int .i64 9] := by simp [endV, he]
      rw [hv, nilP]
      rw [hkn] at hK
      clear hkn he hv
      refine pcall_cx HV_ok mixed (fun _ => none) Try.func29 rfl Try.ntmps29 Try.results29 (by simp) (by kernel_rfl) ?_
      repeat' first
        | (with_reducible refine gw_bool (fun _ => ?_) (fun _ => ?_))
        | (with_reducible refine condw_bool (fun _ => ?_) (fun _ => ?_))
        | simp [*, Stn.cs, Pos.cs, Op'.cs, setsV]
    · rw [hkn] at hK
      have he : endE s p o = 0 := by simp [endE, h0, hkn]
      have hv : endV s p o = .tup [.agg (endP p o).cs, .int .i64 0] := by simp [endV, he]
      rw [hv]
      obtain ⟨b, x, hbb, hb, hlo, hhi⟩ := knw_at hkn
      obtain ⟨bay, lnk, c⟩ := o
      simp only at hbb hlo hhi hK
      subst hbb
      have hq := hF.nq
      have hnc := hP.nc
      have hnk := hP.nk
      have hbl := (List.getElem?_eq_some_iff.1 hb).1
      obtain ⟨l, hlb, hl'⟩ := at_ex (l := p.lk) (i := b) (by omega)
      obtain ⟨hll, hlok⟩ := hP.row b x l hb hlb
      have hTc := Tcl_at (smC_of hok) hlb
      obtain ⟨a1, a2, a3, a4, l1, r1', r2, r3, c1, c2, c3, c4⟩ := clo_pack (c := 240000) (K := 240099) rfl hlb
      have hM0 : Hid (∀ row, chunks 1 s.qs.length ((p.lk.map r0).set b (.list 1 (row.map i1))) = (p.lk.set b row).map r1) := show _ from fun row => set_chunks hnk
      have hch := chunks_i1 l
      obtain ⟨n, hn⟩ : ∃ n, s.qs.length = n := ⟨_, rfl⟩
      obtain ⟨m, hm⟩ : ∃ m, l.length = m := ⟨_, rfl⟩
      have hR2 : Hid (∀ (k : Nat) (t : Int), chunks 1 m ((l.map (V.int .i64)).set k (.int .i64 t)) = (l.set k t).map i1) := show _ from fun k t => by
        have := chunks_i1 (l.set k t)
        rwa [List.length_set, List.map_set, hm] at this
      have hR3 : Hid (∀ (k : Nat) (t : Int), ((l.map (V.int .i64)).set k (.int .i64 t)).any ownC = false) := show _ from fun k t => by rw [← List.map_set]; exact pure_i1 _
      have hR4 : Hid (∀ (k : Nat) (y : Int), l[k]? = some y → (l.map (V.int .i64))[k]? = some (.int .i64 y)) := show _ from fun k y h => by rw [List.getElem?_map, h]; rfl
      rw [hn] at hq hbl hM0 hnc hnk
      generalize hAA : p.cl.map V.bool = A at hTc a1 a2 a3 a4
      generalize hLL : cloL b p.lk p.lk.length = L at hTc l1
      generalize hRR : l.map (V.int .i64) = R at hTc r1' r2 r3 hR2 hR3 hR4 hch
      rw [hnc] at a3 a4 hTc
      rw [hnk] at c1 hTc
      rw [hm] at r3 c3 c4 hch
      generalize hC : cloK 240099 b p.lk = C at l1 c1 c2 c3 c4
      clear hAA hLL hRR hC
      have c3' : C[b]'(by omega) = .sl 240099 0 m 1 := (List.getElem?_eq_some_iff.1 c3).2
      have b1' : (b : Int) < n := by omega
      have b2 : b + 1 ≤ n := by omega
      have HX_ok := HW_ok b
      have hbp : endP p ⟨b, lnk, c⟩ = if 0 ≤ lnk ∧ l[lnk.toNat]? = some 2 then setR p b (l.set lnk.toNat (tgt c)) else p := by simp [endP, hlb]
      rw [hbp]
      have hMs := hM0.out l
      rw [set_same hlb] at hMs
      clear hbp hv he hP hkn hlok
      cases q1 : ieq lnk (-1)
      · obtain ⟨k, rfl⟩ : ∃ k : Nat, lnk = k := Int.eq_ofNat_of_zero_le (by have := ieq_iff'.1 q1; omega)
        have k1 : (k : Int) < m := by omega
        have k2 : k + 1 ≤ m := by omega
        obtain ⟨y, hy, hy'⟩ := at_ex (l := l) (i := k) (by omega)
        have hRy := hR4.out k y hy
        have hRy' : R[k]'(by omega) = .int .i64 y := (List.getElem?_eq_some_iff.1 hRy).2
        simp only [Int.toNat_natCast, hy]
        cases q2 : ieq y 2
        · rw [if_neg (by rintro ⟨_, hh⟩; simp only [Option.some.injEq] at hh; exact ieq_iff'.1 q2 hh)]
          clear hM0 hR2 hR3 hR4
          refine pcall_cx HX_ok mixed (fun _ => none) Try.func29 rfl Try.ntmps29 Try.results29 (by simp) (by kernel_rfl) ?_
          repeat' first
            | (with_reducible refine gw_bool (fun _ => ?_) (fun _ => ?_))
            | (with_reducible refine condw_bool (fun _ => ?_) (fun _ => ?_))
            | simp [*, Stn.cs, Pos.cs, Op'.cs, setsV, Ttg]
        · have e2 := ieq_iff.1 q2
          subst e2
          rw [if_pos ⟨by omega, rfl⟩]
          have hM := hM0.out (l.set k (tgt c))
          have hR2' := hR2.out k (tgt c)
          have hR3' := hR3.out k (tgt c)
          generalize (l.set k (tgt c)).map i1 = M1 at hM hR2'
          simp only [setR, Pos.cs]
          generalize (p.lk.set b (l.set k (tgt c))).map r1 = M at hM ⊢
          clear hM0 hR2 hR3 hR4 hMs hch
          refine pcall_cx HX_ok mixed (fun _ => none) Try.func29 rfl Try.ntmps29 Try.results29 (by simp) (by kernel_rfl) ?_
          repeat' first
            | (with_reducible refine gw_bool (fun _ => ?_) (fun _ => ?_))
            | (with_reducible refine condw_bool (fun _ => ?_) (fun _ => ?_))
            | simp [*, Stn.cs, Pos.cs, Op'.cs, setsV, Ttg]
      · have e1 := ieq_iff.1 q1
        subst e1
        rw [if_neg (by rintro ⟨hh, _⟩; omega)]
        clear hM0 hR2 hR3 hR4
        refine pcall_cx HX_ok mixed (fun _ => none) Try.func29 rfl Try.ntmps29 Try.results29 (by simp) (by kernel_rfl) ?_
        repeat' first
          | (with_reducible refine gw_bool (fun _ => ?_) (fun _ => ?_))
          | (with_reducible refine condw_bool (fun _ => ?_) (fun _ => ?_))
          | simp [*, Stn.cs, Pos.cs, Op'.cs, setsV, Ttg]
end Go.Proofs.Ytjhmphkdkclbjaa
end
section
namespace Go.Proofs.Ytjhmphkdkclbjaa
open Go.Pv Go.RowKit
set_option linter.unusedSimpArgs false
set_option linter.unusedVariables false
set_option maxRecDepth 100000
set_option maxHeartbeats 4000000
attribute [-simp] Tclo_at Tgrp_at Tchk Tpchk TcI TcB Tclo Tgrp Tsid Tnod Tlook Tbnd Tres TSd TBd Tix Tcon Tgps Tsg Tmv Tck Tkn Tjo Ttr Tsw Tmg Tal

def Tbe : List V → Option V
  | [.agg a, .agg b, .agg c] => (match unStn a, unPos b, unOp c with
    | some s, some p, some o => if lenB s p = true then some (begV s p o) else none
    | _, _, _ => none)
  | _ => none
theorem Tbe_at {s : Stn} {p : Pos} {o : Op'} (h : lenB s p = true) : Tbe [.agg [.str s.nm, .list 1 (s.bs.map s1), .list 5 (s.ls.map Ln.cs), .list 6 (s.ss.map Sr.cs), .list 12 (s.qs.map By.cs)], .agg [.list 1 (p.cl.map b1), .list 1 (p.lk.map r1)], .agg [.int .i64 o.bay, .int .i64 o.link, .bool o.cl]] = some (begV s p o) := by
  have e1 := unStn_cs s
  have e2 := unPos_cs p
  unfold Stn.cs at e1
  unfold Pos.cs at e2
  have e3 : unOp [.int .i64 o.bay, .int .i64 o.link, .bool o.cl] = some o := rfl
  simp [Tbe, e1, e2, e3, h]
theorem be_tab : ∀ vs v, Tbe vs = some v → PCall Try.prog 28 vs v := by
  intro vs v h; unfold Tbe at h; split at h
  · split at h
    · rename_i h1 h2 h3
      split at h
      · rename_i hl; cases h; rw [unStn_inv _ _ h1, unPos_inv _ _ h2, unOp_inv _ _ h3]; exact begin_ok hl
      · cases h
    · cases h
  · cases h
def Ten : List V → Option V
  | [.agg a, .agg b, .agg c] => (match unStn a, unPos b, unOp c with
    | some s, some p, some o => if lenB s p = true then some (endV s p o) else none
    | _, _, _ => none)
  | _ => none
theorem Ten_at {s : Stn} {p : Pos} {o : Op'} (h : lenB s p = true) : Ten [.agg [.str s.nm, .list 1 (s.bs.map s1), .list 5 (s.ls.map Ln.cs), .list 6 (s.ss.map Sr.cs), .list 12 (s.qs.map By.cs)], .agg [.list 1 (p.cl.map b1), .list 1 (p.lk.map r1)], .agg [.int .i64 o.bay, .int .i64 o.link, .bool o.cl]] = some (endV s p o) := by
  have e1 := unStn_cs s
  have e2 := unPos_cs p
  unfold Stn.cs at e1
  unfold Pos.cs at e2
  have e3 : unOp [.int .i64 o.bay, .int .i64 o.link, .bool o.cl] = some o := rfl
  simp [Ten, e1, e2, e3, h]
theorem en_tab : ∀ vs v, Ten vs = some v → PCall Try.prog 29 vs v := by
  intro vs v h; unfold Ten at h; split at h
  · split at h
    · rename_i h1 h2 h3
      split at h
      · rename_i hl; cases h; rw [unStn_inv _ _ h1, unPos_inv _ _ h2, unOp_inv _ _ h3]; exact end_ok hl
      · cases h
    · cases h
  · cases h
def Tcp : List V → Option (V × List (Nat × Blk))
  | [.agg a] => (match unPos a with
    | some p => if smC p = true then some (.agg [.sl 9 0 p.cl.length 1, .sl 13 0 p.lk.length 1], [(9, ⟨4, p.cl.map V.bool⟩), (13, ⟨42, p.lk.map r0⟩)]) else none
    | none => none)
  | _ => none
theorem Tcp_at {p : Pos} (h : smC p = true) : Tcp [.agg [.list 1 (p.cl.map b1), .list 1 (p.lk.map r1)]] = some (.agg [.sl 9 0 p.cl.length 1, .sl 13 0 p.lk.length 1], [(9, ⟨4, p.cl.map V.bool⟩), (13, ⟨42, p.lk.map r0⟩)]) := by
  have e2 := unPos_cs p
  unfold Pos.cs at e2
  simp [Tcp, e2, h]
theorem cp_tab : ∀ vs u bl, Tcp vs = some (u, bl) → PGive Try.prog 67 vs u bl := by
  intro vs u bl h; unfold Tcp at h; split at h
  · split at h
    · rename_i h1
      split at h
      · rename_i hl
        cases h; rw [unPos_inv _ _ h1]
        simp only [smC, Bool.and_eq_true, decide_eq_true_eq, List.all_eq_true] at hl
        obtain ⟨l1, l2, l3⟩ := hl
        exact clone_plain _ (by omega) (by omega) (fun l hl => by have := l3 l hl; omega)
      · cases h
    · cases h
  · cases h
def HY : Tab := add 28 Tbe (add 29 Ten (addG 67 Tcp (HV)))
theorem HY_at (f : FuncId) (vs : List V) : HY.at' f vs = if f = 28 then Tbe vs else if f = 29 then Ten vs else HV.at' f vs := rfl
theorem HY_fr (f : FuncId) : HY.fr f = if f = 28 then false else if f = 29 then false else HV.fr f := rfl
theorem HY_gb (f : FuncId) : HY.gb f = if f = 67 then true else HV.gb f := rfl
theorem HY_gv (f : FuncId) (vs : List V) : HY.gv f vs = if f = 67 then Tcp vs else HV.gv f vs := rfl
attribute [simp] HY_at HY_fr HY_gb HY_gv Tbe Tcp Ten
theorem HY_ok : TabOK Try.prog HY := by
  refine add_ok (add_ok (addG_ok (HV_ok) (by kernel_rfl) ?_) (by kernel_rfl) ?_) (by kernel_rfl) ?_
  · exact cp_tab
  · exact en_tab
  · exact be_tab
attribute [-simp] Tbe Ten Tcp
/-- The position, the index and the error of the first operation that is not allowed. -/
def seqR (s : Stn) : List Op' → Pos → Nat → Pos × Nat × Int
  | [], p, _ => (p, 0, 0)
  | o :: l, p, i => if ieq (alwE s p o) 0 = false then (p, i, alwE s p o) else if ieq (endE s (begP p o) o) 0 = false then (p, i, endE s (begP p o) o) else seqR s l (endP (begP p o) o) (i + 1)
def seqV (s : Stn) (p : Pos) (l : List Op') : V := .tup [.agg (seqR s l p 0).1.cs, .int .i64 ((seqR s l p 0).2.1 : Nat), .int .i64 (seqR s l p 0).2.2]
theorem pfine_cl {s : Stn} {p : Pos} (h : PFine s p) {b : Nat} {c : Bool} : PFine s ⟨p.cl.set b c, p.lk⟩ := ⟨by simp [h.nc], h.nk, h.row⟩
theorem begP_ok {s : Stn} {p : Pos} {o : Op'} (h : alwE s p o = 0) : okP s (begP p o) = true := by
  obtain ⟨b, x, l, hA⟩ := alw_zero h
  obtain ⟨h1, h2⟩ := okP_iff hA.ok
  unfold begP
  rw [hA.bay, Int.toNat_natCast]
  split
  · simp [okP, h1, posE_of (pfine_cl (pfine_of h2) (b := b) (c := o.cl))]
  · rename_i hq
    simp only [hA.lb]
    rcases hA.lnk with ⟨hh, _⟩ | ⟨k, hk, hkl, k3, _, _⟩
    · exact absurd (ieq_iff.2 hh) hq
    · refine okP_set hA.ok hA.qb (by simp [hA.len]) fun y hy => ?_
      rcases List.mem_or_eq_of_mem_set hy with hm | rfl
      · exact ((pfine_of h2).row b x l hA.qb hA.lb).2 y hm
      · simp [okL, k3]
theorem endE_zero {s : Stn} {p : Pos} {o : Op'} (h : alwE s p o = 0) : endE s (begP p o) o = 0 := by
  have h1 := begP_ok h
  have h2 : ieq (chkE s (begP p o)) 0 = true := by rw [chkE_ok]; exact h1
  obtain ⟨b, x, l, hA⟩ := alw_zero h
  have hkn : knwF s o = true := by
    unfold alwE at h
    split at h
    · rename_i h0; rw [h] at h0; cases h0
    · split at h
      · cases h
      · rename_i hh; simpa using hh
  simp [endE, h2, hkn]
theorem endP_ok {s : Stn} {p : Pos} {o : Op'} (h : okP s p = true) (hk : knwF s o = true) : okP s (endP p o) = true := by
  obtain ⟨b, x, hbb, hb, hlo, hhi⟩ := knw_at hk
  obtain ⟨h1, h2⟩ := okP_iff h
  unfold endP
  rw [hbb, Int.toNat_natCast]
  split
  · rename_i l hl
    split
    · rename_i hc
      obtain ⟨hll, hlo⟩ := (pfine_of h2).row b x l hb hl
      refine okP_set h hb (by simp [hll]) fun y hy => ?_
      rcases List.mem_or_eq_of_mem_set hy with hm | rfl
      · exact hlo y hm
      · have hm2 := hlo 2 (List.mem_of_getElem? hc.2)
        have k3 : ieq x.kind 3 = false := by
          cases hq : ieq x.kind 3
          · rfl
          · simp [okL, hq, ieq] at hm2; exact absurd (ieq_iff.1 hq) hm2
        cases o.cl
        · simp [okL, k3, tgt]
        · simp [okL, k3, tgt]
    · exact h
  · exact h
theorem knw_of {s : Stn} {p : Pos} {o : Op'} (h : alwE s p o = 0) : knwF s o = true := by
  unfold alwE at h
  split at h
  · rename_i h0; rw [h] at h0; cases h0
  · split at h
    · cases h
    · rename_i hh; simpa using hh
theorem seq_ok {s : Stn} {p : Pos} {l : List Op'} (hl : lenB s p = true) (hs : smC p = true) (hL : l.length ≤ 1000) : PCall Try.prog 30 [.agg s.cs, .agg p.cs, .list 3 (l.map Op'.cs)] (seqV s p l) := by
  have hTc := Tcp_at hs
  obtain ⟨n, hn⟩ : ∃ n, l.length = n := ⟨_, rfl⟩
  rw [hn] at hL
  obtain ⟨R, hR⟩ : ∃ R, seqR s l p 0 = R := ⟨_, rfl⟩
  have hv : seqV s p l = .tup [.agg R.1.cs, .int .i64 (R.2.1 : Nat), .int .i64 R.2.2] := by rw [seqV, hR]
  rw [hv]
  obtain ⟨R1, R2, R3⟩ := R
  simp only [Pos.cs]
  clear hv
  have hb : Hid (∀ q o, lenB s q = true → Tbe [.agg [.str s.nm, .list 1 (s.bs.map s1), .list 5 (s.ls.map Ln.cs), .list 6 (s.ss.map Sr.cs), .list 12 (s.qs.map By.cs)], .agg [.list 1 (q.cl.map b1), .list 1 (q.lk.map r1)], .agg [.int .i64 o.bay, .int .i64 o.link, .bool o.cl]] = some (begV s q o)) := show _ from fun q o h => Tbe_at h
  have he : Hid (∀ q o, lenB s q = true → Ten [.agg [.str s.nm, .list 1 (s.bs.map s1), .list 5 (s.ls.map Ln.cs), .list 6 (s.ss.map Sr.cs), .list 12 (s.qs.map By.cs)], .agg [.list 1 (q.cl.map b1), .list 1 (q.lk.map r1)], .agg [.int .i64 o.bay, .int .i64 o.link, .bool o.cl]] = some (endV s q o)) := show _ from fun q o h => Ten_at h
  have a1 : (p.cl.map V.bool).map (shC 160000) = p.cl.map V.bool := sh_b1 _ _
  have a2 := pure_b1 p.cl
  have a4 := chunks_b1 p.cl
  have c1 : (p.lk.map r0).map (shC 160000) = p.lk.map r0 := sh_cells (pure_r0 _)
  have c2 := pure_r0 p.lk
  have c4 := chunks_r0 p.lk
  have a3 : (p.cl.map V.bool).length = p.cl.length := by simp
  have c3 : (p.lk.map r0).length = p.lk.length := by simp
  generalize p.cl.map V.bool = A at hTc a1 a2 a3 a4
  generalize p.lk.map r0 = C at hTc c1 c2 c3 c4
  obtain ⟨nc, hnc⟩ : ∃ n, p.cl.length = n := ⟨_, rfl⟩
  obtain ⟨nk, hnk⟩ : ∃ n, p.lk.length = n := ⟨_, rfl⟩
  rw [hnc] at hTc a3 a4
  rw [hnk] at hTc c3 c4
  have hpC : ∀ k b, C.map (pubC k b) = C := fun k b => pub_cells c2
  have hpA : ∀ k b, A.map (pubC k b) = A := fun k b => pub_cells a2
  replace hl : Hid (lenB s p = true) := hl
  replace hR : Hid (seqR s l p 0 = (R1, R2, R3)) := hR
  clear hs
  refine pcall_cx HY_ok mixed (fun _ => none) Try.func30 rfl Try.ntmps30 Try.results30 (by simp) (by kernel_rfl) ?_
  repeat' first
    | (with_reducible refine gw_bool (fun _ => ?_) (fun _ => ?_))
    | (with_reducible refine condw_bool (fun _ => ?_) (fun _ => ?_))
    | simp [*, Stn.cs, Pos.cs, setsV]
  refine lp_view ((View.pub _ (key := 160009) (blk := ⟨4, A⟩) (by simp) a2).trans (View.pub _ (key := 160013) (blk := ⟨42, C⟩) (by simp [St.pub, hpC]) c2)) ?_
  refine lp_go (D := (fun _ => none)) HY_ok mixed (by kernel_rfl) [3, 6, 16, 17] [3, 4, 10, 11, 13] (α := Nat) (fun i e h => i ≤ n ∧ e 18 = .int .i64 i ∧ ∃ q : Pos, h 6 = some ⟨31, [.list 1 (q.cl.map b1), .list 1 (q.lk.map r1)]⟩ ∧ lenB s q = true ∧ seqR s (l.drop i) q i = (R1, R2, R3)) (fun i => n - i) 0 ?_ ?_
  · exact ⟨by omega, by simp [St.pub, pubT, pubA, pubC], p, by simp [St.pub, pubC, *], hl.out, by simpa using hR.out⟩
  rintro i e h hk hkh ⟨hi, g18, q, g6, hql, hqR⟩
  simp [Keep, St.pub, pubT, pubA, pubC] at hk
  simp [KeepH, St.pub, pubC] at hkh
  clear hTc a1 a2 a3 a4 c1 c2 c3 c4 hpA hpC hl hR
  replace hql : Hid (_) := hql
  replace hqR : Hid (_) := hqR
  by_cases hlt : i < n
  · obtain ⟨o, ho, ho'⟩ := at_ex (l := l) (i := i) (by omega)
    have f1 : ilt (i : Int) (n : Int) = true := ilt_t (by omega)
    have w1 : IntKind.i64.wrap ((i : Int) + 1) = ((i + 1 : Nat) : Int) := wrap_succ (by omega)
    have hd : l.drop i = o :: l.drop (i + 1) := by rw [List.drop_eq_getElem_cons (by omega), ho']
    have hTb := hb.out q o hql.out
    cases h0 : ieq (alwE s q o) 0
    · have hv : begV s q o = .tup [nilP, .int .i64 (alwE s q o)] := by simp [begV, h0]
      have hr := hqR.out
      rw [hd, seqR, if_pos h0] at hr
      simp only [Prod.mk.injEq] at hr
      obtain ⟨rfl, rfl, rfl⟩ := hr
      rw [hv, nilP] at hTb
      clear hv hd hqR hb he
      repeat' first
        | (with_reducible refine gw_bool (fun _ => ?_) (fun _ => ?_))
        | (with_reducible refine condw_bool (fun _ => ?_) (fun _ => ?_))
        | simp [*, Op'.cs, setsV]
    · have h1 := ieq_iff.1 h0
      have hv : begV s q o = .tup [.agg (begP q o).cs, .int .i64 0] := by simp [begV, h0]
      have hok := begP_ok h1
      have hTe := he.out (begP q o) o (lenB_ok hok)
      have he0 := endE_zero h1
      have hv2 : endV s (begP q o) o = .tup [.agg (endP (begP q o) o).cs, .int .i64 0] := by simp [endV, he0]
      rw [hv, Pos.cs] at hTb
      rw [hv2, Pos.cs] at hTe
      have hok2 := endP_ok hok (knw_of h1)
      have hl2 : Hid (lenB s (endP (begP q o) o) = true) := lenB_ok hok2
      have hr := hqR.out
      rw [hd, seqR, h0, he0] at hr
      simp only [Bool.true_eq_false, if_false, ieq, beq_self_eq_true] at hr
      replace hr : Hid (_) := hr
      generalize begP q o = q1 at hTb hTe hl2 hr
      generalize endP q1 o = q2 at hTe hl2 hr
      clear hv hd hqR hb he hok hok2 hv2 h0 h1 he0
      repeat' first
        | (with_reducible refine gw_bool (fun _ => ?_) (fun _ => ?_))
        | (with_reducible refine condw_bool (fun _ => ?_) (fun _ => ?_))
        | simp [*, Op'.cs, setsV]
      refine nxt_go (i + 1) ((View.forget _ _ 10).trans ((View.forget _ _ 11).trans (View.forget _ _ 13))) (by omega) (by simp [*, Keep, St.forget, scr, scrC, usesC, usesA, St.pub, pubT, pubA, pubC]) (by simp [*, KeepH, St.forget, scr, scrC, St.pub, pubC]) ?_
      exact ⟨by omega, by simp [*, St.forget, scr, scrC], q2, by simp [*, St.forget, scr, scrC], hl2.out, hr.out⟩
  · have f1 : ilt (i : Int) (n : Int) = false := ilt_f (by omega)
    have e1 : i = n := by omega
    have hr := hqR.out
    rw [e1, ← hn, List.drop_length, seqR] at hr
    simp only [Prod.mk.injEq] at hr
    obtain ⟨rfl, rfl, rfl⟩ := hr
    clear hqR hb he
    repeat' first
      | (with_reducible refine gw_bool (fun _ => ?_) (fun _ => ?_))
      | (with_reducible refine condw_bool (fun _ => ?_) (fun _ => ?_))
      | simp [*, setsV]
def Tsq : List V → Option V
  | [.agg a, .agg b, .list 3 xs] => (match unStn a, unPos b, decL unOp xs with
    | some s, some p, some l => if lenB s p = true ∧ smC p = true ∧ l.length ≤ 1000 then some (seqV s p l) else none
    | _, _, _ => none)
  | _ => none
theorem Tsq_at {s : Stn} {p : Pos} {l : List Op'} (h : lenB s p = true) (h2 : smC p = true) (h3 : l.length ≤ 1000) : Tsq [.agg [.str s.nm, .list 1 (s.bs.map s1), .list 5 (s.ls.map Ln.cs), .list 6 (s.ss.map Sr.cs), .list 12 (s.qs.map By.cs)], .agg [.list 1 (p.cl.map b1), .list 1 (p.lk.map r1)], .list 3 (l.map Op'.cs)] = some (seqV s p l) := by
  have e1 := unStn_cs s
  have e2 := unPos_cs p
  unfold Stn.cs at e1
  unfold Pos.cs at e2
  simp [Tsq, e1, e2, decL_map unOp_cs, h, h2, h3]
theorem sq_tab : ∀ vs v, Tsq vs = some v → PCall Try.prog 30 vs v := by
  intro vs v h; unfold Tsq at h; split at h
  · split at h
    · rename_i h1 h2 h3
      split at h
      · rename_i hl; cases h; rw [unStn_inv _ _ h1, unPos_inv _ _ h2, decL_inv unOp_inv _ _ h3]; exact seq_ok hl.1 hl.2.1 hl.2.2
      · cases h
    · cases h
  · cases h
end Go.Proofs.Ytjhmphkdkclbjaa
end
section
namespace Go.Proofs.Ytjhmphkdkclbjaa
open Go.Pv Go.RowKit
set_option linter.unusedSimpArgs false
set_option linter.unusedVariables false
set_option maxRecDepth 100000
set_option maxHeartbeats 4000000
attribute [-simp] Tclo_at Tgrp_at Tchk Tpchk TcI TcB Tclo Tgrp Tsid Tnod Tlook Tbnd Tres TSd TBd Tix Tcon Tgps Tsg Tmv Tck Tkn Tjo Ttr Tsw Tmg Tal Tbe Ten Tcp Tidx Tnms Tnmd Tobj Tlks Tbay Trck Trpc Trg Trf Trsd Trnd Tar Ttwo Tof Tnm Tat

def st3 : Stn := ⟨bA 115, [bA 97, bA 98], [], [⟨bA 103, 10, 0, 1, 0, 1⟩], [⟨bA 113, 2, 0, 0, 0, 0, [⟨0, 1⟩, ⟨1, 0⟩], true, 1, 1, 0, 1⟩, ⟨bA 99, 3, 0, 0, 0, 1, [⟨0, 1⟩, ⟨1, 1⟩], true, 1, 0, 0, 1⟩]⟩
theorem two36_ok : PCall Try.prog 26 [] (.agg st3.cs) := by
  have h : PCall Try.prog 26 [] (.agg [.str (bA 115), .list 1 (st3.bs.map s1), .nils, .list 6 (st3.ss.map Sr.cs), .list 12 (st3.qs.map By.cs)]) := by
    refine pcall_cx noTab_ok mixed (fun _ => none) Try.func26 rfl Try.ntmps26 Try.results26 (by simp) (by kernel_rfl) ?_
    repeat' first
      | (with_reducible refine gw_bool (fun _ => ?_) (fun _ => ?_))
      | (with_reducible refine condw_bool (fun _ => ?_) (fun _ => ?_))
      | simp [*, setsV, bA, st3, s1, Sr.cs, By.cs, Lk.cs]
  exact h.weaken .nil (Wk.agg (.cons (Wk.refl _) (.cons (Wk.refl _) (.cons (Wk.nils 5) (.cons (Wk.refl _) (.cons (Wk.refl _) .nil))))))
def Ttw : List V → Option V
  | [] => some (.agg st3.cs)
  | _ => none
theorem tw_tab : ∀ vs v, Ttw vs = some v → PCall Try.prog 26 vs v := by
  intro vs v h; unfold Ttw at h; split at h
  · cases h; exact two36_ok
  · cases h
/-! ### the state of a link -/
theorem link_ok (p : Pos) (b k : Nat) {l : List Int} {x : Int} (hl : p.lk[b]? = some l) (hx : l[k]? = some x) (h1 : p.lk.length ≤ 1000) (h2 : l.length ≤ 1000) : PCall Try.prog 32 [.agg p.cs, .int .i64 b, .int .i64 k] (.int .i64 x) := by
  have hl' := (List.getElem?_eq_some_iff.1 hl).2
  have hx' := (List.getElem?_eq_some_iff.1 hx).2
  have g1 := (List.getElem?_eq_some_iff.1 hl).1
  have g2 := (List.getElem?_eq_some_iff.1 hx).1
  obtain ⟨n, hn⟩ : ∃ n, p.lk.length = n := ⟨_, rfl⟩
  obtain ⟨m, hm⟩ : ∃ n, l.length = n := ⟨_, rfl⟩
  rw [hn] at h1 g1
  rw [hm] at h2 g2
  have b1' : (b : Int) < n := by omega
  have b2 : b + 1 ≤ n := by omega
  have k1 : (k : Int) < m := by omega
  have k2 : k + 1 ≤ m := by omega
  have f1 : ilt (b : Int) (n : Int) = true := ilt_t (by omega)
  have f2 : ilt (k : Int) (m : Int) = true := ilt_t (by omega)
  refine pcall_cx noTab_ok mixed (fun _ => none) Try.func32 rfl Try.ntmps32 Try.results32 (by simp) (by kernel_rfl) ?_
  repeat' first
    | (with_reducible refine gw_bool (fun _ => ?_) (fun _ => ?_))
    | (with_reducible refine condw_bool (fun _ => ?_) (fun _ => ?_))
    | simp [*, Pos.cs, i1, r1]
def Tlk : List V → Option V
  | [.agg a, .int .i64 b, .int .i64 k] => (match unPos a with
    | some p => if 0 ≤ b ∧ 0 ≤ k ∧ p.lk.length ≤ 1000 then (match p.lk[b.toNat]? with
      | some l => if l.length ≤ 1000 then (match l[k.toNat]? with
        | some x => some (.int .i64 x)
        | none => none) else none
      | none => none) else none
    | none => none)
  | _ => none
theorem lk_tab : ∀ vs v, Tlk vs = some v → PCall Try.prog 32 vs v := by
  intro vs v h; unfold Tlk at h; split at h
  · split at h
    · rename_i h1
      split at h
      · rename_i hc
        split at h
        · rename_i l hl
          split at h
          · rename_i h2
            split at h
            · rename_i x hx
              cases h
              rw [unPos_inv _ _ h1]
              obtain ⟨c1, c2, c3⟩ := hc
              rename_i b k _ _
              obtain ⟨b', hb'⟩ := Int.eq_ofNat_of_zero_le c1
              obtain ⟨k', hk'⟩ := Int.eq_ofNat_of_zero_le c2
              subst hb'
              subst hk'
              exact link_ok _ _ _ hl hx c3 h2
            · cases h
          · cases h
        · cases h
      · cases h
    · cases h
  · cases h
def HZ : Tab := add 26 Ttw (add 24 Tnm (add 30 Tsq (add 32 Tlk (HY))))
theorem HZ_at (f : FuncId) (vs : List V) : HZ.at' f vs = if f = 26 then Ttw vs else if f = 24 then Tnm vs else if f = 30 then Tsq vs else if f = 32 then Tlk vs else HY.at' f vs := rfl
theorem HZ_fr (f : FuncId) : HZ.fr f = if f = 26 then false else if f = 24 then false else if f = 30 then false else if f = 32 then false else HY.fr f := rfl
theorem HZ_gb (f : FuncId) : HZ.gb f = HY.gb f := rfl
theorem HZ_gv (f : FuncId) (vs : List V) : HZ.gv f vs = HY.gv f vs := rfl
attribute [simp] HZ_at HZ_fr HZ_gb HZ_gv Tlk Tnm Tsq Ttw
theorem HZ_ok : TabOK Try.prog HZ := by
  refine add_ok (add_ok (add_ok (add_ok (HY_ok) (by kernel_rfl) ?_) (by kernel_rfl) ?_) (by kernel_rfl) ?_) (by kernel_rfl) ?_
  · exact lk_tab
  · exact sq_tab
  · exact nm_tab
  · exact tw_tab
attribute [-simp] Ttw Tnm Tsq Tlk
def q0 : Pos := normP st3
theorem st3_chk : chkF st3 = 0 := by kernel_rfl
def oA : Op' := ⟨0, 1, true⟩
def oB : Op' := ⟨1, -1, false⟩
def q1P : Pos := ⟨[true, true], [[1, 1], [1, 1]]⟩
def q2P : Pos := ⟨[true, false], [[1, 0], [1, 1]]⟩
theorem al1 : alwE st3 q0 oA = 0 := by kernel_rfl
theorem sq1 : seqV st3 q0 [oA, oB] = .tup [.agg q1P.cs, .int .i64 1, .int .i64 42] := by kernel_rfl
theorem sq2 : seqV st3 q0 [oB, oA] = .tup [.agg q2P.cs, .int .i64 1, .int .i64 41] := by kernel_rfl
theorem ln0 : lenB st3 q0 = true := by kernel_rfl
theorem sm0 : smC q0 = true := by kernel_rfl
theorem known36_ok : PCall Try.prog 31 [] (.bool true) := by
  have hT0 : Ttw [] = some (.agg st3.cs) := rfl
  have hTn := Tnm_at st3_chk
  have hA := Tal_at (o := oA) ln0
  have hS1 := Tsq_at (l := [oA, oB]) ln0 sm0 (by simp)
  have hS2 := Tsq_at (l := [oB, oA]) ln0 sm0 (by simp)
  rw [al1] at hA
  rw [sq1] at hS1
  rw [sq2] at hS2
  rw [show normP st3 = q0 from rfl] at hTn
  generalize q0 = P at hTn hA hS1 hS2
  generalize st3 = X at hT0 hTn hA hS1 hS2
  simp only [Stn.cs] at hT0
  simp only [Pos.cs] at hTn
  simp only [oA, oB, q1P, q2P, List.map_cons, List.map_nil, Op'.cs, r1, i1, b1, Pos.cs] at hA hS1 hS2
  refine pcall_of2 Try.func31 rfl Try.ntmps31 Try.results31 (by simp) ?_
  refine cw_cut (K := fun s => ∀ k, s.heap k = none) ?_ ?_
  · refine CW.of_cx (D := (fun _ => none)) HZ_ok mixed _ _ _ (by kernel_rfl) ?_
    repeat' first
      | (with_reducible refine gw_bool (fun _ => ?_) (fun _ => ?_))
      | (with_reducible refine condw_bool (fun _ => ?_) (fun _ => ?_))
      | simp [*]
  rintro ⟨e, h⟩ hn
  simp only at hn
  have n1 := hn 1
  have n2 := hn 2
  have n4 := hn 4
  have n7 := hn 7
  have n22 := hn 22
  have n32 := hn 32
  clear hn
  refine cw_cut (K := fun s => s.env 1 = .ptr 1 0 ∧ s.heap 1 = some ⟨27, X.cs⟩ ∧ s.heap 2 = none ∧ s.heap 4 = none ∧ s.heap 7 = none ∧ s.heap 22 = none ∧ s.heap 32 = none) ?_ ?_
  · refine CW.of_cx (D := (fun _ => none)) HZ_ok mixed _ _ _ (by kernel_rfl) ?_
    repeat' first
      | (with_reducible refine gw_bool (fun _ => ?_) (fun _ => ?_))
      | (with_reducible refine condw_bool (fun _ => ?_) (fun _ => ?_))
      | simp [*, setsV, Stn.cs]
  clear n1 n2 n4 n7 n22 n32 e h
  rintro ⟨e, h⟩ ⟨e1, h1, n2, n4, n7, n22, n32⟩
  simp only at e1 h1 n2 n4 n7 n22 n32
  refine cw_cut (K := fun s => s.env 1 = .ptr 1 0 ∧ s.env 2 = .ptr 2 0 ∧ s.heap 1 = some ⟨27, X.cs⟩ ∧ s.heap 2 = some ⟨31, P.cs⟩ ∧ s.heap 4 = none ∧ s.heap 7 = none ∧ s.heap 22 = none ∧ s.heap 32 = none) ?_ ?_
  · refine CW.of_cx (D := (fun _ => none)) HZ_ok mixed _ _ _ (by kernel_rfl) ?_
    repeat' first
      | (with_reducible refine gw_bool (fun _ => ?_) (fun _ => ?_))
      | (with_reducible refine condw_bool (fun _ => ?_) (fun _ => ?_))
      | simp [*, setsV, Stn.cs, Pos.cs]
  clear e1 h1 n2 n4 n7 n22 n32 e h hT0 hTn
  rintro ⟨e, h⟩ ⟨e1, e2, h1, h2, n4, n7, n22, n32⟩
  simp only at e1 e2 h1 h2 n4 n7 n22 n32
  rw [Stn.cs] at h1
  rw [Pos.cs] at h2
  refine cw_cut (K := fun s => s.env 1 = .ptr 1 0 ∧ s.env 2 = .ptr 2 0 ∧ s.env 3 = .int .i64 0 ∧ s.heap 1 = some ⟨27, X.cs⟩ ∧ s.heap 2 = some ⟨31, P.cs⟩ ∧ s.heap 4 = none ∧ s.heap 7 = none ∧ s.heap 22 = none ∧ s.heap 32 = none) ?_ ?_
  · refine CW.of_cx (D := (fun _ => none)) HZ_ok mixed _ _ _ (by kernel_rfl) ?_
    repeat' first
      | (with_reducible refine gw_bool (fun _ => ?_) (fun _ => ?_))
      | (with_reducible refine condw_bool (fun _ => ?_) (fun _ => ?_))
      | simp [*, setsV, Stn.cs, Pos.cs]
  clear e1 e2 h1 h2 n4 n7 n22 n32 e h hA
  rintro ⟨e, h⟩ ⟨e1, e2, e3, h1, h2, n4, n7, n22, n32⟩
  simp only at e1 e2 e3 h1 h2 n4 n7 n22 n32
  rw [Stn.cs] at h1
  rw [Pos.cs] at h2
  refine cw_cut (K := fun s => s.env 1 = .ptr 1 0 ∧ s.env 2 = .ptr 2 0 ∧ s.env 3 = .int .i64 0 ∧ s.env 4 = .ptr 4 0 ∧ s.env 5 = .int .i64 1 ∧ s.env 6 = .int .i64 42 ∧ s.heap 1 = some ⟨27, X.cs⟩ ∧ s.heap 2 = some ⟨31, P.cs⟩ ∧ s.heap 4 = some ⟨31, [.list 1 [[.bool true], [.bool true]], .list 1 [[.list 1 [[.int .i64 1], [.int .i64 1]]], [.list 1 [[.int .i64 1], [.int .i64 1]]]]]⟩ ∧ s.heap 7 = none ∧ s.heap 32 = none) ?_ ?_
  · refine cw_split HZ_ok 5 (fun s => s.env 1 = .ptr 1 0 ∧ s.env 2 = .ptr 2 0 ∧ s.env 3 = .int .i64 0 ∧ s.env 18 = .agg X.cs ∧ s.env 19 = .agg P.cs ∧ s.env 22 = .sl 22 0 2 3 ∧ s.heap 1 = some ⟨27, X.cs⟩ ∧ s.heap 2 = some ⟨31, P.cs⟩ ∧ s.heap 4 = none ∧ s.heap 7 = none ∧ s.heap 22 = some ⟨66, [.int .i64 0, .int .i64 1, .bool true, .int .i64 1, .int .i64 (-1), .bool false]⟩ ∧ s.heap 32 = none) (by kernel_rfl) ?_ ?_
    · skip
      repeat' first
        | (with_reducible refine gw_bool (fun _ => ?_) (fun _ => ?_))
        | (with_reducible refine condw_bool (fun _ => ?_) (fun _ => ?_))
        | simp [*, setsV, Stn.cs, Pos.cs]
    clear e1 e2 e3 h1 h2 n4 n7 n22 n32 e h
    rintro ⟨e, h⟩ ⟨e1, e2, e3, e18, e19, e22, h1, h2, n4, n7, h22, n32⟩
    simp only at e1 e2 e3 e18 e19 e22 h1 h2 n4 n7 h22 n32
    refine ⟨_, View.pub _ (key := 22) (blk := ⟨66, [.int .i64 0, .int .i64 1, .bool true, .int .i64 1, .int .i64 (-1), .bool false]⟩) h22 rfl, ?_⟩
    repeat' first
      | (with_reducible refine gw_bool (fun _ => ?_) (fun _ => ?_))
      | (with_reducible refine condw_bool (fun _ => ?_) (fun _ => ?_))
      | simp [*, setsV, Stn.cs, Pos.cs, St.pub, pubC, pubA, pubT, chunks]
  clear e1 e2 e3 h1 h2 n4 n7 n22 n32 e h hS1
  rintro ⟨e, h⟩ ⟨e1, e2, e3, e4, e5, e6, h1, h2, h4, n7, n32⟩
  simp only at e1 e2 e3 e4 e5 e6 h1 h2 h4 n7 n32
  rw [Stn.cs] at h1
  rw [Pos.cs] at h2
  refine cw_cut (K := fun s => s.env 3 = .int .i64 0 ∧ s.env 4 = .ptr 4 0 ∧ s.env 5 = .int .i64 1 ∧ s.env 6 = .int .i64 42 ∧ s.env 7 = .ptr 7 0 ∧ s.env 9 = .int .i64 41 ∧ s.heap 4 = some ⟨31, [.list 1 [[.bool true], [.bool true]], .list 1 [[.list 1 [[.int .i64 1], [.int .i64 1]]], [.list 1 [[.int .i64 1], [.int .i64 1]]]]]⟩ ∧ s.heap 7 = some ⟨31, [.list 1 [[.bool true], [.bool false]], .list 1 [[.list 1 [[.int .i64 1], [.int .i64 0]]], [.list 1 [[.int .i64 1], [.int .i64 1]]]]]⟩) ?_ ?_
  · refine cw_split HZ_ok 5 (fun s => s.env 3 = .int .i64 0 ∧ s.env 4 = .ptr 4 0 ∧ s.env 5 = .int .i64 1 ∧ s.env 6 = .int .i64 42 ∧ s.env 28 = .agg X.cs ∧ s.env 29 = .agg P.cs ∧ s.env 32 = .sl 32 0 2 3 ∧ s.heap 4 = some ⟨31, [.list 1 [[.bool true], [.bool true]], .list 1 [[.list 1 [[.int .i64 1], [.int .i64 1]]], [.list 1 [[.int .i64 1], [.int .i64 1]]]]]⟩ ∧ s.heap 7 = none ∧ s.heap 32 = some ⟨66, [.int .i64 1, .int .i64 (-1), .bool false, .int .i64 0, .int .i64 1, .bool true]⟩) (by kernel_rfl) ?_ ?_
    · skip
      repeat' first
        | (with_reducible refine gw_bool (fun _ => ?_) (fun _ => ?_))
        | (with_reducible refine condw_bool (fun _ => ?_) (fun _ => ?_))
        | simp [*, setsV, Stn.cs, Pos.cs]
    clear e1 e2 e3 e4 e5 e6 h1 h2 h4 n7 n32 e h
    rintro ⟨e, h⟩ ⟨e3, e4, e5, e6, e28, e29, e32, h4, n7, h32⟩
    simp only at e3 e4 e5 e6 e28 e29 e32 h4 n7 h32
    refine ⟨_, View.pub _ (key := 32) (blk := ⟨66, [.int .i64 1, .int .i64 (-1), .bool false, .int .i64 0, .int .i64 1, .bool true]⟩) h32 rfl, ?_⟩
    repeat' first
      | (with_reducible refine gw_bool (fun _ => ?_) (fun _ => ?_))
      | (with_reducible refine condw_bool (fun _ => ?_) (fun _ => ?_))
      | simp [*, setsV, Stn.cs, Pos.cs, St.pub, pubC, pubA, pubT, chunks]
  clear e1 e2 e3 e4 e5 e6 h1 h2 h4 n7 n32 e h hS2
  rintro ⟨e, h⟩ ⟨e3, e4, e5, e6, e7, e9, h4, h7⟩
  simp only at e3 e4 e5 e6 e7 e9 h4 h7
  refine CW.of_cx (D := (fun _ => none)) HZ_ok mixed _ _ _ (by kernel_rfl) ?_
  repeat' first
    | (with_reducible refine gw_bool (fun _ => ?_) (fun _ => ?_))
    | (with_reducible refine condw_bool (fun _ => ?_) (fun _ => ?_))
    | simp [*]
end Go.Proofs.Ytjhmphkdkclbjaa
end
