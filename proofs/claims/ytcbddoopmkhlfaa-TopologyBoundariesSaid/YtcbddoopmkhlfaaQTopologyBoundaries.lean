/-
  What can be reached, as the document computes it: the plain law.
  The document's edges, lists of nodes, and what can be reached.
  What the document's search reaches.
  What the document says of zones that live, and of zones that are fed.
  What the document says of zones that are fed: the walk.
  The bay at the far end; the document's other zone, its groups.
  The document's other zone.
  The law of zones that live.
  The document's zones, given; a region that draws its order, whose calls give memory.
  The law of boundaries.
  TopologyBoundaries returns true for every input, and leaves the input as it was. No condition.
-/
import Derived.Test.YtcbddoopmkhlfaaJ8
import Derived.Test.YtcbddoopmkhlfaaJ6
import Derived.Test.YtcbddoopmkhlfaaRows
section
namespace Go.Proofs.Ytcbddoopmkhlfaa
open Go.Pv Go.RowKit
set_option linter.unusedSimpArgs false
set_option linter.unusedVariables false
set_option maxRecDepth 100000

/-- All that can be reached, as a list. -/
def clo (o : Option (List Nd)) (E : List Ed) : Nat → Nat → List Nd → List Nd
  | 0, _, Q => Q
  | f + 1, i, Q => match Q[i]? with
    | none => Q
    | some c => clo o E f (i + 1) (rndF o c Q E)
theorem clo_ext (o : Option (List Nd)) (E : List Ed) : ∀ (f i : Nat) (Q : List Nd), ∃ t, clo o E f i Q = Q ++ t
  | 0, _, Q => ⟨[], by simp [clo]⟩
  | f + 1, i, Q => by
    unfold clo
    split
    · exact ⟨[], by simp⟩
    · rename_i c _
      obtain ⟨t1, h1, _⟩ := rnd_ext o c E Q
      obtain ⟨t2, h2⟩ := clo_ext o E f (i + 1) (rndF o c Q E)
      exact ⟨t1 ++ t2, by rw [h2, h1, List.append_assoc]⟩
def srcB (Q : List Nd) : Bool := Q.any fun n => ieq n.1 3
theorem srcF_none {Q : List Nd} (h : ∀ (j : Nat) (n : Nd), Q[j]? = some n → ieq n.1 3 = false) : srcB Q = false := by
  rw [srcB, List.any_eq_false]
  intro n hn
  obtain ⟨j, hj, e⟩ := List.mem_iff_getElem.1 hn
  have := h j n (by rw [List.getElem?_eq_getElem hj, e])
  simp [this]
theorem bfs_clo {o : Option (List Nd)} {E : List Ed} {c : Nd} (hE : E.length ≤ 40) : ∀ (f i : Nat) (Q : List Nd), 100 ≤ f + i → QI E c Q → (∀ (j : Nat) (n : Nd), j < i → Q[j]? = some n → ieq n.1 3 = false) → bfs o E f i Q = srcB (clo o E f i Q)
  | 0, i, Q, hf, hq, hinv => by
    have hl := hq.len
    simp only [bfs, clo]
    rw [srcF_none fun j n hn => hinv j n (by have := (List.getElem?_eq_some_iff.1 hn).1; omega) hn]
  | f + 1, i, Q, hf, hq, hinv => by
    unfold bfs clo
    cases hd : Q[i]? with
    | none =>
      have hl : Q.length ≤ i := List.getElem?_eq_none_iff.1 hd
      simp only
      rw [srcF_none fun j n hn => hinv j n (by have := (List.getElem?_eq_some_iff.1 hn).1; omega) hn]
    | some d =>
      simp only
      obtain ⟨t, ht, _⟩ := rnd_ext o d E Q
      have hid := (List.getElem?_eq_some_iff.1 hd).1
      split
      · rename_i h3
        obtain ⟨t2, h2⟩ := clo_ext o E f (i + 1) (rndF o d Q E)
        rw [h2, ht]
        symm
        rw [srcB, List.any_eq_true]
        exact ⟨d, by simp [List.mem_of_getElem? hd], h3⟩
      · rename_i h3
        refine bfs_clo hE f (i + 1) _ (by omega) (QI.rnd E hq (fun x hx => hx)) (fun j n hj hn => ?_)
        rw [ht, List.getElem?_append_left (by omega)] at hn
        by_cases hji : j < i
        · exact hinv j n hji hn
        · have : j = i := by omega
          subst this
          rw [hd] at hn
          cases hn
          simpa using h3
def reachL (o : Option (List Nd)) (E : List Ed) (c : Nd) : List Nd := clo o E 100 0 [c]
theorem reach_src {o : Option (List Nd)} {E : List Ed} {c : Nd} (hE : E.length ≤ 40) : reachF o E c = srcB (reachL o E c) :=
  bfs_clo (c := c) hE 100 0 [c] (by omega) ⟨by simp, fun n hn => by simp at hn; subst hn; simp⟩ (fun j n hj => by omega)
end Go.Proofs.Ytcbddoopmkhlfaa
end
section
namespace Go.Proofs.Ytcbddoopmkhlfaa
open Go.Pv Go.RowKit
set_option linter.unusedSimpArgs false
set_option linter.unusedVariables false
set_option maxRecDepth 100000
set_option maxHeartbeats 4000000
attribute [-simp] Tclo_at Tgrp_at Tchk Tpchk TcI TcB Tclo Tgrp Tsid Tnod Tlook Tbnd TsidA Tre Tidx Tnms Tnmd Tobj Tlks Tbay Trck Trpc Tres TSd TBd Tnm Tlv Tfd Tfn Tlg Tgps Trg Trf Trsd Trnd Tar

theorem edge_ok {s : Stn} {p : Pos} (h : okP s p = true) {i : Nat} (hi : i < s.qs.length) {a0 a1 c0 c1 : Int} (hS : sidF s p (grp s p) i = some [a0, a1, c0, c1]) {c : Bool} (hc : p.cl[i]? = some c) : PCall Try.prog 54 [.agg s.cs, .agg p.cs, .int .i64 i] (.bool (isE c a0 a1 c0 c1)) := by
  have hT := Trsd_at h ((rsdF_of hi).trans hS)
  obtain ⟨hil, hic⟩ := get_of hc
  obtain ⟨n, hn⟩ : ∃ n, p.cl.length = n := ⟨_, rfl⟩
  rw [hn] at hil
  clear h hS
  cases c
  · refine pcall_cx E11_ok mixed (fun _ => none) Try.func54 rfl Try.ntmps54 Try.results54 (by simp) (by kernel_rfl) ?_
    repeat' first
      | (with_reducible refine gw_bool (fun _ => ?_) (fun _ => ?_))
      | (with_reducible refine condw_bool (fun _ => ?_) (fun _ => ?_))
      | simp [*, Stn.cs, Pos.cs, b1, isE]
  cases q0 : ieq a0 0
  · cases q1 : ieq c0 0
    · cases q2 : ieq a0 c0
      · refine pcall_cx E11_ok mixed (fun _ => none) Try.func54 rfl Try.ntmps54 Try.results54 (by simp) (by kernel_rfl) ?_
        repeat' first
          | (with_reducible refine gw_bool (fun _ => ?_) (fun _ => ?_))
          | (with_reducible refine condw_bool (fun _ => ?_) (fun _ => ?_))
          | simp [*, Stn.cs, Pos.cs, b1, isE]
      · refine pcall_cx E11_ok mixed (fun _ => none) Try.func54 rfl Try.ntmps54 Try.results54 (by simp) (by kernel_rfl) ?_
        repeat' first
          | (with_reducible refine gw_bool (fun _ => ?_) (fun _ => ?_))
          | (with_reducible refine condw_bool (fun _ => ?_) (fun _ => ?_))
          | simp [*, Stn.cs, Pos.cs, b1, isE]
    · refine pcall_cx E11_ok mixed (fun _ => none) Try.func54 rfl Try.ntmps54 Try.results54 (by simp) (by kernel_rfl) ?_
      repeat' first
        | (with_reducible refine gw_bool (fun _ => ?_) (fun _ => ?_))
        | (with_reducible refine condw_bool (fun _ => ?_) (fun _ => ?_))
        | simp [*, Stn.cs, Pos.cs, b1, isE]
  · refine pcall_cx E11_ok mixed (fun _ => none) Try.func54 rfl Try.ntmps54 Try.results54 (by simp) (by kernel_rfl) ?_
    repeat' first
      | (with_reducible refine gw_bool (fun _ => ?_) (fun _ => ?_))
      | (with_reducible refine condw_bool (fun _ => ?_) (fun _ => ?_))
      | simp [*, Stn.cs, Pos.cs, b1, isE]
theorem memN_step {L : List Nd} {i : Nat} {c : Nd} (h : L[i]? = some c) (a b : Int) : memN (L.take (i + 1)) a b = (memN (L.take i) a b || (ieq a c.1 && ieq b c.2)) := by
  simp [memN, take_snoc h]
theorem in_ok (L : List Nd) (a b : Int) (hl : L.length ≤ 1000000) : PCall Try.prog 57 [.list 2 (L.map nd2), .agg [.int .i64 a, .int .i64 b]] (.bool (memN L a b)) := by
  obtain ⟨n, hn⟩ : ∃ n, L.length = n := ⟨_, rfl⟩
  rw [hn] at hl
  obtain ⟨R, hR⟩ : ∃ R, memN L a b = R := ⟨_, rfl⟩
  rw [hR]
  replace hR : Hid (memN L a b = R) := hR
  refine pcall_cx noTab_ok mixed (fun _ => none) Try.func57 rfl Try.ntmps57 Try.results57 (by simp) (by kernel_rfl) ?_
  repeat' first
    | (with_reducible refine gw_bool (fun _ => ?_) (fun _ => ?_))
    | (with_reducible refine condw_bool (fun _ => ?_) (fun _ => ?_))
    | simp [*]
  refine lp_go (D := (fun _ => none)) noTab_ok mixed (by kernel_rfl) [0, 3] [3] (α := Nat) (fun i e h => i ≤ n ∧ e 5 = .int .i64 i ∧ Hid (memN (L.take i) a b = false)) (fun i => n - i) 0 ?_ ?_
  · exact ⟨by omega, by simp, show _ = _ by simp [memN]⟩
  rintro i e h hk hkh ⟨hi, g7, hin⟩
  simp [Keep] at hk
  simp [KeepH] at hkh
  by_cases hlt : i < n
  · obtain ⟨c, hc, hc'⟩ := at_ex (l := L) (i := i) (by omega)
    have f1 : ilt (i : Int) (n : Int) = true := ilt_t (by omega)
    have w1 : IntKind.i64.wrap ((i : Int) + 1) = ((i + 1 : Nat) : Int) := wrap_succ (by omega)
    have hst := memN_step hc a b
    rw [hin.out, Bool.false_or, ieq_sym a, ieq_sym b] at hst
    cases q : (ieq c.1 a && ieq c.2 b)
    · rw [q] at hst
      replace hst : Hid (memN (L.take (i + 1)) a b = false) := hst
      clear hin hR
      cases q1 : ieq c.1 a
      · skip
        repeat' first
          | (with_reducible refine gw_bool (fun _ => ?_) (fun _ => ?_))
          | (with_reducible refine condw_bool (fun _ => ?_) (fun _ => ?_))
          | simp [*, nd2]
        refine nxt_go (i + 1) (View.refl _ _) (by omega) (by simp [*, Keep, St.forget, scr, scrC]) (by simp [*, KeepH, St.forget, scr, scrC]) ?_
        exact ⟨by omega, by simp [*], hst⟩
      · rw [q1] at q
        simp only [Bool.true_and] at q
        repeat' first
          | (with_reducible refine gw_bool (fun _ => ?_) (fun _ => ?_))
          | (with_reducible refine condw_bool (fun _ => ?_) (fun _ => ?_))
          | simp [*, nd2]
        refine nxt_go (i + 1) (View.refl _ _) (by omega) (by simp [*, Keep, St.forget, scr, scrC]) (by simp [*, KeepH, St.forget, scr, scrC]) ?_
        exact ⟨by omega, by simp [*], hst⟩
    · simp only [Bool.and_eq_true] at q
      obtain ⟨q1, q2⟩ := q
      have hRt : R = true := by
        rw [← hR.out, memN, List.any_eq_true]
        exact ⟨c, List.mem_of_getElem? hc, by rw [ieq_sym a, ieq_sym b, q1, q2]; rfl⟩
      clear hin hR hst
      repeat' first
        | (with_reducible refine gw_bool (fun _ => ?_) (fun _ => ?_))
        | (with_reducible refine condw_bool (fun _ => ?_) (fun _ => ?_))
        | simp [*, nd2]
  · have f1 : ilt (i : Int) (n : Int) = false := ilt_f (by omega)
    have hRf : R = false := by
      have := hin.out
      rw [List.take_of_length_le (by omega)] at this
      rw [← hR.out]; exact this
    clear hin hR
    repeat' first
      | (with_reducible refine gw_bool (fun _ => ?_) (fun _ => ?_))
      | (with_reducible refine condw_bool (fun _ => ?_) (fun _ => ?_))
      | simp [*]
theorem sourceN_ok (L : List Nd) (hl : L.length ≤ 1000000) : PCall Try.prog 58 [.list 2 (L.map nd2)] (.bool (srcB L)) := by
  obtain ⟨n, hn⟩ : ∃ n, L.length = n := ⟨_, rfl⟩
  rw [hn] at hl
  obtain ⟨R, hR⟩ : ∃ R, srcB L = R := ⟨_, rfl⟩
  rw [hR]
  replace hR : Hid (srcB L = R) := hR
  refine pcall_cx noTab_ok mixed (fun _ => none) Try.func58 rfl Try.ntmps58 Try.results58 (by simp) (by kernel_rfl) ?_
  repeat' first
    | (with_reducible refine gw_bool (fun _ => ?_) (fun _ => ?_))
    | (with_reducible refine condw_bool (fun _ => ?_) (fun _ => ?_))
    | simp [*]
  refine lp_go (D := (fun _ => none)) noTab_ok mixed (by kernel_rfl) [0] [] (α := Nat) (fun i e h => i ≤ n ∧ e 3 = .int .i64 i ∧ Hid (srcB (L.take i) = false)) (fun i => n - i) 0 ?_ ?_
  · exact ⟨by omega, by simp, show _ = _ by simp [srcB]⟩
  rintro i e h hk hkh ⟨hi, g7, hin⟩
  simp [Keep] at hk
  simp [KeepH] at hkh
  by_cases hlt : i < n
  · obtain ⟨c, hc, hc'⟩ := at_ex (l := L) (i := i) (by omega)
    have f1 : ilt (i : Int) (n : Int) = true := ilt_t (by omega)
    have w1 : IntKind.i64.wrap ((i : Int) + 1) = ((i + 1 : Nat) : Int) := wrap_succ (by omega)
    cases q : ieq c.1 3
    · have hst : Hid (srcB (L.take (i + 1)) = false) := show _ = _ by
        rw [take_snoc hc, srcB, List.any_append]
        have := hin.out
        simp only [srcB] at this
        rw [this]; simp [q]
      clear hin hR
      repeat' first
        | (with_reducible refine gw_bool (fun _ => ?_) (fun _ => ?_))
        | (with_reducible refine condw_bool (fun _ => ?_) (fun _ => ?_))
        | simp [*, nd2]
      refine nxt_go (i + 1) (View.refl _ _) (by omega) (by simp [*, Keep, St.forget, scr, scrC]) (by simp [*, KeepH, St.forget, scr, scrC]) ?_
      exact ⟨by omega, by simp [*], hst⟩
    · have hRt : R = true := by
        rw [← hR.out, srcB, List.any_eq_true]
        exact ⟨c, List.mem_of_getElem? hc, q⟩
      clear hin hR
      repeat' first
        | (with_reducible refine gw_bool (fun _ => ?_) (fun _ => ?_))
        | (with_reducible refine condw_bool (fun _ => ?_) (fun _ => ?_))
        | simp [*, nd2]
  · have f1 : ilt (i : Int) (n : Int) = false := ilt_f (by omega)
    have hRf : R = false := by
      have := hin.out
      rw [List.take_of_length_le (by omega)] at this
      rw [← hR.out]; exact this
    clear hin hR
    repeat' first
      | (with_reducible refine gw_bool (fun _ => ?_) (fun _ => ?_))
      | (with_reducible refine condw_bool (fun _ => ?_) (fun _ => ?_))
      | simp [*]
def Ted : List V → Option V
  | [.agg a, .agg b, .int .i64 i] => (match unStn a, unPos b with
    | some s, some p => if okP s p = true ∧ 0 ≤ i ∧ i < s.qs.length then (match p.cl[i.toNat]?, sidF s p (grp s p) i with
      | some c, some [a0, a1, c0, c1] => some (.bool (isE c a0 a1 c0 c1))
      | _, _ => none) else none
    | _, _ => none)
  | _ => none
theorem Ted_at {s : Stn} {p : Pos} {i : Nat} {a0 a1 c0 c1 : Int} {c : Bool} (h : okP s p = true) (hi : i < s.qs.length) (hS : sidF s p (grp s p) i = some [a0, a1, c0, c1]) (hc : p.cl[i]? = some c) : Ted [.agg [.str s.nm, .list 1 (s.bs.map s1), .list 5 (s.ls.map Ln.cs), .list 6 (s.ss.map Sr.cs), .list 12 (s.qs.map By.cs)], .agg [.list 1 (p.cl.map b1), .list 1 (p.lk.map r1)], .int .i64 i] = some (.bool (isE c a0 a1 c0 c1)) := by
  have e1 := unStn_cs s
  have e2 := unPos_cs p
  unfold Stn.cs at e1
  unfold Pos.cs at e2
  have : (i : Int) < s.qs.length := by omega
  simp [Ted, e1, e2, h, this, hS, hc]
theorem ed_tab : ∀ vs v, Ted vs = some v → PCall Try.prog 54 vs v := by
  intro vs v h; unfold Ted at h; split at h
  · split at h
    · rename_i h1 h2
      split at h
      · rename_i hl
        split at h
        · rename_i hc hS
          cases h
          rw [unStn_inv _ _ h1, unPos_inv _ _ h2]
          obtain ⟨p1, p3, p4⟩ := hl
          obtain ⟨u, rfl⟩ := Int.eq_ofNat_of_zero_le p3
          exact edge_ok p1 (by omega) hS (by simpa using hc)
        · cases h
      · cases h
    · cases h
  · cases h
def Tin : List V → Option V
  | [.list 2 xs, .agg [.int .i64 a, .int .i64 b]] => (match decL unN2 xs with
    | some L => if L.length ≤ 1000000 then some (.bool (memN L a b)) else none
    | none => none)
  | _ => none
theorem Tin_at {L : List Nd} {a b : Int} (h : L.length ≤ 1000000) : Tin [.list 2 (L.map nd2), .agg [.int .i64 a, .int .i64 b]] = some (.bool (memN L a b)) := by simp [Tin, decL_map unN2_cs, h]
theorem in_tab : ∀ vs v, Tin vs = some v → PCall Try.prog 57 vs v := by
  intro vs v h; unfold Tin at h; split at h
  · split at h
    · rename_i h1
      split at h
      · rename_i hl; cases h; rw [decL_inv unN2_inv _ _ h1]; exact in_ok _ _ _ hl
      · cases h
    · cases h
  · cases h
def TsrcN : List V → Option V
  | [.list 2 xs] => (match decL unN2 xs with
    | some L => if L.length ≤ 1000000 then some (.bool (srcB L)) else none
    | none => none)
  | _ => none
theorem TsrcN_at {L : List Nd} (h : L.length ≤ 1000000) : TsrcN [.list 2 (L.map nd2)] = some (.bool (srcB L)) := by simp [TsrcN, decL_map unN2_cs, h]
theorem srcN_tab : ∀ vs v, TsrcN vs = some v → PCall Try.prog 58 vs v := by
  intro vs v h; unfold TsrcN at h; split at h
  · split at h
    · rename_i h1
      split at h
      · rename_i hl; cases h; rw [decL_inv unN2_inv _ _ h1]; exact sourceN_ok _ hl
      · cases h
    · cases h
  · cases h
def E14 : Tab := add 54 Ted (add 57 Tin (add 58 TsrcN (E11)))
theorem E14_at (f : FuncId) (vs : List V) : E14.at' f vs = if f = 54 then Ted vs else if f = 57 then Tin vs else if f = 58 then TsrcN vs else E11.at' f vs := rfl
theorem E14_fr (f : FuncId) : E14.fr f = if f = 54 then false else if f = 57 then false else if f = 58 then false else E11.fr f := rfl
theorem E14_gb (f : FuncId) : E14.gb f = E11.gb f := rfl
theorem E14_gv (f : FuncId) (vs : List V) : E14.gv f vs = E11.gv f vs := rfl
attribute [simp] E14_at E14_fr E14_gb E14_gv Ted Tin TsrcN
theorem E14_ok : TabOK Try.prog E14 := by
  refine add_ok (add_ok (add_ok (E11_ok) (by kernel_rfl) ?_) (by kernel_rfl) ?_) (by kernel_rfl) ?_
  · exact srcN_tab
  · exact in_tab
  · exact ed_tab
attribute [-simp] Ted Tin TsrcN
attribute [simp] Ted_at Tin_at TsrcN_at
theorem edOf_eq {v : Vu} {i : Nat} {a0 a1 c0 c1 : Int} {c : Bool} (hS : sidF v.s v.p v.g i = some [a0, a1, c0, c1]) (hc : v.p.cl[i]? = some c) : edOf v i = if isE c a0 a1 c0 c1 = true then some ⟨i, a0, a1, c0, c1⟩ else none := by
  simp only [edOf, hS, hc]
end Go.Proofs.Ytcbddoopmkhlfaa
end
section
namespace Go.Proofs.Ytcbddoopmkhlfaa
open Go.Pv Go.RowKit
set_option linter.unusedSimpArgs false
set_option linter.unusedVariables false
set_option maxRecDepth 100000
set_option maxHeartbeats 4000000
attribute [-simp] Tclo_at Tgrp_at Tchk Tpchk TcI TcB Tclo Tgrp Tsid Tnod Tlook Tbnd TsidA Tre Tidx Tnms Tnmd Tobj Tlks Tbay Trck Trpc Tres TSd TBd Tnm Tlv Tfd Tfn Tlg Tgps Trg Trf Trsd Trnd Tar Ted Tin TsrcN

theorem vis_cases (W Q : List Nd) (a b : Int) : (memN W a b = true → vis (some W) Q (a, b) = Q) ∧ (memN Q a b = true → vis (some W) Q (a, b) = Q) ∧ (memN W a b = false → memN Q a b = false → vis (some W) Q (a, b) = Q ++ [(a, b)]) := by
  refine ⟨fun h => ?_, fun h => ?_, fun h h2 => ?_⟩ <;> simp [vis, woL, *]
theorem reached_ok {s : Stn} {p : Pos} (h : okP s p = true) (W : List Nd) (c : Nd) (hW : W.length ≤ 1000000) : PFresh Try.prog 59 [.agg s.cs, .agg p.cs, .agg [.int .i64 c.1, .int .i64 c.2], .list 2 (W.map nd2)] (.list 2 ((reachL (some W) (edg ⟨s, p, grp s p⟩) c).map nd2)) := by
  obtain ⟨v, hv⟩ : ∃ v : Vu, v = ⟨s, p, grp s p⟩ := ⟨_, rfl⟩
  have hn16 := (fine_of (okP_iff h).1).nq
  have hnc := (pfine_of (okP_iff h).2).nc
  obtain ⟨n, hn⟩ : ∃ n, s.qs.length = n := ⟨_, rfl⟩
  rw [hn] at hn16 hnc
  rw [← hv]
  have hE : edg v = edN v n := by rw [edg, hv]; simp only; rw [hnc]
  have hEl : (edg v).length ≤ 16 := by rw [hE]; exact Nat.le_trans (edN_len _ _) hn16
  have hat : ∀ i, i < n → ∃ a0 a1 c0 c1 cl, Trsd [.agg [.str s.nm, .list 1 (s.bs.map s1), .list 5 (s.ls.map Ln.cs), .list 6 (s.ss.map Sr.cs), .list 12 (s.qs.map By.cs)], .agg [.list 1 (p.cl.map b1), .list 1 (p.lk.map r1)], .int .i64 (i : Int)] = some (.agg ([a0, a1, c0, c1].map (V.int .i64))) ∧ Ted [.agg [.str s.nm, .list 1 (s.bs.map s1), .list 5 (s.ls.map Ln.cs), .list 6 (s.ss.map Sr.cs), .list 12 (s.qs.map By.cs)], .agg [.list 1 (p.cl.map b1), .list 1 (p.lk.map r1)], .int .i64 (i : Int)] = some (.bool (isE cl a0 a1 c0 c1)) ∧ edOf v i = if isE cl a0 a1 c0 c1 = true then some ⟨i, a0, a1, c0, c1⟩ else none := fun i hi => by
    obtain ⟨a0, a1, c0, c1, hS, -, -, -⟩ := sid_nodes h (i := i) (by omega)
    obtain ⟨cl, hcl, -⟩ := at_ex (l := p.cl) (i := i) (by omega)
    refine ⟨a0, a1, c0, c1, cl, Trsd_at h ((rsdF_of (by omega)).trans hS), Ted_at h (by omega) hS hcl, ?_⟩
    rw [hv]
    exact edOf_eq hS hcl
  have hch := chunks_nd (reachL (some W) (edg v) c)
  have hpu := ndC_pure (reachL (some W) (edg v) c)
  have hR0 : clo (some W) (edg v) (100 - 0) 0 [c] = reachL (some W) (edg v) c := rfl
  have hTi : ∀ a b : Int, _ := fun a b => Tin_at (L := W) (a := a) (b := b) hW
  generalize reachL (some W) (edg v) c = R at hch hpu hR0 ⊢
  replace hat : Hid (_) := hat
  replace hR0 : Hid (_) := hR0
  clear hv h hnc
  obtain ⟨c', hc'⟩ : ∃ c' : Nd, c' = c := ⟨_, rfl⟩
  have hQ0 : QI (edg v) c' [c] := ⟨by simp, fun n hn => by simp at hn; subst hn; simp [hc']⟩
  clear hc'
  have hfl : (R.map nd2).all (fun c => c.all flatC) = true := by simp [nd2, flatC]
  refine pfresh_cx E14_ok mixed (fun _ => none) Try.func59 rfl Try.ntmps59 Try.results59 (by simp) (by kernel_rfl) ?_
  repeat' first
    | (with_reducible refine gw_bool (fun _ => ?_) (fun _ => ?_))
    | (with_reducible refine condw_bool (fun _ => ?_) (fun _ => ?_))
    | simp [*, Stn.cs, Pos.cs]
  refine lp_go (D := (fun _ => none)) E14_ok mixed (by kernel_rfl) [3, 4, 5] [4, 5, 6, 12, 13, 79, 80] (α := Nat × List Nd) (fun x e h => x.1 ≤ x.2.length ∧ QI (edg v) c' x.2 ∧ Hid (clo (some W) (edg v) (100 - x.1) x.1 x.2 = R) ∧ e 10 = .int .i64 x.1 ∧ e 9 = .sl 15 0 x.2.length 2 ∧ h 15 = some ⟨60, ndC x.2⟩) (fun x => 100 - x.1) (0, [c]) ?_ ?_
  · exact ⟨by simp, hQ0, hR0, by simp, by simp, by simp [ndC, nd2]⟩
  rintro ⟨k, Q⟩ e h hk hkh ⟨hkQ, hQI, hR, g7, g9, g15⟩
  simp [Keep] at hk
  simp [KeepH] at hkh
  simp only at hkQ hQI hR g7 g9 g15
  clear hR0 hQ0
  have hQl := hQI.len
  by_cases hlt : k < Q.length
  · obtain ⟨d, hd, -⟩ := at_ex (l := Q) (i := k) hlt
    have f1 : ilt (k : Int) (Q.length : Int) = true := ilt_t (by omega)
    have w1 : IntKind.i64.wrap ((k : Int) + 1) = ((k + 1 : Nat) : Int) := wrap_succ (by omega)
    have hRn : Hid (clo (some W) (edg v) (100 - (k + 1)) (k + 1) (rndF (some W) d Q (edN v n)) = R) := show _ = _ by
      have := hR.out
      rw [show 100 - k = (100 - (k + 1)) + 1 by omega, clo, hd] at this
      rw [← hE]; exact this
    have hQn : QI (edg v) c' (rndF (some W) d Q (edN v n)) := by rw [← hE]; exact hQI.rnd _ (fun x hx => hx)
    have hlen : ∀ i, i ≤ n → (rndF (some W) d Q (edN v i)).length ≤ 100 ∧ (rndF (some W) d Q (edN v i))[k]? = some d := fun i hi => by
      obtain ⟨t, ht, hl⟩ := rnd_ext (some W) d (edN v i) Q
      have := edN_len v i
      rw [ht]
      refine ⟨by simp only [List.length_append]; omega, by rw [List.getElem?_append_left hlt]; exact hd⟩
    replace hQn : Hid (_) := hQn
    replace hlen : Hid (_) := hlen
    obtain ⟨m, hm⟩ : ∃ m, Q.length = m := ⟨_, rfl⟩
    rw [hm] at f1 g9 hlt hkQ
    obtain ⟨d0, d1⟩ := d
    clear hQI hR hch hpu
    repeat' first
      | (with_reducible refine gw_bool (fun _ => ?_) (fun _ => ?_))
      | (with_reducible refine condw_bool (fun _ => ?_) (fun _ => ?_))
      | simp [*]
    refine lp_go (D := (fun _ => none)) E14_ok mixed (by kernel_rfl) [3, 4, 5, 10, 16, 18, 19] [4, 5, 6, 12, 13, 79, 80] (α := Nat) (fun i e h => i ≤ n ∧ e 11 = .int .i64 i ∧ e 9 = .sl 15 0 (rndF (some W) (d0, d1) Q (edN v i)).length 2 ∧ h 15 = some ⟨60, ndC (rndF (some W) (d0, d1) Q (edN v i))⟩) (fun i => n - i) 0 ?_ ?_
    · exact ⟨by omega, by simp, by simp [*, rndF, edN], by simp [*, rndF, edN]⟩
    have hk0 := hk
    have hkh0 := hkh
    have g70 := g7
    clear hk hkh g7 g9 g15
    rintro i e h hk hkh ⟨hi, g7, g9, g15⟩
    simp [Keep, hk0, hkh0, g70] at hk
    simp [KeepH, hk0, hkh0] at hkh
    by_cases hin : i < n
    · obtain ⟨a0, a1, c0, c1, cl, hTs, hTe, hEo⟩ := hat.out i hin
      obtain ⟨hl1, hl2⟩ := hlen.out i hi
      have f2 : ilt (i : Int) (n : Int) = true := ilt_t (by omega)
      have w2 : IntKind.i64.wrap ((i : Int) + 1) = ((i + 1 : Nat) : Int) := wrap_succ (by omega)
      simp only [List.map_cons, List.map_nil] at hTs
      have hnx : ∀ x, edOf v i = some x → rndF (some W) (d0, d1) Q (edN v (i + 1)) = edv (some W) (d0, d1) (rndF (some W) (d0, d1) Q (edN v i)) x := fun x hx => by rw [edN_t hx, rnd_snoc]
      have hno : edOf v i = none → rndF (some W) (d0, d1) Q (edN v (i + 1)) = rndF (some W) (d0, d1) Q (edN v i) := fun hx => by rw [edN_f hx]
      generalize rndF (some W) (d0, d1) Q (edN v i) = C at g9 g15 hl1 hl2 hnx hno
      have hprt := ndC_part hl2
      have hchC := chunks_nd C
      have hkC : k < C.length := (List.getElem?_eq_some_iff.1 hl2).1
      have hkC2 : k * 2 + 2 ≤ C.length * 2 := by omega
      have hTC : ∀ a b : Int, _ := fun a b => Tin_at (L := C) (a := a) (b := b) (by omega)
      have f5 : (C.length + 1) * 16 ≤ 140737488355328 := by omega
      have f6 : C.length + 1 ≤ 9223372036854775807 := by omega
      clear hat hlen hQn hRn hl2
      cases hq : isE cl a0 a1 c0 c1
      · rw [hq] at hTe hEo
        have hst : Hid (rndF (some W) (d0, d1) Q (edN v (i + 1)) = C) := hno (by rw [hEo]; rfl)
        clear hnx hno hEo
        repeat' first
          | (with_reducible refine gw_bool (fun _ => ?_) (fun _ => ?_))
          | (with_reducible refine condw_bool (fun _ => ?_) (fun _ => ?_))
          | simp [*]
        refine nxt_go (i + 1) ((View.forget _ _ 12)) (by omega) (by simp [*, Keep, St.forget, scr, scrC]) (by simp [*, KeepH, St.forget, scr, scrC]) ?_
        refine ⟨by omega, by simp [*, St.forget, scr, scrC], ?_, ?_⟩
        · rw [hst.out]; simp [*, St.forget, scr, scrC]
        · rw [hst.out]; simp [*, St.forget, scr, scrC]
      rw [hq] at hTe hEo
      have hst := hnx _ hEo
      rw [edv] at hst
      simp only [Ed.l, Ed.r, eq2, ieq_sym d0, ieq_sym d1] at hst
      clear hnx hno hEo hq
      cases q1 : (ieq a0 d0 && ieq a1 d1)
      · rw [q1] at hst
        cases q2 : (ieq c0 d0 && ieq c1 d1)
        · rw [q2] at hst
          replace hst : Hid (rndF (some W) (d0, d1) Q (edN v (i + 1)) = C) := hst
          repeat' first
            | (with_reducible refine gw_bool (fun _ => ?_) (fun _ => ?_))
            | (with_reducible refine condw_bool (fun _ => ?_) (fun _ => ?_))
            | simp [*]
          refine nxt_go (i + 1) ((View.forget _ _ 12)) (by omega) (by simp [*, Keep, St.forget, scr, scrC]) (by simp [*, KeepH, St.forget, scr, scrC]) ?_
          refine ⟨by omega, by simp [*, St.forget, scr, scrC], ?_, ?_⟩
          · rw [hst.out]; simp [*, St.forget, scr, scrC]
          · rw [hst.out]; simp [*, St.forget, scr, scrC]
        · rw [q2] at hst
          simp only [Bool.false_eq_true, if_false, if_true] at hst
          obtain ⟨v1, v2, v3⟩ := vis_cases W C a0 a1
          cases m1 : memN W a0 a1
          · cases m2 : memN C a0 a1
            · rw [v3 m1 m2] at hst
              replace hst : Hid (_) := hst
              clear v1 v2 v3
              repeat' first
                | (with_reducible refine gw_bool (fun _ => ?_) (fun _ => ?_))
                | (with_reducible refine condw_bool (fun _ => ?_) (fun _ => ?_))
                | simp [*, setsV, appendV, srcCells, St.forget, scr, scrC]
              refine nxt_go (i + 1) ((View.forget _ _ 79).trans ((View.forget _ _ 13).trans ((View.forget _ _ 12)))) (by omega) (by simp [*, Keep, St.forget, scr, scrC]) (by simp [*, KeepH, St.forget, scr, scrC]) ?_
              refine ⟨by omega, by simp [*, St.forget, scr, scrC], ?_, ?_⟩
              · rw [hst.out]; simp [*, St.forget, scr, scrC]
              · rw [hst.out]; simp [*, St.forget, scr, scrC, ndC_snoc]
            · rw [v2 m2] at hst
              replace hst : Hid (_) := hst
              clear v1 v2 v3
              repeat' first
                | (with_reducible refine gw_bool (fun _ => ?_) (fun _ => ?_))
                | (with_reducible refine condw_bool (fun _ => ?_) (fun _ => ?_))
                | simp [*, setsV]
              refine nxt_go (i + 1) ((View.forget _ _ 13).trans ((View.forget _ _ 12))) (by omega) (by simp [*, Keep, St.forget, scr, scrC]) (by simp [*, KeepH, St.forget, scr, scrC]) ?_
              refine ⟨by omega, by simp [*, St.forget, scr, scrC], ?_, ?_⟩
              · rw [hst.out]; simp [*, St.forget, scr, scrC]
              · rw [hst.out]; simp [*, St.forget, scr, scrC]
          · rw [v1 m1] at hst
            replace hst : Hid (_) := hst
            clear v1 v2 v3
            repeat' first
              | (with_reducible refine gw_bool (fun _ => ?_) (fun _ => ?_))
              | (with_reducible refine condw_bool (fun _ => ?_) (fun _ => ?_))
              | simp [*, setsV]
            refine nxt_go (i + 1) ((View.forget _ _ 13).trans ((View.forget _ _ 12))) (by omega) (by simp [*, Keep, St.forget, scr, scrC]) (by simp [*, KeepH, St.forget, scr, scrC]) ?_
            refine ⟨by omega, by simp [*, St.forget, scr, scrC], ?_, ?_⟩
            · rw [hst.out]; simp [*, St.forget, scr, scrC]
            · rw [hst.out]; simp [*, St.forget, scr, scrC]
      · rw [q1] at hst
        simp only [if_true] at hst
        obtain ⟨v1, v2, v3⟩ := vis_cases W C c0 c1
        cases m1 : memN W c0 c1
        · cases m2 : memN C c0 c1
          · rw [v3 m1 m2] at hst
            replace hst : Hid (_) := hst
            clear v1 v2 v3
            repeat' first
              | (with_reducible refine gw_bool (fun _ => ?_) (fun _ => ?_))
              | (with_reducible refine condw_bool (fun _ => ?_) (fun _ => ?_))
              | simp [*, setsV, appendV, srcCells, St.forget, scr, scrC]
            refine nxt_go (i + 1) ((View.forget _ _ 79).trans ((View.forget _ _ 13).trans ((View.forget _ _ 12)))) (by omega) (by simp [*, Keep, St.forget, scr, scrC]) (by simp [*, KeepH, St.forget, scr, scrC]) ?_
            refine ⟨by omega, by simp [*, St.forget, scr, scrC], ?_, ?_⟩
            · rw [hst.out]; simp [*, St.forget, scr, scrC]
            · rw [hst.out]; simp [*, St.forget, scr, scrC, ndC_snoc]
          · rw [v2 m2] at hst
            replace hst : Hid (_) := hst
            clear v1 v2 v3
            repeat' first
              | (with_reducible refine gw_bool (fun _ => ?_) (fun _ => ?_))
              | (with_reducible refine condw_bool (fun _ => ?_) (fun _ => ?_))
              | simp [*, setsV]
            refine nxt_go (i + 1) ((View.forget _ _ 13).trans ((View.forget _ _ 12))) (by omega) (by simp [*, Keep, St.forget, scr, scrC]) (by simp [*, KeepH, St.forget, scr, scrC]) ?_
            refine ⟨by omega, by simp [*, St.forget, scr, scrC], ?_, ?_⟩
            · rw [hst.out]; simp [*, St.forget, scr, scrC]
            · rw [hst.out]; simp [*, St.forget, scr, scrC]
        · rw [v1 m1] at hst
          replace hst : Hid (_) := hst
          clear v1 v2 v3
          repeat' first
            | (with_reducible refine gw_bool (fun _ => ?_) (fun _ => ?_))
            | (with_reducible refine condw_bool (fun _ => ?_) (fun _ => ?_))
            | simp [*, setsV]
          refine nxt_go (i + 1) ((View.forget _ _ 13).trans ((View.forget _ _ 12))) (by omega) (by simp [*, Keep, St.forget, scr, scrC]) (by simp [*, KeepH, St.forget, scr, scrC]) ?_
          refine ⟨by omega, by simp [*, St.forget, scr, scrC], ?_, ?_⟩
          · rw [hst.out]; simp [*, St.forget, scr, scrC]
          · rw [hst.out]; simp [*, St.forget, scr, scrC]
    · have f2 : ilt (i : Int) (n : Int) = false := ilt_f (by omega)
      have e2 : i = n := by omega
      subst e2
      have hQ2 := hQn.out
      have hl2 := (hlen.out i (Nat.le_refl _)).2
      generalize rndF (some W) (d0, d1) Q (edN v i) = C at g9 g15 hRn hQ2 hl2
      have hkC : k < C.length := (List.getElem?_eq_some_iff.1 hl2).1
      clear hat hlen hQn hl2
      replace hQ2 : Hid (_) := hQ2
      repeat' first
        | (with_reducible refine gw_bool (fun _ => ?_) (fun _ => ?_))
        | (with_reducible refine condw_bool (fun _ => ?_) (fun _ => ?_))
        | simp [*]
      refine nxt_go (k + 1, C) (View.refl _ _) (by simp only; omega) (by simp [*, Keep]) (by simp [*, KeepH]) ?_
      exact ⟨by simp only; omega, hQ2.out, hRn, by simp [*], by simp [*], by simp [*]⟩
  · have f1 : ilt (k : Int) (Q.length : Int) = false := ilt_f (by omega)
    have e1 : Q = R := by
      have := hR.out
      rw [show 100 - k = (100 - (k + 1)) + 1 by omega, clo, List.getElem?_eq_none (by omega)] at this
      exact this
    clear hR hat
    subst e1
    repeat' first
      | (with_reducible refine gw_bool (fun _ => ?_) (fun _ => ?_))
      | (with_reducible refine condw_bool (fun _ => ?_) (fun _ => ?_))
      | simp [*]
end Go.Proofs.Ytcbddoopmkhlfaa
end
section
namespace Go.Proofs.Ytcbddoopmkhlfaa
open Go.Pv Go.RowKit
set_option linter.unusedSimpArgs false
set_option linter.unusedVariables false
set_option maxRecDepth 100000
set_option maxHeartbeats 4000000
attribute [-simp] Tclo_at Tgrp_at Tchk Tpchk TcI TcB Tclo Tgrp Tsid Tnod Tlook Tbnd TsidA Tre Tidx Tnms Tnmd Tobj Tlks Tbay Trck Trpc Tres TSd TBd Tnm Tlv Tfd Tfn Tlg Tgps Trg Trf Trsd Trnd Tar Ted Tin TsrcN

def Trch : List V → Option V
  | [.agg a, .agg b, .agg [.int .i64 c, .int .i64 d], .list 2 xs] => (match unStn a, unPos b, decL unN2 xs with
    | some s, some p, some W => if okP s p = true ∧ W.length ≤ 1000000 then some (.list 2 ((reachL (some W) (edg ⟨s, p, grp s p⟩) (c, d)).map nd2)) else none
    | _, _, _ => none)
  | _ => none
theorem Trch_at {s : Stn} {p : Pos} {c d : Int} {W : List Nd} (h : okP s p = true) (hW : W.length ≤ 1000000) : Trch [.agg [.str s.nm, .list 1 (s.bs.map s1), .list 5 (s.ls.map Ln.cs), .list 6 (s.ss.map Sr.cs), .list 12 (s.qs.map By.cs)], .agg [.list 1 (p.cl.map b1), .list 1 (p.lk.map r1)], .agg [.int .i64 c, .int .i64 d], .list 2 (W.map nd2)] = some (.list 2 ((reachL (some W) (edg ⟨s, p, grp s p⟩) (c, d)).map nd2)) := by
  have e1 := unStn_cs s
  have e2 := unPos_cs p
  unfold Stn.cs at e1
  unfold Pos.cs at e2
  simp [Trch, e1, e2, decL_map unN2_cs, h, hW]
theorem rch_tab : ∀ vs v, Trch vs = some v → PFresh Try.prog 59 vs v := by
  intro vs v h; unfold Trch at h; split at h
  · split at h
    · rename_i h1 h2 h3
      split at h
      · rename_i hl
        cases h; rw [unStn_inv _ _ h1, unPos_inv _ _ h2, decL_inv unN2_inv _ _ h3]; exact reached_ok hl.1 _ (_, _) hl.2
      · cases h
    · cases h
  · cases h
def TrchN : List V → Option V
  | [A, B, C, .nils] => Trch [A, B, C, .list 2 []]
  | vs => Trch vs
theorem rchN_tab : ∀ vs v, TrchN vs = some v → PFresh Try.prog 59 vs v := by
  intro vs v h; unfold TrchN at h; split at h
  · exact (rch_tab _ _ h).weaken (.cons (Wk.refl _) (.cons (Wk.refl _) (.cons (Wk.refl _) (.cons (Wk.nils 2) .nil)))) (Wk.refl _)
  · exact rch_tab _ _ h
theorem TrchN_nil {A B C : V} : TrchN [A, B, C, .nils] = Trch [A, B, C, .list 2 []] := rfl
theorem TrchN_list {A B C : V} {k : Nat} {l : List (List V)} : TrchN [A, B, C, .list k l] = Trch [A, B, C, .list k l] := rfl
def E15 : Tab := addF 59 TrchN (E14)
theorem E15_at (f : FuncId) (vs : List V) : E15.at' f vs = if f = 59 then TrchN vs else E14.at' f vs := rfl
theorem E15_fr (f : FuncId) : E15.fr f = if f = 59 then true else E14.fr f := rfl
theorem E15_gb (f : FuncId) : E15.gb f = E14.gb f := rfl
theorem E15_gv (f : FuncId) (vs : List V) : E15.gv f vs = E14.gv f vs := rfl
attribute [simp] E15_at E15_fr E15_gb E15_gv TrchN
theorem E15_ok : TabOK Try.prog E15 := by
  refine addF_ok (E14_ok) (by kernel_rfl) ?_
  · exact rchN_tab
attribute [-simp] TrchN
attribute [simp] TrchN_nil TrchN_list
theorem clo_none (E : List Ed) : ∀ (f i : Nat) (Q : List Nd), clo none E f i Q = clo (some []) E f i Q
  | 0, _, _ => rfl
  | f + 1, i, Q => by
    unfold clo
    split
    · rfl
    · exact clo_none E f (i + 1) _
theorem edg16 {s : Stn} {p : Pos} (h : okP s p = true) : (edg ⟨s, p, grp s p⟩).length ≤ 40 := Nat.le_trans (edg_len _) (cl40 h)
theorem QI.rl {E : List Ed} {c : Nd} {o : Option (List Nd)} : ∀ (f i : Nat) (Q : List Nd), QI E c Q → (clo o E f i Q).length ≤ 1 + 2 * E.length
  | 0, _, _, h => h.len
  | f + 1, i, Q, h => by
    unfold clo
    split
    · exact h.len
    · exact QI.rl f (i + 1) _ (h.rnd E (fun x hx => hx))
theorem rl_len (o : Option (List Nd)) (E : List Ed) (c : Nd) : (reachL o E c).length ≤ 1 + 2 * E.length := QI.rl (c := c) 100 0 [c] ⟨by simp, fun n hn => by simp at hn; subst hn; simp⟩
theorem rLive_ok {s : Stn} {p : Pos} (h : okP s p = true) (k o : Int) : PCall Try.prog 30 [.agg s.cs, .agg p.cs, .agg [.int .i64 k, .int .i64 o]] (.bool (liveF s p k o)) := by
  have hTf := Trf_at (lkB_of (okP_iff h).1) (lenB_ok h)
  rw [h] at hTf
  have hTn := Trnd_at (k := k) (o := o) h
  obtain ⟨N, hN⟩ : ∃ N, nodF s (grp s p) k o = N := ⟨_, rfl⟩
  rw [hN] at hTn
  have hEl := edg16 h
  cases N with
  | none =>
    have hv : liveF s p k o = false := by simp [liveF, hN]
    rw [hv]
    clear hv h hN
    refine pcall_cx E15_ok mixed (fun _ => none) Try.func30 rfl Try.ntmps30 Try.results30 (by simp) (by kernel_rfl) ?_
    repeat' first
      | (with_reducible refine gw_bool (fun _ => ?_) (fun _ => ?_))
      | (with_reducible refine condw_bool (fun _ => ?_) (fun _ => ?_))
      | simp [*, Stn.cs, Pos.cs, nodA]
  | some n =>
    have hnk := nod_kind hN
    obtain ⟨n0, n1⟩ := n
    simp only at hnk
    have hz : ieq n0 0 = false := ieq_f (by omega)
    have hl := rl_len (some []) (edg ⟨s, p, grp s p⟩) (n0, n1)
    have hv : liveF s p k o = srcB (reachL (some []) (edg ⟨s, p, grp s p⟩) (n0, n1)) := by
      simp only [liveF, hN]
      rw [reach_src hEl]
      show srcB (clo none _ _ _ _) = srcB (clo (some []) _ _ _ _)
      rw [clo_none]
    rw [hv]
    have hTr := Trch_at (c := n0) (d := n1) (W := []) h (by simp)
    simp only [List.map_nil] at hTr
    generalize reachL (some []) (edg ⟨s, p, grp s p⟩) (n0, n1) = R at hTr hl ⊢
    have hTs := TsrcN_at (L := R) (by omega)
    clear hv h hN hnk
    refine pcall_cx E15_ok mixed (fun _ => none) Try.func30 rfl Try.ntmps30 Try.results30 (by simp) (by kernel_rfl) ?_
    repeat' first
      | (with_reducible refine gw_bool (fun _ => ?_) (fun _ => ?_))
      | (with_reducible refine condw_bool (fun _ => ?_) (fun _ => ?_))
      | simp [*, Stn.cs, Pos.cs, nodA]
/-! ### Fed -/
def rinF (s : Stn) (g : List Int) (L : List Nd) (z : Nd) : List Nd := match nodF s g z.1 z.2 with
  | some n => L ++ [n]
  | none => L
def rinN (s : Stn) (g : List Int) (zs : List Nd) (i : Nat) : List Nd := (zs.take i).foldl (rinF s g) []
theorem rinN_step {s : Stn} {g : List Int} {zs : List Nd} {i : Nat} {z : Nd} (h : zs[i]? = some z) : rinN s g zs (i + 1) = rinF s g (rinN s g zs i) z := by
  simp [rinN, take_snoc h]
theorem rin_mem {s : Stn} {g : List Int} {n : Nd} : ∀ {zs L : List Nd}, n ∈ zs.foldl (rinF s g) L ↔ n ∈ L ∨ ∃ z ∈ zs, nodF s g z.1 z.2 = some n
  | [], L => by simp
  | z :: zs, L => by
    rw [List.foldl_cons, rin_mem]
    have : n ∈ rinF s g L z ↔ n ∈ L ∨ nodF s g z.1 z.2 = some n := by
      unfold rinF
      split
      · rename_i m hm; simp [hm, eq_comm]
      · rename_i hm; simp [hm]
    rw [this]
    simp [or_assoc]
theorem rinN_len (s : Stn) (g : List Int) (zs : List Nd) : ∀ i, (rinN s g zs i).length ≤ i
  | 0 => by simp [rinN]
  | i + 1 => by
    have ih := rinN_len s g zs i
    cases hz : zs[i]? with
    | none =>
      have hl := List.getElem?_eq_none_iff.1 hz
      have : rinN s g zs (i + 1) = rinN s g zs i := by simp only [rinN]; rw [List.take_of_length_le (by omega), List.take_of_length_le hl]
      rw [this]; omega
    | some z =>
      rw [rinN_step hz]
      unfold rinF
      split
      · simp; omega
      · omega
theorem memN_congr {L M : List Nd} (h : ∀ n, n ∈ L ↔ n ∈ M) (a b : Int) : memN L a b = memN M a b := by
  rw [Bool.eq_iff_iff, memN_iff, memN_iff]; exact h _
theorem vis_congr {L M : List Nd} (h : ∀ n, n ∈ L ↔ n ∈ M) (Q : List Nd) (n : Nd) : vis (some L) Q n = vis (some M) Q n := by
  unfold vis
  rw [show memN (woL (some L)) n.1 n.2 = memN (woL (some M)) n.1 n.2 from memN_congr h _ _]
theorem rnd_congr {L M : List Nd} (h : ∀ n, n ∈ L ↔ n ∈ M) (c : Nd) : ∀ (E : List Ed) (Q : List Nd), rndF (some L) c Q E = rndF (some M) c Q E
  | [], _ => rfl
  | x :: E, Q => by
    show rndF (some L) c (edv (some L) c Q x) E = rndF (some M) c (edv (some M) c Q x) E
    have : edv (some L) c Q x = edv (some M) c Q x := by
      unfold edv; rw [vis_congr h, vis_congr h]
    rw [this]; exact rnd_congr h c E _
theorem clo_congr {L M : List Nd} (h : ∀ n, n ∈ L ↔ n ∈ M) (E : List Ed) : ∀ (f i : Nat) (Q : List Nd), clo (some L) E f i Q = clo (some M) E f i Q
  | 0, _, _ => rfl
  | f + 1, i, Q => by
    unfold clo
    split
    · rfl
    · rw [rnd_congr h]; exact clo_congr h E f (i + 1) _
/-- What the document answers for an edge. -/
def rfedX (E : List Ed) (L : List Nd) (x : Ed) : Bool :=
  if (memN L x.a0 x.a1 == memN L x.c0 x.c1) = true then false
  else srcB (reachL (some L) E (if memN L x.a0 x.a1 = true then x.r else x.l))
theorem fed_ref {s : Stn} {p : Pos} (h : okP s p = true) {zs : List Nd} {x : Ed} (hx : x ∈ edg ⟨s, p, grp s p⟩) : fedF s p zs x.i = rfedX (edg ⟨s, p, grp s p⟩) (rinN s (grp s p) zs zs.length) x := by
  have hm : ∀ n, n ∈ rinN s (grp s p) zs zs.length ↔ n ∈ insA s (grp s p) zs := fun n => by
    rw [insA_mem, rinN, List.take_length, rin_mem]; simp
  rw [fedF, fedV_at hx (ieq_t rfl)]
  simp only [fedX, rfedX, reachL, memN_congr hm, clo_congr hm]
  split
  · rfl
  · rw [reach_src (edg16 h)]; rfl
theorem fed_not {s : Stn} {p : Pos} {zs : List Nd} {b : Int} (h : ∀ x ∈ edg ⟨s, p, grp s p⟩, (x.i : Int) ≠ b) : fedF s p zs b = false := fedV_none fun x hx => ieq_f (h x hx)
end Go.Proofs.Ytcbddoopmkhlfaa
end
section
namespace Go.Proofs.Ytcbddoopmkhlfaa
open Go.Pv Go.RowKit
set_option linter.unusedSimpArgs false
set_option linter.unusedVariables false
set_option maxRecDepth 100000
set_option maxHeartbeats 4000000
attribute [-simp] Tclo_at Tgrp_at Tchk Tpchk TcI TcB Tclo Tgrp Tsid Tnod Tlook Tbnd TsidA Tre Tidx Tnms Tnmd Tobj Tlks Tbay Trck Trpc Tres TSd TBd Tnm Tlv Tfd Tfn Tlg Tgps Trg Trf Trsd Trnd Tar Ted Tin TsrcN TrchN

theorem rFed_ok {s : Stn} {p : Pos} (h : okP s p = true) (zs : List Nd) (hz : zs.length ≤ 1000) (bay : Int) : PCall Try.prog 23 [.agg s.cs, .agg p.cs, .list 2 (zs.map nd2), .int .i64 bay] (.bool (fedF s p zs bay)) := by
  have hTf := Trf_at (lkB_of (okP_iff h).1) (lenB_ok h)
  rw [h] at hTf
  have hnc := (pfine_of (okP_iff h).2).nc
  obtain ⟨n, hn⟩ : ∃ n, s.qs.length = n := ⟨_, rfl⟩
  have hout : ¬ (0 ≤ bay ∧ bay < n) → fedF s p zs bay = false := fun hh => fed_not fun x hx e => by
    have := edg_lt hx
    simp only at this
    omega
  cases q0 : ilt bay 0
  case true =>
    have hv := hout (fun hh => by have := ilt_iff.1 q0; omega)
    rw [hv]
    clear h hv hout
    refine pcall_cx E15_ok mixed (fun _ => none) Try.func23 rfl Try.ntmps23 Try.results23 (by simp) (by kernel_rfl) ?_
    repeat' first
      | (with_reducible refine gw_bool (fun _ => ?_) (fun _ => ?_))
      | (with_reducible refine condw_bool (fun _ => ?_) (fun _ => ?_))
      | simp [*, Stn.cs, Pos.cs]
  cases q1 : ilt bay (n : Int)
  · have hv := hout (fun hh => by have := ilt_iff'.1 q1; omega)
    rw [hv]
    clear h hv hout
    refine pcall_cx E15_ok mixed (fun _ => none) Try.func23 rfl Try.ntmps23 Try.results23 (by simp) (by kernel_rfl) ?_
    repeat' first
      | (with_reducible refine gw_bool (fun _ => ?_) (fun _ => ?_))
      | (with_reducible refine condw_bool (fun _ => ?_) (fun _ => ?_))
      | simp [*, Stn.cs, Pos.cs]
  clear hout
  obtain ⟨i, rfl⟩ := Int.eq_ofNat_of_zero_le (ilt_iff'.1 q0)
  have hi : i < s.qs.length := by have := ilt_iff.1 q1; omega
  obtain ⟨a0, a1, c0, c1, hS, -, -, -⟩ := sid_nodes h hi
  obtain ⟨cl, hcl, -⟩ := at_ex (l := p.cl) (i := i) (by omega)
  have hTe := Ted_at h hi hS hcl
  have hTs := Trsd_at h ((rsdF_of hi).trans hS)
  have hEo := edOf_eq (v := ⟨s, p, grp s p⟩) hS hcl
  cases hq : isE cl a0 a1 c0 c1
  · rw [hq] at hTe hEo
    have hv : fedF s p zs i = false := fed_not fun x hx e => by
      have h1 := (edN_i hx).2
      have e2 : x.i = i := by omega
      rw [e2, hEo] at h1
      cases h1
    rw [hv]
    clear h hv hS hcl hEo hTs
    refine pcall_cx E15_ok mixed (fun _ => none) Try.func23 rfl Try.ntmps23 Try.results23 (by simp) (by kernel_rfl) ?_
    repeat' first
      | (with_reducible refine gw_bool (fun _ => ?_) (fun _ => ?_))
      | (with_reducible refine condw_bool (fun _ => ?_) (fun _ => ?_))
      | simp [*, Stn.cs, Pos.cs]
  rw [hq] at hTe hEo
  have hx : (⟨i, a0, a1, c0, c1⟩ : Ed) ∈ edg ⟨s, p, grp s p⟩ := mem_edN (by simp only; omega) hEo
  have hv : fedF s p zs i = rfedX (edg ⟨s, p, grp s p⟩) (rinN s (grp s p) zs zs.length) ⟨i, a0, a1, c0, c1⟩ := fed_ref h hx
  rw [hv]
  have hEl := edg16 h
  have hTz : Hid (∀ z : Nd, Trnd [.agg [.str s.nm, .list 1 (s.bs.map s1), .list 5 (s.ls.map Ln.cs), .list 6 (s.ss.map Sr.cs), .list 12 (s.qs.map By.cs)], .agg [.list 1 (p.cl.map b1), .list 1 (p.lk.map r1)], .agg [.int .i64 z.1, .int .i64 z.2]] = some (nodA (nodF s (grp s p) z.1 z.2))) := show _ from fun z => Trnd_at h
  have hTr : Hid (∀ (c d : Int) (L : List Nd), L.length ≤ 1000 → Trch [.agg [.str s.nm, .list 1 (s.bs.map s1), .list 5 (s.ls.map Ln.cs), .list 6 (s.ss.map Sr.cs), .list 12 (s.qs.map By.cs)], .agg [.list 1 (p.cl.map b1), .list 1 (p.lk.map r1)], .agg [.int .i64 c, .int .i64 d], .list 2 (L.map nd2)] = some (.list 2 ((reachL (some L) (edg ⟨s, p, grp s p⟩) (c, d)).map nd2))) := show _ from fun c d L hL => Trch_at h (by omega)
  obtain ⟨m, hm⟩ : ∃ m, zs.length = m := ⟨_, rfl⟩
  rw [hm] at hz ⊢
  generalize grp s p = G at *
  generalize edg ⟨s, p, G⟩ = E at *
  obtain ⟨R, hR⟩ : ∃ R, rfedX E (rinN s G zs m) ⟨i, a0, a1, c0, c1⟩ = R := ⟨_, rfl⟩
  rw [hR]
  replace hR : Hid (_) := hR
  simp only [List.map_cons, List.map_nil] at hTs
  clear h hv hS hcl hEo hx hq hi
  refine pcall_cx E15_ok mixed (fun _ => none) Try.func23 rfl Try.ntmps23 Try.results23 (by simp) (by kernel_rfl) ?_
  repeat' first
    | (with_reducible refine gw_bool (fun _ => ?_) (fun _ => ?_))
    | (with_reducible refine condw_bool (fun _ => ?_) (fun _ => ?_))
    | simp [*, Stn.cs, Pos.cs]
  refine lp_view (View.nilOwn _ (t := 9) (key := 55) 2 60 (by simp) (by simp)) ?_
  refine lp_go (D := (fun _ => none)) E15_ok mixed (by kernel_rfl) [2, 3, 4, 5] [4, 5, 11, 12, 13, 54] (α := Nat) (fun j e h => j ≤ m ∧ e 10 = .int .i64 j ∧ e 9 = .sl 55 0 (rinN s G zs j).length 2 ∧ h 55 = some ⟨60, ndC (rinN s G zs j)⟩) (fun j => m - j) 0 ?_ ?_
  · exact ⟨by omega, by simp, by simp [rinN], by simp [rinN, ndC]⟩
  rintro j e h hk hkh ⟨hj, g7, g9, g55⟩
  simp [Keep] at hk
  simp [KeepH] at hkh
  have hll := rinN_len s G zs j
  by_cases hlt : j < m
  · obtain ⟨z, hz1, hz2⟩ := at_ex (l := zs) (i := j) (by omega)
    have f1 : ilt (j : Int) (m : Int) = true := ilt_t (by omega)
    have w1 : IntKind.i64.wrap ((j : Int) + 1) = ((j + 1 : Nat) : Int) := wrap_succ (by omega)
    have hst := rinN_step (s := s) (g := G) hz1
    have hTn := hTz.out z
    rw [rinF] at hst
    generalize rinN s G zs j = C at g9 g55 hll hst
    have f5 : (C.length + 1) * 16 ≤ 140737488355328 := by omega
    have f6 : C.length + 1 ≤ 9223372036854775807 := by omega
    clear hR hTr hTz hTe hTs hTf
    cases hN : nodF s G z.1 z.2 with
    | none =>
      rw [hN] at hst hTn
      replace hst : Hid (_) := hst
      repeat' first
        | (with_reducible refine gw_bool (fun _ => ?_) (fun _ => ?_))
        | (with_reducible refine condw_bool (fun _ => ?_) (fun _ => ?_))
        | simp [*, nd2, nodA]
      refine nxt_go (j + 1) ((View.forget _ _ 11)) (by omega) (by simp [*, Keep, St.forget, scr, scrC]) (by simp [*, KeepH, St.forget, scr, scrC]) ?_
      refine ⟨by omega, by simp [*, St.forget, scr, scrC], ?_, ?_⟩
      · rw [hst.out]; simp [*, St.forget, scr, scrC]
      · rw [hst.out]; simp [*, St.forget, scr, scrC]
    | some nd =>
      have hnk := nod_kind hN
      obtain ⟨n0, n1⟩ := nd
      rw [hN] at hst hTn
      simp only at hnk
      have hz0 : ieq n0 0 = false := ieq_f (by omega)
      replace hst : Hid (_) := hst
      repeat' first
        | (with_reducible refine gw_bool (fun _ => ?_) (fun _ => ?_))
        | (with_reducible refine condw_bool (fun _ => ?_) (fun _ => ?_))
        | simp [*, nd2, nodA, appendV, srcCells, St.forget, scr, scrC]
      refine nxt_go (j + 1) ((View.forget _ _ 54).trans ((View.forget _ _ 11))) (by omega) (by simp [*, Keep, St.forget, scr, scrC]) (by simp [*, KeepH, St.forget, scr, scrC]) ?_
      refine ⟨by omega, by simp [*, St.forget, scr, scrC], ?_, ?_⟩
      · rw [hst.out]; simp [*, St.forget, scr, scrC]
      · rw [hst.out]; simp [*, St.forget, scr, scrC, ndC_snoc]
  have f1 : ilt (j : Int) (m : Int) = false := ilt_f (by omega)
  have e1 : j = m := by omega
  subst e1
  have hR' := hR.out
  generalize rinN s G zs j = L at g9 g55 hll hR'
  have hchL := chunks_nd L
  have hTi : ∀ a b : Int, _ := fun a b => Tin_at (L := L) (a := a) (b := b) (by omega)
  have hTL : ∀ c d : Int, _ := fun c d => hTr.out c d L (by omega)
  clear hR hTr hTz hTe
  simp only [rfedX] at hR'
  cases q : (memN L a0 a1 == memN L c0 c1)
  case true =>
    rw [q] at hR'
    have hRf : R = false := by rw [← hR']; rfl
    clear hR' hTL
    repeat' first
      | (with_reducible refine gw_bool (fun _ => ?_) (fun _ => ?_))
      | (with_reducible refine condw_bool (fun _ => ?_) (fun _ => ?_))
      | simp [*, setsV]
  rw [q] at hR'
  simp only [Bool.false_eq_true, if_false] at hR'
  cases m1 : memN L a0 a1
  · have m2 : memN L c0 c1 = true := by rw [m1] at q; simpa using q
    clear q
    rw [m1] at hR'
    simp only [Bool.false_eq_true, if_false, Ed.l] at hR'
    have hT := hTL a0 a1
    have hl := rl_len (some L) E (a0, a1)
    generalize reachL (some L) E (a0, a1) = Q at hT hl hR'
    have hTs2 := TsrcN_at (L := Q) (by omega)
    rw [hR'] at hTs2
    clear hTL hR'
    repeat' first
      | (with_reducible refine gw_bool (fun _ => ?_) (fun _ => ?_))
      | (with_reducible refine condw_bool (fun _ => ?_) (fun _ => ?_))
      | simp [*, setsV]
  · have m2 : memN L c0 c1 = false := by rw [m1] at q; simpa using q
    clear q
    rw [m1] at hR'
    simp only [if_true, Ed.r] at hR'
    have hT := hTL c0 c1
    have hl := rl_len (some L) E (c0, c1)
    generalize reachL (some L) E (c0, c1) = Q at hT hl hR'
    have hTs2 := TsrcN_at (L := Q) (by omega)
    rw [hR'] at hTs2
    clear hTL hR'
    repeat' first
      | (with_reducible refine gw_bool (fun _ => ?_) (fun _ => ?_))
      | (with_reducible refine condw_bool (fun _ => ?_) (fun _ => ?_))
      | simp [*, setsV]
end Go.Proofs.Ytcbddoopmkhlfaa
end
section
namespace Go.Proofs.Ytcbddoopmkhlfaa
open Go.Pv Go.RowKit
set_option linter.unusedSimpArgs false
set_option linter.unusedVariables false
set_option maxRecDepth 100000
set_option maxHeartbeats 4000000
attribute [-simp] Tclo_at Tgrp_at Tchk Tpchk TcI TcB Tclo Tgrp Tsid Tnod Tlook Tbnd TsidA Tre Tidx Tnms Tnmd Tobj Tlks Tbay Trck Trpc Tres TSd TBd Tnm Tlv Tfd Tfn Tlg Tgps Trg Trf Trsd Trnd Tar Tix Tcon

/-- Is this bay the far end? -/
def farB (s : Stn) (o : Int) (k i : Nat) : Bool := match s.qs[i]? with
  | some b => !ieq (i : Int) (k : Int) && (ieq b.kind 1 && ieq b.ob o)
  | none => false
def farX (s : Stn) (o : Int) (k : Nat) : Int × Bool := match (List.range s.qs.length).find? (farB s o k) with
  | some i => ((i : Int), true)
  | none => (0, false)
def farF (s : Stn) (bay : Int) : Int × Bool :=
  if (ilt bay 0 || !ilt bay s.qs.length) = true then (0, false) else (match s.qs[bay.toNat]? with
    | some b => if ieq b.kind 1 = true then farX s b.ob bay.toNat else (bay, true)
    | none => (0, false))
def farW (x : Int × Bool) : V := .tup [.int .i64 x.1, .bool x.2]
theorem far_hit {s : Stn} {o : Int} {k i : Nat} (hi : i < s.qs.length) (h : farB s o k i = true) (hb : ∀ j, j < i → farB s o k j = false) : farX s o k = ((i : Int), true) := by
  have : (List.range s.qs.length).find? (farB s o k) = some i := by
    rw [List.find?_range_eq_some]
    exact ⟨h, by simpa using hi, fun j hj => by rw [hb j hj]; rfl⟩
  rw [farX, this]
theorem far_miss {s : Stn} {o : Int} {k : Nat} (hb : ∀ j, j < s.qs.length → farB s o k j = false) : farX s o k = (0, false) := by
  have : (List.range s.qs.length).find? (farB s o k) = none := by
    rw [List.find?_range_eq_none]
    exact fun i hi => by rw [hb i hi]; rfl
  rw [farX, this]
theorem Far_ok {s : Stn} {p : Pos} (h : okP s p = true) (bay : Int) : PCall Try.prog 37 [.agg s.cs, .agg p.cs, .int .i64 bay] (farW (farF s bay)) := by
  have hT := Tlook_at h
  have hn16 := (fine_of (okP_iff h).1).nq
  obtain ⟨n, hn⟩ : ∃ n, s.qs.length = n := ⟨_, rfl⟩
  rw [hn] at hn16
  generalize grp s p = G at hT
  clear h
  cases q0 : ilt bay 0
  case true =>
    have hv : farF s bay = (0, false) := by simp [farF, q0]
    rw [hv]
    clear hv
    refine pcall_cx HC_ok mixed (fun _ => none) Try.func37 rfl Try.ntmps37 Try.results37 (by simp) (by kernel_rfl) ?_
    repeat' first
      | (with_reducible refine gw_bool (fun _ => ?_) (fun _ => ?_))
      | (with_reducible refine condw_bool (fun _ => ?_) (fun _ => ?_))
      | simp [*, Stn.cs, Pos.cs, Vu.cs, farW]
  cases q1 : ilt bay (n : Int)
  · have hv : farF s bay = (0, false) := by simp [farF, q0, q1, hn]
    rw [hv]
    clear hv
    refine pcall_cx HC_ok mixed (fun _ => none) Try.func37 rfl Try.ntmps37 Try.results37 (by simp) (by kernel_rfl) ?_
    repeat' first
      | (with_reducible refine gw_bool (fun _ => ?_) (fun _ => ?_))
      | (with_reducible refine condw_bool (fun _ => ?_) (fun _ => ?_))
      | simp [*, Stn.cs, Pos.cs, Vu.cs, farW]
  obtain ⟨k, rfl⟩ := Int.eq_ofNat_of_zero_le (ilt_iff'.1 q0)
  have hk := ilt_iff.1 q1
  obtain ⟨b, hb, hb'⟩ := at_ex (l := s.qs) (i := k) (by omega)
  have hkn : k < n := by omega
  cases q2 : ieq b.kind 1
  · have hv : farF s k = ((k : Int), true) := by simp [farF, q0, q1, hn, hb, q2]
    rw [hv]
    clear hv
    refine pcall_cx HC_ok mixed (fun _ => none) Try.func37 rfl Try.ntmps37 Try.results37 (by simp) (by kernel_rfl) ?_
    repeat' first
      | (with_reducible refine gw_bool (fun _ => ?_) (fun _ => ?_))
      | (with_reducible refine condw_bool (fun _ => ?_) (fun _ => ?_))
      | simp [*, Stn.cs, Pos.cs, Vu.cs, farW, By.cs]
  have hv : farF s k = farX s b.ob k := by simp [farF, q0, q1, hn, hb, q2]
  rw [hv]
  clear hv
  have hhit : Hid (∀ i, i < n → farB s b.ob k i = true → (∀ j, j < i → farB s b.ob k j = false) → farX s b.ob k = ((i : Int), true)) := show _ from fun i hi => far_hit (by omega)
  have hmiss : Hid ((∀ j, j < n → farB s b.ob k j = false) → farX s b.ob k = (0, false)) := show _ from fun hb => far_miss (by rw [hn]; exact hb)
  generalize farX s b.ob k = R at hhit hmiss ⊢
  refine pcall_cx HC_ok mixed (fun _ => none) Try.func37 rfl Try.ntmps37 Try.results37 (by simp) (by kernel_rfl) ?_
  repeat' first
    | (with_reducible refine gw_bool (fun _ => ?_) (fun _ => ?_))
    | (with_reducible refine condw_bool (fun _ => ?_) (fun _ => ?_))
    | simp [*, Stn.cs, Pos.cs, Vu.cs, farW, By.cs]
  refine lp_go (D := (fun _ => none)) HC_ok mixed (by kernel_rfl) [2, 10, 42, 43] [3, 4, 8, 10, 12] (α := Nat) (fun i e h => i ≤ n ∧ e 44 = .int .i64 i ∧ Hid (∀ j, j < i → farB s b.ob k j = false)) (fun i => n - i) 0 ?_ ?_
  · exact ⟨by omega, by simp, show _ from fun j hj => by omega⟩
  rintro i e h hkk hkh ⟨hi, g7, hin⟩
  simp [Keep] at hkk
  simp [KeepH] at hkh
  clear hT
  by_cases hlt : i < n
  · obtain ⟨c, hc, hc'⟩ := at_ex (l := s.qs) (i := i) (by omega)
    have f1 : ilt (i : Int) (n : Int) = true := ilt_t (by omega)
    have w1 : IntKind.i64.wrap ((i : Int) + 1) = ((i + 1 : Nat) : Int) := wrap_succ (by omega)
    have hf : farB s b.ob k i = (!ieq (i : Int) (k : Int) && (ieq c.kind 1 && ieq c.ob b.ob)) := by simp [farB, hc]
    have hnx : farB s b.ob k i = false → Hid (∀ j, j < i + 1 → farB s b.ob k j = false) := fun hh => show _ from fun j hj => by
      by_cases e : j = i
      · subst e; exact hh
      · exact hin.out j (by omega)
    have hy : farB s b.ob k i = true → R = ((i : Int), true) := fun hh => hhit.out i hlt hh hin.out
    clear hin hhit hmiss
    cases r1 : ieq (i : Int) (k : Int)
    · cases r2 : ieq c.kind 1
      · have hq := hnx (by rw [hf, r1, r2]; rfl)
        clear hnx hy hf
        repeat' first
          | (with_reducible refine gw_bool (fun _ => ?_) (fun _ => ?_))
          | (with_reducible refine condw_bool (fun _ => ?_) (fun _ => ?_))
          | simp [*, By.cs]
        refine nxt_go (i + 1) ((View.forget _ _ 12)) (by omega) (by simp [*, Keep, St.forget, scr, scrC]) (by simp [*, KeepH, St.forget, scr, scrC]) ?_
        exact ⟨by omega, by simp [*, St.forget, scr, scrC], hq⟩
      · cases r3 : ieq c.ob b.ob
        · have hq := hnx (by rw [hf, r1, r2, r3]; rfl)
          clear hnx hy hf
          repeat' first
            | (with_reducible refine gw_bool (fun _ => ?_) (fun _ => ?_))
            | (with_reducible refine condw_bool (fun _ => ?_) (fun _ => ?_))
            | simp [*, By.cs]
          refine nxt_go (i + 1) ((View.forget _ _ 12)) (by omega) (by simp [*, Keep, St.forget, scr, scrC]) (by simp [*, KeepH, St.forget, scr, scrC]) ?_
          exact ⟨by omega, by simp [*, St.forget, scr, scrC], hq⟩
        · have hq := hy (by rw [hf, r1, r2, r3]; rfl)
          clear hnx hy hf
          repeat' first
            | (with_reducible refine gw_bool (fun _ => ?_) (fun _ => ?_))
            | (with_reducible refine condw_bool (fun _ => ?_) (fun _ => ?_))
            | simp [*, By.cs, farW]
    · have hq := hnx (by rw [hf, r1]; rfl)
      clear hnx hy hf
      repeat' first
        | (with_reducible refine gw_bool (fun _ => ?_) (fun _ => ?_))
        | (with_reducible refine condw_bool (fun _ => ?_) (fun _ => ?_))
        | simp [*, By.cs]
      refine nxt_go (i + 1) ((View.forget _ _ 12)) (by omega) (by simp [*, Keep, St.forget, scr, scrC]) (by simp [*, KeepH, St.forget, scr, scrC]) ?_
      exact ⟨by omega, by simp [*, St.forget, scr, scrC], hq⟩
  · have f1 : ilt (i : Int) (n : Int) = false := ilt_f (by omega)
    have hR := hmiss.out (by have := hin.out; rwa [show i = n by omega] at this)
    clear hin hhit hmiss
    repeat' first
      | (with_reducible refine gw_bool (fun _ => ?_) (fun _ => ?_))
      | (with_reducible refine condw_bool (fun _ => ?_) (fun _ => ?_))
      | simp [*, farW]
theorem rFar_ok {s : Stn} {p : Pos} (h : okP s p = true) (bay : Int) : PCall Try.prog 38 [.agg s.cs, .agg p.cs, .int .i64 bay] (farW (farF s bay)) := by
  have hT := Trf_at (lkB_of (okP_iff h).1) (lenB_ok h)
  rw [h] at hT
  have hn16 := (fine_of (okP_iff h).1).nq
  obtain ⟨n, hn⟩ : ∃ n, s.qs.length = n := ⟨_, rfl⟩
  rw [hn] at hn16
  clear h
  cases q0 : ilt bay 0
  case true =>
    have hv : farF s bay = (0, false) := by simp [farF, q0]
    rw [hv]
    clear hv
    refine pcall_cx E11_ok mixed (fun _ => none) Try.func38 rfl Try.ntmps38 Try.results38 (by simp) (by kernel_rfl) ?_
    repeat' first
      | (with_reducible refine gw_bool (fun _ => ?_) (fun _ => ?_))
      | (with_reducible refine condw_bool (fun _ => ?_) (fun _ => ?_))
      | simp [*, Stn.cs, Pos.cs, farW]
  cases q1 : ilt bay (n : Int)
  · have hv : farF s bay = (0, false) := by simp [farF, q0, q1, hn]
    rw [hv]
    clear hv
    refine pcall_cx E11_ok mixed (fun _ => none) Try.func38 rfl Try.ntmps38 Try.results38 (by simp) (by kernel_rfl) ?_
    repeat' first
      | (with_reducible refine gw_bool (fun _ => ?_) (fun _ => ?_))
      | (with_reducible refine condw_bool (fun _ => ?_) (fun _ => ?_))
      | simp [*, Stn.cs, Pos.cs, farW]
  obtain ⟨k, rfl⟩ := Int.eq_ofNat_of_zero_le (ilt_iff'.1 q0)
  have hk := ilt_iff.1 q1
  obtain ⟨b, hb, hb'⟩ := at_ex (l := s.qs) (i := k) (by omega)
  have hkn : k < n := by omega
  cases q2 : ieq b.kind 1
  · have hv : farF s k = ((k : Int), true) := by simp [farF, q0, q1, hn, hb, q2]
    rw [hv]
    clear hv
    refine pcall_cx E11_ok mixed (fun _ => none) Try.func38 rfl Try.ntmps38 Try.results38 (by simp) (by kernel_rfl) ?_
    repeat' first
      | (with_reducible refine gw_bool (fun _ => ?_) (fun _ => ?_))
      | (with_reducible refine condw_bool (fun _ => ?_) (fun _ => ?_))
      | simp [*, Stn.cs, Pos.cs, farW, By.cs]
  have hv : farF s k = farX s b.ob k := by simp [farF, q0, q1, hn, hb, q2]
  rw [hv]
  clear hv
  have hhit : Hid (∀ i, i < n → farB s b.ob k i = true → (∀ j, j < i → farB s b.ob k j = false) → farX s b.ob k = ((i : Int), true)) := show _ from fun i hi => far_hit (by omega)
  have hmiss : Hid ((∀ j, j < n → farB s b.ob k j = false) → farX s b.ob k = (0, false)) := show _ from fun hb => far_miss (by rw [hn]; exact hb)
  generalize farX s b.ob k = R at hhit hmiss ⊢
  refine pcall_cx E11_ok mixed (fun _ => none) Try.func38 rfl Try.ntmps38 Try.results38 (by simp) (by kernel_rfl) ?_
  repeat' first
    | (with_reducible refine gw_bool (fun _ => ?_) (fun _ => ?_))
    | (with_reducible refine condw_bool (fun _ => ?_) (fun _ => ?_))
    | simp [*, Stn.cs, Pos.cs, farW, By.cs]
  refine lp_go (D := (fun _ => none)) E11_ok mixed (by kernel_rfl) [2, 3, 8] [3, 4, 8] (α := Nat) (fun i e h => i ≤ n ∧ e 9 = .int .i64 i ∧ Hid (∀ j, j < i → farB s b.ob k j = false)) (fun i => n - i) 0 ?_ ?_
  · exact ⟨by omega, by simp, show _ from fun j hj => by omega⟩
  rintro i e h hkk hkh ⟨hi, g7, hin⟩
  simp [Keep] at hkk
  simp [KeepH] at hkh
  clear hT
  by_cases hlt : i < n
  · obtain ⟨c, hc, hc'⟩ := at_ex (l := s.qs) (i := i) (by omega)
    have f1 : ilt (i : Int) (n : Int) = true := ilt_t (by omega)
    have w1 : IntKind.i64.wrap ((i : Int) + 1) = ((i + 1 : Nat) : Int) := wrap_succ (by omega)
    have hf : farB s b.ob k i = (!ieq (i : Int) (k : Int) && (ieq c.kind 1 && ieq c.ob b.ob)) := by simp [farB, hc]
    have hnx : farB s b.ob k i = false → Hid (∀ j, j < i + 1 → farB s b.ob k j = false) := fun hh => show _ from fun j hj => by
      by_cases e : j = i
      · subst e; exact hh
      · exact hin.out j (by omega)
    have hy : farB s b.ob k i = true → R = ((i : Int), true) := fun hh => hhit.out i hlt hh hin.out
    clear hin hhit hmiss
    cases r2 : ieq c.kind 1
    · have hq := hnx (by rw [hf, r2]; simp)
      clear hnx hy hf
      repeat' first
        | (with_reducible refine gw_bool (fun _ => ?_) (fun _ => ?_))
        | (with_reducible refine condw_bool (fun _ => ?_) (fun _ => ?_))
        | simp [*, By.cs]
      refine nxt_go (i + 1) (View.refl _ _) (by omega) (by simp [*, Keep, St.forget, scr, scrC]) (by simp [*, KeepH, St.forget, scr, scrC]) ?_
      exact ⟨by omega, by simp [*, St.forget, scr, scrC], hq⟩
    · cases r3 : ieq c.ob b.ob
      · have hq := hnx (by rw [hf, r2, r3]; simp)
        clear hnx hy hf
        repeat' first
          | (with_reducible refine gw_bool (fun _ => ?_) (fun _ => ?_))
          | (with_reducible refine condw_bool (fun _ => ?_) (fun _ => ?_))
          | simp [*, By.cs]
        refine nxt_go (i + 1) (View.refl _ _) (by omega) (by simp [*, Keep, St.forget, scr, scrC]) (by simp [*, KeepH, St.forget, scr, scrC]) ?_
        exact ⟨by omega, by simp [*, St.forget, scr, scrC], hq⟩
      · cases r1 : ieq (i : Int) (k : Int)
        · have hq := hy (by rw [hf, r1, r2, r3]; rfl)
          clear hnx hy hf
          repeat' first
            | (with_reducible refine gw_bool (fun _ => ?_) (fun _ => ?_))
            | (with_reducible refine condw_bool (fun _ => ?_) (fun _ => ?_))
            | simp [*, By.cs, farW]
        · have hq := hnx (by rw [hf, r1]; rfl)
          clear hnx hy hf
          repeat' first
            | (with_reducible refine gw_bool (fun _ => ?_) (fun _ => ?_))
            | (with_reducible refine condw_bool (fun _ => ?_) (fun _ => ?_))
            | simp [*, By.cs]
          refine nxt_go (i + 1) (View.refl _ _) (by omega) (by simp [*, Keep, St.forget, scr, scrC]) (by simp [*, KeepH, St.forget, scr, scrC]) ?_
          exact ⟨by omega, by simp [*, St.forget, scr, scrC], hq⟩
  · have f1 : ilt (i : Int) (n : Int) = false := ilt_f (by omega)
    have hR := hmiss.out (by have := hin.out; rwa [show i = n by omega] at this)
    clear hin hhit hmiss
    repeat' first
      | (with_reducible refine gw_bool (fun _ => ?_) (fun _ => ?_))
      | (with_reducible refine condw_bool (fun _ => ?_) (fun _ => ?_))
      | simp [*, farW]
theorem rGroups_ok {s : Stn} {p : Pos} (h : okP s p = true) : PCall Try.prog 39 [.agg s.cs, .agg p.cs] (.list 1 ((grp s p).map i1)) := by
  have hT := Trf_at (lkB_of (okP_iff h).1) (lenB_ok h)
  rw [h] at hT
  refine pcall_cx E11_ok mixed (fun _ => none) Try.func39 rfl Try.ntmps39 Try.results39 (by simp) (by kernel_rfl) ?_
  repeat' first
    | (with_reducible refine gw_bool (fun _ => ?_) (fun _ => ?_))
    | (with_reducible refine condw_bool (fun _ => ?_) (fun _ => ?_))
    | simp [*, Stn.cs, Pos.cs]
end Go.Proofs.Ytcbddoopmkhlfaa
end
section
namespace Go.Proofs.Ytcbddoopmkhlfaa
open Go.Pv Go.RowKit
set_option linter.unusedSimpArgs false
set_option linter.unusedVariables false
set_option maxRecDepth 100000
set_option maxHeartbeats 4000000
attribute [-simp] Tclo_at Tgrp_at Tchk Tpchk TcI TcB Tclo Tgrp Tsid Tnod Tlook Tbnd TsidA Tre Tidx Tnms Tnmd Tobj Tlks Tbay Trck Trpc Tres TSd TBd Tnm Tlv Tfd Tfn Tlg Tgps Trg Trf Trsd Trnd Tar Tix Tcon

theorem rOther_ok {s : Stn} {p : Pos} (h : okP s p = true) (k o bay : Int) : PCall Try.prog 32 [.agg s.cs, .agg p.cs, .agg [.int .i64 k, .int .i64 o], .int .i64 bay] (nodV (othP s p k o bay)) := by
  have hTf := Trf_at (lkB_of (okP_iff h).1) (lenB_ok h)
  rw [h] at hTf
  have hTn := Trnd_at (k := k) (o := o) h
  obtain ⟨N, hN⟩ : ∃ N, nodF s (grp s p) k o = N := ⟨_, rfl⟩
  rw [hN] at hTn
  obtain ⟨n, hn⟩ : ∃ n, s.qs.length = n := ⟨_, rfl⟩
  have hout : ¬ (0 ≤ bay ∧ bay < n) → othP s p k o bay = none := fun hh => by
    simp only [othP, hN]
    cases N with
    | none => rfl
    | some m =>
      simp only
      rw [if_neg]
      intro hc
      obtain ⟨i, rfl, hi, _⟩ := bnd_mem.1 hc
      exact hh ⟨by omega, by omega⟩
  cases q0 : ilt bay 0
  case true =>
    have hv := hout (fun hh => by have := ilt_iff.1 q0; omega)
    rw [hv]
    clear h hv hout hN
    refine pcall_cx E11_ok mixed (fun _ => none) Try.func32 rfl Try.ntmps32 Try.results32 (by simp) (by kernel_rfl) ?_
    repeat' first
      | (with_reducible refine gw_bool (fun _ => ?_) (fun _ => ?_))
      | (with_reducible refine condw_bool (fun _ => ?_) (fun _ => ?_))
      | simp [*, Stn.cs, Pos.cs, nodV]
  cases q1 : ilt bay (n : Int)
  · have hv := hout (fun hh => by have := ilt_iff'.1 q1; omega)
    rw [hv]
    clear h hv hout hN
    refine pcall_cx E11_ok mixed (fun _ => none) Try.func32 rfl Try.ntmps32 Try.results32 (by simp) (by kernel_rfl) ?_
    repeat' first
      | (with_reducible refine gw_bool (fun _ => ?_) (fun _ => ?_))
      | (with_reducible refine condw_bool (fun _ => ?_) (fun _ => ?_))
      | simp [*, Stn.cs, Pos.cs, nodV]
  clear hout
  obtain ⟨i, rfl⟩ := Int.eq_ofNat_of_zero_le (ilt_iff'.1 q0)
  have hi := ilt_iff.1 q1
  cases N with
  | none =>
    have hv : othP s p k o i = none := by simp only [othP, hN]
    rw [hv]
    clear h hv hN
    refine pcall_cx E11_ok mixed (fun _ => none) Try.func32 rfl Try.ntmps32 Try.results32 (by simp) (by kernel_rfl) ?_
    repeat' first
      | (with_reducible refine gw_bool (fun _ => ?_) (fun _ => ?_))
      | (with_reducible refine condw_bool (fun _ => ?_) (fun _ => ?_))
      | simp [*, Stn.cs, Pos.cs, nodV, nodA]
  | some m =>
    have hmk := nod_kind hN
    obtain ⟨a0, a1, c0, c1, hS, -, -, -⟩ := sid_nodes h (i := i) (by omega)
    obtain ⟨n0, n1⟩ := m
    simp only at hmk
    have hz : ieq n0 0 = false := ieq_f (by omega)
    have hTa := Tar_at (o := n1) h hmk (show i < s.qs.length by omega)
    have hTs := Trsd_at h ((rsdF_of (i := i) (by omega)).trans hS)
    obtain ⟨B, hB⟩ : ∃ B, inBat s p (grp s p) (n0, n1) i = B := ⟨_, rfl⟩
    rw [hB] at hTa
    have hm : (i : Int) ∈ bndF s p (grp s p) (some (n0, n1)) ↔ B = true := by
      rw [← hB, bnd_at (by omega) hS]
      simp [inBat, hS]
    cases B
    · have hv : othP s p k o i = none := by
        simp only [othP, hN]
        rw [if_neg (fun hc => by have := hm.1 hc; cases this)]
      rw [hv]
      clear h hv hN hm hB hS
      refine pcall_cx E11_ok mixed (fun _ => none) Try.func32 rfl Try.ntmps32 Try.results32 (by simp) (by kernel_rfl) ?_
      repeat' first
        | (with_reducible refine gw_bool (fun _ => ?_) (fun _ => ?_))
        | (with_reducible refine condw_bool (fun _ => ?_) (fun _ => ?_))
        | simp [*, Stn.cs, Pos.cs, nodV, nodA]
    · have hv : othP s p k o i = oth2F (n0, n1) [a0, a1, c0, c1] := by
        simp only [othP, hN]
        rw [if_pos (hm.2 rfl), hS]
      rw [hv]
      clear h hv hN hm hB hS hmk
      by_cases e : (a0, a1) = (n0, n1)
      · have q1 : ieq a0 n0 = true := ieq_t (Prod.mk.inj e).1
        have q2 : ieq a1 n1 = true := ieq_t (Prod.mk.inj e).2
        rw [oth_of (o := (c0, c1)) (by rw [if_pos e])]
        clear e
        cases r1 : ieq c0 1 <;> cases r2 : ieq c0 2
        all_goals
          refine pcall_cx E11_ok mixed (fun _ => none) Try.func32 rfl Try.ntmps32 Try.results32 (by simp) (by kernel_rfl) ?_
        all_goals
          repeat' first
            | (with_reducible refine gw_bool (fun _ => ?_) (fun _ => ?_))
            | (with_reducible refine condw_bool (fun _ => ?_) (fun _ => ?_))
            | simp [*, Stn.cs, Pos.cs, nodV, nodA, setsV]
        all_goals (first | (have := ieq_iff.1 r1; omega) | (have := ieq_iff.1 r2; omega))
      · rw [oth_of (o := (a0, a1)) (by rw [if_neg e])]
        have q0 : (ieq a0 n0 && ieq a1 n1) = false := by
          rw [Bool.eq_false_iff]; intro hc
          simp only [Bool.and_eq_true, ieq_iff] at hc
          exact e (by rw [hc.1, hc.2])
        clear e
        cases q1 : ieq a0 n0
        all_goals rw [q1] at q0
        all_goals simp only [Bool.true_and, Bool.false_and] at q0
        all_goals cases r1 : ieq a0 1
        all_goals cases r2 : ieq a0 2
        all_goals
          refine pcall_cx E11_ok mixed (fun _ => none) Try.func32 rfl Try.ntmps32 Try.results32 (by simp) (by kernel_rfl) ?_
        all_goals
          repeat' first
            | (with_reducible refine gw_bool (fun _ => ?_) (fun _ => ?_))
            | (with_reducible refine condw_bool (fun _ => ?_) (fun _ => ?_))
            | simp [*, Stn.cs, Pos.cs, nodV, nodA, setsV]
        all_goals (first | (have := ieq_iff.1 r1; omega) | (have := ieq_iff.1 r2; omega))
end Go.Proofs.Ytcbddoopmkhlfaa
end
section
namespace Go.Proofs.Ytcbddoopmkhlfaa
open Go.Pv Go.RowKit
set_option linter.unusedSimpArgs false
set_option linter.unusedVariables false
set_option maxRecDepth 100000
set_option maxHeartbeats 4000000
attribute [-simp] Tclo_at Tgrp_at Tchk Tpchk TcI TcB Tclo Tgrp Tsid Tnod Tlook Tbnd TsidA Tre Tidx Tnms Tnmd Tobj Tlks Tbay Trck Trpc Tres TSd TBd Tnm Tlv Tfd Tfn Tlg Tgps Trg Trf Trsd Trnd Tar Tix Tcon

def Tzo : List V → Option V
  | [.agg a, .agg b] => (match unStn a, unPos b with
    | some s, some p => if okP s p = true then some (.list 2 ((zonF s p).map nd2)) else none
    | _, _ => none)
  | _ => none
theorem Tzo_at {s : Stn} {p : Pos} (h : okP s p = true) : Tzo [.agg [.str s.nm, .list 1 (s.bs.map s1), .list 5 (s.ls.map Ln.cs), .list 6 (s.ss.map Sr.cs), .list 12 (s.qs.map By.cs)], .agg [.list 1 (p.cl.map b1), .list 1 (p.lk.map r1)]] = some (.list 2 ((zonF s p).map nd2)) := by
  have e1 := unStn_cs s
  have e2 := unPos_cs p
  unfold Stn.cs at e1
  unfold Pos.cs at e2
  simp [Tzo, e1, e2, h]
theorem zo_tab : ∀ vs v, Tzo vs = some v → PCall Try.prog 24 vs v := by
  intro vs v h; unfold Tzo at h; split at h
  · split at h
    · rename_i h1 h2
      split at h
      · rename_i hl; cases h; rw [unStn_inv _ _ h1, unPos_inv _ _ h2]; exact Zones_ok hl
      · cases h
    · cases h
  · cases h
def Tot : List V → Option V
  | [.agg a, .agg b, .agg [.int .i64 k, .int .i64 o], .int .i64 i] => (match unStn a, unPos b with
    | some s, some p => if okP s p = true then some (nodV (othP s p k o i)) else none
    | _, _ => none)
  | _ => none
theorem Tot_at {s : Stn} {p : Pos} {k o i : Int} (h : okP s p = true) : Tot [.agg [.str s.nm, .list 1 (s.bs.map s1), .list 5 (s.ls.map Ln.cs), .list 6 (s.ss.map Sr.cs), .list 12 (s.qs.map By.cs)], .agg [.list 1 (p.cl.map b1), .list 1 (p.lk.map r1)], .agg [.int .i64 k, .int .i64 o], .int .i64 i] = some (nodV (othP s p k o i)) := by
  have e1 := unStn_cs s
  have e2 := unPos_cs p
  unfold Stn.cs at e1
  unfold Pos.cs at e2
  simp [Tot, e1, e2, h]
theorem ot_tab : ∀ vs v, Tot vs = some v → PCall Try.prog 31 vs v := by
  intro vs v h; unfold Tot at h; split at h
  · split at h
    · rename_i h1 h2
      split at h
      · rename_i hl; cases h; rw [unStn_inv _ _ h1, unPos_inv _ _ h2]; exact Other_ok hl _ _ _
      · cases h
    · cases h
  · cases h
def H1 : Tab := add 24 Tzo (add 31 Tot (G4))
theorem H1_at (f : FuncId) (vs : List V) : H1.at' f vs = if f = 24 then Tzo vs else if f = 31 then Tot vs else G4.at' f vs := rfl
theorem H1_fr (f : FuncId) : H1.fr f = if f = 24 then false else if f = 31 then false else G4.fr f := rfl
theorem H1_gb (f : FuncId) : H1.gb f = G4.gb f := rfl
theorem H1_gv (f : FuncId) (vs : List V) : H1.gv f vs = G4.gv f vs := rfl
attribute [simp] H1_at H1_fr H1_gb H1_gv Tot Tzo
theorem H1_ok : TabOK Try.prog H1 := by
  refine add_ok (add_ok (G4_ok) (by kernel_rfl) ?_) (by kernel_rfl) ?_
  · exact ot_tab
  · exact zo_tab
attribute [-simp] Tzo Tot
attribute [simp] Tzo_at Tot_at
theorem zon_ne {s : Stn} {p : Pos} (h : okP s p = true) : 1 ≤ (zonF s p).length := by
  have h0 := (fine_of (okP_iff h).1).nb0
  obtain ⟨x, hx, -⟩ := at_ex (l := grp s p) (i := 0) (by rw [grp_len]; omega)
  obtain ⟨u, hu, hu0, _⟩ := can_grp h 0 x hx
  have hx0 : (grp s p)[0]? = some ((0 : Nat) : Int) := by rw [hx, hu, show u = 0 by omega]
  have : ((1 : Int), ((0 : Nat) : Int)) ∈ zonF s p := by
    simp only [zonF, List.mem_append, zonG, List.mem_map, List.mem_filter, List.mem_range, beq_iff_eq]
    exact .inl ⟨0, ⟨by omega, hx0⟩, rfl⟩
  exact List.length_pos_of_mem this
theorem zon_len {s : Stn} {p : Pos} (h : okP s p = true) : (zonF s p).length ≤ 20 := by
  have h1 := (fine_of (okP_iff h).1).nb
  have h2 := (fine_of (okP_iff h).1).nl
  have := zonG_len (grp s p) s.bs.length
  rw [zonF, List.length_append, zonL_len]; omega
theorem life_at {s : Stn} {p : Pos} (h : okP s p = true) {z : Nd} (hz : z ∈ zonF s p) : ∃ (B : List Int) (F : Int → Bool), B.length ≤ 16 ∧ TBd [.agg [.str s.nm, .list 1 (s.bs.map s1), .list 5 (s.ls.map Ln.cs), .list 6 (s.ss.map Sr.cs), .list 12 (s.qs.map By.cs)], .agg [.list 1 (p.cl.map b1), .list 1 (p.lk.map r1)], .agg [.int .i64 z.1, .int .i64 z.2]] = some (.list 1 (B.map i1)) ∧ (∀ b : Int, Tfd [.agg [.str s.nm, .list 1 (s.bs.map s1), .list 5 (s.ls.map Ln.cs), .list 6 (s.ss.map Sr.cs), .list 12 (s.qs.map By.cs)], .agg [.list 1 (p.cl.map b1), .list 1 (p.lk.map r1)], .list 2 [[.int .i64 z.1, .int .i64 z.2]], .int .i64 b] = some (.bool (F b))) ∧ Tlv [.agg [.str s.nm, .list 1 (s.bs.map s1), .list 5 (s.ls.map Ln.cs), .list 6 (s.ss.map Sr.cs), .list 12 (s.qs.map By.cs)], .agg [.list 1 (p.cl.map b1), .list 1 (p.lk.map r1)], .agg [.int .i64 z.1, .int .i64 z.2]] = some (.bool (B.any F)) := by
  have hn := zon_mem hz
  have hb := TBd_at (k := z.1) (o := z.2) h
  have hl := Tlv_at (k := z.1) (o := z.2) h
  rw [hn] at hb
  rw [← life h hn] at hl
  refine ⟨_, fun b => fedF s p [z] b, ?_, hb, fun b => ?_, hl⟩
  · have := bnd_len s p (grp s p) (some z)
    have := (fine_of (okP_iff h).1).nq
    omega
  · have := Tfd_at (zs := [z]) (i := b) h (by simp)
    simpa only [List.map_cons, List.map_nil, nd2] using this
theorem any_step {B : List Int} {F : Int → Bool} {k : Nat} {b : Int} (h : B[k]? = some b) : (B.take (k + 1)).any F = ((B.take k).any F || F b) := by
  simp [take_snoc h]
theorem life_ok {s : Stn} {p : Pos} (h1 : lkB s = true) (h2 : lenB s p = true) : PCall Try.prog 8 [.agg s.cs, .agg p.cs] (.bool true) := by
  have hTf := Tfn_at h1 h2
  cases hf : fineF s p
  · rw [hf] at hTf
    clear h1 h2
    refine pcall_cx H1_ok mixed (fun id => if id = 16 then some ⟨[(5008, 49)], [12]⟩ else none) Try.func8 rfl Try.ntmps8 Try.results8 (by simp) (by kernel_rfl) ?_
    repeat' first
      | (with_reducible refine gw_bool (fun _ => ?_) (fun _ => ?_))
      | (with_reducible refine condw_bool (fun _ => ?_) (fun _ => ?_))
      | simp [*, Stn.cs, Pos.cs]
  rw [hf] at hTf
  have hok : okP s p = true := by simp only [fineF, Bool.and_eq_true] at hf; exact hf.2
  have hat : Hid (∀ z ∈ zonF s p, _) := show _ from fun z hz => life_at hok hz
  have hTz := Tzo_at hok
  have hm1 := zon_ne hok
  have hm2 := zon_len hok
  generalize zonF s p = L at hat hTz hm1 hm2
  obtain ⟨m, hm⟩ : ∃ m, L.length = m := ⟨_, rfl⟩
  rw [hm] at hm1 hm2
  have hm0 : ieq (m : Int) 0 = false := ieq_f (by omega)
  clear h1 h2 hf hok
  refine pcall_cx H1_ok mixed (fun id => if id = 16 then some ⟨[(5008, 49)], [12]⟩ else none) Try.func8 rfl Try.ntmps8 Try.results8 (by simp) (by kernel_rfl) ?_
  repeat' first
    | (with_reducible refine gw_bool (fun _ => ?_) (fun _ => ?_))
    | (with_reducible refine condw_bool (fun _ => ?_) (fun _ => ?_))
    | simp [*, Stn.cs, Pos.cs]
  refine lp_go (D := (fun id => if id = 16 then some ⟨[(5008, 49)], [12]⟩ else none)) H1_ok mixed (by kernel_rfl) [2, 3, 5] [2, 3, 49] (α := Nat) (fun i e h => i ≤ m ∧ e 6 = .int .i64 i) (fun i => m - i) 0 ?_ ?_
  · exact ⟨by omega, by simp⟩
  rintro i e h hk hkh ⟨hi, g7⟩
  simp [Keep] at hk
  simp [KeepH] at hkh
  clear hTf hTz
  by_cases hlt : i < m
  · obtain ⟨z, hz, hz'⟩ := at_ex (l := L) (i := i) (by omega)
    obtain ⟨B, F, hB, hTb, hTd, hTl⟩ := hat.out z (List.mem_of_getElem? hz)
    have f1 : ilt (i : Int) (m : Int) = true := ilt_t (by omega)
    have w1 : IntKind.i64.wrap ((i : Int) + 1) = ((i + 1 : Nat) : Int) := wrap_succ (by omega)
    obtain ⟨nB, hnB⟩ : ∃ n, B.length = n := ⟨_, rfl⟩
    rw [hnB] at hB
    obtain ⟨W, hW⟩ : ∃ W, B.any F = W := ⟨_, rfl⟩
    rw [hW] at hTl
    replace hW : Hid (_) := hW
    replace hTd : Hid (_) := hTd
    clear hat
    obtain ⟨z0, z1⟩ := z
    repeat' first
      | (with_reducible refine gw_bool (fun _ => ?_) (fun _ => ?_))
      | (with_reducible refine condw_bool (fun _ => ?_) (fun _ => ?_))
      | simp [*, nd2]
    refine lp_go (D := (fun id => if id = 16 then some ⟨[(5008, 49)], [12]⟩ else none)) H1_ok mixed (by kernel_rfl) [2, 3, 5, 6, 8, 22, 23, 24, 25, 28, 29, 30, 31, 32, 33, 34] [2, 3, 49] (α := Nat) (fun k e h => k ≤ nB ∧ e 9 = .int .i64 k ∧ e 7 = .bool ((B.take k).any F)) (fun k => nB - k) 0 ?_ ?_
    · exact ⟨by omega, by simp, by simp⟩
    have hk0 := hk
    have hkh0 := hkh
    have g70 := g7
    clear hk hkh g7
    rintro k e h hk hkh ⟨hkB, g9, g7⟩
    simp [Keep, hk0, hkh0, g70] at hk
    simp [KeepH, hk0, hkh0] at hkh
    by_cases hlk : k < nB
    · obtain ⟨b, hb, hb'⟩ := at_ex (l := B) (i := k) (by omega)
      have f2 : ilt (k : Int) (nB : Int) = true := ilt_t (by omega)
      have w2 : IntKind.i64.wrap ((k : Int) + 1) = ((k + 1 : Nat) : Int) := wrap_succ (by omega)
      have hst := any_step (F := F) hb
      have hT := hTd.out b
      clear hW hTd hTl hTb
      generalize F b = X at hst hT
      generalize (B.take k).any F = Y at hst g7
      cases Y
      · skip
        repeat' first
          | (with_reducible refine gw_bool (fun _ => ?_) (fun _ => ?_))
          | (with_reducible refine condw_bool (fun _ => ?_) (fun _ => ?_))
          | simp [*, nd2, i1]
        refine nxt_go (k + 1) ((View.forget _ _ 49)) (by omega) (by simp [*, Keep, St.forget, scr, scrC, usesC, usesA]) (by simp [*, KeepH, St.forget, scr, scrC]) ?_
        refine ⟨by omega, by simp [*, St.forget, scr, scrC], ?_⟩
        rw [hst]; simp [*, St.forget, scr, scrC]
      · skip
        repeat' first
          | (with_reducible refine gw_bool (fun _ => ?_) (fun _ => ?_))
          | (with_reducible refine condw_bool (fun _ => ?_) (fun _ => ?_))
          | simp [*, nd2, i1]
        refine nxt_go (k + 1) (View.refl _ _) (by omega) (by simp [*, Keep, St.forget, scr, scrC]) (by simp [*, KeepH, St.forget, scr, scrC]) ?_
        refine ⟨by omega, by simp [*, St.forget, scr, scrC], ?_⟩
        rw [hst]; simp [*, St.forget, scr, scrC]
    · have f2 : ilt (k : Int) (nB : Int) = false := ilt_f (by omega)
      have e2 : k = nB := by omega
      rw [e2, ← hnB, List.take_length, hW.out] at g7
      clear hW hTd
      cases W
      · skip
        repeat' first
          | (with_reducible refine gw_bool (fun _ => ?_) (fun _ => ?_))
          | (with_reducible refine condw_bool (fun _ => ?_) (fun _ => ?_))
          | simp [*, nd2]
        refine nxt_go (i + 1) (View.refl _ _) (by omega) (by simp [*, Keep, St.forget, scr, scrC]) (by simp [*, KeepH, St.forget, scr, scrC]) ?_
        exact ⟨by omega, by simp [*]⟩
      · skip
        repeat' first
          | (with_reducible refine gw_bool (fun _ => ?_) (fun _ => ?_))
          | (with_reducible refine condw_bool (fun _ => ?_) (fun _ => ?_))
          | simp [*, nd2]
        refine nxt_go (i + 1) (View.refl _ _) (by omega) (by simp [*, Keep, St.forget, scr, scrC]) (by simp [*, KeepH, St.forget, scr, scrC]) ?_
        exact ⟨by omega, by simp [*]⟩
  · have f1 : ilt (i : Int) (m : Int) = false := ilt_f (by omega)
    clear hat
    repeat' first
      | (with_reducible refine gw_bool (fun _ => ?_) (fun _ => ?_))
      | (with_reducible refine condw_bool (fun _ => ?_) (fun _ => ?_))
      | simp [*]
end Go.Proofs.Ytcbddoopmkhlfaa
end
section
namespace Go.Proofs.Ytcbddoopmkhlfaa
open Go.Pv Go.RowKit
set_option linter.unusedSimpArgs false
set_option linter.unusedVariables false
set_option maxRecDepth 100000
set_option maxHeartbeats 4000000
attribute [-simp] Tclo_at Tgrp_at Tchk Tpchk TcI TcB Tclo Tgrp Tsid Tnod Tlook Tbnd TsidA Tre Tidx Tnms Tnmd Tobj Tlks Tbay Trck Trpc Tres TSd TBd Tnm Tlv Tfd Tfn Tlg Tgps Trg Trf Trsd Trnd Tar Tix Tcon Tzo Tot Ted Tin TsrcN TrchN

theorem rZonesG_ok {s : Stn} {p : Pos} (hok : okP s p = true) : PGive Try.prog 27 [.agg s.cs, .agg p.cs] (.sl 32 0 (zonF s p).length 2) [(32, ⟨50, ndC (zonF s p)⟩)] := by
  have hlk := lkB_of (okP_iff hok).1
  have hln := lenB_ok hok
  have hgl := grp_len s p
  have hF := fine_of (okP_iff hok).1
  have hnb4 := hF.nb
  have hnl6 := hF.nl
  obtain ⟨nb, hnb⟩ : ∃ n, s.bs.length = n := ⟨_, rfl⟩
  obtain ⟨nl, hnl⟩ : ∃ n, s.ls.length = n := ⟨_, rfl⟩
  have hR : zonG (grp s p) nb ++ zonL nl = zonF s p := by simp [zonF, hnb, hnl]
  have hch := chunks_nd (zonF s p)
  have hpu := ndC_pure (zonF s p)
  have hT := Trg_at hok
  have hTf := Trf_at hlk hln
  rw [hok] at hTf
  rw [hnb] at hgl hnb4
  rw [hnl] at hnl6
  generalize zonF s p = R at hR hch hpu ⊢
  generalize grp s p = G at hR hgl hT
  clear hok hF hlk hln
  replace hR : Hid (zonG G nb ++ zonL nl = R) := hR
  refine pgive_cx E11_ok mixed (fun _ => none) Try.func27 rfl Try.ntmps27 Try.results27 (by simp) (by kernel_rfl) ?_
  repeat' first
    | (with_reducible refine gw_bool (fun _ => ?_) (fun _ => ?_))
    | (with_reducible refine condw_bool (fun _ => ?_) (fun _ => ?_))
    | simp [*, Stn.cs, Pos.cs]
  refine lp_view (View.nilOwn _ (t := 6) (key := 32) 2 50 (by simp) (by simp)) ?_
  refine lp_go (D := (fun _ => none)) E11_ok mixed (by kernel_rfl) [2, 5] [2, 3, 31, 43, 44] (α := Nat) (fun i e h => i ≤ nb ∧ e 7 = .int .i64 i ∧ e 6 = .sl 32 0 (zonG G i).length 2 ∧ h 32 = some ⟨50, ndC (zonG G i)⟩) (fun i => nb - i) 0 ?_ ?_
  · refine ⟨by omega, by simp, by simp [zonG], by simp [zonG, ndC]⟩
  rintro i e h hk hkh ⟨hi, g7, gs, gh⟩
  simp [Keep] at hk
  simp [KeepH] at hkh
  clear hT hTf
  have hbl := zonG_len G i
  by_cases hlt : i < nb
  · obtain ⟨x, hx, hx'⟩ := at_ex (l := G) (i := i) (by omega)
    have hst : Hid (zonG G (i + 1) = zonG G i ++ (if ieq x (i : Int) = true then [(1, (i : Int))] else [])) := by rw [ieq_sym x]; exact zonG_step hx
    have f1 : ilt (i : Int) (nb : Int) = true := ilt_t (by omega)
    have w1 : IntKind.i64.wrap ((i : Int) + 1) = ((i + 1 : Nat) : Int) := wrap_succ (by omega)
    generalize zonG G i = C at gs gh hbl hst
    clear hR hch hpu
    have f5 : (C.length + 1) * 16 ≤ 140737488355328 := by omega
    have f6 : C.length + 1 ≤ 9223372036854775807 := by omega
    cases q1 : ieq x (i : Int)
    · skip
      repeat' first
        | (with_reducible refine gw_bool (fun _ => ?_) (fun _ => ?_))
        | (with_reducible refine condw_bool (fun _ => ?_) (fun _ => ?_))
        | simp [*, i1, appendV, srcCells, St.forget, scr, scrC]
      refine nxt_go (i + 1) (View.refl _ _) (by omega) (by simp [*, Keep, St.forget, scr, scrC]) (by simp [*, KeepH, St.forget, scr, scrC]) ?_
      refine ⟨by omega, by simp [*], ?_, ?_⟩
      · rw [hst.out]; simp [*]
      · rw [hst.out]; simp [*]
    · skip
      repeat' first
        | (with_reducible refine gw_bool (fun _ => ?_) (fun _ => ?_))
        | (with_reducible refine condw_bool (fun _ => ?_) (fun _ => ?_))
        | simp [*, i1, appendV, srcCells, St.forget, scr, scrC]
      refine nxt_go (i + 1) ((View.forget _ _ 31)) (by omega) (by simp [*, Keep, St.forget, scr, scrC]) (by simp [*, KeepH, St.forget, scr, scrC]) ?_
      refine ⟨by omega, by simp [*, St.forget, scr, scrC], ?_, ?_⟩
      · rw [hst.out]; simp [*, St.forget, scr, scrC]
      · rw [hst.out]; simp [*, St.forget, scr, scrC, ndC_snoc]
  have f1 : ilt (i : Int) (nb : Int) = false := ilt_f (by omega)
  have e1 : i = nb := by omega
  subst e1
  have hz0 : zonG G i ++ zonL 0 = zonG G i := by simp [zonL]
  rw [← hz0] at gs gh
  clear hz0
  repeat' first
    | (with_reducible refine gw_bool (fun _ => ?_) (fun _ => ?_))
    | (with_reducible refine condw_bool (fun _ => ?_) (fun _ => ?_))
    | simp [*]
  refine lp_go (D := (fun _ => none)) E11_ok mixed (by kernel_rfl) [2] [2, 3, 31, 43, 44] (α := Nat) (fun j e h => j ≤ nl ∧ e 8 = .int .i64 j ∧ e 6 = .sl 32 0 (zonG G i ++ zonL j).length 2 ∧ h 32 = some ⟨50, ndC (zonG G i ++ zonL j)⟩) (fun j => nl - j) 0 ?_ ?_
  · exact ⟨by omega, by simp, by simp [*], by simp [*]⟩
  have hk0 := hk
  have hkh0 := hkh
  clear hk hkh g7 gs gh
  rintro j e h hk hkh ⟨hj, g7, gs, gh⟩
  simp [Keep, hk0, hkh0] at hk
  simp [KeepH, hk0, hkh0] at hkh
  have hbl2 : (zonG G i ++ zonL j).length ≤ i + j := by rw [List.length_append, zonL_len]; omega
  by_cases hlt2 : j < nl
  · have hst : Hid (zonG G i ++ zonL (j + 1) = (zonG G i ++ zonL j) ++ [(2, (j : Int))]) := show _ = _ by rw [zonL_step, List.append_assoc]
    have f2 : ilt (j : Int) (nl : Int) = true := ilt_t (by omega)
    have w2 : IntKind.i64.wrap ((j : Int) + 1) = ((j + 1 : Nat) : Int) := wrap_succ (by omega)
    generalize zonG G i ++ zonL j = C at gs gh hbl2 hst
    clear hR hch hpu
    have f5 : (C.length + 1) * 16 ≤ 140737488355328 := by omega
    have f6 : C.length + 1 ≤ 9223372036854775807 := by omega
    repeat' first
      | (with_reducible refine gw_bool (fun _ => ?_) (fun _ => ?_))
      | (with_reducible refine condw_bool (fun _ => ?_) (fun _ => ?_))
      | simp [*, appendV, srcCells, St.forget, scr, scrC]
    refine nxt_go (j + 1) ((View.forget _ _ 43)) (by omega) (by simp [*, Keep, St.forget, scr, scrC]) (by simp [*, KeepH, St.forget, scr, scrC]) ?_
    refine ⟨by omega, by simp [*, St.forget, scr, scrC], ?_, ?_⟩
    · rw [hst.out]; simp [*, St.forget, scr, scrC]
    · rw [hst.out]; simp [*, St.forget, scr, scrC, ndC_snoc]
  · have f2 : ilt (j : Int) (nl : Int) = false := ilt_f (by omega)
    have e2 : j = nl := by omega
    rw [e2, hR.out] at gs gh
    clear hR
    repeat' first
      | (with_reducible refine gw_bool (fun _ => ?_) (fun _ => ?_))
      | (with_reducible refine condw_bool (fun _ => ?_) (fun _ => ?_))
      | simp [*, ownC, KeepBl, closedB, inT, inA, inC, blkOf]

/-! ### a region in any order, with gifts -/
def cOpX (Γ : Tab) (ops : Array Oper) (i : Nat) (K : St → Prop) (st : St) : Prop := match ops[i]? with
  | none => K st
  | some o => egX Try.prog Γ ops [o] K st
def cAnyX (Γ : Tab) (ops : Array Oper) (K : St → Prop) : Nat → Array Bool → St → Prop
  | 0, listed, st => Region.ready .any ops listed = [] ∧ K st
  | fuel + 1, listed, st => (Region.ready .any ops listed = [] → K st) ∧ ∀ i ∈ Region.ready .any ops listed, cOpX Γ ops i (cAnyX Γ ops K fuel (listed.setIfInBounds i true)) st
theorem wpAny_of_cAnyX {Γ : Tab} (hΓ : TabOK Try.prog Γ) {n : Nat} {w0 : Base} {ops : Array Oper} (hf : ops.toList.all (fun o => fits n o.dst) = true) {K : St → Prop} {Q : Exit → Act → World → Prop} {ro0 : Nat → Prop} (hQ : ∀ a' ro' lam' w' st', Ext w0 ro0 ro' → Sim w0 n ro' lam' st' a' w' → K st' → Q .normal a' w') :
    ∀ (fuel : Nat) (listed : Array Bool) (st : St) (ro : Nat → Prop) (lam : Lam) (a : Act) (w : World), Ext w0 ro0 ro → Sim w0 n ro lam st a w → cAnyX Γ ops K fuel listed st → wpAny Try.prog .any ops Q fuel listed a w
  | 0, listed, st, ro, lam, a, w, hext, hs, h => ⟨h.1, hQ _ _ _ _ _ hext hs h.2⟩
  | fuel + 1, listed, st, ro, lam, a, w, hext, hs, h => by
    refine ⟨fun h0 => hQ _ _ _ _ _ hext hs (h.1 h0), fun i hi => ?_⟩
    have h1 := h.2 i hi
    unfold cOpX at h1
    unfold wpOp
    split
    · rename_i ho
      simp only [ho] at h1
      exact wpAny_of_cAnyX hΓ hf hQ fuel _ st ro lam a w hext hs h1
    · rename_i o ho
      simp only [ho] at h1
      have hfo : fits n o.dst = true := List.all_eq_true.1 hf o (List.mem_of_getElem? (i := i) (by simpa using ho))
      unfold egX gw at h1
      cases hw : wantV ops st o.guard with
      | none => rw [hw] at h1; exact h1.elim
      | some b =>
        rw [hw] at h1
        rw [wantV_sound hs hw]
        cases b with
        | true =>
          rw [if_pos rfl]
          exact .inl (swX_sound hΓ hs hfo h1 fun st' a' ro' lam' w' k hx hs' => wpAny_of_cAnyX hΓ hf hQ fuel _ st' ro' lam' a' w' (hext.trans hx) hs' k)
        | false =>
          rw [if_neg (by simp)]
          exact wpAny_of_cAnyX hΓ hf hQ fuel _ _ ro lam _ w hext (hs.put hfo (.pure _ _ .undef)) h1
theorem cw_anyX {Γ : Tab} (hΓ : TabOK Try.prog Γ) {n id : Nat} {ops : Array Oper} {Q : Exit → St → Prop} {st : St} (hf : ops.toList.all (fun o => fits n o.dst) = true) (m : Nat) (hm : ops.size = m) (h : ∀ (O : Array Oper) (K : St → Prop), Hid (O = ops) → Hid (∀ s, Q .normal s → K s) → cAnyX Γ O K m (Array.replicate m false) st) : CW Try.prog n (.region id ops true) Q st := by
  subst hm
  intro w0 ro lam a w hs
  have hs' : Sim w0 n ro lam st a { w with drawn := w.drawn + 1 } := hs.world ((Below.refl _ _).drew)
  exact wp_region_any mixed (wpAny_of_cAnyX hΓ hf (fun a' ro' lam' w' s hext hs hk => ⟨s, ro', lam', hk, hext, hs⟩) _ _ st ro lam a _ (Ext.refl _ _) hs' (h ops (Q .normal) rfl (fun s hs => hs)))
/-- One step of it: which operations are ready. -/
theorem cany1 {Γ : Tab} {ops : Array Oper} {K : St → Prop} {fuel : Nat} {listed : Array Bool} {st : St} (i : Nat) {o : Oper} (hl : Region.ready .any ops listed = [i]) (ho : ops[i]? = some o) (h : egX Try.prog Γ ops [o] (cAnyX Γ ops K fuel (listed.setIfInBounds i true)) st) : cAnyX Γ ops K (fuel + 1) listed st :=
  ⟨fun e => (by rw [hl] at e; cases e), fun k hk => by
    rw [hl] at hk
    simp only [List.mem_cons, List.not_mem_nil, or_false] at hk
    subst hk
    unfold cOpX; simp only [ho]; exact h⟩
theorem cany2 {Γ : Tab} {ops : Array Oper} {K : St → Prop} {fuel : Nat} {listed : Array Bool} {st : St} (i j : Nat) {o o2 : Oper} (hl : Region.ready .any ops listed = [i, j]) (ho : ops[i]? = some o) (ho2 : ops[j]? = some o2) (h : egX Try.prog Γ ops [o] (cAnyX Γ ops K fuel (listed.setIfInBounds i true)) st) (h2 : egX Try.prog Γ ops [o2] (cAnyX Γ ops K fuel (listed.setIfInBounds j true)) st) : cAnyX Γ ops K (fuel + 1) listed st :=
  ⟨fun e => (by rw [hl] at e; cases e), fun k hk => by
    rw [hl] at hk
    simp only [List.mem_cons, List.not_mem_nil, or_false] at hk
    rcases hk with rfl | rfl
    · unfold cOpX; simp only [ho]; exact h
    · unfold cOpX; simp only [ho2]; exact h2⟩
theorem cany3 {Γ : Tab} {ops : Array Oper} {K : St → Prop} {fuel : Nat} {listed : Array Bool} {st : St} (i j l : Nat) {o o2 o3 : Oper} (hl : Region.ready .any ops listed = [i, j, l]) (ho : ops[i]? = some o) (ho2 : ops[j]? = some o2) (ho3 : ops[l]? = some o3) (h : egX Try.prog Γ ops [o] (cAnyX Γ ops K fuel (listed.setIfInBounds i true)) st) (h2 : egX Try.prog Γ ops [o2] (cAnyX Γ ops K fuel (listed.setIfInBounds j true)) st) (h3 : egX Try.prog Γ ops [o3] (cAnyX Γ ops K fuel (listed.setIfInBounds l true)) st) : cAnyX Γ ops K (fuel + 1) listed st :=
  ⟨fun e => (by rw [hl] at e; cases e), fun k hk => by
    rw [hl] at hk
    simp only [List.mem_cons, List.not_mem_nil, or_false] at hk
    rcases hk with rfl | rfl | rfl
    · unfold cOpX; simp only [ho]; exact h
    · unfold cOpX; simp only [ho2]; exact h2
    · unfold cOpX; simp only [ho3]; exact h3⟩
theorem cany0 {Γ : Tab} {ops : Array Oper} {K : St → Prop} {listed : Array Bool} {st : St} (hl : Region.ready .any ops listed = []) (h : K st) : cAnyX Γ ops K 0 listed st := ⟨hl, h⟩
theorem cw_cut {n : Nat} {x y : Code} {Q : Exit → St → Prop} {K : St → Prop} {st : St} (hx : CW Try.prog n x (fun e s => e = .normal ∧ K s) st) (hy : ∀ s, K s → CW Try.prog n y Q s) : CW Try.prog n (.seq x y) Q st :=
  cw_seq (hx.mono fun e s ⟨h1, h2⟩ => by subst h1; exact hy s h2)
end Go.Proofs.Ytcbddoopmkhlfaa
end
section
namespace Go.Proofs.Ytcbddoopmkhlfaa
open Go.Pv Go.RowKit
set_option linter.unusedSimpArgs false
set_option linter.unusedVariables false
set_option maxRecDepth 100000
set_option maxHeartbeats 8000000
attribute [-simp] Tclo_at Tgrp_at Tchk Tpchk TcI TcB Tclo Tgrp Tsid Tnod Tlook Tbnd TsidA Tre Tidx Tnms Tnmd Tobj Tlks Tbay Trck Trpc Tres TSd TBd Tnm Tlv Tfd Tfn Tlg Tgps Trg Trf Trsd Trnd Tar Tix Tcon Tzo Tot Ted Tin TsrcN TrchN

def TzoG : List V → Option (V × List (Nat × Blk))
  | [.agg a, .agg b] => (match unStn a, unPos b with
    | some s, some p => if okP s p = true then some (.sl 32 0 (zonF s p).length 2, [(32, ⟨50, ndC (zonF s p)⟩)]) else none
    | _, _ => none)
  | _ => none
theorem TzoG_at {s : Stn} {p : Pos} (h : okP s p = true) : TzoG [.agg [.str s.nm, .list 1 (s.bs.map s1), .list 5 (s.ls.map Ln.cs), .list 6 (s.ss.map Sr.cs), .list 12 (s.qs.map By.cs)], .agg [.list 1 (p.cl.map b1), .list 1 (p.lk.map r1)]] = some (.sl 32 0 (zonF s p).length 2, [(32, ⟨50, ndC (zonF s p)⟩)]) := by
  have e1 := unStn_cs s
  have e2 := unPos_cs p
  unfold Stn.cs at e1
  unfold Pos.cs at e2
  simp [TzoG, e1, e2, h]
theorem zoG_tab : ∀ vs u bl, TzoG vs = some (u, bl) → PGive Try.prog 27 vs u bl := by
  intro vs u bl h; unfold TzoG at h; split at h
  · split at h
    · rename_i h1 h2
      split at h
      · rename_i hl; cases h; rw [unStn_inv _ _ h1, unPos_inv _ _ h2]; exact rZonesG_ok hl
      · cases h
    · cases h
  · cases h
def TsamB : List V → Option V
  | [.list 1 xs, .list 1 ys] => (match decL unI1 xs, decL unI1 ys with
    | some l, some m => if l.length ≤ 1000000 ∧ l = m then some (.bool true) else none
    | _, _ => none)
  | _ => none
theorem TsamB_at {l : List Int} (h : l.length ≤ 1000000) : TsamB [.list 1 (l.map i1), .list 1 (l.map i1)] = some (.bool true) := by simp [TsamB, decL_map unI1_cs, h]
theorem samB_tab : ∀ vs v, TsamB vs = some v → PCall Try.prog 28 vs v := by
  intro vs v h; unfold TsamB at h; split at h
  · split at h
    · rename_i h1 h2
      split at h
      · rename_i hl; cases h; obtain ⟨hl, rfl⟩ := hl; rw [decL_inv unI1_inv _ _ h1, decL_inv unI1_inv _ _ h2]; exact same_ok _ hl
      · cases h
    · cases h
  · cases h
theorem rbd2_tab : ∀ vs v, TBd vs = some v → PCall Try.prog 29 vs v := by
  intro vs v h; unfold TBd at h; split at h
  · split at h
    · rename_i h1 h2
      split at h
      · rename_i hl; cases h; rw [unStn_inv _ _ h1, unPos_inv _ _ h2]; exact rBoundary_ok hl _ _
      · cases h
    · cases h
  · cases h
theorem rlv_tab : ∀ vs v, Tlv vs = some v → PCall Try.prog 30 vs v := by
  intro vs v h; unfold Tlv at h; split at h
  · split at h
    · rename_i h1 h2
      split at h
      · rename_i hl; cases h; rw [unStn_inv _ _ h1, unPos_inv _ _ h2]; exact rLive_ok hl _ _
      · cases h
    · cases h
  · cases h
theorem rot_tab : ∀ vs v, Tot vs = some v → PCall Try.prog 32 vs v := by
  intro vs v h; unfold Tot at h; split at h
  · split at h
    · rename_i h1 h2
      split at h
      · rename_i hl; cases h; rw [unStn_inv _ _ h1, unPos_inv _ _ h2]; exact rOther_ok hl _ _ _
      · cases h
    · cases h
  · cases h
def HB : Tab := add 29 TBd (add 30 Tlv (add 32 Tot (add 28 TsamB (addG 27 TzoG (H1)))))
theorem HB_at (f : FuncId) (vs : List V) : HB.at' f vs = if f = 29 then TBd vs else if f = 30 then Tlv vs else if f = 32 then Tot vs else if f = 28 then TsamB vs else H1.at' f vs := rfl
theorem HB_fr (f : FuncId) : HB.fr f = if f = 29 then false else if f = 30 then false else if f = 32 then false else if f = 28 then false else H1.fr f := rfl
theorem HB_gb (f : FuncId) : HB.gb f = if f = 27 then true else H1.gb f := rfl
theorem HB_gv (f : FuncId) (vs : List V) : HB.gv f vs = if f = 27 then TzoG vs else H1.gv f vs := rfl
attribute [simp] HB_at HB_fr HB_gb HB_gv TBd Tlv Tot TsamB TzoG
theorem HB_ok : TabOK Try.prog HB := by
  refine add_ok (add_ok (add_ok (add_ok (addG_ok (H1_ok) (by kernel_rfl) ?_) (by kernel_rfl) ?_) (by kernel_rfl) ?_) (by kernel_rfl) ?_) (by kernel_rfl) ?_
  · exact zoG_tab
  · exact samB_tab
  · exact rot_tab
  · exact rlv_tab
  · exact rbd2_tab
attribute [-simp] TsamB TBd Tlv Tot TzoG
attribute [simp] TsamB_at
theorem pcall_of2 {f : FuncId} {fn : Func} {c : Code} {vs : List V} {v : V} {n : Nat} {rs : Array ResultVar} (hf : Try.prog.funcs[f]? = some fn) (hb : fn.body = some c) (hn : fn.ntmps = n) (hrs : fn.results = rs) (hvs : vs.length ≤ n) (h : CW Try.prog n c (Fin Try.prog rs.toList (fun u => u = v)) ⟨ini 0 vs, fun _ => none⟩) : PCall Try.prog f vs v := by
  subst hn; subst hrs
  exact pcall_of hf hb hvs h
theorem bd_at {s : Stn} {p : Pos} (h : okP s p = true) (z : Nd) : ∃ (B : List Int) (X : Bool), TBd [.agg [.str s.nm, .list 1 (s.bs.map s1), .list 5 (s.ls.map Ln.cs), .list 6 (s.ss.map Sr.cs), .list 12 (s.qs.map By.cs)], .agg [.list 1 (p.cl.map b1), .list 1 (p.lk.map r1)], .agg [.int .i64 z.1, .int .i64 z.2]] = some (.list 1 (B.map i1)) ∧ TsamB [.list 1 (B.map i1), .list 1 (B.map i1)] = some (.bool true) ∧ Tlv [.agg [.str s.nm, .list 1 (s.bs.map s1), .list 5 (s.ls.map Ln.cs), .list 6 (s.ss.map Sr.cs), .list 12 (s.qs.map By.cs)], .agg [.list 1 (p.cl.map b1), .list 1 (p.lk.map r1)], .agg [.int .i64 z.1, .int .i64 z.2]] = some (.bool X) ∧ ∀ k : Int, ∃ Y, Tot [.agg [.str s.nm, .list 1 (s.bs.map s1), .list 5 (s.ls.map Ln.cs), .list 6 (s.ss.map Sr.cs), .list 12 (s.qs.map By.cs)], .agg [.list 1 (p.cl.map b1), .list 1 (p.lk.map r1)], .agg [.int .i64 z.1, .int .i64 z.2], .int .i64 k] = some (nodV Y) := by
  refine ⟨_, _, TBd_at h, TsamB_at ?_, Tlv_at h, fun k => ⟨_, Tot_at h⟩⟩
  have := bnd_len s p (grp s p) (nodF s (grp s p) z.1 z.2)
  have := (fine_of (okP_iff h).1).nq
  omega
/-- The frame before the zones are listed. -/
def bdE : List (Nat × V) := [(3, .ptr 3 0), (4, .ptr 4 0), (5, .ptr 5 0)]
def bdH (s : Stn) (p : Pos) (z : Nd) : List (Nat × Blk) := [(3, ⟨35, s.cs⟩), (4, ⟨38, p.cs⟩), (5, ⟨50, [.int .i64 z.1, .int .i64 z.2]⟩)]
def BdK (s : Stn) (p : Pos) (z : Nd) (t : St) : Prop := HasE t.env bdE ∧ KeepBl t.heap (bdH s p z) ∧ t.heap 10 = none ∧ t.heap 12 = none ∧ t.heap 24 = none ∧ t.heap 230032 = none
/-- What is known while the zones are listed. -/
def f0 (s : Stn) (p : Pos) (z0 z1 : Int) (t : St) : Prop := (t.env 3 = .ptr 3 0 ∧ t.env 4 = .ptr 4 0 ∧ t.env 5 = .ptr 5 0) ∧ (t.heap 3 = some ⟨35, s.cs⟩ ∧ t.heap 4 = some ⟨38, p.cs⟩ ∧ t.heap 5 = some ⟨50, [.int .i64 z0, .int .i64 z1]⟩) ∧ t.heap 10 = none ∧ t.heap 12 = none
def fA (s : Stn) (p : Pos) (L : List Nd) : Nat → St → Prop
  | 0, t => t.heap 230032 = none
  | 1, t => t.heap 230032 = none ∧ t.env 20 = .agg s.cs
  | 2, t => t.heap 230032 = none ∧ t.env 21 = .agg p.cs
  | 3, t => t.heap 230032 = none ∧ t.env 20 = .agg s.cs ∧ t.env 21 = .agg p.cs
  | _, t => t.env 22 = .sl 230032 0 L.length 2 ∧ t.heap 230032 = some ⟨50, ndC L⟩
def fB (z0 z1 : Int) : Nat → St → Prop
  | 0, t => t.heap 24 = none
  | 1, t => t.heap 24 = none ∧ t.env 23 = .agg [.int .i64 z0, .int .i64 z1]
  | _, t => t.env 24 = .sl 24 0 1 2 ∧ t.heap 24 = some ⟨50, [.int .i64 z0, .int .i64 z1]⟩
theorem bnds_ok {s : Stn} {p : Pos} (h1 : lkB s = true) (h2 : lenB s p = true) (z : Nd) : PCall Try.prog 9 [.agg s.cs, .agg p.cs, .agg (nd2 z)] (.bool true) := by
  have hTf := Tfn_at h1 h2
  cases hf : fineF s p
  · rw [hf] at hTf
    clear h1 h2
    refine pcall_cx HB_ok mixed (fun id => if id = 14 then some ⟨[(12, 10)], []⟩ else if id = 15 then some ⟨[(12, 12)], []⟩ else none) Try.func9 rfl Try.ntmps9 Try.results9 (by simp) (by kernel_rfl) ?_
    repeat' first
      | (with_reducible refine gw_bool (fun _ => ?_) (fun _ => ?_))
      | (with_reducible refine condw_bool (fun _ => ?_) (fun _ => ?_))
      | simp [*, Stn.cs, Pos.cs, nd2]
  rw [hf] at hTf
  have hok : okP s p = true := by simp only [fineF, Bool.and_eq_true] at hf; exact hf.2
  have hat : Hid (∀ z : Nd, _) := show _ from fun z => bd_at hok z
  have hTz := TzoG_at hok
  have hm2 := zon_len hok
  have hnq := (fine_of (okP_iff hok).1).nq
  obtain ⟨n, hn⟩ : ∃ n, s.qs.length = n := ⟨_, rfl⟩
  rw [hn] at hnq
  generalize zonF s p = L at hTz hm2
  obtain ⟨z0, z1⟩ := z
  have hhL : ∀ c, (ndC L).map (shC c) = ndC L := fun c => by
    have : ∀ v ∈ ndC L, shC c v = v := fun v hv => by
      simp only [ndC, List.mem_flatten, List.mem_map] at hv
      obtain ⟨l, ⟨x, _, rfl⟩, hv⟩ := hv
      simp only [nd2, List.mem_cons, List.not_mem_nil, or_false] at hv
      rcases hv with rfl | rfl <;> rfl
    conv => rhs; rw [← List.map_id (ndC L)]
    exact List.map_congr_left this
  clear h1 h2 hf hok
  refine pcall_of2 Try.func9 rfl Try.ntmps9 Try.results9 (by simp) ?_
  refine cw_cut (K := BdK s p (z0, z1)) ?_ ?_
  · clear hat hTz hTf
    refine CW.of_cx (D := (fun id => if id = 14 then some ⟨[(12, 10)], []⟩ else if id = 15 then some ⟨[(12, 12)], []⟩ else none)) HB_ok mixed _ _ _ (by kernel_rfl) ?_
    repeat' first
      | (with_reducible refine gw_bool (fun _ => ?_) (fun _ => ?_))
      | (with_reducible refine condw_bool (fun _ => ?_) (fun _ => ?_))
      | simp [*, Stn.cs, Pos.cs, nd2, BdK, bdE, bdH, HasE, KeepBl]
  rintro ⟨e, h⟩ ⟨hE, hB, n1, n2, n3, n4⟩
  simp only [bdE, bdH, HasE, KeepBl, Stn.cs, Pos.cs] at hE hB n1 n2 n3 n4
  refine cw_cut (K := BdK s p (z0, z1)) ?_ ?_
  · clear hat hTz
    refine CW.of_cx (D := (fun id => if id = 14 then some ⟨[(12, 10)], []⟩ else if id = 15 then some ⟨[(12, 12)], []⟩ else none)) HB_ok mixed _ _ _ (by kernel_rfl) ?_
    repeat' first
      | (with_reducible refine gw_bool (fun _ => ?_) (fun _ => ?_))
      | (with_reducible refine condw_bool (fun _ => ?_) (fun _ => ?_))
      | simp [*, Stn.cs, Pos.cs, nd2, BdK, bdE, bdH, HasE, KeepBl]
  clear hE hB n1 n2 n3 n4 e h
  rintro ⟨e, h⟩ ⟨hE, hB, n1, n2, n3, n4⟩
  simp only [bdE, bdH, HasE, KeepBl, Stn.cs, Pos.cs] at hE hB n1 n2 n3 n4
  refine cw_cut (K := BdK s p (z0, z1)) ?_ ?_
  · clear hat hTz
    refine CW.of_cx (D := (fun id => if id = 14 then some ⟨[(12, 10)], []⟩ else if id = 15 then some ⟨[(12, 12)], []⟩ else none)) HB_ok mixed _ _ _ (by kernel_rfl) ?_
    repeat' first
      | (with_reducible refine gw_bool (fun _ => ?_) (fun _ => ?_))
      | (with_reducible refine condw_bool (fun _ => ?_) (fun _ => ?_))
      | simp [*, Stn.cs, Pos.cs, nd2, BdK, bdE, bdH, HasE, KeepBl]
  clear hE hB n1 n2 n3 n4 e h
  rintro ⟨e, h⟩ ⟨hE, hB, n1, n2, n3, n4⟩
  simp only [bdE, bdH, HasE, KeepBl, Stn.cs, Pos.cs] at hE hB n1 n2 n3 n4
  have f5 : (L.length + 1) * 16 ≤ 140737488355328 := by omega
  have f6 : L.length + 1 ≤ 9223372036854775807 := by omega
  have hsn := ndC_snoc L (z0, z1)
  refine cw_cut (K := fun t => HasE t.env ((7, .sl 230032 0 (L.length + 1) 2) :: bdE) ∧ KeepBl t.heap ((230032, ⟨50, ndC (L ++ [(z0, z1)])⟩) :: bdH s p (z0, z1)) ∧ t.heap 10 = none ∧ t.heap 12 = none) ?_ ?_
  · clear hat hTf
    refine cw_anyX HB_ok (by kernel_rfl) 7 (by kernel_rfl) ?_
    intro O K hO hK
    have T42 : ∀ (l : Array Bool) (t : St), l = #[true, true, true, true, true, false, false] → f0 s p z0 z1 t → fA s p L 4 t → fB z0 z1 2 t → cAnyX HB O K 2 l t := by
      rintro l ⟨e, h⟩ rfl q0 qa qb
      simp only [f0, fA, fB, Stn.cs, Pos.cs] at q0 qa qb
      refine cany1 5 (by rw [hO.out]; kernel_rfl) (by rw [hO.out]; exact rfl) ?_
      simp [*, appendV, srcCells, St.forget, scr, scrC]
      refine cany1 6 (by rw [hO.out]; kernel_rfl) (by rw [hO.out]; exact rfl) ?_
      simp [*, appendV, srcCells, St.forget, scr, scrC]
      refine cany0 (by rw [hO.out]; kernel_rfl) (hK.out _ ⟨rfl, ?_⟩)
      simp [*, St.forget, scr, scrC, bdE, bdH, HasE, KeepBl, Stn.cs, Pos.cs]
    have T32 : ∀ (l : Array Bool) (t : St), l = #[true, true, false, true, true, false, false] → f0 s p z0 z1 t → fA s p L 3 t → fB z0 z1 2 t → cAnyX HB O K 3 l t := by
      rintro l ⟨e, h⟩ rfl q0 qa qb
      simp only [f0, fA, fB, Stn.cs, Pos.cs] at q0 qa qb
      refine cany1 2 (by rw [hO.out]; kernel_rfl) (by rw [hO.out]; exact rfl) ?_
      · simp [*, appendV, srcCells, St.forget, scr, scrC]
        refine T42 _ _ (by kernel_rfl) ?_ ?_ ?_ <;> simp [*, f0, fA, fB, Stn.cs, Pos.cs]
    have T41 : ∀ (l : Array Bool) (t : St), l = #[true, true, true, true, false, false, false] → f0 s p z0 z1 t → fA s p L 4 t → fB z0 z1 1 t → cAnyX HB O K 3 l t := by
      rintro l ⟨e, h⟩ rfl q0 qa qb
      simp only [f0, fA, fB, Stn.cs, Pos.cs] at q0 qa qb
      refine cany1 4 (by rw [hO.out]; kernel_rfl) (by rw [hO.out]; exact rfl) ?_
      · simp [*, appendV, srcCells, St.forget, scr, scrC]
        refine T42 _ _ (by kernel_rfl) ?_ ?_ ?_ <;> simp [*, f0, fA, fB, Stn.cs, Pos.cs]
    have T12 : ∀ (l : Array Bool) (t : St), l = #[true, false, false, true, true, false, false] → f0 s p z0 z1 t → fA s p L 1 t → fB z0 z1 2 t → cAnyX HB O K 4 l t := by
      rintro l ⟨e, h⟩ rfl q0 qa qb
      simp only [f0, fA, fB, Stn.cs, Pos.cs] at q0 qa qb
      refine cany1 1 (by rw [hO.out]; kernel_rfl) (by rw [hO.out]; exact rfl) ?_
      · simp [*, appendV, srcCells, St.forget, scr, scrC]
        refine T32 _ _ (by kernel_rfl) ?_ ?_ ?_ <;> simp [*, f0, fA, fB, Stn.cs, Pos.cs]
    have T22 : ∀ (l : Array Bool) (t : St), l = #[false, true, false, true, true, false, false] → f0 s p z0 z1 t → fA s p L 2 t → fB z0 z1 2 t → cAnyX HB O K 4 l t := by
      rintro l ⟨e, h⟩ rfl q0 qa qb
      simp only [f0, fA, fB, Stn.cs, Pos.cs] at q0 qa qb
      refine cany1 0 (by rw [hO.out]; kernel_rfl) (by rw [hO.out]; exact rfl) ?_
      · simp [*, appendV, srcCells, St.forget, scr, scrC]
        refine T32 _ _ (by kernel_rfl) ?_ ?_ ?_ <;> simp [*, f0, fA, fB, Stn.cs, Pos.cs]
    have T31 : ∀ (l : Array Bool) (t : St), l = #[true, true, false, true, false, false, false] → f0 s p z0 z1 t → fA s p L 3 t → fB z0 z1 1 t → cAnyX HB O K 4 l t := by
      rintro l ⟨e, h⟩ rfl q0 qa qb
      simp only [f0, fA, fB, Stn.cs, Pos.cs] at q0 qa qb
      refine cany2 2 4 (by rw [hO.out]; kernel_rfl) (by rw [hO.out]; exact rfl) (by rw [hO.out]; exact rfl) ?_ ?_
      · simp [*, appendV, srcCells, St.forget, scr, scrC]
        refine T41 _ _ (by kernel_rfl) ?_ ?_ ?_ <;> simp [*, f0, fA, fB, Stn.cs, Pos.cs]
      · simp [*, appendV, srcCells, St.forget, scr, scrC]
        refine T32 _ _ (by kernel_rfl) ?_ ?_ ?_ <;> simp [*, f0, fA, fB, Stn.cs, Pos.cs]
    have T40 : ∀ (l : Array Bool) (t : St), l = #[true, true, true, false, false, false, false] → f0 s p z0 z1 t → fA s p L 4 t → fB z0 z1 0 t → cAnyX HB O K 4 l t := by
      rintro l ⟨e, h⟩ rfl q0 qa qb
      simp only [f0, fA, fB, Stn.cs, Pos.cs] at q0 qa qb
      refine cany1 3 (by rw [hO.out]; kernel_rfl) (by rw [hO.out]; exact rfl) ?_
      · simp [*, appendV, srcCells, St.forget, scr, scrC]
        refine T41 _ _ (by kernel_rfl) ?_ ?_ ?_ <;> simp [*, f0, fA, fB, Stn.cs, Pos.cs]
    have T02 : ∀ (l : Array Bool) (t : St), l = #[false, false, false, true, true, false, false] → f0 s p z0 z1 t → fA s p L 0 t → fB z0 z1 2 t → cAnyX HB O K 5 l t := by
      rintro l ⟨e, h⟩ rfl q0 qa qb
      simp only [f0, fA, fB, Stn.cs, Pos.cs] at q0 qa qb
      refine cany2 0 1 (by rw [hO.out]; kernel_rfl) (by rw [hO.out]; exact rfl) (by rw [hO.out]; exact rfl) ?_ ?_
      · simp [*, appendV, srcCells, St.forget, scr, scrC]
        refine T12 _ _ (by kernel_rfl) ?_ ?_ ?_ <;> simp [*, f0, fA, fB, Stn.cs, Pos.cs]
      · simp [*, appendV, srcCells, St.forget, scr, scrC]
        refine T22 _ _ (by kernel_rfl) ?_ ?_ ?_ <;> simp [*, f0, fA, fB, Stn.cs, Pos.cs]
    have T11 : ∀ (l : Array Bool) (t : St), l = #[true, false, false, true, false, false, false] → f0 s p z0 z1 t → fA s p L 1 t → fB z0 z1 1 t → cAnyX HB O K 5 l t := by
      rintro l ⟨e, h⟩ rfl q0 qa qb
      simp only [f0, fA, fB, Stn.cs, Pos.cs] at q0 qa qb
      refine cany2 1 4 (by rw [hO.out]; kernel_rfl) (by rw [hO.out]; exact rfl) (by rw [hO.out]; exact rfl) ?_ ?_
      · simp [*, appendV, srcCells, St.forget, scr, scrC]
        refine T31 _ _ (by kernel_rfl) ?_ ?_ ?_ <;> simp [*, f0, fA, fB, Stn.cs, Pos.cs]
      · simp [*, appendV, srcCells, St.forget, scr, scrC]
        refine T12 _ _ (by kernel_rfl) ?_ ?_ ?_ <;> simp [*, f0, fA, fB, Stn.cs, Pos.cs]
    have T21 : ∀ (l : Array Bool) (t : St), l = #[false, true, false, true, false, false, false] → f0 s p z0 z1 t → fA s p L 2 t → fB z0 z1 1 t → cAnyX HB O K 5 l t := by
      rintro l ⟨e, h⟩ rfl q0 qa qb
      simp only [f0, fA, fB, Stn.cs, Pos.cs] at q0 qa qb
      refine cany2 0 4 (by rw [hO.out]; kernel_rfl) (by rw [hO.out]; exact rfl) (by rw [hO.out]; exact rfl) ?_ ?_
      · simp [*, appendV, srcCells, St.forget, scr, scrC]
        refine T31 _ _ (by kernel_rfl) ?_ ?_ ?_ <;> simp [*, f0, fA, fB, Stn.cs, Pos.cs]
      · simp [*, appendV, srcCells, St.forget, scr, scrC]
        refine T22 _ _ (by kernel_rfl) ?_ ?_ ?_ <;> simp [*, f0, fA, fB, Stn.cs, Pos.cs]
    have T30 : ∀ (l : Array Bool) (t : St), l = #[true, true, false, false, false, false, false] → f0 s p z0 z1 t → fA s p L 3 t → fB z0 z1 0 t → cAnyX HB O K 5 l t := by
      rintro l ⟨e, h⟩ rfl q0 qa qb
      simp only [f0, fA, fB, Stn.cs, Pos.cs] at q0 qa qb
      refine cany2 2 3 (by rw [hO.out]; kernel_rfl) (by rw [hO.out]; exact rfl) (by rw [hO.out]; exact rfl) ?_ ?_
      · simp [*, appendV, srcCells, St.forget, scr, scrC]
        refine T40 _ _ (by kernel_rfl) ?_ ?_ ?_ <;> simp [*, f0, fA, fB, Stn.cs, Pos.cs]
      · simp [*, appendV, srcCells, St.forget, scr, scrC]
        refine T31 _ _ (by kernel_rfl) ?_ ?_ ?_ <;> simp [*, f0, fA, fB, Stn.cs, Pos.cs]
    have T01 : ∀ (l : Array Bool) (t : St), l = #[false, false, false, true, false, false, false] → f0 s p z0 z1 t → fA s p L 0 t → fB z0 z1 1 t → cAnyX HB O K 6 l t := by
      rintro l ⟨e, h⟩ rfl q0 qa qb
      simp only [f0, fA, fB, Stn.cs, Pos.cs] at q0 qa qb
      refine cany3 0 1 4 (by rw [hO.out]; kernel_rfl) (by rw [hO.out]; exact rfl) (by rw [hO.out]; exact rfl) (by rw [hO.out]; exact rfl) ?_ ?_ ?_
      · simp [*, appendV, srcCells, St.forget, scr, scrC]
        refine T11 _ _ (by kernel_rfl) ?_ ?_ ?_ <;> simp [*, f0, fA, fB, Stn.cs, Pos.cs]
      · simp [*, appendV, srcCells, St.forget, scr, scrC]
        refine T21 _ _ (by kernel_rfl) ?_ ?_ ?_ <;> simp [*, f0, fA, fB, Stn.cs, Pos.cs]
      · simp [*, appendV, srcCells, St.forget, scr, scrC]
        refine T02 _ _ (by kernel_rfl) ?_ ?_ ?_ <;> simp [*, f0, fA, fB, Stn.cs, Pos.cs]
    have T10 : ∀ (l : Array Bool) (t : St), l = #[true, false, false, false, false, false, false] → f0 s p z0 z1 t → fA s p L 1 t → fB z0 z1 0 t → cAnyX HB O K 6 l t := by
      rintro l ⟨e, h⟩ rfl q0 qa qb
      simp only [f0, fA, fB, Stn.cs, Pos.cs] at q0 qa qb
      refine cany2 1 3 (by rw [hO.out]; kernel_rfl) (by rw [hO.out]; exact rfl) (by rw [hO.out]; exact rfl) ?_ ?_
      · simp [*, appendV, srcCells, St.forget, scr, scrC]
        refine T30 _ _ (by kernel_rfl) ?_ ?_ ?_ <;> simp [*, f0, fA, fB, Stn.cs, Pos.cs]
      · simp [*, appendV, srcCells, St.forget, scr, scrC]
        refine T11 _ _ (by kernel_rfl) ?_ ?_ ?_ <;> simp [*, f0, fA, fB, Stn.cs, Pos.cs]
    have T20 : ∀ (l : Array Bool) (t : St), l = #[false, true, false, false, false, false, false] → f0 s p z0 z1 t → fA s p L 2 t → fB z0 z1 0 t → cAnyX HB O K 6 l t := by
      rintro l ⟨e, h⟩ rfl q0 qa qb
      simp only [f0, fA, fB, Stn.cs, Pos.cs] at q0 qa qb
      refine cany2 0 3 (by rw [hO.out]; kernel_rfl) (by rw [hO.out]; exact rfl) (by rw [hO.out]; exact rfl) ?_ ?_
      · simp [*, appendV, srcCells, St.forget, scr, scrC]
        refine T30 _ _ (by kernel_rfl) ?_ ?_ ?_ <;> simp [*, f0, fA, fB, Stn.cs, Pos.cs]
      · simp [*, appendV, srcCells, St.forget, scr, scrC]
        refine T21 _ _ (by kernel_rfl) ?_ ?_ ?_ <;> simp [*, f0, fA, fB, Stn.cs, Pos.cs]
    have T00 : ∀ (l : Array Bool) (t : St), l = #[false, false, false, false, false, false, false] → f0 s p z0 z1 t → fA s p L 0 t → fB z0 z1 0 t → cAnyX HB O K 7 l t := by
      rintro l ⟨e, h⟩ rfl q0 qa qb
      simp only [f0, fA, fB, Stn.cs, Pos.cs] at q0 qa qb
      refine cany3 0 1 3 (by rw [hO.out]; kernel_rfl) (by rw [hO.out]; exact rfl) (by rw [hO.out]; exact rfl) (by rw [hO.out]; exact rfl) ?_ ?_ ?_
      · simp [*, appendV, srcCells, St.forget, scr, scrC]
        refine T10 _ _ (by kernel_rfl) ?_ ?_ ?_ <;> simp [*, f0, fA, fB, Stn.cs, Pos.cs]
      · simp [*, appendV, srcCells, St.forget, scr, scrC]
        refine T20 _ _ (by kernel_rfl) ?_ ?_ ?_ <;> simp [*, f0, fA, fB, Stn.cs, Pos.cs]
      · simp [*, appendV, srcCells, St.forget, scr, scrC]
        refine T01 _ _ (by kernel_rfl) ?_ ?_ ?_ <;> simp [*, f0, fA, fB, Stn.cs, Pos.cs]
    exact T00 _ _ (by kernel_rfl) (by simp [*, f0, Stn.cs, Pos.cs]) (by simp [*, fA]) (by simp [*, fB])
  clear hE hB n1 n2 n3 n4 e h hTz hsn f5 f6 hhL
  generalize hLL : L ++ [(z0, z1)] = LL
  have hLl : L.length + 1 = LL.length := by rw [← hLL]; simp
  rw [hLl]
  obtain ⟨m, hm⟩ : ∃ m, LL.length = m := ⟨_, rfl⟩
  have hmb : m ≤ 21 := by omega
  rw [hm]
  clear hLl hLL hm2
  rintro ⟨e, h⟩ ⟨hE, hB, n1, n2⟩
  simp only [bdE, bdH, HasE, KeepBl, Stn.cs, Pos.cs] at hE hB n1 n2
  refine CW.of_cx (D := (fun id => if id = 14 then some ⟨[(12, 10)], []⟩ else if id = 15 then some ⟨[(12, 12)], []⟩ else none)) HB_ok mixed _ _ _ (by kernel_rfl) ?_
  repeat' first
    | (with_reducible refine gw_bool (fun _ => ?_) (fun _ => ?_))
    | (with_reducible refine condw_bool (fun _ => ?_) (fun _ => ?_))
    | simp [*]
  refine lp_go (D := (fun id => if id = 14 then some ⟨[(12, 10)], []⟩ else if id = 15 then some ⟨[(12, 12)], []⟩ else none)) HB_ok mixed (by kernel_rfl) [3, 4, 7] [3, 4, 5, 10, 12, 230032] (α := Nat) (fun i e h => i ≤ m ∧ e 8 = .int .i64 i) (fun i => m - i) 0 ?_ ?_
  · exact ⟨by omega, by simp⟩
  rintro i e h hk hkh ⟨hi, g7⟩
  simp [Keep, hE] at hk
  simp [KeepH, hB, n1, n2] at hkh
  clear hTf
  by_cases hlt : i < m
  · obtain ⟨z, hz, -⟩ := at_ex (l := LL) (i := i) (by omega)
    obtain ⟨B, X, tb, ts, tl, tt⟩ := hat.out z
    have hprt := ndC_part hz
    have f1 : ilt (i : Int) (m : Int) = true := ilt_t (by omega)
    have w1 : IntKind.i64.wrap ((i : Int) + 1) = ((i + 1 : Nat) : Int) := wrap_succ (by omega)
    have hi2 : i * 2 + 2 ≤ m * 2 := by omega
    obtain ⟨z0', z1'⟩ := z
    replace tt : Hid (_) := tt
    clear hat
    cases X
    all_goals
      repeat' first
        | (with_reducible refine gw_bool (fun _ => ?_) (fun _ => ?_))
        | (with_reducible refine condw_bool (fun _ => ?_) (fun _ => ?_))
        | simp [*]
    all_goals refine lp_go (D := (fun id => if id = 14 then some ⟨[(12, 10)], []⟩ else if id = 15 then some ⟨[(12, 12)], []⟩ else none)) HB_ok mixed (by kernel_rfl) [3, 4, 7, 8, 26, 27, 28, 29, 32, 33, 34, 35, 36, 37, 38, 39, 40, 41, 42, 43, 44, 45, 46, 47, 48, 49, 50, 51, 52, 53, 54, 55, 56, 57, 58, 59, 60, 61, 62, 63, 64] [3, 4, 5, 10, 12, 230032] (α := Nat) (fun k e h => k ≤ n + 1 ∧ e 9 = .int .i64 k) (fun k => n + 1 - k) 0 ?_ ?_
    all_goals first
      | (exact ⟨by omega, by simp⟩)
      | skip
    all_goals
      have hk0 := hk
      have hkh0 := hkh
      have g70 := g7
      clear hk hkh g7
      rintro k e h hk hkh ⟨hkn, g9⟩
      simp [Keep, hk0, hkh0, g70] at hk
      simp [KeepH, hk0, hkh0] at hkh
      clear tb ts tl
      by_cases hkl : k < n + 1
      · have f2 : ilt (n : Int) (k : Int) = false := ilt_f (by omega)
        have w2 : IntKind.i64.wrap ((k : Int) + 1) = ((k + 1 : Nat) : Int) := wrap_succ (by omega)
        obtain ⟨Y, hY⟩ := tt.out k
        clear tt
        cases Y with
        | none =>
          simp only [nodV] at hY
          repeat' first
            | (with_reducible refine gw_bool (fun _ => ?_) (fun _ => ?_))
            | (with_reducible refine condw_bool (fun _ => ?_) (fun _ => ?_))
            | simp [*, setsV]
          refine nxt_go (k + 1) ((View.forget _ _ 12).trans ((View.forget _ _ 10))) (by omega) (by simp [*, Keep, St.forget, scr, scrC, usesC, usesA]) (by simp [*, KeepH, St.forget, scr, scrC]) ?_
          exact ⟨by omega, by simp [*, St.forget, scr, scrC]⟩
        | some y =>
          obtain ⟨y0, y1⟩ := y
          simp only [nodV] at hY
          repeat' first
            | (with_reducible refine gw_bool (fun _ => ?_) (fun _ => ?_))
            | (with_reducible refine condw_bool (fun _ => ?_) (fun _ => ?_))
            | simp [*, setsV]
          refine nxt_go (k + 1) ((View.forget _ _ 12).trans ((View.forget _ _ 10))) (by omega) (by simp [*, Keep, St.forget, scr, scrC, usesC, usesA]) (by simp [*, KeepH, St.forget, scr, scrC]) ?_
          exact ⟨by omega, by simp [*, St.forget, scr, scrC]⟩
      · have f2 : ilt (n : Int) (k : Int) = true := ilt_t (by omega)
        clear tt
        repeat' first
          | (with_reducible refine gw_bool (fun _ => ?_) (fun _ => ?_))
          | (with_reducible refine condw_bool (fun _ => ?_) (fun _ => ?_))
          | simp [*]
        refine nxt_go (i + 1) (View.refl _ _) (by omega) (by simp [*, Keep, St.forget, scr, scrC, usesC, usesA]) (by simp [*, KeepH, St.forget, scr, scrC]) ?_
        exact ⟨by omega, by simp [*]⟩
  · have f1 : ilt (i : Int) (m : Int) = false := ilt_f (by omega)
    clear hat
    repeat' first
      | (with_reducible refine gw_bool (fun _ => ?_) (fun _ => ?_))
      | (with_reducible refine condw_bool (fun _ => ?_) (fun _ => ?_))
      | simp [*]
end Go.Proofs.Ytcbddoopmkhlfaa
end
section
namespace Go.Proofs.Ytcbddoopmkhlfaa.topologyBoundariesDone
open Go.Pv Go.ChangeShapes Go.WideShapes Go.ChangeAt Go.RowKit
set_option linter.unusedVariables false

theorem law : ∀ us, HasAll [.struct [.str, .slice .str, .slice (.struct [.str, .struct [.int .i64, .int .i64], .struct [.int .i64, .int .i64]]), .slice (.struct [.str, .int .i64, .struct [.int .i64, .int .i64], .struct [.int .i64, .int .i64]]), .slice (.struct [.str, .int .i64, .int .i64, .int .i64, .struct [.int .i64, .int .i64], .slice (.struct [.int .i64, .int .i64]), .bool, .int .i64, .int .i64, .int .i64, .int .i64])], .struct [.slice .bool, .slice (.slice (.int .i64))], .struct [.int .i64, .int .i64]] us → PCall Try.prog 9 us (.bool true) := by
  rintro us ⟨a, _, rfl, ha, b, _, rfl, hb, c, _, rfl, hc, rfl⟩
  obtain ⟨s, rfl, h1, _, hlk⟩ := has_stnL ha
  obtain ⟨p, rfl, h2, _⟩ := has_pos hb
  obtain ⟨z, rfl⟩ := has_z hc
  have hm : maxLen = 9223372036854775807 := by decide
  rw [hm] at h1 h2
  refine bnds_ok hlk ?_ z
  simp only [lenB, Bool.and_eq_true, decide_eq_true_eq, List.all_eq_true]
  exact ⟨h1, h2⟩

theorem own : ownKnob Try.prog.godebug = none := by kernel_rfl
theorem laidOut : laidOutB Try.prog = true := by kernel_rfl
theorem spec_at (H : Type) : ∀ ds : List (DataW H), ds.length = 3 → Rows.topologyBoundariesSpec.fn H ds = { results := [.lit (.bool true)], args := ds } := by
  intro ds h
  rcases ds with _ | ⟨d0, _ | ⟨d1, _ | ⟨d2, _ | ⟨e, r⟩⟩⟩⟩
  all_goals first | rfl | (simp at h; done) | (simp at h; omega)

set_option maxRecDepth 100000 in
theorem lifted (os : Os) (started : os.Started) (H : Type) (enc : TypeId × Value → H) :
    ReturnsInHanded {} Try.checked os 9 .any (Rows.topologyBoundariesSpec.pre6 enc Try.prog Try.f9 Rows.topologyBoundariesRow.domain false) (Rows.topologyBoundariesSpec.post enc Try.prog Try.f9 false true false false) :=
  lift (C := Try.checked) (m := 9) own laidOut started (by kernel_rfl) Try.func9
    (ChangeSpec.witness6 (enc := enc) (C := Try.checked) false ⟨#[], #[.agg #[.string ⟨#[]⟩, .slice none 0 0, .slice none 0 0, .slice none 0 0, .slice none 0 0], .agg #[.slice none 0 0, .slice none 0 0], .agg #[.int .i64 0, .int .i64 0]], []⟩ 8 (by kernel_rfl) (by kernel_rfl) (by kernel_rfl) (by kernel_rfl))
    Try.params9 (by kernel_rfl) Try.underlying4 rfl (by kernel_rfl) (by kernel_rfl) (spec_at H) law

theorem over : Rows.topologyBoundariesRow.holds Try.pinned (OpenSpec.ofChange Rows.topologyBoundariesSpec) :=
  OpenClaim.holds_of_wide 9 Try.f9 rfl rfl rfl rfl rfl rfl rfl ⟨rfl, rfl, rfl, rfl, rfl⟩ rfl rfl rfl rfl rfl (by kernel_rfl) Try.func9 (by kernel_rfl)
    (of_decide_eq_true (by kernel_rfl)) (by unfold Func.isWrapper; first | (rw [if_pos (by decide +kernel)]; kernel_rfl) | (rw [if_neg (by decide +kernel)]; exact ⟨rfl, rfl⟩))
    (fun os started H enc _ => lifted os started H enc)

theorem proved : Rows.TopologyBoundariesSaid := over
end Go.Proofs.Ytcbddoopmkhlfaa.topologyBoundariesDone
end
