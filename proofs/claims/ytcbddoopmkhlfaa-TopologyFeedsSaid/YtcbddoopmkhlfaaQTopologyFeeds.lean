/-
  What can be reached, as the document computes it: the plain law.
  The document's edges, lists of nodes, and what can be reached.
  What the document's search reaches.
  What the document says of zones that live, and of zones that are fed.
  What the document says of zones that are fed: the walk.
  The law of what feeds zones.
  TopologyFeeds returns true for every input, and leaves the input as it was. No condition.
-/
import Derived.Test.YtcbddoopmkhlfaaJ8
import Derived.Test.YtcbddoopmkhlfaaJ7
import Derived.Test.YtcbddoopmkhlfaaJ6
import Derived.Test.YtcbddoopmkhlfaaRows
section
namespace Go.Proofs.Ytcbddoopmkhlfaa
open Go.Pv Go.RowKit
set_option linter.unusedSimpArgs false
set_option linter.unusedVariables false
set_option maxRecDepth 100000

/-- All that can be reached, as a list. -/
def clo (o : Option (List Nd)) (E : List Ed) : Nat → Nat → List Nd → List Nd
  | 0, _, Q => Q
  | f + 1, i, Q => match Q[i]? with
    | none => Q
    | some c => clo o E f (i + 1) (rndF o c Q E)
theorem clo_ext (o : Option (List Nd)) (E : List Ed) : ∀ (f i : Nat) (Q : List Nd), ∃ t, clo o E f i Q = Q ++ t
  | 0, _, Q => ⟨[], by simp [clo]⟩
  | f + 1, i, Q => by
    unfold clo
    split
    · exact ⟨[], by simp⟩
    · rename_i c _
      obtain ⟨t1, h1, _⟩ := rnd_ext o c E Q
      obtain ⟨t2, h2⟩ := clo_ext o E f (i + 1) (rndF o c Q E)
      exact ⟨t1 ++ t2, by rw [h2, h1, List.append_assoc]⟩
def srcB (Q : List Nd) : Bool := Q.any fun n => ieq n.1 3
theorem srcF_none {Q : List Nd} (h : ∀ (j : Nat) (n : Nd), Q[j]? = some n → ieq n.1 3 = false) : srcB Q = false := by
  rw [srcB, List.any_eq_false]
  intro n hn
  obtain ⟨j, hj, e⟩ := List.mem_iff_getElem.1 hn
  have := h j n (by rw [List.getElem?_eq_getElem hj, e])
  simp [this]
theorem bfs_clo {o : Option (List Nd)} {E : List Ed} {c : Nd} (hE : E.length ≤ 40) : ∀ (f i : Nat) (Q : List Nd), 100 ≤ f + i → QI E c Q → (∀ (j : Nat) (n : Nd), j < i → Q[j]? = some n → ieq n.1 3 = false) → bfs o E f i Q = srcB (clo o E f i Q)
  | 0, i, Q, hf, hq, hinv => by
    have hl := hq.len
    simp only [bfs, clo]
    rw [srcF_none fun j n hn => hinv j n (by have := (List.getElem?_eq_some_iff.1 hn).1; omega) hn]
  | f + 1, i, Q, hf, hq, hinv => by
    unfold bfs clo
    cases hd : Q[i]? with
    | none =>
      have hl : Q.length ≤ i := List.getElem?_eq_none_iff.1 hd
      simp only
      rw [srcF_none fun j n hn => hinv j n (by have := (List.getElem?_eq_some_iff.1 hn).1; omega) hn]
    | some d =>
      simp only
      obtain ⟨t, ht, _⟩ := rnd_ext o d E Q
      have hid := (List.getElem?_eq_some_iff.1 hd).1
      split
      · rename_i h3
        obtain ⟨t2, h2⟩ := clo_ext o E f (i + 1) (rndF o d Q E)
        rw [h2, ht]
        symm
        rw [srcB, List.any_eq_true]
        exact ⟨d, by simp [List.mem_of_getElem? hd], h3⟩
      · rename_i h3
        refine bfs_clo hE f (i + 1) _ (by omega) (QI.rnd E hq (fun x hx => hx)) (fun j n hj hn => ?_)
        rw [ht, List.getElem?_append_left (by omega)] at hn
        by_cases hji : j < i
        · exact hinv j n hji hn
        · have : j = i := by omega
          subst this
          rw [hd] at hn
          cases hn
          simpa using h3
def reachL (o : Option (List Nd)) (E : List Ed) (c : Nd) : List Nd := clo o E 100 0 [c]
theorem reach_src {o : Option (List Nd)} {E : List Ed} {c : Nd} (hE : E.length ≤ 40) : reachF o E c = srcB (reachL o E c) :=
  bfs_clo (c := c) hE 100 0 [c] (by omega) ⟨by simp, fun n hn => by simp at hn; subst hn; simp⟩ (fun j n hj => by omega)
end Go.Proofs.Ytcbddoopmkhlfaa
end
section
namespace Go.Proofs.Ytcbddoopmkhlfaa
open Go.Pv Go.RowKit
set_option linter.unusedSimpArgs false
set_option linter.unusedVariables false
set_option maxRecDepth 100000
set_option maxHeartbeats 4000000
attribute [-simp] Tclo_at Tgrp_at Tchk Tpchk TcI TcB Tclo Tgrp Tsid Tnod Tlook Tbnd TsidA Tre Tidx Tnms Tnmd Tobj Tlks Tbay Trck Trpc Tres TSd TBd Tnm Tlv Tfd Tfn Tlg Tgps Trg Trf Trsd Trnd Tar

theorem edge_ok {s : Stn} {p : Pos} (h : okP s p = true) {i : Nat} (hi : i < s.qs.length) {a0 a1 c0 c1 : Int} (hS : sidF s p (grp s p) i = some [a0, a1, c0, c1]) {c : Bool} (hc : p.cl[i]? = some c) : PCall Try.prog 54 [.agg s.cs, .agg p.cs, .int .i64 i] (.bool (isE c a0 a1 c0 c1)) := by
  have hT := Trsd_at h ((rsdF_of hi).trans hS)
  obtain ⟨hil, hic⟩ := get_of hc
  obtain ⟨n, hn⟩ : ∃ n, p.cl.length = n := ⟨_, rfl⟩
  rw [hn] at hil
  clear h hS
  cases c
  · refine pcall_cx E11_ok mixed (fun _ => none) Try.func54 rfl Try.ntmps54 Try.results54 (by simp) (by kernel_rfl) ?_
    repeat' first
      | (with_reducible refine gw_bool (fun _ => ?_) (fun _ => ?_))
      | (with_reducible refine condw_bool (fun _ => ?_) (fun _ => ?_))
      | simp [*, Stn.cs, Pos.cs, b1, isE]
  cases q0 : ieq a0 0
  · cases q1 : ieq c0 0
    · cases q2 : ieq a0 c0
      · refine pcall_cx E11_ok mixed (fun _ => none) Try.func54 rfl Try.ntmps54 Try.results54 (by simp) (by kernel_rfl) ?_
        repeat' first
          | (with_reducible refine gw_bool (fun _ => ?_) (fun _ => ?_))
          | (with_reducible refine condw_bool (fun _ => ?_) (fun _ => ?_))
          | simp [*, Stn.cs, Pos.cs, b1, isE]
      · refine pcall_cx E11_ok mixed (fun _ => none) Try.func54 rfl Try.ntmps54 Try.results54 (by simp) (by kernel_rfl) ?_
        repeat' first
          | (with_reducible refine gw_bool (fun _ => ?_) (fun _ => ?_))
          | (with_reducible refine condw_bool (fun _ => ?_) (fun _ => ?_))
          | simp [*, Stn.cs, Pos.cs, b1, isE]
    · refine pcall_cx E11_ok mixed (fun _ => none) Try.func54 rfl Try.ntmps54 Try.results54 (by simp) (by kernel_rfl) ?_
      repeat' first
        | (with_reducible refine gw_bool (fun _ => ?_) (fun _ => ?_))
        | (with_reducible refine condw_bool (fun _ => ?_) (fun _ => ?_))
        | simp [*, Stn.cs, Pos.cs, b1, isE]
  · refine pcall_cx E11_ok mixed (fun _ => none) Try.func54 rfl Try.ntmps54 Try.results54 (by simp) (by kernel_rfl) ?_
    repeat' first
      | (with_reducible refine gw_bool (fun _ => ?_) (fun _ => ?_))
      | (with_reducible refine condw_bool (fun _ => ?_) (fun _ => ?_))
      | simp [*, Stn.cs, Pos.cs, b1, isE]
theorem memN_step {L : List Nd} {i : Nat} {c : Nd} (h : L[i]? = some c) (a b : Int) : memN (L.take (i + 1)) a b = (memN (L.take i) a b || (ieq a c.1 && ieq b c.2)) := by
  simp [memN, take_snoc h]
theorem in_ok (L : List Nd) (a b : Int) (hl : L.length ≤ 1000000) : PCall Try.prog 57 [.list 2 (L.map nd2), .agg [.int .i64 a, .int .i64 b]] (.bool (memN L a b)) := by
  obtain ⟨n, hn⟩ : ∃ n, L.length = n := ⟨_, rfl⟩
  rw [hn] at hl
  obtain ⟨R, hR⟩ : ∃ R, memN L a b = R := ⟨_, rfl⟩
  rw [hR]
  replace hR : Hid (memN L a b = R) := hR
  refine pcall_cx noTab_ok mixed (fun _ => none) Try.func57 rfl Try.ntmps57 Try.results57 (by simp) (by kernel_rfl) ?_
  repeat' first
    | (with_reducible refine gw_bool (fun _ => ?_) (fun _ => ?_))
    | (with_reducible refine condw_bool (fun _ => ?_) (fun _ => ?_))
    | simp [*]
  refine lp_go (D := (fun _ => none)) noTab_ok mixed (by kernel_rfl) [0, 3] [3] (α := Nat) (fun i e h => i ≤ n ∧ e 5 = .int .i64 i ∧ Hid (memN (L.take i) a b = false)) (fun i => n - i) 0 ?_ ?_
  · exact ⟨by omega, by simp, show _ = _ by simp [memN]⟩
  rintro i e h hk hkh ⟨hi, g7, hin⟩
  simp [Keep] at hk
  simp [KeepH] at hkh
  by_cases hlt : i < n
  · obtain ⟨c, hc, hc'⟩ := at_ex (l := L) (i := i) (by omega)
    have f1 : ilt (i : Int) (n : Int) = true := ilt_t (by omega)
    have w1 : IntKind.i64.wrap ((i : Int) + 1) = ((i + 1 : Nat) : Int) := wrap_succ (by omega)
    have hst := memN_step hc a b
    rw [hin.out, Bool.false_or, ieq_sym a, ieq_sym b] at hst
    cases q : (ieq c.1 a && ieq c.2 b)
    · rw [q] at hst
      replace hst : Hid (memN (L.take (i + 1)) a b = false) := hst
      clear hin hR
      cases q1 : ieq c.1 a
      · skip
        repeat' first
          | (with_reducible refine gw_bool (fun _ => ?_) (fun _ => ?_))
          | (with_reducible refine condw_bool (fun _ => ?_) (fun _ => ?_))
          | simp [*, nd2]
        refine nxt_go (i + 1) (View.refl _ _) (by omega) (by simp [*, Keep, St.forget, scr, scrC]) (by simp [*, KeepH, St.forget, scr, scrC]) ?_
        exact ⟨by omega, by simp [*], hst⟩
      · rw [q1] at q
        simp only [Bool.true_and] at q
        repeat' first
          | (with_reducible refine gw_bool (fun _ => ?_) (fun _ => ?_))
          | (with_reducible refine condw_bool (fun _ => ?_) (fun _ => ?_))
          | simp [*, nd2]
        refine nxt_go (i + 1) (View.refl _ _) (by omega) (by simp [*, Keep, St.forget, scr, scrC]) (by simp [*, KeepH, St.forget, scr, scrC]) ?_
        exact ⟨by omega, by simp [*], hst⟩
    · simp only [Bool.and_eq_true] at q
      obtain ⟨q1, q2⟩ := q
      have hRt : R = true := by
        rw [← hR.out, memN, List.any_eq_true]
        exact ⟨c, List.mem_of_getElem? hc, by rw [ieq_sym a, ieq_sym b, q1, q2]; rfl⟩
      clear hin hR hst
      repeat' first
        | (with_reducible refine gw_bool (fun _ => ?_) (fun _ => ?_))
        | (with_reducible refine condw_bool (fun _ => ?_) (fun _ => ?_))
        | simp [*, nd2]
  · have f1 : ilt (i : Int) (n : Int) = false := ilt_f (by omega)
    have hRf : R = false := by
      have := hin.out
      rw [List.take_of_length_le (by omega)] at this
      rw [← hR.out]; exact this
    clear hin hR
    repeat' first
      | (with_reducible refine gw_bool (fun _ => ?_) (fun _ => ?_))
      | (with_reducible refine condw_bool (fun _ => ?_) (fun _ => ?_))
      | simp [*]
theorem sourceN_ok (L : List Nd) (hl : L.length ≤ 1000000) : PCall Try.prog 58 [.list 2 (L.map nd2)] (.bool (srcB L)) := by
  obtain ⟨n, hn⟩ : ∃ n, L.length = n := ⟨_, rfl⟩
  rw [hn] at hl
  obtain ⟨R, hR⟩ : ∃ R, srcB L = R := ⟨_, rfl⟩
  rw [hR]
  replace hR : Hid (srcB L = R) := hR
  refine pcall_cx noTab_ok mixed (fun _ => none) Try.func58 rfl Try.ntmps58 Try.results58 (by simp) (by kernel_rfl) ?_
  repeat' first
    | (with_reducible refine gw_bool (fun _ => ?_) (fun _ => ?_))
    | (with_reducible refine condw_bool (fun _ => ?_) (fun _ => ?_))
    | simp [*]
  refine lp_go (D := (fun _ => none)) noTab_ok mixed (by kernel_rfl) [0] [] (α := Nat) (fun i e h => i ≤ n ∧ e 3 = .int .i64 i ∧ Hid (srcB (L.take i) = false)) (fun i => n - i) 0 ?_ ?_
  · exact ⟨by omega, by simp, show _ = _ by simp [srcB]⟩
  rintro i e h hk hkh ⟨hi, g7, hin⟩
  simp [Keep] at hk
  simp [KeepH] at hkh
  by_cases hlt : i < n
  · obtain ⟨c, hc, hc'⟩ := at_ex (l := L) (i := i) (by omega)
    have f1 : ilt (i : Int) (n : Int) = true := ilt_t (by omega)
    have w1 : IntKind.i64.wrap ((i : Int) + 1) = ((i + 1 : Nat) : Int) := wrap_succ (by omega)
    cases q : ieq c.1 3
    · have hst : Hid (srcB (L.take (i + 1)) = false) := show _ = _ by
        rw [take_snoc hc, srcB, List.any_append]
        have := hin.out
        simp only [srcB] at this
        rw [this]; simp [q]
      clear hin hR
      repeat' first
        | (with_reducible refine gw_bool (fun _ => ?_) (fun _ => ?_))
        | (with_reducible refine condw_bool (fun _ => ?_) (fun _ => ?_))
        | simp [*, nd2]
      refine nxt_go (i + 1) (View.refl _ _) (by omega) (by simp [*, Keep, St.forget, scr, scrC]) (by simp [*, KeepH, St.forget, scr, scrC]) ?_
      exact ⟨by omega, by simp [*], hst⟩
    · have hRt : R = true := by
        rw [← hR.out, srcB, List.any_eq_true]
        exact ⟨c, List.mem_of_getElem? hc, q⟩
      clear hin hR
      repeat' first
        | (with_reducible refine gw_bool (fun _ => ?_) (fun _ => ?_))
        | (with_reducible refine condw_bool (fun _ => ?_) (fun _ => ?_))
        | simp [*, nd2]
  · have f1 : ilt (i : Int) (n : Int) = false := ilt_f (by omega)
    have hRf : R = false := by
      have := hin.out
      rw [List.take_of_length_le (by omega)] at this
      rw [← hR.out]; exact this
    clear hin hR
    repeat' first
      | (with_reducible refine gw_bool (fun _ => ?_) (fun _ => ?_))
      | (with_reducible refine condw_bool (fun _ => ?_) (fun _ => ?_))
      | simp [*]
def Ted : List V → Option V
  | [.agg a, .agg b, .int .i64 i] => (match unStn a, unPos b with
    | some s, some p => if okP s p = true ∧ 0 ≤ i ∧ i < s.qs.length then (match p.cl[i.toNat]?, sidF s p (grp s p) i with
      | some c, some [a0, a1, c0, c1] => some (.bool (isE c a0 a1 c0 c1))
      | _, _ => none) else none
    | _, _ => none)
  | _ => none
theorem Ted_at {s : Stn} {p : Pos} {i : Nat} {a0 a1 c0 c1 : Int} {c : Bool} (h : okP s p = true) (hi : i < s.qs.length) (hS : sidF s p (grp s p) i = some [a0, a1, c0, c1]) (hc : p.cl[i]? = some c) : Ted [.agg [.str s.nm, .list 1 (s.bs.map s1), .list 5 (s.ls.map Ln.cs), .list 6 (s.ss.map Sr.cs), .list 12 (s.qs.map By.cs)], .agg [.list 1 (p.cl.map b1), .list 1 (p.lk.map r1)], .int .i64 i] = some (.bool (isE c a0 a1 c0 c1)) := by
  have e1 := unStn_cs s
  have e2 := unPos_cs p
  unfold Stn.cs at e1
  unfold Pos.cs at e2
  have : (i : Int) < s.qs.length := by omega
  simp [Ted, e1, e2, h, this, hS, hc]
theorem ed_tab : ∀ vs v, Ted vs = some v → PCall Try.prog 54 vs v := by
  intro vs v h; unfold Ted at h; split at h
  · split at h
    · rename_i h1 h2
      split at h
      · rename_i hl
        split at h
        · rename_i hc hS
          cases h
          rw [unStn_inv _ _ h1, unPos_inv _ _ h2]
          obtain ⟨p1, p3, p4⟩ := hl
          obtain ⟨u, rfl⟩ := Int.eq_ofNat_of_zero_le p3
          exact edge_ok p1 (by omega) hS (by simpa using hc)
        · cases h
      · cases h
    · cases h
  · cases h
def Tin : List V → Option V
  | [.list 2 xs, .agg [.int .i64 a, .int .i64 b]] => (match decL unN2 xs with
    | some L => if L.length ≤ 1000000 then some (.bool (memN L a b)) else none
    | none => none)
  | _ => none
theorem Tin_at {L : List Nd} {a b : Int} (h : L.length ≤ 1000000) : Tin [.list 2 (L.map nd2), .agg [.int .i64 a, .int .i64 b]] = some (.bool (memN L a b)) := by simp [Tin, decL_map unN2_cs, h]
theorem in_tab : ∀ vs v, Tin vs = some v → PCall Try.prog 57 vs v := by
  intro vs v h; unfold Tin at h; split at h
  · split at h
    · rename_i h1
      split at h
      · rename_i hl; cases h; rw [decL_inv unN2_inv _ _ h1]; exact in_ok _ _ _ hl
      · cases h
    · cases h
  · cases h
def TsrcN : List V → Option V
  | [.list 2 xs] => (match decL unN2 xs with
    | some L => if L.length ≤ 1000000 then some (.bool (srcB L)) else none
    | none => none)
  | _ => none
theorem TsrcN_at {L : List Nd} (h : L.length ≤ 1000000) : TsrcN [.list 2 (L.map nd2)] = some (.bool (srcB L)) := by simp [TsrcN, decL_map unN2_cs, h]
theorem srcN_tab : ∀ vs v, TsrcN vs = some v → PCall Try.prog 58 vs v := by
  intro vs v h; unfold TsrcN at h; split at h
  · split at h
    · rename_i h1
      split at h
      · rename_i hl; cases h; rw [decL_inv unN2_inv _ _ h1]; exact sourceN_ok _ hl
      · cases h
    · cases h
  · cases h
def E14 : Tab := add 54 Ted (add 57 Tin (add 58 TsrcN (E11)))
theorem E14_at (f : FuncId) (vs : List V) : E14.at' f vs = if f = 54 then Ted vs else if f = 57 then Tin vs else if f = 58 then TsrcN vs else E11.at' f vs := rfl
theorem E14_fr (f : FuncId) : E14.fr f = if f = 54 then false else if f = 57 then false else if f = 58 then false else E11.fr f := rfl
theorem E14_gb (f : FuncId) : E14.gb f = E11.gb f := rfl
theorem E14_gv (f : FuncId) (vs : List V) : E14.gv f vs = E11.gv f vs := rfl
attribute [simp] E14_at E14_fr E14_gb E14_gv Ted Tin TsrcN
theorem E14_ok : TabOK Try.prog E14 := by
  refine add_ok (add_ok (add_ok (E11_ok) (by kernel_rfl) ?_) (by kernel_rfl) ?_) (by kernel_rfl) ?_
  · exact srcN_tab
  · exact in_tab
  · exact ed_tab
attribute [-simp] Ted Tin TsrcN
attribute [simp] Ted_at Tin_at TsrcN_at
theorem edOf_eq {v : Vu} {i : Nat} {a0 a1 c0 c1 : Int} {c : Bool} (hS : sidF v.s v.p v.g i = some [a0, a1, c0, c1]) (hc : v.p.cl[i]? = some c) : edOf v i = if isE c a0 a1 c0 c1 = true then some ⟨i, a0, a1, c0, c1⟩ else none := by
  simp only [edOf, hS, hc]
end Go.Proofs.Ytcbddoopmkhlfaa
end
section
namespace Go.Proofs.Ytcbddoopmkhlfaa
open Go.Pv Go.RowKit
set_option linter.unusedSimpArgs false
set_option linter.unusedVariables false
set_option maxRecDepth 100000
set_option maxHeartbeats 4000000
attribute [-simp] Tclo_at Tgrp_at Tchk Tpchk TcI TcB Tclo Tgrp Tsid Tnod Tlook Tbnd TsidA Tre Tidx Tnms Tnmd Tobj Tlks Tbay Trck Trpc Tres TSd TBd Tnm Tlv Tfd Tfn Tlg Tgps Trg Trf Trsd Trnd Tar Ted Tin TsrcN

theorem vis_cases (W Q : List Nd) (a b : Int) : (memN W a b = true → vis (some W) Q (a, b) = Q) ∧ (memN Q a b = true → vis (some W) Q (a, b) = Q) ∧ (memN W a b = false → memN Q a b = false → vis (some W) Q (a, b) = Q ++ [(a, b)]) := by
  refine ⟨fun h => ?_, fun h => ?_, fun h h2 => ?_⟩ <;> simp [vis, woL, *]
theorem reached_ok {s : Stn} {p : Pos} (h : okP s p = true) (W : List Nd) (c : Nd) (hW : W.length ≤ 1000000) : PFresh Try.prog 59 [.agg s.cs, .agg p.cs, .agg [.int .i64 c.1, .int .i64 c.2], .list 2 (W.map nd2)] (.list 2 ((reachL (some W) (edg ⟨s, p, grp s p⟩) c).map nd2)) := by
  obtain ⟨v, hv⟩ : ∃ v : Vu, v = ⟨s, p, grp s p⟩ := ⟨_, rfl⟩
  have hn16 := (fine_of (okP_iff h).1).nq
  have hnc := (pfine_of (okP_iff h).2).nc
  obtain ⟨n, hn⟩ : ∃ n, s.qs.length = n := ⟨_, rfl⟩
  rw [hn] at hn16 hnc
  rw [← hv]
  have hE : edg v = edN v n := by rw [edg, hv]; simp only; rw [hnc]
  have hEl : (edg v).length ≤ 16 := by rw [hE]; exact Nat.le_trans (edN_len _ _) hn16
  have hat : ∀ i, i < n → ∃ a0 a1 c0 c1 cl, Trsd [.agg [.str s.nm, .list 1 (s.bs.map s1), .list 5 (s.ls.map Ln.cs), .list 6 (s.ss.map Sr.cs), .list 12 (s.qs.map By.cs)], .agg [.list 1 (p.cl.map b1), .list 1 (p.lk.map r1)], .int .i64 (i : Int)] = some (.agg ([a0, a1, c0, c1].map (V.int .i64))) ∧ Ted [.agg [.str s.nm, .list 1 (s.bs.map s1), .list 5 (s.ls.map Ln.cs), .list 6 (s.ss.map Sr.cs), .list 12 (s.qs.map By.cs)], .agg [.list 1 (p.cl.map b1), .list 1 (p.lk.map r1)], .int .i64 (i : Int)] = some (.bool (isE cl a0 a1 c0 c1)) ∧ edOf v i = if isE cl a0 a1 c0 c1 = true then some ⟨i, a0, a1, c0, c1⟩ else none := fun i hi => by
    obtain ⟨a0, a1, c0, c1, hS, -, -, -⟩ := sid_nodes h (i := i) (by omega)
    obtain ⟨cl, hcl, -⟩ := at_ex (l := p.cl) (i := i) (by omega)
    refine ⟨a0, a1, c0, c1, cl, Trsd_at h ((rsdF_of (by omega)).trans hS), Ted_at h (by omega) hS hcl, ?_⟩
    rw [hv]
    exact edOf_eq hS hcl
  have hch := chunks_nd (reachL (some W) (edg v) c)
  have hpu := ndC_pure (reachL (some W) (edg v) c)
  have hR0 : clo (some W) (edg v) (100 - 0) 0 [c] = reachL (some W) (edg v) c := rfl
  have hTi : ∀ a b : Int, _ := fun a b => Tin_at (L := W) (a := a) (b := b) hW
  generalize reachL (some W) (edg v) c = R at hch hpu hR0 ⊢
  replace hat : Hid (_) := hat
  replace hR0 : Hid (_) := hR0
  clear hv h hnc
  obtain ⟨c', hc'⟩ : ∃ c' : Nd, c' = c := ⟨_, rfl⟩
  have hQ0 : QI (edg v) c' [c] := ⟨by simp, fun n hn => by simp at hn; subst hn; simp [hc']⟩
  clear hc'
  have hfl : (R.map nd2).all (fun c => c.all flatC) = true := by simp [nd2, flatC]
  refine pfresh_cx E14_ok mixed (fun _ => none) Try.func59 rfl Try.ntmps59 Try.results59 (by simp) (by kernel_rfl) ?_
  repeat' first
    | (with_reducible refine gw_bool (fun _ => ?_) (fun _ => ?_))
    | (with_reducible refine condw_bool (fun _ => ?_) (fun _ => ?_))
    | simp [*, Stn.cs, Pos.cs]
  refine lp_go (D := (fun _ => none)) E14_ok mixed (by kernel_rfl) [3, 4, 5] [4, 5, 6, 12, 13, 79, 80] (α := Nat × List Nd) (fun x e h => x.1 ≤ x.2.length ∧ QI (edg v) c' x.2 ∧ Hid (clo (some W) (edg v) (100 - x.1) x.1 x.2 = R) ∧ e 10 = .int .i64 x.1 ∧ e 9 = .sl 15 0 x.2.length 2 ∧ h 15 = some ⟨60, ndC x.2⟩) (fun x => 100 - x.1) (0, [c]) ?_ ?_
  · exact ⟨by simp, hQ0, hR0, by simp, by simp, by simp [ndC, nd2]⟩
  rintro ⟨k, Q⟩ e h hk hkh ⟨hkQ, hQI, hR, g7, g9, g15⟩
  simp [Keep] at hk
  simp [KeepH] at hkh
  simp only at hkQ hQI hR g7 g9 g15
  clear hR0 hQ0
  have hQl := hQI.len
  by_cases hlt : k < Q.length
  · obtain ⟨d, hd, -⟩ := at_ex (l := Q) (i := k) hlt
    have f1 : ilt (k : Int) (Q.length : Int) = true := ilt_t (by omega)
    have w1 : IntKind.i64.wrap ((k : Int) + 1) = ((k + 1 : Nat) : Int) := wrap_succ (by omega)
    have hRn : Hid (clo (some W) (edg v) (100 - (k + 1)) (k + 1) (rndF (some W) d Q (edN v n)) = R) := show _ = _ by
      have := hR.out
      rw [show 100 - k = (100 - (k + 1)) + 1 by omega, clo, hd] at this
      rw [← hE]; exact this
    have hQn : QI (edg v) c' (rndF (some W) d Q (edN v n)) := by rw [← hE]; exact hQI.rnd _ (fun x hx => hx)
    have hlen : ∀ i, i ≤ n → (rndF (some W) d Q (edN v i)).length ≤ 100 ∧ (rndF (some W) d Q (edN v i))[k]? = some d := fun i hi => by
      obtain ⟨t, ht, hl⟩ := rnd_ext (some W) d (edN v i) Q
      have := edN_len v i
      rw [ht]
      refine ⟨by simp only [List.length_append]; omega, by rw [List.getElem?_append_left hlt]; exact hd⟩
    replace hQn : Hid (_) := hQn
    replace hlen : Hid (_) := hlen
    obtain ⟨m, hm⟩ : ∃ m, Q.length = m := ⟨_, rfl⟩
    rw [hm] at f1 g9 hlt hkQ
    obtain ⟨d0, d1⟩ := d
    clear hQI hR hch hpu
    repeat' first
      | (with_reducible refine gw_bool (fun _ => ?_) (fun _ => ?_))
      | (with_reducible refine condw_bool (fun _ => ?_) (fun _ => ?_))
      | simp [*]
    refine lp_go (D := (fun _ => none)) E14_ok mixed (by kernel_rfl) [3, 4, 5, 10, 16, 18, 19] [4, 5, 6, 12, 13, 79, 80] (α := Nat) (fun i e h => i ≤ n ∧ e 11 = .int .i64 i ∧ e 9 = .sl 15 0 (rndF (some W) (d0, d1) Q (edN v i)).length 2 ∧ h 15 = some ⟨60, ndC (rndF (some W) (d0, d1) Q (edN v i))⟩) (fun i => n - i) 0 ?_ ?_
    · exact ⟨by omega, by simp, by simp [*, rndF, edN], by simp [*, rndF, edN]⟩
    have hk0 := hk
    have hkh0 := hkh
    have g70 := g7
    clear hk hkh g7 g9 g15
    rintro i e h hk hkh ⟨hi, g7, g9, g15⟩
    simp [Keep, hk0, hkh0, g70] at hk
    simp [KeepH, hk0, hkh0] at hkh
    by_cases hin : i < n
    · obtain ⟨a0, a1, c0, c1, cl, hTs, hTe, hEo⟩ := hat.out i hin
      obtain ⟨hl1, hl2⟩ := hlen.out i hi
      have f2 : ilt (i : Int) (n : Int) = true := ilt_t (by omega)
      have w2 : IntKind.i64.wrap ((i : Int) + 1) = ((i + 1 : Nat) : Int) := wrap_succ (by omega)
      simp only [List.map_cons, List.map_nil] at hTs
      have hnx : ∀ x, edOf v i = some x → rndF (some W) (d0, d1) Q (edN v (i + 1)) = edv (some W) (d0, d1) (rndF (some W) (d0, d1) Q (edN v i)) x := fun x hx => by rw [edN_t hx, rnd_snoc]
      have hno : edOf v i = none → rndF (some W) (d0, d1) Q (edN v (i + 1)) = rndF (some W) (d0, d1) Q (edN v i) := fun hx => by rw [edN_f hx]
      generalize rndF (some W) (d0, d1) Q (edN v i) = C at g9 g15 hl1 hl2 hnx hno
      have hprt := ndC_part hl2
      have hchC := chunks_nd C
      have hkC : k < C.length := (List.getElem?_eq_some_iff.1 hl2).1
      have hkC2 : k * 2 + 2 ≤ C.length * 2 := by omega
      have hTC : ∀ a b : Int, _ := fun a b => Tin_at (L := C) (a := a) (b := b) (by omega)
      have f5 : (C.length + 1) * 16 ≤ 140737488355328 := by omega
      have f6 : C.length + 1 ≤ 9223372036854775807 := by omega
      clear hat hlen hQn hRn hl2
      cases hq : isE cl a0 a1 c0 c1
      · rw [hq] at hTe hEo
        have hst : Hid (rndF (some W) (d0, d1) Q (edN v (i + 1)) = C) := hno (by rw [hEo]; rfl)
        clear hnx hno hEo
        repeat' first
          | (with_reducible refine gw_bool (fun _ => ?_) (fun _ => ?_))
          | (with_reducible refine condw_bool (fun _ => ?_) (fun _ => ?_))
          | simp [*]
        refine nxt_go (i + 1) ((View.forget _ _ 12)) (by omega) (by simp [*, Keep, St.forget, scr, scrC]) (by simp [*, KeepH, St.forget, scr, scrC]) ?_
        refine ⟨by omega, by simp [*, St.forget, scr, scrC], ?_, ?_⟩
        · rw [hst.out]; simp [*, St.forget, scr, scrC]
        · rw [hst.out]; simp [*, St.forget, scr, scrC]
      rw [hq] at hTe hEo
      have hst := hnx _ hEo
      rw [edv] at hst
      simp only [Ed.l, Ed.r, eq2, ieq_sym d0, ieq_sym d1] at hst
      clear hnx hno hEo hq
      cases q1 : (ieq a0 d0 && ieq a1 d1)
      · rw [q1] at hst
        cases q2 : (ieq c0 d0 && ieq c1 d1)
        · rw [q2] at hst
          replace hst : Hid (rndF (some W) (d0, d1) Q (edN v (i + 1)) = C) := hst
          repeat' first
            | (with_reducible refine gw_bool (fun _ => ?_) (fun _ => ?_))
            | (with_reducible refine condw_bool (fun _ => ?_) (fun _ => ?_))
            | simp [*]
          refine nxt_go (i + 1) ((View.forget _ _ 12)) (by omega) (by simp [*, Keep, St.forget, scr, scrC]) (by simp [*, KeepH, St.forget, scr, scrC]) ?_
          refine ⟨by omega, by simp [*, St.forget, scr, scrC], ?_, ?_⟩
          · rw [hst.out]; simp [*, St.forget, scr, scrC]
          · rw [hst.out]; simp [*, St.forget, scr, scrC]
        · rw [q2] at hst
          simp only [Bool.false_eq_true, if_false, if_true] at hst
          obtain ⟨v1, v2, v3⟩ := vis_cases W C a0 a1
          cases m1 : memN W a0 a1
          · cases m2 : memN C a0 a1
            · rw [v3 m1 m2] at hst
              replace hst : Hid (_) := hst
              clear v1 v2 v3
              repeat' first
                | (with_reducible refine gw_bool (fun _ => ?_) (fun _ => ?_))
                | (with_reducible refine condw_bool (fun _ => ?_) (fun _ => ?_))
                | simp [*, setsV, appendV, srcCells, St.forget, scr, scrC]
              refine nxt_go (i + 1) ((View.forget _ _ 79).trans ((View.forget _ _ 13).trans ((View.forget _ _ 12)))) (by omega) (by simp [*, Keep, St.forget, scr, scrC]) (by simp [*, KeepH, St.forget, scr, scrC]) ?_
              refine ⟨by omega, by simp [*, St.forget, scr, scrC], ?_, ?_⟩
              · rw [hst.out]; simp [*, St.forget, scr, scrC]
              · rw [hst.out]; simp [*, St.forget, scr, scrC, ndC_snoc]
            · rw [v2 m2] at hst
              replace hst : Hid (_) := hst
              clear v1 v2 v3
              repeat' first
                | (with_reducible refine gw_bool (fun _ => ?_) (fun _ => ?_))
                | (with_reducible refine condw_bool (fun _ => ?_) (fun _ => ?_))
                | simp [*, setsV]
              refine nxt_go (i + 1) ((View.forget _ _ 13).trans ((View.forget _ _ 12))) (by omega) (by simp [*, Keep, St.forget, scr, scrC]) (by simp [*, KeepH, St.forget, scr, scrC]) ?_
              refine ⟨by omega, by simp [*, St.forget, scr, scrC], ?_, ?_⟩
              · rw [hst.out]; simp [*, St.forget, scr, scrC]
              · rw [hst.out]; simp [*, St.forget, scr, scrC]
          · rw [v1 m1] at hst
            replace hst : Hid (_) := hst
            clear v1 v2 v3
            repeat' first
              | (with_reducible refine gw_bool (fun _ => ?_) (fun _ => ?_))
              | (with_reducible refine condw_bool (fun _ => ?_) (fun _ => ?_))
              | simp [*, setsV]
            refine nxt_go (i + 1) ((View.forget _ _ 13).trans ((View.forget _ _ 12))) (by omega) (by simp [*, Keep, St.forget, scr, scrC]) (by simp [*, KeepH, St.forget, scr, scrC]) ?_
            refine ⟨by omega, by simp [*, St.forget, scr, scrC], ?_, ?_⟩
            · rw [hst.out]; simp [*, St.forget, scr, scrC]
            · rw [hst.out]; simp [*, St.forget, scr, scrC]
      · rw [q1] at hst
        simp only [if_true] at hst
        obtain ⟨v1, v2, v3⟩ := vis_cases W C c0 c1
        cases m1 : memN W c0 c1
        · cases m2 : memN C c0 c1
          · rw [v3 m1 m2] at hst
            replace hst : Hid (_) := hst
            clear v1 v2 v3
            repeat' first
              | (with_reducible refine gw_bool (fun _ => ?_) (fun _ => ?_))
              | (with_reducible refine condw_bool (fun _ => ?_) (fun _ => ?_))
              | simp [*, setsV, appendV, srcCells, St.forget, scr, scrC]
            refine nxt_go (i + 1) ((View.forget _ _ 79).trans ((View.forget _ _ 13).trans ((View.forget _ _ 12)))) (by omega) (by simp [*, Keep, St.forget, scr, scrC]) (by simp [*, KeepH, St.forget, scr, scrC]) ?_
            refine ⟨by omega, by simp [*, St.forget, scr, scrC], ?_, ?_⟩
            · rw [hst.out]; simp [*, St.forget, scr, scrC]
            · rw [hst.out]; simp [*, St.forget, scr, scrC, ndC_snoc]
          · rw [v2 m2] at hst
            replace hst : Hid (_) := hst
            clear v1 v2 v3
            repeat' first
              | (with_reducible refine gw_bool (fun _ => ?_) (fun _ => ?_))
              | (with_reducible refine condw_bool (fun _ => ?_) (fun _ => ?_))
              | simp [*, setsV]
            refine nxt_go (i + 1) ((View.forget _ _ 13).trans ((View.forget _ _ 12))) (by omega) (by simp [*, Keep, St.forget, scr, scrC]) (by simp [*, KeepH, St.forget, scr, scrC]) ?_
            refine ⟨by omega, by simp [*, St.forget, scr, scrC], ?_, ?_⟩
            · rw [hst.out]; simp [*, St.forget, scr, scrC]
            · rw [hst.out]; simp [*, St.forget, scr, scrC]
        · rw [v1 m1] at hst
          replace hst : Hid (_) := hst
          clear v1 v2 v3
          repeat' first
            | (with_reducible refine gw_bool (fun _ => ?_) (fun _ => ?_))
            | (with_reducible refine condw_bool (fun _ => ?_) (fun _ => ?_))
            | simp [*, setsV]
          refine nxt_go (i + 1) ((View.forget _ _ 13).trans ((View.forget _ _ 12))) (by omega) (by simp [*, Keep, St.forget, scr, scrC]) (by simp [*, KeepH, St.forget, scr, scrC]) ?_
          refine ⟨by omega, by simp [*, St.forget, scr, scrC], ?_, ?_⟩
          · rw [hst.out]; simp [*, St.forget, scr, scrC]
          · rw [hst.out]; simp [*, St.forget, scr, scrC]
    · have f2 : ilt (i : Int) (n : Int) = false := ilt_f (by omega)
      have e2 : i = n := by omega
      subst e2
      have hQ2 := hQn.out
      have hl2 := (hlen.out i (Nat.le_refl _)).2
      generalize rndF (some W) (d0, d1) Q (edN v i) = C at g9 g15 hRn hQ2 hl2
      have hkC : k < C.length := (List.getElem?_eq_some_iff.1 hl2).1
      clear hat hlen hQn hl2
      replace hQ2 : Hid (_) := hQ2
      repeat' first
        | (with_reducible refine gw_bool (fun _ => ?_) (fun _ => ?_))
        | (with_reducible refine condw_bool (fun _ => ?_) (fun _ => ?_))
        | simp [*]
      refine nxt_go (k + 1, C) (View.refl _ _) (by simp only; omega) (by simp [*, Keep]) (by simp [*, KeepH]) ?_
      exact ⟨by simp only; omega, hQ2.out, hRn, by simp [*], by simp [*], by simp [*]⟩
  · have f1 : ilt (k : Int) (Q.length : Int) = false := ilt_f (by omega)
    have e1 : Q = R := by
      have := hR.out
      rw [show 100 - k = (100 - (k + 1)) + 1 by omega, clo, List.getElem?_eq_none (by omega)] at this
      exact this
    clear hR hat
    subst e1
    repeat' first
      | (with_reducible refine gw_bool (fun _ => ?_) (fun _ => ?_))
      | (with_reducible refine condw_bool (fun _ => ?_) (fun _ => ?_))
      | simp [*]
end Go.Proofs.Ytcbddoopmkhlfaa
end
section
namespace Go.Proofs.Ytcbddoopmkhlfaa
open Go.Pv Go.RowKit
set_option linter.unusedSimpArgs false
set_option linter.unusedVariables false
set_option maxRecDepth 100000
set_option maxHeartbeats 4000000
attribute [-simp] Tclo_at Tgrp_at Tchk Tpchk TcI TcB Tclo Tgrp Tsid Tnod Tlook Tbnd TsidA Tre Tidx Tnms Tnmd Tobj Tlks Tbay Trck Trpc Tres TSd TBd Tnm Tlv Tfd Tfn Tlg Tgps Trg Trf Trsd Trnd Tar Ted Tin TsrcN

def Trch : List V → Option V
  | [.agg a, .agg b, .agg [.int .i64 c, .int .i64 d], .list 2 xs] => (match unStn a, unPos b, decL unN2 xs with
    | some s, some p, some W => if okP s p = true ∧ W.length ≤ 1000000 then some (.list 2 ((reachL (some W) (edg ⟨s, p, grp s p⟩) (c, d)).map nd2)) else none
    | _, _, _ => none)
  | _ => none
theorem Trch_at {s : Stn} {p : Pos} {c d : Int} {W : List Nd} (h : okP s p = true) (hW : W.length ≤ 1000000) : Trch [.agg [.str s.nm, .list 1 (s.bs.map s1), .list 5 (s.ls.map Ln.cs), .list 6 (s.ss.map Sr.cs), .list 12 (s.qs.map By.cs)], .agg [.list 1 (p.cl.map b1), .list 1 (p.lk.map r1)], .agg [.int .i64 c, .int .i64 d], .list 2 (W.map nd2)] = some (.list 2 ((reachL (some W) (edg ⟨s, p, grp s p⟩) (c, d)).map nd2)) := by
  have e1 := unStn_cs s
  have e2 := unPos_cs p
  unfold Stn.cs at e1
  unfold Pos.cs at e2
  simp [Trch, e1, e2, decL_map unN2_cs, h, hW]
theorem rch_tab : ∀ vs v, Trch vs = some v → PFresh Try.prog 59 vs v := by
  intro vs v h; unfold Trch at h; split at h
  · split at h
    · rename_i h1 h2 h3
      split at h
      · rename_i hl
        cases h; rw [unStn_inv _ _ h1, unPos_inv _ _ h2, decL_inv unN2_inv _ _ h3]; exact reached_ok hl.1 _ (_, _) hl.2
      · cases h
    · cases h
  · cases h
def TrchN : List V → Option V
  | [A, B, C, .nils] => Trch [A, B, C, .list 2 []]
  | vs => Trch vs
theorem rchN_tab : ∀ vs v, TrchN vs = some v → PFresh Try.prog 59 vs v := by
  intro vs v h; unfold TrchN at h; split at h
  · exact (rch_tab _ _ h).weaken (.cons (Wk.refl _) (.cons (Wk.refl _) (.cons (Wk.refl _) (.cons (Wk.nils 2) .nil)))) (Wk.refl _)
  · exact rch_tab _ _ h
theorem TrchN_nil {A B C : V} : TrchN [A, B, C, .nils] = Trch [A, B, C, .list 2 []] := rfl
theorem TrchN_list {A B C : V} {k : Nat} {l : List (List V)} : TrchN [A, B, C, .list k l] = Trch [A, B, C, .list k l] := rfl
def E15 : Tab := addF 59 TrchN (E14)
theorem E15_at (f : FuncId) (vs : List V) : E15.at' f vs = if f = 59 then TrchN vs else E14.at' f vs := rfl
theorem E15_fr (f : FuncId) : E15.fr f = if f = 59 then true else E14.fr f := rfl
theorem E15_gb (f : FuncId) : E15.gb f = E14.gb f := rfl
theorem E15_gv (f : FuncId) (vs : List V) : E15.gv f vs = E14.gv f vs := rfl
attribute [simp] E15_at E15_fr E15_gb E15_gv TrchN
theorem E15_ok : TabOK Try.prog E15 := by
  refine addF_ok (E14_ok) (by kernel_rfl) ?_
  · exact rchN_tab
attribute [-simp] TrchN
attribute [simp] TrchN_nil TrchN_list
theorem clo_none (E : List Ed) : ∀ (f i : Nat) (Q : List Nd), clo none E f i Q = clo (some []) E f i Q
  | 0, _, _ => rfl
  | f + 1, i, Q => by
    unfold clo
    split
    · rfl
    · exact clo_none E f (i + 1) _
theorem edg16 {s : Stn} {p : Pos} (h : okP s p = true) : (edg ⟨s, p, grp s p⟩).length ≤ 40 := Nat.le_trans (edg_len _) (cl40 h)
theorem QI.rl {E : List Ed} {c : Nd} {o : Option (List Nd)} : ∀ (f i : Nat) (Q : List Nd), QI E c Q → (clo o E f i Q).length ≤ 1 + 2 * E.length
  | 0, _, _, h => h.len
  | f + 1, i, Q, h => by
    unfold clo
    split
    · exact h.len
    · exact QI.rl f (i + 1) _ (h.rnd E (fun x hx => hx))
theorem rl_len (o : Option (List Nd)) (E : List Ed) (c : Nd) : (reachL o E c).length ≤ 1 + 2 * E.length := QI.rl (c := c) 100 0 [c] ⟨by simp, fun n hn => by simp at hn; subst hn; simp⟩
theorem rLive_ok {s : Stn} {p : Pos} (h : okP s p = true) (k o : Int) : PCall Try.prog 30 [.agg s.cs, .agg p.cs, .agg [.int .i64 k, .int .i64 o]] (.bool (liveF s p k o)) := by
  have hTf := Trf_at (lkB_of (okP_iff h).1) (lenB_ok h)
  rw [h] at hTf
  have hTn := Trnd_at (k := k) (o := o) h
  obtain ⟨N, hN⟩ : ∃ N, nodF s (grp s p) k o = N := ⟨_, rfl⟩
  rw [hN] at hTn
  have hEl := edg16 h
  cases N with
  | none =>
    have hv : liveF s p k o = false := by simp [liveF, hN]
    rw [hv]
    clear hv h hN
    refine pcall_cx E15_ok mixed (fun _ => none) Try.func30 rfl Try.ntmps30 Try.results30 (by simp) (by kernel_rfl) ?_
    repeat' first
      | (with_reducible refine gw_bool (fun _ => ?_) (fun _ => ?_))
      | (with_reducible refine condw_bool (fun _ => ?_) (fun _ => ?_))
      | simp [*, Stn.cs, Pos.cs, nodA]
  | some n =>
    have hnk := nod_kind hN
    obtain ⟨n0, n1⟩ := n
    simp only at hnk
    have hz : ieq n0 0 = false := ieq_f (by omega)
    have hl := rl_len (some []) (edg ⟨s, p, grp s p⟩) (n0, n1)
    have hv : liveF s p k o = srcB (reachL (some []) (edg ⟨s, p, grp s p⟩) (n0, n1)) := by
      simp only [liveF, hN]
      rw [reach_src hEl]
      show srcB (clo none _ _ _ _) = srcB (clo (some []) _ _ _ _)
      rw [clo_none]
    rw [hv]
    have hTr := Trch_at (c := n0) (d := n1) (W := []) h (by simp)
    simp only [List.map_nil] at hTr
    generalize reachL (some []) (edg ⟨s, p, grp s p⟩) (n0, n1) = R at hTr hl ⊢
    have hTs := TsrcN_at (L := R) (by omega)
    clear hv h hN hnk
    refine pcall_cx E15_ok mixed (fun _ => none) Try.func30 rfl Try.ntmps30 Try.results30 (by simp) (by kernel_rfl) ?_
    repeat' first
      | (with_reducible refine gw_bool (fun _ => ?_) (fun _ => ?_))
      | (with_reducible refine condw_bool (fun _ => ?_) (fun _ => ?_))
      | simp [*, Stn.cs, Pos.cs, nodA]
/-! ### Fed -/
def rinF (s : Stn) (g : List Int) (L : List Nd) (z : Nd) : List Nd := match nodF s g z.1 z.2 with
  | some n => L ++ [n]
  | none => L
def rinN (s : Stn) (g : List Int) (zs : List Nd) (i : Nat) : List Nd := (zs.take i).foldl (rinF s g) []
theorem rinN_step {s : Stn} {g : List Int} {zs : List Nd} {i : Nat} {z : Nd} (h : zs[i]? = some z) : rinN s g zs (i + 1) = rinF s g (rinN s g zs i) z := by
  simp [rinN, take_snoc h]
theorem rin_mem {s : Stn} {g : List Int} {n : Nd} : ∀ {zs L : List Nd}, n ∈ zs.foldl (rinF s g) L ↔ n ∈ L ∨ ∃ z ∈ zs, nodF s g z.1 z.2 = some n
  | [], L => by simp
  | z :: zs, L => by
    rw [List.foldl_cons, rin_mem]
    have : n ∈ rinF s g L z ↔ n ∈ L ∨ nodF s g z.1 z.2 = some n := by
      unfold rinF
      split
      · rename_i m hm; simp [hm, eq_comm]
      · rename_i hm; simp [hm]
    rw [this]
    simp [or_assoc]
theorem rinN_len (s : Stn) (g : List Int) (zs : List Nd) : ∀ i, (rinN s g zs i).length ≤ i
  | 0 => by simp [rinN]
  | i + 1 => by
    have ih := rinN_len s g zs i
    cases hz : zs[i]? with
    | none =>
      have hl := List.getElem?_eq_none_iff.1 hz
      have : rinN s g zs (i + 1) = rinN s g zs i := by simp only [rinN]; rw [List.take_of_length_le (by omega), List.take_of_length_le hl]
      rw [this]; omega
    | some z =>
      rw [rinN_step hz]
      unfold rinF
      split
      · simp; omega
      · omega
theorem memN_congr {L M : List Nd} (h : ∀ n, n ∈ L ↔ n ∈ M) (a b : Int) : memN L a b = memN M a b := by
  rw [Bool.eq_iff_iff, memN_iff, memN_iff]; exact h _
theorem vis_congr {L M : List Nd} (h : ∀ n, n ∈ L ↔ n ∈ M) (Q : List Nd) (n : Nd) : vis (some L) Q n = vis (some M) Q n := by
  unfold vis
  rw [show memN (woL (some L)) n.1 n.2 = memN (woL (some M)) n.1 n.2 from memN_congr h _ _]
theorem rnd_congr {L M : List Nd} (h : ∀ n, n ∈ L ↔ n ∈ M) (c : Nd) : ∀ (E : List Ed) (Q : List Nd), rndF (some L) c Q E = rndF (some M) c Q E
  | [], _ => rfl
  | x :: E, Q => by
    show rndF (some L) c (edv (some L) c Q x) E = rndF (some M) c (edv (some M) c Q x) E
    have : edv (some L) c Q x = edv (some M) c Q x := by
      unfold edv; rw [vis_congr h, vis_congr h]
    rw [this]; exact rnd_congr h c E _
theorem clo_congr {L M : List Nd} (h : ∀ n, n ∈ L ↔ n ∈ M) (E : List Ed) : ∀ (f i : Nat) (Q : List Nd), clo (some L) E f i Q = clo (some M) E f i Q
  | 0, _, _ => rfl
  | f + 1, i, Q => by
    unfold clo
    split
    · rfl
    · rw [rnd_congr h]; exact clo_congr h E f (i + 1) _
/-- What the document answers for an edge. -/
def rfedX (E : List Ed) (L : List Nd) (x : Ed) : Bool :=
  if (memN L x.a0 x.a1 == memN L x.c0 x.c1) = true then false
  else srcB (reachL (some L) E (if memN L x.a0 x.a1 = true then x.r else x.l))
theorem fed_ref {s : Stn} {p : Pos} (h : okP s p = true) {zs : List Nd} {x : Ed} (hx : x ∈ edg ⟨s, p, grp s p⟩) : fedF s p zs x.i = rfedX (edg ⟨s, p, grp s p⟩) (rinN s (grp s p) zs zs.length) x := by
  have hm : ∀ n, n ∈ rinN s (grp s p) zs zs.length ↔ n ∈ insA s (grp s p) zs := fun n => by
    rw [insA_mem, rinN, List.take_length, rin_mem]; simp
  rw [fedF, fedV_at hx (ieq_t rfl)]
  simp only [fedX, rfedX, reachL, memN_congr hm, clo_congr hm]
  split
  · rfl
  · rw [reach_src (edg16 h)]; rfl
theorem fed_not {s : Stn} {p : Pos} {zs : List Nd} {b : Int} (h : ∀ x ∈ edg ⟨s, p, grp s p⟩, (x.i : Int) ≠ b) : fedF s p zs b = false := fedV_none fun x hx => ieq_f (h x hx)
end Go.Proofs.Ytcbddoopmkhlfaa
end
section
namespace Go.Proofs.Ytcbddoopmkhlfaa
open Go.Pv Go.RowKit
set_option linter.unusedSimpArgs false
set_option linter.unusedVariables false
set_option maxRecDepth 100000
set_option maxHeartbeats 4000000
attribute [-simp] Tclo_at Tgrp_at Tchk Tpchk TcI TcB Tclo Tgrp Tsid Tnod Tlook Tbnd TsidA Tre Tidx Tnms Tnmd Tobj Tlks Tbay Trck Trpc Tres TSd TBd Tnm Tlv Tfd Tfn Tlg Tgps Trg Trf Trsd Trnd Tar Ted Tin TsrcN TrchN

theorem rFed_ok {s : Stn} {p : Pos} (h : okP s p = true) (zs : List Nd) (hz : zs.length ≤ 1000) (bay : Int) : PCall Try.prog 23 [.agg s.cs, .agg p.cs, .list 2 (zs.map nd2), .int .i64 bay] (.bool (fedF s p zs bay)) := by
  have hTf := Trf_at (lkB_of (okP_iff h).1) (lenB_ok h)
  rw [h] at hTf
  have hnc := (pfine_of (okP_iff h).2).nc
  obtain ⟨n, hn⟩ : ∃ n, s.qs.length = n := ⟨_, rfl⟩
  have hout : ¬ (0 ≤ bay ∧ bay < n) → fedF s p zs bay = false := fun hh => fed_not fun x hx e => by
    have := edg_lt hx
    simp only at this
    omega
  cases q0 : ilt bay 0
  case true =>
    have hv := hout (fun hh => by have := ilt_iff.1 q0; omega)
    rw [hv]
    clear h hv hout
    refine pcall_cx E15_ok mixed (fun _ => none) Try.func23 rfl Try.ntmps23 Try.results23 (by simp) (by kernel_rfl) ?_
    repeat' first
      | (with_reducible refine gw_bool (fun _ => ?_) (fun _ => ?_))
      | (with_reducible refine condw_bool (fun _ => ?_) (fun _ => ?_))
      | simp [*, Stn.cs, Pos.cs]
  cases q1 : ilt bay (n : Int)
  · have hv := hout (fun hh => by have := ilt_iff'.1 q1; omega)
    rw [hv]
    clear h hv hout
    refine pcall_cx E15_ok mixed (fun _ => none) Try.func23 rfl Try.ntmps23 Try.results23 (by simp) (by kernel_rfl) ?_
    repeat' first
      | (with_reducible refine gw_bool (fun _ => ?_) (fun _ => ?_))
      | (with_reducible refine condw_bool (fun _ => ?_) (fun _ => ?_))
      | simp [*, Stn.cs, Pos.cs]
  clear hout
  obtain ⟨i, rfl⟩ := Int.eq_ofNat_of_zero_le (ilt_iff'.1 q0)
  have hi : i < s.qs.length := by have := ilt_iff.1 q1; omega
  obtain ⟨a0, a1, c0, c1, hS, -, -, -⟩ := sid_nodes h hi
  obtain ⟨cl, hcl, -⟩ := at_ex (l := p.cl) (i := i) (by omega)
  have hTe := Ted_at h hi hS hcl
  have hTs := Trsd_at h ((rsdF_of hi).trans hS)
  have hEo := edOf_eq (v := ⟨s, p, grp s p⟩) hS hcl
  cases hq : isE cl a0 a1 c0 c1
  · rw [hq] at hTe hEo
    have hv : fedF s p zs i = false := fed_not fun x hx e => by
      have h1 := (edN_i hx).2
      have e2 : x.i = i := by omega
      rw [e2, hEo] at h1
      cases h1
    rw [hv]
    clear h hv hS hcl hEo hTs
    refine pcall_cx E15_ok mixed (fun _ => none) Try.func23 rfl Try.ntmps23 Try.results23 (by simp) (by kernel_rfl) ?_
    repeat' first
      | (with_reducible refine gw_bool (fun _ => ?_) (fun _ => ?_))
      | (with_reducible refine condw_bool (fun _ => ?_) (fun _ => ?_))
      | simp [*, Stn.cs, Pos.cs]
  rw [hq] at hTe hEo
  have hx : (⟨i, a0, a1, c0, c1⟩ : Ed) ∈ edg ⟨s, p, grp s p⟩ := mem_edN (by simp only; omega) hEo
  have hv : fedF s p zs i = rfedX (edg ⟨s, p, grp s p⟩) (rinN s (grp s p) zs zs.length) ⟨i, a0, a1, c0, c1⟩ := fed_ref h hx
  rw [hv]
  have hEl := edg16 h
  have hTz : Hid (∀ z : Nd, Trnd [.agg [.str s.nm, .list 1 (s.bs.map s1), .list 5 (s.ls.map Ln.cs), .list 6 (s.ss.map Sr.cs), .list 12 (s.qs.map By.cs)], .agg [.list 1 (p.cl.map b1), .list 1 (p.lk.map r1)], .agg [.int .i64 z.1, .int .i64 z.2]] = some (nodA (nodF s (grp s p) z.1 z.2))) := show _ from fun z => Trnd_at h
  have hTr : Hid (∀ (c d : Int) (L : List Nd), L.length ≤ 1000 → Trch [.agg [.str s.nm, .list 1 (s.bs.map s1), .list 5 (s.ls.map Ln.cs), .list 6 (s.ss.map Sr.cs), .list 12 (s.qs.map By.cs)], .agg [.list 1 (p.cl.map b1), .list 1 (p.lk.map r1)], .agg [.int .i64 c, .int .i64 d], .list 2 (L.map nd2)] = some (.list 2 ((reachL (some L) (edg ⟨s, p, grp s p⟩) (c, d)).map nd2))) := show _ from fun c d L hL => Trch_at h (by omega)
  obtain ⟨m, hm⟩ : ∃ m, zs.length = m := ⟨_, rfl⟩
  rw [hm] at hz ⊢
  generalize grp s p = G at *
  generalize edg ⟨s, p, G⟩ = E at *
  obtain ⟨R, hR⟩ : ∃ R, rfedX E (rinN s G zs m) ⟨i, a0, a1, c0, c1⟩ = R := ⟨_, rfl⟩
  rw [hR]
  replace hR : Hid (_) := hR
  simp only [List.map_cons, List.map_nil] at hTs
  clear h hv hS hcl hEo hx hq hi
  refine pcall_cx E15_ok mixed (fun _ => none) Try.func23 rfl Try.ntmps23 Try.results23 (by simp) (by kernel_rfl) ?_
  repeat' first
    | (with_reducible refine gw_bool (fun _ => ?_) (fun _ => ?_))
    | (with_reducible refine condw_bool (fun _ => ?_) (fun _ => ?_))
    | simp [*, Stn.cs, Pos.cs]
  refine lp_view (View.nilOwn _ (t := 9) (key := 55) 2 60 (by simp) (by simp)) ?_
  refine lp_go (D := (fun _ => none)) E15_ok mixed (by kernel_rfl) [2, 3, 4, 5] [4, 5, 11, 12, 13, 54] (α := Nat) (fun j e h => j ≤ m ∧ e 10 = .int .i64 j ∧ e 9 = .sl 55 0 (rinN s G zs j).length 2 ∧ h 55 = some ⟨60, ndC (rinN s G zs j)⟩) (fun j => m - j) 0 ?_ ?_
  · exact ⟨by omega, by simp, by simp [rinN], by simp [rinN, ndC]⟩
  rintro j e h hk hkh ⟨hj, g7, g9, g55⟩
  simp [Keep] at hk
  simp [KeepH] at hkh
  have hll := rinN_len s G zs j
  by_cases hlt : j < m
  · obtain ⟨z, hz1, hz2⟩ := at_ex (l := zs) (i := j) (by omega)
    have f1 : ilt (j : Int) (m : Int) = true := ilt_t (by omega)
    have w1 : IntKind.i64.wrap ((j : Int) + 1) = ((j + 1 : Nat) : Int) := wrap_succ (by omega)
    have hst := rinN_step (s := s) (g := G) hz1
    have hTn := hTz.out z
    rw [rinF] at hst
    generalize rinN s G zs j = C at g9 g55 hll hst
    have f5 : (C.length + 1) * 16 ≤ 140737488355328 := by omega
    have f6 : C.length + 1 ≤ 9223372036854775807 := by omega
    clear hR hTr hTz hTe hTs hTf
    cases hN : nodF s G z.1 z.2 with
    | none =>
      rw [hN] at hst hTn
      replace hst : Hid (_) := hst
      repeat' first
        | (with_reducible refine gw_bool (fun _ => ?_) (fun _ => ?_))
        | (with_reducible refine condw_bool (fun _ => ?_) (fun _ => ?_))
        | simp [*, nd2, nodA]
      refine nxt_go (j + 1) ((View.forget _ _ 11)) (by omega) (by simp [*, Keep, St.forget, scr, scrC]) (by simp [*, KeepH, St.forget, scr, scrC]) ?_
      refine ⟨by omega, by simp [*, St.forget, scr, scrC], ?_, ?_⟩
      · rw [hst.out]; simp [*, St.forget, scr, scrC]
      · rw [hst.out]; simp [*, St.forget, scr, scrC]
    | some nd =>
      have hnk := nod_kind hN
      obtain ⟨n0, n1⟩ := nd
      rw [hN] at hst hTn
      simp only at hnk
      have hz0 : ieq n0 0 = false := ieq_f (by omega)
      replace hst : Hid (_) := hst
      repeat' first
        | (with_reducible refine gw_bool (fun _ => ?_) (fun _ => ?_))
        | (with_reducible refine condw_bool (fun _ => ?_) (fun _ => ?_))
        | simp [*, nd2, nodA, appendV, srcCells, St.forget, scr, scrC]
      refine nxt_go (j + 1) ((View.forget _ _ 54).trans ((View.forget _ _ 11))) (by omega) (by simp [*, Keep, St.forget, scr, scrC]) (by simp [*, KeepH, St.forget, scr, scrC]) ?_
      refine ⟨by omega, by simp [*, St.forget, scr, scrC], ?_, ?_⟩
      · rw [hst.out]; simp [*, St.forget, scr, scrC]
      · rw [hst.out]; simp [*, St.forget, scr, scrC, ndC_snoc]
  have f1 : ilt (j : Int) (m : Int) = false := ilt_f (by omega)
  have e1 : j = m := by omega
  subst e1
  have hR' := hR.out
  generalize rinN s G zs j = L at g9 g55 hll hR'
  have hchL := chunks_nd L
  have hTi : ∀ a b : Int, _ := fun a b => Tin_at (L := L) (a := a) (b := b) (by omega)
  have hTL : ∀ c d : Int, _ := fun c d => hTr.out c d L (by omega)
  clear hR hTr hTz hTe
  simp only [rfedX] at hR'
  cases q : (memN L a0 a1 == memN L c0 c1)
  case true =>
    rw [q] at hR'
    have hRf : R = false := by rw [← hR']; rfl
    clear hR' hTL
    repeat' first
      | (with_reducible refine gw_bool (fun _ => ?_) (fun _ => ?_))
      | (with_reducible refine condw_bool (fun _ => ?_) (fun _ => ?_))
      | simp [*, setsV]
  rw [q] at hR'
  simp only [Bool.false_eq_true, if_false] at hR'
  cases m1 : memN L a0 a1
  · have m2 : memN L c0 c1 = true := by rw [m1] at q; simpa using q
    clear q
    rw [m1] at hR'
    simp only [Bool.false_eq_true, if_false, Ed.l] at hR'
    have hT := hTL a0 a1
    have hl := rl_len (some L) E (a0, a1)
    generalize reachL (some L) E (a0, a1) = Q at hT hl hR'
    have hTs2 := TsrcN_at (L := Q) (by omega)
    rw [hR'] at hTs2
    clear hTL hR'
    repeat' first
      | (with_reducible refine gw_bool (fun _ => ?_) (fun _ => ?_))
      | (with_reducible refine condw_bool (fun _ => ?_) (fun _ => ?_))
      | simp [*, setsV]
  · have m2 : memN L c0 c1 = false := by rw [m1] at q; simpa using q
    clear q
    rw [m1] at hR'
    simp only [if_true, Ed.r] at hR'
    have hT := hTL c0 c1
    have hl := rl_len (some L) E (c0, c1)
    generalize reachL (some L) E (c0, c1) = Q at hT hl hR'
    have hTs2 := TsrcN_at (L := Q) (by omega)
    rw [hR'] at hTs2
    clear hTL hR'
    repeat' first
      | (with_reducible refine gw_bool (fun _ => ?_) (fun _ => ?_))
      | (with_reducible refine condw_bool (fun _ => ?_) (fun _ => ?_))
      | simp [*, setsV]
end Go.Proofs.Ytcbddoopmkhlfaa
end
section
namespace Go.Proofs.Ytcbddoopmkhlfaa
open Go.Pv Go.RowKit
set_option linter.unusedSimpArgs false
set_option linter.unusedVariables false
set_option maxRecDepth 100000
set_option maxHeartbeats 4000000
attribute [-simp] Tclo_at Tgrp_at Tchk Tpchk TcI TcB Tclo Tgrp Tsid Tnod Tlook Tbnd TsidA Tre Tidx Tnms Tnmd Tobj Tlks Tbay Trck Trpc Tres TSd TBd Tnm Tlv Tfd Tfn Tlg Tgps Trg Trf Trsd Trnd Tar Ted Tin TsrcN TrchN

def TrFd : List V → Option V
  | [.agg a, .agg b, .list 2 z, .int .i64 i] => (match unStn a, unPos b, decL unN2 z with
    | some s, some p, some zs => if okP s p = true ∧ zs.length ≤ 1000 then some (.bool (fedF s p zs i)) else none
    | _, _, _ => none)
  | _ => none
theorem TrFd_at {s : Stn} {p : Pos} {zs : List Nd} {i : Int} (h : okP s p = true) (hz : zs.length ≤ 1000) : TrFd [.agg [.str s.nm, .list 1 (s.bs.map s1), .list 5 (s.ls.map Ln.cs), .list 6 (s.ss.map Sr.cs), .list 12 (s.qs.map By.cs)], .agg [.list 1 (p.cl.map b1), .list 1 (p.lk.map r1)], .list 2 (zs.map nd2), .int .i64 i] = some (.bool (fedF s p zs i)) := by
  have e1 := unStn_cs s
  have e2 := unPos_cs p
  unfold Stn.cs at e1
  unfold Pos.cs at e2
  simp [TrFd, e1, e2, decL_map unN2_cs, h, hz]
theorem rFd_tab : ∀ vs v, TrFd vs = some v → PCall Try.prog 23 vs v := by
  intro vs v h; unfold TrFd at h; split at h
  · split at h
    · rename_i h1 h2 h3
      split at h
      · rename_i hl
        cases h; rw [unStn_inv _ _ h1, unPos_inv _ _ h2, decL_inv unN2_inv _ _ h3]; exact rFed_ok hl.1 _ hl.2 _
      · cases h
    · cases h
  · cases h
def H4 : Tab := add 23 TrFd (G4)
theorem H4_at (f : FuncId) (vs : List V) : H4.at' f vs = if f = 23 then TrFd vs else G4.at' f vs := rfl
theorem H4_fr (f : FuncId) : H4.fr f = if f = 23 then false else G4.fr f := rfl
theorem H4_gb (f : FuncId) : H4.gb f = G4.gb f := rfl
theorem H4_gv (f : FuncId) (vs : List V) : H4.gv f vs = G4.gv f vs := rfl
attribute [simp] H4_at H4_fr H4_gb H4_gv TrFd
theorem H4_ok : TabOK Try.prog H4 := by
  refine add_ok (G4_ok) (by kernel_rfl) ?_
  · exact rFd_tab
attribute [-simp] TrFd
attribute [simp] TrFd_at
theorem feeds_ok {s : Stn} {p : Pos} {zs : List Nd} (h1 : lkB s = true) (h2 : lenB s p = true) (hz : zs.length ≤ 9223372036854775807) : PCall Try.prog 6 [.agg s.cs, .agg p.cs, .list 2 (zs.map nd2)] (.bool true) := by
  have hTf := Tfn_at h1 h2
  cases hf : fineF s p
  · rw [hf] at hTf
    clear h1 h2
    refine pcall_cx H4_ok mixed (fun _ => none) Try.func6 rfl Try.ntmps6 Try.results6 (by simp) (by kernel_rfl) ?_
    repeat' first
      | (with_reducible refine gw_bool (fun _ => ?_) (fun _ => ?_))
      | (with_reducible refine condw_bool (fun _ => ?_) (fun _ => ?_))
      | simp [*, Stn.cs, Pos.cs]
  rw [hf] at hTf
  have hok : okP s p = true := by simp only [fineF, Bool.and_eq_true] at hf; exact hf.2
  have hnq := (fine_of (okP_iff hok).1).nq
  obtain ⟨m, hm⟩ : ∃ m, zs.length = m := ⟨_, rfl⟩
  cases hg : ilt 12 (m : Int)
  case true =>
    clear h1 h2 hok hf
    refine pcall_cx H4_ok mixed (fun _ => none) Try.func6 rfl Try.ntmps6 Try.results6 (by simp) (by kernel_rfl) ?_
    repeat' first
      | (with_reducible refine gw_bool (fun _ => ?_) (fun _ => ?_))
      | (with_reducible refine condw_bool (fun _ => ?_) (fun _ => ?_))
      | simp [*, Stn.cs, Pos.cs]
  have hm12 : m ≤ 12 := by have := ilt_iff'.1 hg; omega
  have hT1 : Hid (∀ k : Int, _) := show _ from fun k => Tfd_at (zs := zs) (i := k) hok (by omega)
  have hT2 : Hid (∀ k : Int, _) := show _ from fun k => TrFd_at (zs := zs) (i := k) hok (by omega)
  obtain ⟨n, hn⟩ : ∃ n, s.qs.length = n := ⟨_, rfl⟩
  rw [hn] at hnq
  clear h1 h2 hf hok
  refine pcall_cx H4_ok mixed (fun _ => none) Try.func6 rfl Try.ntmps6 Try.results6 (by simp) (by kernel_rfl) ?_
  repeat' first
    | (with_reducible refine gw_bool (fun _ => ?_) (fun _ => ?_))
    | (with_reducible refine condw_bool (fun _ => ?_) (fun _ => ?_))
    | simp [*, Stn.cs, Pos.cs]
  refine lp_go (D := (fun _ => none)) H4_ok mixed (by kernel_rfl) [2, 3, 4] [3, 4] (α := Nat) (fun k e h => k ≤ n + 2 ∧ e 7 = .int .i64 ((k : Int) - 1)) (fun k => n + 2 - k) 0 ?_ ?_
  · exact ⟨by omega, by simp⟩
  rintro k e h hk hkh ⟨hi, g7⟩
  simp [Keep] at hk
  simp [KeepH] at hkh
  clear hTf
  obtain ⟨x, hx⟩ : ∃ x : Int, x = (k : Int) - 1 := ⟨_, rfl⟩
  rw [← hx] at g7
  by_cases hlt : k < n + 2
  · have f1 : ilt (n : Int) x = false := ilt_f (by omega)
    have w1 : IntKind.i64.wrap (x + 1) = ((k + 1 : Nat) : Int) - 1 := by rw [show x + 1 = ((k + 1 : Nat) : Int) - 1 by omega]; exact wrap_id (by omega) (by omega)
    have hTk := hT1.out x
    have hRk := hT2.out x
    clear hT1 hT2 hx
    generalize fedF s p zs x = W at hTk hRk
    cases W
    · skip
      repeat' first
        | (with_reducible refine gw_bool (fun _ => ?_) (fun _ => ?_))
        | (with_reducible refine condw_bool (fun _ => ?_) (fun _ => ?_))
        | simp [*]
      refine nxt_go (k + 1) (View.refl _ _) (by omega) (by simp [*, Keep, St.forget, scr, scrC]) (by simp [*, KeepH, St.forget, scr, scrC]) ?_
      exact ⟨by omega, by simp [*]⟩
    · skip
      repeat' first
        | (with_reducible refine gw_bool (fun _ => ?_) (fun _ => ?_))
        | (with_reducible refine condw_bool (fun _ => ?_) (fun _ => ?_))
        | simp [*]
      refine nxt_go (k + 1) (View.refl _ _) (by omega) (by simp [*, Keep, St.forget, scr, scrC]) (by simp [*, KeepH, St.forget, scr, scrC]) ?_
      exact ⟨by omega, by simp [*]⟩
  · have f1 : ilt (n : Int) x = true := ilt_t (by omega)
    clear hT1 hT2 hx
    repeat' first
      | (with_reducible refine gw_bool (fun _ => ?_) (fun _ => ?_))
      | (with_reducible refine condw_bool (fun _ => ?_) (fun _ => ?_))
      | simp [*]
end Go.Proofs.Ytcbddoopmkhlfaa
end
section
namespace Go.Proofs.Ytcbddoopmkhlfaa.topologyFeedsDone
open Go.Pv Go.ChangeShapes Go.WideShapes Go.ChangeAt Go.RowKit
set_option linter.unusedVariables false

theorem law : ∀ us, HasAll [.struct [.str, .slice .str, .slice (.struct [.str, .struct [.int .i64, .int .i64], .struct [.int .i64, .int .i64]]), .slice (.struct [.str, .int .i64, .struct [.int .i64, .int .i64], .struct [.int .i64, .int .i64]]), .slice (.struct [.str, .int .i64, .int .i64, .int .i64, .struct [.int .i64, .int .i64], .slice (.struct [.int .i64, .int .i64]), .bool, .int .i64, .int .i64, .int .i64, .int .i64])], .struct [.slice .bool, .slice (.slice (.int .i64))], .slice (.struct [.int .i64, .int .i64])] us → PCall Try.prog 6 us (.bool true) := by
  rintro us ⟨a, _, rfl, ha, b, _, rfl, hb, c, _, rfl, hc, rfl⟩
  obtain ⟨s, rfl, h1, _, hlk⟩ := has_stnL ha
  obtain ⟨p, rfl, h2, _⟩ := has_pos hb
  obtain ⟨zs, rfl, h3⟩ := has_zs hc
  have hm : maxLen = 9223372036854775807 := by decide
  rw [hm] at h1 h2 h3
  refine feeds_ok hlk ?_ h3
  simp only [lenB, Bool.and_eq_true, decide_eq_true_eq, List.all_eq_true]
  exact ⟨h1, h2⟩

theorem own : ownKnob Try.prog.godebug = none := by kernel_rfl
theorem laidOut : laidOutB Try.prog = true := by kernel_rfl
theorem spec_at (H : Type) : ∀ ds : List (DataW H), ds.length = 3 → Rows.topologyFeedsSpec.fn H ds = { results := [.lit (.bool true)], args := ds } := by
  intro ds h
  rcases ds with _ | ⟨d0, _ | ⟨d1, _ | ⟨d2, _ | ⟨e, r⟩⟩⟩⟩
  all_goals first | rfl | (simp at h; done) | (simp at h; omega)

set_option maxRecDepth 100000 in
theorem lifted (os : Os) (started : os.Started) (H : Type) (enc : TypeId × Value → H) :
    ReturnsInHanded {} Try.checked os 6 .any (Rows.topologyFeedsSpec.pre6 enc Try.prog Try.f6 Rows.topologyFeedsRow.domain false) (Rows.topologyFeedsSpec.post enc Try.prog Try.f6 false true false false) :=
  lift (C := Try.checked) (m := 9) own laidOut started (by kernel_rfl) Try.func6
    (ChangeSpec.witness6 (enc := enc) (C := Try.checked) false ⟨#[], #[.agg #[.string ⟨#[]⟩, .slice none 0 0, .slice none 0 0, .slice none 0 0, .slice none 0 0], .agg #[.slice none 0 0, .slice none 0 0], .slice none 0 0], []⟩ 8 (by kernel_rfl) (by kernel_rfl) (by kernel_rfl) (by kernel_rfl))
    Try.params6 (by kernel_rfl) Try.underlying4 rfl (by kernel_rfl) (by kernel_rfl) (spec_at H) law

theorem over : Rows.topologyFeedsRow.holds Try.pinned (OpenSpec.ofChange Rows.topologyFeedsSpec) :=
  OpenClaim.holds_of_wide 6 Try.f6 rfl rfl rfl rfl rfl rfl rfl ⟨rfl, rfl, rfl, rfl, rfl⟩ rfl rfl rfl rfl rfl (by kernel_rfl) Try.func6 (by kernel_rfl)
    (of_decide_eq_true (by kernel_rfl)) (by unfold Func.isWrapper; first | (rw [if_pos (by decide +kernel)]; kernel_rfl) | (rw [if_neg (by decide +kernel)]; exact ⟨rfl, rfl⟩))
    (fun os started H enc _ => lifted os started H enc)

theorem proved : Rows.TopologyFeedsSaid := over
end Go.Proofs.Ytcbddoopmkhlfaa.topologyFeedsDone
end
