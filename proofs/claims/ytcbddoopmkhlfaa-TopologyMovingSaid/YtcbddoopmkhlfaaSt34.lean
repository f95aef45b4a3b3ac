/-
  Whether a zone is live; the normal position.
-/
import Derived.Test.YtcbddoopmkhlfaaSt33
namespace Go.Proofs.Ytcbddoopmkhlfaa
open Go.Pv Go.RowKit
set_option linter.unusedSimpArgs false
set_option linter.unusedVariables false
set_option maxRecDepth 100000
set_option maxHeartbeats 4000000
attribute [-simp] Tclo_at Tgrp_at Tchk Tpchk TcI TcB Tclo Tgrp Tsid Tnod Tlook Tbnd TsidA

def unKs : List V → Option (List Nd)
  | [] => some []
  | k :: ks => (match unK k, unKs ks with
    | some c, some L => some (c :: L)
    | _, _ => none)
theorem unKs_nodes : ∀ L : List Nd, unKs (L.map nodK) = some L
  | [] => rfl
  | c :: L => by
    have : unK (nodK c) = some c := rfl
    simp only [List.map_cons, unKs, this, unKs_nodes L]
theorem unKs_inv : ∀ (ks : List V) (L : List Nd), unKs ks = some L → ks = L.map nodK
  | [], L, h => by simp only [unKs, Option.some.injEq] at h; subst h; rfl
  | k :: ks, L, h => by
    simp only [unKs] at h
    split at h
    · rename_i c L' h1 h2
      cases h
      rw [unK_some h1, unKs_inv ks L' h2]; rfl
    · cases h
def unWo : V → Option (Option (List Nd))
  | .val (.map none) => some none
  | .rset ks => (unKs ks).map some
  | _ => none
theorem unWo_inv {M : V} {o : Option (List Nd)} (h : unWo M = some o) : M = woV o := by
  unfold unWo at h
  split at h
  · cases h; rfl
  · simp only [Option.map_eq_some_iff] at h
    obtain ⟨L, hL, rfl⟩ := h
    rw [unKs_inv _ _ hL]; rfl
  · cases h
theorem unWo_at (o : Option (List Nd)) : unWo (woV o) = some o := by
  cases o with
  | none => rfl
  | some L => simp [unWo, woV, unKs_nodes]
def reOk (v : Vu) : Bool := wfG v.s v.p v.g.length && (decide (v.p.cl.length = v.s.qs.length) && decide (v.s.qs.length ≤ 16))
def Tre : List V → Option V
  | [.agg c, .agg [.int .i64 a, .int .i64 b], M] => (match unVu c, unWo M with
    | some v, some o => if reOk v = true then some (.bool (reachF o (edg v) (a, b))) else none
    | _, _ => none)
  | _ => none
theorem Tre_at {s : Stn} {p : Pos} {g : List Int} {a b : Int} (h : reOk ⟨s, p, g⟩ = true) : Tre [.agg [.str s.nm, .list 1 (s.bs.map s1), .list 5 (s.ls.map Ln.cs), .list 6 (s.ss.map Sr.cs), .list 12 (s.qs.map By.cs), .list 1 (p.cl.map b1), .list 1 (p.lk.map r1), .list 1 (g.map i1)], .agg [.int .i64 a, .int .i64 b], .val (.map none)] = some (.bool (reachF none (edg ⟨s, p, g⟩) (a, b))) := by
  have := unVu_cs ⟨s, p, g⟩
  unfold Vu.cs at this
  simp [Tre, this, unWo, h]
theorem Tre_at2 {s : Stn} {p : Pos} {g : List Int} {a b : Int} {L : List Nd} (h : reOk ⟨s, p, g⟩ = true) : Tre [.agg [.str s.nm, .list 1 (s.bs.map s1), .list 5 (s.ls.map Ln.cs), .list 6 (s.ss.map Sr.cs), .list 12 (s.qs.map By.cs), .list 1 (p.cl.map b1), .list 1 (p.lk.map r1), .list 1 (g.map i1)], .agg [.int .i64 a, .int .i64 b], .rset (L.map nodK)] = some (.bool (reachF (some L) (edg ⟨s, p, g⟩) (a, b))) := by
  have := unVu_cs ⟨s, p, g⟩
  unfold Vu.cs at this
  simp [Tre, this, unWo, unKs_nodes, h]
theorem re_tab : ∀ vs u, Tre vs = some u → PCall Try.prog 52 vs u := by
  intro vs u h; unfold Tre at h; split at h
  · split at h
    · rename_i h1 h2
      split at h
      · rename_i hl
        cases h
        rw [unVu_inv _ _ h1, unWo_inv h2]
        simp only [reOk, Bool.and_eq_true, decide_eq_true_eq] at hl
        exact reaches_ok _ _ (_, _) hl.1 hl.2.1 hl.2.2
      · cases h
    · cases h
  · cases h
def G1 : Tab := add 52 Tre (D5)
theorem G1_at (f : FuncId) (vs : List V) : G1.at' f vs = if f = 52 then Tre vs else D5.at' f vs := rfl
theorem G1_fr (f : FuncId) : G1.fr f = if f = 52 then false else D5.fr f := rfl
theorem G1_gb (f : FuncId) : G1.gb f = D5.gb f := rfl
theorem G1_gv (f : FuncId) (vs : List V) : G1.gv f vs = D5.gv f vs := rfl
attribute [simp] G1_at G1_fr G1_gb G1_gv Tre
theorem G1_ok : TabOK Try.prog G1 := by
  refine add_ok (D5_ok) (by kernel_rfl) ?_
  · exact re_tab
attribute [-simp] Tre
attribute [simp] Tre_at Tre_at2
theorem reOk_of {s : Stn} {p : Pos} (h : okP s p = true) : reOk ⟨s, p, grp s p⟩ = true := by
  obtain ⟨c1, c2⟩ := okP_iff h
  have hF := fine_of c1
  have hP := pfine_of c2
  simp only [reOk, Bool.and_eq_true, decide_eq_true_eq]
  exact ⟨wfg_of h, hP.nc, hF.nq⟩
def liveF (s : Stn) (p : Pos) (k o : Int) : Bool := match nodF s (grp s p) k o with
  | some n => reachF none (edg ⟨s, p, grp s p⟩) n
  | none => false
theorem Live_ok {s : Stn} {p : Pos} (h : okP s p = true) (k o : Int) : PCall Try.prog 26 [.agg s.cs, .agg p.cs, .agg [.int .i64 k, .int .i64 o]] (.bool (liveF s p k o)) := by
  have hre := reOk_of h
  have hgl : (grp s p).length = s.bs.length := by rw [grp, grpN_len]
  cases hN : nodF s (grp s p) k o with
  | none =>
    have hv : liveF s p k o = false := by simp [liveF, hN]
    rw [hv]
    refine pcall_cx G1_ok mixed (fun _ => none) Try.func26 rfl Try.ntmps26 Try.results26 (by simp) (by kernel_rfl) ?_
    repeat' first
      | (with_reducible refine gw_bool (fun _ => ?_) (fun _ => ?_))
      | (with_reducible refine condw_bool (fun _ => ?_) (fun _ => ?_))
      | simp [*, Stn.cs, Pos.cs, Vu.cs, nodV]
  | some n =>
    obtain ⟨n0, n1⟩ := n
    have hv : liveF s p k o = reachF none (edg ⟨s, p, grp s p⟩) (n0, n1) := by simp [liveF, hN]
    rw [hv]
    refine pcall_cx G1_ok mixed (fun _ => none) Try.func26 rfl Try.ntmps26 Try.results26 (by simp) (by kernel_rfl) ?_
    repeat' first
      | (with_reducible refine gw_bool (fun _ => ?_) (fun _ => ?_))
      | (with_reducible refine condw_bool (fun _ => ?_) (fun _ => ?_))
      | simp [*, Stn.cs, Pos.cs, Vu.cs, nodV]
theorem Groups_ok {s : Stn} {p : Pos} (h : okP s p = true) : PCall Try.prog 33 [.agg s.cs, .agg p.cs] (.list 1 ((grp s p).map i1)) := by
  refine pcall_cx G1_ok mixed (fun _ => none) Try.func33 rfl Try.ntmps33 Try.results33 (by simp) (by kernel_rfl) ?_
  repeat' first
    | (with_reducible refine gw_bool (fun _ => ?_) (fun _ => ?_))
    | (with_reducible refine condw_bool (fun _ => ?_) (fun _ => ?_))
    | simp [*, Stn.cs, Pos.cs, Vu.cs]
end Go.Proofs.Ytcbddoopmkhlfaa
