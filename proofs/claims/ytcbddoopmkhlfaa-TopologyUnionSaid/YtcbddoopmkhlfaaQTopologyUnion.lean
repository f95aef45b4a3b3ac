/-
  The law of unions.
  TopologyUnion returns true for every input, and leaves the input as it was. No condition.
-/
import Derived.Test.YtcbddoopmkhlfaaJ7
import Derived.Test.YtcbddoopmkhlfaaJ6
import Derived.Test.YtcbddoopmkhlfaaRows
section
namespace Go.Proofs.Ytcbddoopmkhlfaa
open Go.Pv Go.RowKit
set_option linter.unusedSimpArgs false
set_option linter.unusedVariables false
set_option maxRecDepth 100000
set_option maxHeartbeats 4000000
attribute [-simp] Tclo_at Tgrp_at Tchk Tpchk TcI TcB Tclo Tgrp Tsid Tnod Tlook Tbnd TsidA Tre Tidx Tnms Tnmd Tobj Tlks Tbay Trck Trpc Tres TSd TBd Tnm Tlv Tfd Tfn Tlg Tgps

def someF (s : Stn) (p : Pos) (zs : List Nd) (k i : Nat) : Bool := (zs.take i).any fun z => fedF s p [z] k
theorem someF_step {s : Stn} {p : Pos} {zs : List Nd} {k i : Nat} {z : Nd} (h : zs[i]? = some z) : someF s p zs k (i + 1) = (someF s p zs k i || fedF s p [z] k) := by
  simp [someF, take_snoc h]
theorem pcall_fnil {f : FuncId} {A B I : V} {v : V} (h : PCall Try.prog f [A, B, .list 2 [], I] v) : PCall Try.prog f [A, B, .nils, I] v := by
  intro w ro args hro hsz hr
  refine h w ro args hro (by simpa using hsz) (fun j c x hc hx => ?_)
  rcases j with _ | _ | _ | _ | j
  · exact hr 0 c x hc hx
  · exact hr 1 c x hc hx
  · have h0 := hr 2 .nils x rfl hx
    simp at hc; subst hc
    cases h0
    exact .list0 _ _ _
  · exact hr 3 c x hc hx
  · simp at hc
def TfdN : List V → Option V
  | [A, B, .nils, I] => Tfd [A, B, .list 2 [], I]
  | vs => Tfd vs
theorem fdN_tab : ∀ vs v, TfdN vs = some v → PCall Try.prog 22 vs v := by
  intro vs v h; unfold TfdN at h; split at h
  · exact pcall_fnil (fd_tab _ _ h)
  · exact fd_tab _ _ h
theorem TfdN_nil {A B I : V} : TfdN [A, B, .nils, I] = Tfd [A, B, .list 2 [], I] := rfl
theorem TfdN_list {A B I : V} {k : Nat} {l : List (List V)} : TfdN [A, B, .list k l, I] = Tfd [A, B, .list k l, I] := rfl
def G5 : Tab := add 22 TfdN (G4)
theorem G5_at (f : FuncId) (vs : List V) : G5.at' f vs = if f = 22 then TfdN vs else G4.at' f vs := rfl
theorem G5_fr (f : FuncId) : G5.fr f = if f = 22 then false else G4.fr f := rfl
theorem G5_gb (f : FuncId) : G5.gb f = G4.gb f := rfl
theorem G5_gv (f : FuncId) (vs : List V) : G5.gv f vs = G4.gv f vs := rfl
attribute [simp] G5_at G5_fr G5_gb G5_gv TfdN
theorem G5_ok : TabOK Try.prog G5 := by
  refine add_ok (G4_ok) (by kernel_rfl) ?_
  · exact fdN_tab
attribute [-simp] TfdN
attribute [simp] TfdN_nil TfdN_list
theorem union_ok {s : Stn} {p : Pos} {zs : List Nd} (h1 : lkB s = true) (h2 : lenB s p = true) (hz : zs.length ≤ 9223372036854775807) : PCall Try.prog 7 [.agg s.cs, .agg p.cs, .list 2 (zs.map nd2)] (.bool true) := by
  have hTf := Tfn_at h1 h2
  cases hf : fineF s p
  · rw [hf] at hTf
    clear h1 h2
    refine pcall_cx G5_ok mixed (fun _ => none) Try.func7 rfl Try.ntmps7 Try.results7 (by simp) (by kernel_rfl) ?_
    repeat' first
      | (with_reducible refine gw_bool (fun _ => ?_) (fun _ => ?_))
      | (with_reducible refine condw_bool (fun _ => ?_) (fun _ => ?_))
      | simp [*, Stn.cs, Pos.cs]
  rw [hf] at hTf
  have hok : okP s p = true := by simp only [fineF, Bool.and_eq_true] at hf; exact hf.2
  have hF := fine_of (okP_iff hok).1
  have hP := pfine_of (okP_iff hok).2
  have hnq := hF.nq
  have hnc := hP.nc
  obtain ⟨m, hm⟩ : ∃ m, zs.length = m := ⟨_, rfl⟩
  rw [hm] at hz
  cases hg : ilt 8 (m : Int)
  case true =>
    clear h1 h2 hok
    refine pcall_cx G5_ok mixed (fun _ => none) Try.func7 rfl Try.ntmps7 Try.results7 (by simp) (by kernel_rfl) ?_
    repeat' first
      | (with_reducible refine gw_bool (fun _ => ?_) (fun _ => ?_))
      | (with_reducible refine condw_bool (fun _ => ?_) (fun _ => ?_))
      | simp [*, Stn.cs, Pos.cs]
  have hm8 : m ≤ 8 := by have := ilt_iff'.1 hg; omega
  have hun : ∀ k : Nat, fedF s p zs k = true → p.cl[k]? = some true ∧ someF s p zs k m = true := fun k hk => by
    obtain ⟨a, z, hz, b⟩ := fed_union (by omega) hk
    refine ⟨a, ?_⟩
    rw [someF, ← hm, List.take_length, List.any_eq_true]
    exact ⟨z, hz, b⟩
  have hT0 := Tfd_at (zs := []) (i := 0) hok (by simp)
  rw [fed_nil] at hT0
  simp only [List.map_nil] at hT0
  have hTz : ∀ k : Nat, _ := fun k => Tfd_at (zs := zs) (i := k) hok (by omega)
  have hT1 : ∀ (z : Nd) (k : Nat), _ := fun z k => Tfd_at (zs := [z]) (i := k) hok (by simp)
  obtain ⟨n, hn⟩ : ∃ n, s.qs.length = n := ⟨_, rfl⟩
  rw [hn] at hnq hnc
  replace hun : Hid (_) := hun
  replace hTz : Hid (_) := hTz
  replace hT1 : Hid (_) := hT1
  clear h1 h2 hf hok hF hP
  refine pcall_cx G5_ok mixed (fun _ => none) Try.func7 rfl Try.ntmps7 Try.results7 (by simp) (by kernel_rfl) ?_
  repeat' first
    | (with_reducible refine gw_bool (fun _ => ?_) (fun _ => ?_))
    | (with_reducible refine condw_bool (fun _ => ?_) (fun _ => ?_))
    | simp [*, Stn.cs, Pos.cs]
  refine lp_go (D := (fun _ => none)) G5_ok mixed (by kernel_rfl) [2, 3, 4] [3, 4] (α := Nat) (fun k e h => k ≤ n ∧ e 7 = .int .i64 k) (fun k => n - k) 0 ?_ ?_
  · exact ⟨by omega, by simp⟩
  rintro k e h hk hkh ⟨hi, g7⟩
  simp [Keep] at hk
  simp [KeepH] at hkh
  clear hTf
  by_cases hlt : k < n
  · have f1 : ilt (k : Int) (n : Int) = true := ilt_t (by omega)
    have w1 : IntKind.i64.wrap ((k : Int) + 1) = ((k + 1 : Nat) : Int) := wrap_succ (by omega)
    have hTk := hTz.out k
    have hT1k := fun z => hT1.out z k
    have hunk := hun.out k
    obtain ⟨c, ck, ckg⟩ := at_ex (l := p.cl) (i := k) (by omega)
    replace hT1k : Hid (_) := hT1k
    replace hunk : Hid (_) := hunk
    clear hT1 hTz hun
    obtain ⟨U, hU⟩ : ∃ U, fedF s p zs k = U := ⟨_, rfl⟩
    rw [hU] at hTk
    repeat' first
      | (with_reducible refine gw_bool (fun _ => ?_) (fun _ => ?_))
      | (with_reducible refine condw_bool (fun _ => ?_) (fun _ => ?_))
      | simp [*]
    refine lp_go (D := (fun _ => none)) G5_ok mixed (by kernel_rfl) [2, 3, 4, 7, 8, 22, 23, 24, 25, 26, 29, 30, 31, 32, 33] [3, 4] (α := Nat) (fun i e h => i ≤ m ∧ e 10 = .int .i64 i ∧ e 9 = .bool (someF s p zs k i)) (fun i => m - i) 0 ?_ ?_
    · exact ⟨by omega, by simp, by simp [someF]⟩
    rintro i e h hk hkh ⟨hi, g10, g9⟩
    simp [Keep] at hk
    simp [KeepH] at hkh
    clear hTk
    by_cases hli : i < m
    · have f2 : ilt (i : Int) (m : Int) = true := ilt_t (by omega)
      have w2 : IntKind.i64.wrap ((i : Int) + 1) = ((i + 1 : Nat) : Int) := wrap_succ (by omega)
      obtain ⟨z, iz, izg⟩ := at_ex (l := zs) (i := i) (by omega)
      have hst := someF_step (s := s) (p := p) (k := k) iz
      have hTi := hT1k.out z
      have hsl : (List.drop i (zs.map nd2)).take 1 = [nd2 z] := by
        rw [← List.map_drop, ← List.map_take, List.drop_eq_getElem_cons (by omega)]
        simp [izg]
      simp only [List.map_cons, List.map_nil] at hTi
      generalize nd2 z = Z at *
      generalize fedF s p [z] k = W at *
      have hzl : (zs.map nd2).length = m := by simp [hm]
      generalize zs.map nd2 = ZZ at *
      obtain ⟨S, hS⟩ : ∃ S, someF s p zs k i = S := ⟨_, rfl⟩
      rw [hS] at hst g9
      clear hunk hT1k hS
      have p0 : (0 : Int) ≤ (i : Int) + 1 := by omega
      have p1 : i + 1 - i = 1 := by omega
      have p2 : ((i : Int) + 1).toNat = i + 1 := by omega
      have p3 : i + 1 ≤ m := by omega
      cases S
      · skip
        repeat' first
          | (with_reducible refine gw_bool (fun _ => ?_) (fun _ => ?_))
          | (with_reducible refine condw_bool (fun _ => ?_) (fun _ => ?_))
          | simp [*, sliceV, bndV]
        refine nxt_go (i + 1) (View.refl _ _) (by omega) (by simp [*, Keep, St.forget, scr, scrC]) (by simp [*, KeepH, St.forget, scr, scrC]) ?_
        exact ⟨by omega, by simp [*], by simp [*]⟩
      · skip
        repeat' first
          | (with_reducible refine gw_bool (fun _ => ?_) (fun _ => ?_))
          | (with_reducible refine condw_bool (fun _ => ?_) (fun _ => ?_))
          | simp [*, sliceV, bndV]
        refine nxt_go (i + 1) (View.refl _ _) (by omega) (by simp [*, Keep, St.forget, scr, scrC]) (by simp [*, KeepH, St.forget, scr, scrC]) ?_
        exact ⟨by omega, by simp [*], by simp [*]⟩
    · have f2 : ilt (i : Int) (m : Int) = false := ilt_f (by omega)
      have : i = m := by omega
      subst this
      have hq := hunk.out
      rw [hU] at hq
      clear hunk hT1k hU
      cases U
      · skip
        repeat' first
          | (with_reducible refine gw_bool (fun _ => ?_) (fun _ => ?_))
          | (with_reducible refine condw_bool (fun _ => ?_) (fun _ => ?_))
          | simp [*]
        refine nxt_go (k + 1) (View.refl _ _) (by omega) (by simp [*, Keep, St.forget, scr, scrC]) (by simp [*, KeepH, St.forget, scr, scrC]) ?_
        exact ⟨by omega, by simp [*]⟩
      · obtain ⟨q1, q2⟩ := hq rfl
        rw [q2] at g9
        rw [ck] at q1
        have q3 : c = true := by simpa using q1
        subst q3
        clear hq q1
        repeat' first
          | (with_reducible refine gw_bool (fun _ => ?_) (fun _ => ?_))
          | (with_reducible refine condw_bool (fun _ => ?_) (fun _ => ?_))
          | simp [*, b1]
        refine nxt_go (k + 1) (View.refl _ _) (by omega) (by simp [*, Keep, St.forget, scr, scrC]) (by simp [*, KeepH, St.forget, scr, scrC]) ?_
        exact ⟨by omega, by simp [*]⟩
  · have f1 : ilt (k : Int) (n : Int) = false := ilt_f (by omega)
    clear hun hTz hT1
    repeat' first
      | (with_reducible refine gw_bool (fun _ => ?_) (fun _ => ?_))
      | (with_reducible refine condw_bool (fun _ => ?_) (fun _ => ?_))
      | simp [*]
end Go.Proofs.Ytcbddoopmkhlfaa
end
section
namespace Go.Proofs.Ytcbddoopmkhlfaa.topologyUnionDone
open Go.Pv Go.ChangeShapes Go.WideShapes Go.ChangeAt Go.RowKit
set_option linter.unusedVariables false

theorem law : ∀ us, HasAll [.struct [.str, .slice .str, .slice (.struct [.str, .struct [.int .i64, .int .i64], .struct [.int .i64, .int .i64]]), .slice (.struct [.str, .int .i64, .struct [.int .i64, .int .i64], .struct [.int .i64, .int .i64]]), .slice (.struct [.str, .int .i64, .int .i64, .int .i64, .struct [.int .i64, .int .i64], .slice (.struct [.int .i64, .int .i64]), .bool, .int .i64, .int .i64, .int .i64, .int .i64])], .struct [.slice .bool, .slice (.slice (.int .i64))], .slice (.struct [.int .i64, .int .i64])] us → PCall Try.prog 7 us (.bool true) := by
  rintro us ⟨a, _, rfl, ha, b, _, rfl, hb, c, _, rfl, hc, rfl⟩
  obtain ⟨s, rfl, h1, _, hlk⟩ := has_stnL ha
  obtain ⟨p, rfl, h2, _⟩ := has_pos hb
  obtain ⟨zs, rfl, h3⟩ := has_zs hc
  have hm : maxLen = 9223372036854775807 := by decide
  rw [hm] at h1 h2 h3
  refine union_ok hlk ?_ h3
  simp only [lenB, Bool.and_eq_true, decide_eq_true_eq, List.all_eq_true]
  exact ⟨h1, h2⟩

theorem own : ownKnob Try.prog.godebug = none := by kernel_rfl
theorem laidOut : laidOutB Try.prog = true := by kernel_rfl
theorem spec_at (H : Type) : ∀ ds : List (DataW H), ds.length = 3 → Rows.topologyUnionSpec.fn H ds = { results := [.lit (.bool true)], args := ds } := by
  intro ds h
  rcases ds with _ | ⟨d0, _ | ⟨d1, _ | ⟨d2, _ | ⟨e, r⟩⟩⟩⟩
  all_goals first | rfl | (simp at h; done) | (simp at h; omega)

set_option maxRecDepth 100000 in
theorem lifted (os : Os) (started : os.Started) (H : Type) (enc : TypeId × Value → H) :
    ReturnsInHanded {} Try.checked os 7 .any (Rows.topologyUnionSpec.pre6 enc Try.prog Try.f7 Rows.topologyUnionRow.domain false) (Rows.topologyUnionSpec.post enc Try.prog Try.f7 false true false false) :=
  lift (C := Try.checked) (m := 9) own laidOut started (by kernel_rfl) Try.func7
    (ChangeSpec.witness6 (enc := enc) (C := Try.checked) false ⟨#[], #[.agg #[.string ⟨#[]⟩, .slice none 0 0, .slice none 0 0, .slice none 0 0, .slice none 0 0], .agg #[.slice none 0 0, .slice none 0 0], .slice none 0 0], []⟩ 8 (by kernel_rfl) (by kernel_rfl) (by kernel_rfl) (by kernel_rfl))
    Try.params7 (by kernel_rfl) Try.underlying4 rfl (by kernel_rfl) (by kernel_rfl) (spec_at H) law

theorem over : Rows.topologyUnionRow.holds Try.pinned (OpenSpec.ofChange Rows.topologyUnionSpec) :=
  OpenClaim.holds_of_wide 7 Try.f7 rfl rfl rfl rfl rfl rfl rfl ⟨rfl, rfl, rfl, rfl, rfl⟩ rfl rfl rfl rfl rfl (by kernel_rfl) Try.func7 (by kernel_rfl)
    (of_decide_eq_true (by kernel_rfl)) (by unfold Func.isWrapper; first | (rw [if_pos (by decide +kernel)]; kernel_rfl) | (rw [if_neg (by decide +kernel)]; exact ⟨rfl, rfl⟩))
    (fun os started H enc _ => lifted os started H enc)

theorem proved : Rows.TopologyUnionSaid := over
end Go.Proofs.Ytcbddoopmkhlfaa.topologyUnionDone
end
