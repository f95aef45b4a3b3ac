/-
  The targets of several failures: the law.
-/
import Derived.Test.YtcbddoopmkhlfaaSt16
namespace Go.Proofs.Ytcbddoopmkhlfaa
open Go.Pv Go.RowKit
set_option linter.unusedSimpArgs false
set_option linter.unusedVariables false
set_option maxRecDepth 100000
set_option maxHeartbeats 2000000
attribute [-simp] Tclo_at Tgrp_at Tchk Tpchk TcI TcB Tclo Tgrp Tsid Tnod Tlook Tbnd Tres TSd TBd

def Ttg : List V → Option V
  | [.agg a, .agg b, .list 1 x] => (match unStn a, unPos b, decL unB1 x with
    | some s, some p, some f => if lenB s p = true ∧ f.length ≤ 9223372036854775807 then some (.list 1 ((tgtF s p f).map b1)) else none
    | _, _, _ => none)
  | _ => none
theorem Ttg_at {s : Stn} {p : Pos} {f : List Bool} (h : lenB s p = true) (hf : f.length ≤ 9223372036854775807) : Ttg [.agg [.str s.nm, .list 1 (s.bs.map s1), .list 5 (s.ls.map Ln.cs), .list 6 (s.ss.map Sr.cs), .list 12 (s.qs.map By.cs)], .agg [.list 1 (p.cl.map b1), .list 1 (p.lk.map r1)], .list 1 (f.map b1)] = some (.list 1 ((tgtF s p f).map b1)) := by
  have e1 := unStn_cs s
  have e2 := unPos_cs p
  unfold Stn.cs at e1
  unfold Pos.cs at e2
  simp [Ttg, e1, e2, decL_map unB1_cs, h, hf]
theorem tg_tab : ∀ vs v, Ttg vs = some v → PFresh Try.prog 17 vs v := by
  intro vs v h; unfold Ttg at h; split at h
  · split at h
    · rename_i h1 h2 h3
      split at h
      · rename_i hl; cases h; rw [unStn_inv _ _ h1, unPos_inv _ _ h2, decL_inv unB1_inv _ _ h3]; exact targets_ok _ _ _ hl.1 hl.2
      · cases h
    · cases h
  · cases h
def D7 : Tab := addF 17 Ttg (add 15 Ttrue (D6))
theorem D7_at (f : FuncId) (vs : List V) : D7.at' f vs = if f = 17 then Ttg vs else if f = 15 then Ttrue vs else D6.at' f vs := rfl
theorem D7_fr (f : FuncId) : D7.fr f = if f = 17 then true else if f = 15 then false else D6.fr f := rfl
theorem D7_gb (f : FuncId) : D7.gb f = D6.gb f := rfl
theorem D7_gv (f : FuncId) (vs : List V) : D7.gv f vs = D6.gv f vs := rfl
attribute [simp] D7_at D7_fr D7_gb D7_gv Ttg Ttrue
theorem D7_ok : TabOK Try.prog D7 := by
  refine addF_ok (add_ok (D6_ok) (by kernel_rfl) ?_) (by kernel_rfl) ?_
  · intro vs v h; unfold Ttrue at h; split at h
    · cases h; apply known32_ok
    · cases h
  · exact tg_tab
attribute [-simp] Ttg
attribute [simp] Ttg_at
theorem one_cells (f : List Bool) (n i : Nat) : (List.replicate n (V.bool false)).set i (V.bool (fl f i)) = (oneF f n i).map V.bool := by simp [oneF, List.map_set]
theorem union_ok (s : Stn) (p : Pos) (f : List Bool) (hl : lenB s p = true) (hf : f.length ≤ 9223372036854775807) : PCall Try.prog 5 [.agg s.cs, .agg p.cs, .list 1 (f.map b1)] (.bool true) := by
  obtain ⟨nf, hnf⟩ : ∃ n, f.length = n := ⟨_, rfl⟩
  obtain ⟨n, hn⟩ : ∃ n, s.qs.length = n := ⟨_, rfl⟩
  cases e1 : ilt 20 (n : Int)
  case true =>
    refine pcall_cx D7_ok mixed (fun _ => none) Try.func5 rfl Try.ntmps5 Try.results5 (by simp) (by kernel_rfl) ?_
    repeat' first
      | (with_reducible refine gw_bool (fun _ => ?_) (fun _ => ?_))
      | (with_reducible refine condw_bool (fun _ => ?_) (fun _ => ?_))
      | simp [*, Stn.cs, Pos.cs]
  cases e2 : ieq (nf : Int) (n : Int)
  · skip
    refine pcall_cx D7_ok mixed (fun _ => none) Try.func5 rfl Try.ntmps5 Try.results5 (by simp) (by kernel_rfl) ?_
    repeat' first
      | (with_reducible refine gw_bool (fun _ => ?_) (fun _ => ?_))
      | (with_reducible refine condw_bool (fun _ => ?_) (fun _ => ?_))
      | simp [*, Stn.cs, Pos.cs]
  cases e3 : ieq (posE s p) 0
  · skip
    refine pcall_cx D7_ok mixed (fun _ => none) Try.func5 rfl Try.ntmps5 Try.results5 (by simp) (by kernel_rfl) ?_
    repeat' first
      | (with_reducible refine gw_bool (fun _ => ?_) (fun _ => ?_))
      | (with_reducible refine condw_bool (fun _ => ?_) (fun _ => ?_))
      | simp [*, Stn.cs, Pos.cs]
  have hn20 : n ≤ 20 := by have := ilt_iff'.1 e1; omega
  have hfn : nf = n := by have := ieq_iff.1 e2; omega
  subst hfn
  have hmk := repl_b nf
  have f5 : (nf : Int) ≤ 281474976710656 := by omega
  have f6 : (nf : Int) ≤ 9223372036854775807 := by omega
  have f7 : nf ≤ 9223372036854775807 := by omega
  have hone : ∀ i, chunks 1 nf ((oneF f nf i).map V.bool) = (oneF f nf i).map b1 := fun i => by
    have := chunks_b1 (oneF f nf i)
    rwa [show (oneF f nf i).length = nf by simp [oneF]] at this
  have honp : ∀ i, ((oneF f nf i).map V.bool).any ownC = false := fun i => pure_b1 _
  have honl : ∀ i, (oneF f nf i).length = nf := fun i => by simp [oneF]
  have honc : ∀ i, (List.replicate nf (V.bool false)).set i (V.bool (fl f i)) = (oneF f nf i).map V.bool := fun i => one_cells f nf i
  cases hok : okP s p
  · have hA : ∀ g, tgtF s p g = [] := fun g => tgt_bad hok
    refine pcall_cx D7_ok mixed (fun _ => none) Try.func5 rfl Try.ntmps5 Try.results5 (by simp) (by kernel_rfl) ?_
    repeat' first
      | (with_reducible refine gw_bool (fun _ => ?_) (fun _ => ?_))
      | (with_reducible refine condw_bool (fun _ => ?_) (fun _ => ?_))
      | simp [*, Stn.cs, Pos.cs, makeV]
    refine lp_go (D := (fun _ => none)) D7_ok mixed (by kernel_rfl) [2, 3, 4, 7, 8, 41] [3, 4, 39, 47] (α := Nat) (fun i e h => i ≤ nf ∧ e 42 = .int .i64 i) (fun i => nf - i) 0 ?_ ?_
    · exact ⟨by omega, by simp⟩
    · rintro i e h hk hkh ⟨hi, g7⟩
      simp [Keep] at hk
      simp [KeepH] at hkh
      by_cases hlt : i < nf
      · have hif : i < f.length := hnf ▸ hlt
        obtain ⟨fb, hfb, hfb'⟩ := at_ex hif
        have hfl : fl f i = fb := by simp [fl, hfb]
        have honci := honc i
        rw [hfl] at honci
        have f1 : ilt (i : Int) (nf : Int) = true := ilt_t (by omega)
        have w1 : IntKind.i64.wrap ((i : Int) + 1) = ((i + 1 : Nat) : Int) := wrap_succ (by omega)
        have hi1 : i + 1 ≤ nf := by omega
        clear honc
        repeat' first
          | (with_reducible refine gw_bool (fun _ => ?_) (fun _ => ?_))
          | (with_reducible refine condw_bool (fun _ => ?_) (fun _ => ?_))
          | simp [*, b1, makeV, setsV]
        refine lp_unroll (D := (fun _ => none)) D7_ok mixed (by kernel_rfl) ?_
        repeat' first
          | (with_reducible refine gw_bool (fun _ => ?_) (fun _ => ?_))
          | (with_reducible refine condw_bool (fun _ => ?_) (fun _ => ?_))
          | simp [*]
        refine nxt_go (i + 1) ((View.forget _ _ 47)) (by omega) (by simp [*, Keep, St.forget, scr, scrC]) (by simp [*, KeepH, St.forget, scr, scrC]) ?_
        exact ⟨by omega, by simp [*, St.forget, scr, scrC]⟩
      · have f1 : ilt (i : Int) (nf : Int) = false := ilt_f (by omega)
        repeat' first
          | (with_reducible refine gw_bool (fun _ => ?_) (fun _ => ?_))
          | (with_reducible refine condw_bool (fun _ => ?_) (fun _ => ?_))
          | simp [*]
        refine lp_unroll (D := (fun _ => none)) D7_ok mixed (by kernel_rfl) ?_
        repeat' first
          | (with_reducible refine gw_bool (fun _ => ?_) (fun _ => ?_))
          | (with_reducible refine condw_bool (fun _ => ?_) (fun _ => ?_))
          | simp [*]
  · have hAl := tgt_len (p := p) (f := f) hok (by rw [hnf, hn])
    have hAs := tgt_sum (p := p) (f := f) hok (by rw [hnf, hn])
    rw [hn] at hAl
    obtain ⟨q, hqq⟩ : ∃ q, resP p true = q := ⟨_, rfl⟩
    obtain ⟨A, hA⟩ : ∃ A, tgtF s p f = A := ⟨_, rfl⟩
    rw [hA] at hAl hAs
    rw [hqq, hn] at hAs
    replace hAs : Hid (A = sumF s q f nf) := hAs
    refine pcall_cx D7_ok mixed (fun _ => none) Try.func5 rfl Try.ntmps5 Try.results5 (by simp) (by kernel_rfl) ?_
    repeat' first
      | (with_reducible refine gw_bool (fun _ => ?_) (fun _ => ?_))
      | (with_reducible refine condw_bool (fun _ => ?_) (fun _ => ?_))
      | simp [*, Stn.cs, Pos.cs, makeV]
    refine lp_go (D := (fun _ => none)) D7_ok mixed (by kernel_rfl) [2, 3, 4, 7, 8, 41] [3, 4, 47] (α := Nat) (fun i e h => i ≤ nf ∧ e 42 = .int .i64 i ∧ h 39 = some ⟨4, (sumF s q f i).map V.bool⟩) (fun i => nf - i) 0 ?_ ?_
    · refine ⟨by omega, by simp, ?_⟩
      rw [sumF_zero, hn]; simp
    · rintro i e h hk hkh ⟨hi, g7, g39⟩
      simp [Keep] at hk
      simp [KeepH] at hkh
      by_cases hlt : i < nf
      · have hif : i < f.length := hnf ▸ hlt
        obtain ⟨fb, hfb, hfb'⟩ := at_ex hif
        have hfl : fl f i = fb := by simp [fl, hfb]
        have honci := honc i
        rw [hfl] at honci
        have f1 : ilt (i : Int) (nf : Int) = true := ilt_t (by omega)
        have w1 : IntKind.i64.wrap ((i : Int) + 1) = ((i + 1 : Nat) : Int) := wrap_succ (by omega)
        have hi1 : i + 1 ≤ nf := by omega
        have hBl : (tgtF s p (oneF f nf i)).length = nf := by rw [tgt_len hok (by rw [honl, hn]), hn]
        have hBa : ∀ j, j < nf → (tgtF s p (oneF f nf i))[j]? = some (fl f i && hitK s q i j) := fun j hj => by
          have := tg_one (p := p) (f := f) (i := i) (j := j) hok (by omega) (by omega)
          rw [hn, hqq] at this
          exact this
        have hst0 : sumF s q f i = sumH s q f i 0 := (sumH_zero s q f i).symm
        have hst1 : Hid (sumF s q f (i + 1) = sumH s q f i nf) := by have := sumH_end s q f i; rw [hn] at this; exact this.symm
        rw [hst0] at g39
        clear hst0 honc hAs
        obtain ⟨B, hB⟩ : ∃ B, tgtF s p (oneF f nf i) = B := ⟨_, rfl⟩
        rw [hB] at hBl hBa
        replace hBa : Hid (∀ j, j < nf → B[j]? = some (fl f i && hitK s q i j)) := hBa
        have hSl : ∀ j, (sumH s q f i j).length = nf := fun j => by rw [sumH_len]; exact hn
        repeat' first
          | (with_reducible refine gw_bool (fun _ => ?_) (fun _ => ?_))
          | (with_reducible refine condw_bool (fun _ => ?_) (fun _ => ?_))
          | simp [*, b1, makeV, setsV]
        refine lp_go (D := (fun _ => none)) D7_ok mixed (by kernel_rfl) [2, 3, 4, 7, 8, 9, 10, 41, 42, 43, 44, 45, 46, 47, 48, 49, 50, 51, 52, 53, 54, 55, 56, 57, 58, 59] [3, 4, 47] (α := Nat) (fun j e h => j ≤ nf ∧ e 60 = .int .i64 j ∧ h 39 = some ⟨4, (sumH s q f i j).map V.bool⟩) (fun j => nf - j) 0 ?_ ?_
        · exact ⟨by omega, by simp, by simp [*]⟩
        · have hk0 := hk
          have hkh0 := hkh
          have g70 := g7
          clear hk hkh g7 g39
          rintro j e h hk hkh ⟨hj, g7, g39⟩
          simp [Keep, hk0, hkh0, g70, hB, hBl, hA, hAl] at hk
          simp [KeepH, hk0, hkh0, honci] at hkh
          by_cases hjlt : j < nf
          · have hBj := hBa.out j hjlt
            obtain ⟨t, ht⟩ : ∃ t, (fl f i && hitK s q i j) = t := ⟨_, rfl⟩
            rw [ht] at hBj
            have hBj2 : ∀ h : j < B.length, B[j] = t := fun h => by rw [List.getElem?_eq_getElem h] at hBj; exact Option.some.inj hBj
            have f2 : ilt (j : Int) (nf : Int) = true := ilt_t (by omega)
            have w2 : IntKind.i64.wrap ((j : Int) + 1) = ((j + 1 : Nat) : Int) := wrap_succ (by omega)
            have hj1 : j + 1 ≤ nf := by omega
            have hCa := sumH_at (q := q) (f := f) (m := i) (show j < s.qs.length by omega)
            have hnj := sumH_step (q := q) (f := f) (m := i) (show j < s.qs.length by omega)
            obtain ⟨v, hv⟩ : ∃ v, anyK s q f i j = v := ⟨_, rfl⟩
            rw [hv] at hCa hnj
            rw [ht] at hnj
            replace hnj : Hid (sumH s q f i (j + 1) = (sumH s q f i j).set j (v || t)) := hnj
            have hCl := hSl j
            generalize sumH s q f i j = C at g39 hCa hnj hCl
            have hC2 : ∀ h : j < C.length, C[j] = v := fun h => by rw [List.getElem?_eq_getElem h] at hCa; exact Option.some.inj hCa
            clear hst1 hBa hSl hone honp honl honci hmk hv ht hfl
            cases v <;> cases t
            all_goals
              repeat' first
                | (with_reducible refine gw_bool (fun _ => ?_) (fun _ => ?_))
                | (with_reducible refine condw_bool (fun _ => ?_) (fun _ => ?_))
                | simp [*, b1, setsV]
            all_goals
              refine nxt_go (j + 1) (View.refl _ _) (by omega) (by simp [*, Keep]) (by simp [*, KeepH]) ?_
            all_goals
              refine ⟨by omega, by simp [*], ?_⟩
              rw [hnj.out]; simp [*, setsV, List.map_set]
          · have f2 : ilt (j : Int) (nf : Int) = false := ilt_f (by omega)
            have e2 : j = nf := by omega
            rw [e2] at g39
            have hst' := hst1.out
            generalize sumH s q f i nf = C at g39 hst'
            replace hst' : Hid (sumF s q f (i + 1) = C) := hst'
            clear hst1 hBa hSl hone honp honl hmk
            repeat' first
              | (with_reducible refine gw_bool (fun _ => ?_) (fun _ => ?_))
              | (with_reducible refine condw_bool (fun _ => ?_) (fun _ => ?_))
              | simp [*]
            refine nxt_go (i + 1) (View.forget _ _ 47) (by omega) (by simp [*, Keep, St.forget, scr, scrC, usesC, usesA]) (by simp [*, KeepH, St.forget, scr, scrC]) ?_
            refine ⟨by omega, by simp [*, St.forget, scr, scrC], ?_⟩
            rw [hst'.out]; simp [*, St.forget, scr, scrC, scrB_comp]
      · have f1 : ilt (i : Int) (nf : Int) = false := ilt_f (by omega)
        have e1 : i = nf := by omega
        rw [e1, ← hAs.out] at g39
        clear hAs hone honp honl honc hmk
        repeat' first
          | (with_reducible refine gw_bool (fun _ => ?_) (fun _ => ?_))
          | (with_reducible refine condw_bool (fun _ => ?_) (fun _ => ?_))
          | simp [*]
        refine lp_go (D := (fun _ => none)) D7_ok mixed (by kernel_rfl) [7, 8, 82] [3, 4, 39, 47] (α := Nat) (fun j e h => j ≤ nf ∧ e 83 = .int .i64 j) (fun j => nf - j) 0 ?_ ?_
        · exact ⟨by omega, by simp⟩
        · have hk0 := hk
          have hkh0 := hkh
          clear hk hkh g7
          rintro j e h hk hkh ⟨hj, g7⟩
          simp [Keep, hk0, hkh0, hA, hAl] at hk
          simp [KeepH, hk0, hkh0, g39] at hkh
          by_cases hjlt : j < nf
          · obtain ⟨t, ht, ht'⟩ := at_ex (l := A) (i := j) (by omega)
            have f2 : ilt (j : Int) (nf : Int) = true := ilt_t (by omega)
            have w2 : IntKind.i64.wrap ((j : Int) + 1) = ((j + 1 : Nat) : Int) := wrap_succ (by omega)
            cases t
            all_goals
              repeat' first
                | (with_reducible refine gw_bool (fun _ => ?_) (fun _ => ?_))
                | (with_reducible refine condw_bool (fun _ => ?_) (fun _ => ?_))
                | simp [*, b1]
            all_goals
              refine nxt_go (j + 1) (View.refl _ _) (by omega) (by simp [*, Keep]) (by simp [*, KeepH]) ?_
            all_goals
              exact ⟨by omega, by simp [*]⟩
          · have f2 : ilt (j : Int) (nf : Int) = false := ilt_f (by omega)
            repeat' first
              | (with_reducible refine gw_bool (fun _ => ?_) (fun _ => ?_))
              | (with_reducible refine condw_bool (fun _ => ?_) (fun _ => ?_))
              | simp [*]
end Go.Proofs.Ytcbddoopmkhlfaa
