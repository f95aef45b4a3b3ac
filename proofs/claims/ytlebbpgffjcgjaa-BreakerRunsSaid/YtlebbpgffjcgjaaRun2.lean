/-
  The document's Run, which appends: it answers what Run answers.
-/
import Derived.Test.YtlebbpgffjcgjaaL6
namespace Go.Proofs.Ytlebbpgffjcgjaa
open Go.Pv Go.RowKit
set_option linter.unusedSimpArgs false
set_option linter.unusedVariables false
set_option maxRecDepth 100000

def InvA (n : Nat) (c : Bool) (t : Int) (s : Bool) (os cs : List Bool) (st : St) : Prop := ∃ i : Nat, i ≤ n ∧ st.env 1 = .int .i64 t ∧ st.env 2 = .bool s ∧ st.env 3 = .list 1 (os.map bl) ∧ st.env 4 = .list 1 (cs.map bl) ∧
  st.env 11 = .sl 11 0 i 4 ∧ st.env 12 = .ptr 12 0 ∧ st.env 30 = .int .i64 n ∧ st.env 31 = .int .i64 i ∧ st.heap 48 = none ∧
  st.heap 12 = some ⟨36, (stt c t s os cs i).cs⟩ ∧ ∃ R, st.heap 11 = some ⟨36, R⟩ ∧ Hid (R = (rowsF i (fun j => (stt c t s os cs (j + 1)).cs)).flatten)

theorem runA_ok (c : Bool) (t : Int) (s : Bool) (os cs : List Bool) (hl : os.length ≤ 1000) : PFresh Try.prog 26 [.bool c, .int .i64 t, .bool s, .list 1 (os.map bl), .list 1 (cs.map bl)] (.list 4 (runRows c t s os cs)) := by
  have hut : usableB t = (!ilt t 1 && !ilt 6 t) := rfl
  by_cases hok : usableB t = true ∧ os.length = cs.length
  · obtain ⟨hu, hlen⟩ := hok
    obtain ⟨n, hos⟩ : ∃ n, os.length = n := ⟨_, rfl⟩
    have hcs : cs.length = n := by omega
    have hrr : runRows c t s os cs = rowsF n (fun j => (stt c t s os cs (j + 1)).cs) := by simp [runRows, hu, hos, hcs]
    rw [hrr]
    clear hrr hlen
    rw [hos] at hl
    rw [hut] at hu
    simp only [Bool.and_eq_true, Bool.not_eq_true'] at hu
    obtain ⟨u1, u2⟩ := hu
    clear hut
    refine pfresh_cx B5_ok mixed Try.func26 rfl Try.ntmps26 Try.results26 (by simp) (by kernel_rfl) ?_
    repeat' first
      | (refine gw_bool (fun _ => ?_) (fun _ => ?_))
      | (refine condw_bool (fun _ => ?_) (fun _ => ?_))
      | simp [*, td31, td33, td36, td3, td4, B5_at, B5_fr, B4_at, B4_fr, B3_at, B3_fr, Br.v]
    refine lp_view (InvA n c t s os cs) (mu31 n) (View.nilOwn _ (t := 11) (key := 11) 4 36 rfl rfl) ⟨0, by omega, rfl, rfl, rfl, rfl, rfl, rfl, rfl, rfl, rfl, rfl, [], rfl, show _ = _ by simp [rowsF]⟩ ?_
    rintro e h ⟨i, hi, g1, g2, g3, g4, g11, g12, g30, g31, q48, q12, R, q11, hR⟩
    simp only at g1 g2 g3 g4 g11 g12 g30 g31 q48 q12 q11
    have f3 : R.length = i * 4 := by rw [hR.out]; exact length_flatten_rowsF (fun j => rfl)
    have f4 : R.any ownC = false := by rw [hR.out]; exact any_rowsF (fun j => rfl)
    by_cases hlt : i < n
    · obtain ⟨a, ha, ha'⟩ := at_ex (show i < os.length by omega)
      obtain ⟨b, hb, hb'⟩ := at_ex (show i < cs.length by omega)
      have w1 : IntKind.i64.wrap ((i : Int) + 1) = ((i + 1 : Nat) : Int) := wrap_succ (by omega)
      have f1 : ilt (i : Int) (n : Int) = true := by simp only [ilt, decide_eq_true_eq]; omega
      have f2 : stepB (stt c t s os cs i) t s a b = stt c t s os cs (i + 1) := by simp [stt, ha, hb]
      have f5 : (i + 1) * 24 ≤ 140737488355328 := by omega
      have f6 : i + 1 ≤ 9223372036854775807 := by omega
      have f7 : R.map (scrC 11) = R := scrC_cells f4
      repeat' first
        | (refine gw_bool (fun _ => ?_) (fun _ => ?_))
        | (refine condw_bool (fun _ => ?_) (fun _ => ?_))
        | simp [*, td31, td33, td36, td3, td4, B5_at, B5_fr, B4_at, B4_fr, B3_at, B3_fr, TstepB, Br.v, bl, Br.cs, appendV, srcCells, St.forget, scr, scrC]
      refine ⟨_, View.forget _ _ 48, ⟨i + 1, by omega, ?_⟩, ?_⟩
      · simp [St.forget, scr, scrC, g1, g2, g3, g4, g11, g12, g30, g31, q12, q11, q48]
        refine ⟨rfl, ?_⟩
        show _ = _
        rw [scrC_cells f4, rowsF_succ, List.flatten_append, hR.out]
        simp [Br.cs]
      · simp [mu31, ival, St.forget, scr, scrC, g31]
        omega
    · have f1 : ilt (i : Int) (n : Int) = false := by simp only [ilt, decide_eq_false_iff_not]; omega
      have f2 : i = n := by omega
      have f5 : chunks 4 n R = rowsF n (fun j => (stt c t s os cs (j + 1)).cs) := by
        rw [hR.out, f2]
        exact chunks_rowsF (sz := 4) (fun j => rfl)
      have f6 : (rowsF n (fun j => (stt c t s os cs (j + 1)).cs)).all (fun c => c.all flatC) = true := flat_rowsF fun j => rfl
      repeat' first
        | (refine gw_bool (fun _ => ?_) (fun _ => ?_))
        | (refine condw_bool (fun _ => ?_) (fun _ => ?_))
        | simp [*, td31, td33, td36, td3, td4, B5_at, B5_fr, B4_at, B4_fr]
  · have hrr : runRows c t s os cs = [] := by simp [runRows]; intro h1 h2; exact absurd ⟨h1, h2⟩ hok
    rw [hrr]
    apply PFresh.nils
    cases u1 : ilt t 1
    · cases u2 : ilt 6 t
      · have k0 : ieq (os.length : Int) (cs.length : Int) = false := by
          simp only [ieq, beq_eq_false_iff_ne]; intro h; exact hok ⟨by rw [hut, u1, u2]; rfl, by omega⟩
        clear hut
        refine pfresh_cx B5_ok mixed Try.func26 rfl Try.ntmps26 Try.results26 (by simp) (by kernel_rfl) ?_
        repeat' first
          | (refine gw_bool (fun _ => ?_) (fun _ => ?_))
          | (refine condw_bool (fun _ => ?_) (fun _ => ?_))
          | simp [*, td31, td33, td36, td3, td4]
      · clear hut
        refine pfresh_cx B5_ok mixed Try.func26 rfl Try.ntmps26 Try.results26 (by simp) (by kernel_rfl) ?_
        repeat' first
          | (refine gw_bool (fun _ => ?_) (fun _ => ?_))
          | (refine condw_bool (fun _ => ?_) (fun _ => ?_))
          | simp [*, td31, td33, td36, td3, td4]
    · clear hut
      refine pfresh_cx B5_ok mixed Try.func26 rfl Try.ntmps26 Try.results26 (by simp) (by kernel_rfl) ?_
      repeat' first
        | (refine gw_bool (fun _ => ?_) (fun _ => ?_))
        | (refine condw_bool (fun _ => ?_) (fun _ => ?_))
        | simp [*, td31, td33, td36, td3, td4]
theorem runA_tab : ∀ vs v, Trun vs = some v → PFresh Try.prog 26 vs v := by
  intro vs v h
  unfold Trun at h
  split at h
  · split at h
    · rename_i os cs h1 h2
      rw [unb_inv _ _ h1, unb_inv _ _ h2]
      simp only [cond_eq_ite, decide_eq_true_eq] at h
      split at h
      · cases h; exact runA_ok _ _ _ _ _ (by assumption)
      · cases h
    · cases h
  · cases h
    exact (runA_ok _ _ _ [] [] (by simp)).weaken (.cons (Wk.refl _) (.cons (Wk.refl _) (.cons (Wk.refl _) (.cons (Wk.nils 1) (.cons (Wk.nils 1) .nil))))) (Wk.refl _)
  · cases h
def B6 : Tab := addF 26 Trun (B5)
theorem B6_at (f : FuncId) (vs : List V) : B6.at' f vs = if f = 26 then Trun vs else B5.at' f vs := rfl
theorem B6_fr (f : FuncId) : B6.fr f = if f = 26 then true else B5.fr f := rfl
theorem B6_ok : TabOK Try.prog B6 := by
  refine addF_ok (B5_ok) (by kernel_rfl) ?_
  · exact runA_tab
end Go.Proofs.Ytlebbpgffjcgjaa
