/-
  Run, and the document's Run: the states of successive steps.
-/
import Derived.Test.YtlebbpgffjcgjaaBrk2
namespace Go.Proofs.Ytlebbpgffjcgjaa
open Go.Pv Go.RowKit
set_option linter.unusedSimpArgs false
set_option linter.unusedVariables false
set_option maxRecDepth 100000

/-- The state behind k steps. -/
def stt (c : Bool) (t : Int) (s : Bool) (os cs : List Bool) : Nat → Br
  | 0 => ⟨c, false, 0, false⟩
  | k + 1 => stepB (stt c t s os cs k) t s (os.getD k false) (cs.getD k false)
def runRows (c : Bool) (t : Int) (s : Bool) (os cs : List Bool) : List (List V) :=
  if usableB t && (os.length == cs.length) then rowsF os.length (fun j => (stt c t s os cs (j + 1)).cs) else []
theorem br_len (b : Br) : b.cs.length = 4 := rfl
theorem br_pure (b : Br) : b.cs.any ownC = false := rfl
theorem br_one (b : Br) : b.cs.all oneV = true := rfl
theorem br_eta (b : Br) : V.agg [.bool b.closed, .bool b.closing, .int .i64 b.left, .bool b.com] = b.v := rfl

def InvR (n : Nat) (c : Bool) (t : Int) (s : Bool) (os cs : List Bool) (st : St) : Prop := ∃ i : Nat, i ≤ n ∧ st.env 1 = .int .i64 t ∧ st.env 2 = .bool s ∧ st.env 3 = .list 1 (os.map bl) ∧ st.env 4 = .list 1 (cs.map bl) ∧
  st.env 11 = .sl 26 0 n 4 ∧ st.env 12 = .ptr 12 0 ∧ st.env 30 = .int .i64 n ∧ st.env 31 = .int .i64 i ∧
  st.heap 12 = some ⟨36, (stt c t s os cs i).cs⟩ ∧ ∃ R, st.heap 26 = some ⟨36, R⟩ ∧ Hid (R = (rowsF n (fun j => if j < i then (stt c t s os cs (j + 1)).cs else br0.cs)).flatten)
def mu31 (n : Nat) (s : St) : Nat := ((n : Int) - ival (s.env 31)).toNat

theorem run_ok (c : Bool) (t : Int) (s : Bool) (os cs : List Bool) (hl : os.length ≤ 1000) : PFresh Try.prog 19 [.bool c, .int .i64 t, .bool s, .list 1 (os.map bl), .list 1 (cs.map bl)] (.list 4 (runRows c t s os cs)) := by
  by_cases hok : usableB t = true ∧ os.length = cs.length
  · obtain ⟨hu, hlen⟩ := hok
    obtain ⟨n, hos⟩ : ∃ n, os.length = n := ⟨_, rfl⟩
    have hcs : cs.length = n := by omega
    have hrr : runRows c t s os cs = rowsF n (fun j => (stt c t s os cs (j + 1)).cs) := by simp [runRows, hu, hos, hcs]
    rw [hrr]
    clear hrr hlen
    rw [hos] at hl
    have k1 : (24 : Int) * (n : Int) ≤ 281474976710656 := by omega
    have k2 : (n : Int) ≤ 9223372036854775807 := by omega
    refine pfresh_cx B3_ok mixed Try.func19 rfl Try.ntmps19 Try.results19 (by simp) (by kernel_rfl) ?_
    repeat' first
      | (refine gw_bool (fun _ => ?_) (fun _ => ?_))
      | (refine condw_bool (fun _ => ?_) (fun _ => ?_))
      | simp [*, td31, td33, td36, td3, td4, B3_at, B3_fr, B2_at, B2_fr, B1_at, B1_fr, TusableB, TnewB, Br.v]
    refine lp_intro (InvR n c t s os cs) (mu31 n) ⟨0, by omega, rfl, rfl, rfl, rfl, rfl, rfl, rfl, rfl, rfl, _, rfl, show _ = _ by simp [replicate_rowsF, br0, Br.cs]⟩ ?_
    rintro e h ⟨i, hi, g1, g2, g3, g4, g11, g12, g30, g31, q12, R, q26, hR⟩
    simp only at g1 g2 g3 g4 g11 g12 g30 g31 q12 q26
    by_cases hlt : i < n
    · obtain ⟨a, ha, ha'⟩ := at_ex (show i < os.length by omega)
      obtain ⟨b, hb, hb'⟩ := at_ex (show i < cs.length by omega)
      have w1 : IntKind.i64.wrap ((i : Int) + 1) = ((i + 1 : Nat) : Int) := wrap_succ (by omega)
      have f1 : ilt (i : Int) (n : Int) = true := by simp only [ilt, decide_eq_true_eq]; omega
      have f2 : stepB (stt c t s os cs i) t s a b = stt c t s os cs (i + 1) := by simp [stt, ha, hb]
      have f3 : R.length = n * 4 := by rw [hR.out]; exact length_flatten_rowsF (fun j => by split <;> rfl)
      have f4 : ¬ ((n : Int) ≤ (i : Int)) := by omega
      have f5 : i * 4 + 4 ≤ n * 4 := by omega
      repeat' first
        | (refine gw_bool (fun _ => ?_) (fun _ => ?_))
        | (refine condw_bool (fun _ => ?_) (fun _ => ?_))
        | simp [*, td31, td33, td36, td3, td4, B3_at, B3_fr, B2_at, B2_fr, B1_at, B1_fr, TstepB, Br.v, bl, Br.cs]
      refine ⟨_, View.refl _ _, ⟨i + 1, by omega, ?_⟩, ?_⟩
      · simp [*]
        refine ⟨rfl, ?_⟩
        show _ = _
        rw [hR.out]
        refine (setsV_rowsF (sz := 4) (r := (stt c t s os cs (i + 1)).cs) (fun j => by split <;> rfl) rfl hlt).trans ?_
        congr 1
        refine rowsF_congr fun j hj => ?_
        by_cases e1 : j = i
        · subst e1; simp
        · by_cases e2 : j < i
          · simp [e1, e2, show j < i + 1 by omega]
          · simp [e1, e2, show ¬ j < i + 1 by omega]
      · simp [mu31, ival, g31]
        omega
    · have f1 : ilt (i : Int) (n : Int) = false := by simp only [ilt, decide_eq_false_iff_not]; omega
      have f2 : i = n := by omega
      have f3 : R.length = n * 4 := by rw [hR.out]; exact length_flatten_rowsF (fun j => by split <;> rfl)
      have f4 : R.any ownC = false := by rw [hR.out]; exact any_rowsF (fun j => by split <;> rfl)
      have f5 : chunks 4 n R = rowsF n (fun j => (stt c t s os cs (j + 1)).cs) := by
        rw [hR.out, chunks_rowsF (fun j => by split <;> rfl)]
        exact rowsF_congr fun j hj => if_pos (by omega)
      have f6 : (rowsF n (fun j => (stt c t s os cs (j + 1)).cs)).all (fun c => c.all flatC) = true := flat_rowsF fun j => rfl
      repeat' first
        | (refine gw_bool (fun _ => ?_) (fun _ => ?_))
        | (refine condw_bool (fun _ => ?_) (fun _ => ?_))
        | simp [*, td31, td33, td36, td3, td4, B3_at, B3_fr, B2_at, B2_fr, B1_at, B1_fr]
  · have hrr : runRows c t s os cs = [] := by simp [runRows]; intro h1 h2; exact absurd ⟨h1, h2⟩ hok
    rw [hrr]
    apply PFresh.nils
    cases hu : usableB t
    · refine pfresh_cx B3_ok mixed Try.func19 rfl Try.ntmps19 Try.results19 (by simp) (by kernel_rfl) ?_
      repeat' first
        | (refine gw_bool (fun _ => ?_) (fun _ => ?_))
        | (refine condw_bool (fun _ => ?_) (fun _ => ?_))
        | simp [*, td31, td33, td36, td3, td4, B3_at, B3_fr, B2_at, B2_fr, B1_at, B1_fr, TusableB]
    · have k0 : ieq (os.length : Int) (cs.length : Int) = false := by
        simp only [ieq, beq_eq_false_iff_ne]; intro h; exact hok ⟨hu, by omega⟩
      refine pfresh_cx B3_ok mixed Try.func19 rfl Try.ntmps19 Try.results19 (by simp) (by kernel_rfl) ?_
      repeat' first
        | (refine gw_bool (fun _ => ?_) (fun _ => ?_))
        | (refine condw_bool (fun _ => ?_) (fun _ => ?_))
        | simp [*, td31, td33, td36, td3, td4, B3_at, B3_fr, B2_at, B2_fr, B1_at, B1_fr, TusableB]
def unb : List (List V) → Option (List Bool)
  | [] => some []
  | [.bool b] :: xs => (unb xs).map (b :: ·)
  | _ => none
theorem unb_map (bs : List Bool) : unb (bs.map bl) = some bs := by
  induction bs with
  | nil => rfl
  | cons b bs ih => simp [unb, bl] at ih ⊢; exact ih
theorem unb_inv : ∀ (xs : List (List V)) (bs : List Bool), unb xs = some bs → xs = bs.map bl
  | [], bs, h => by simp [unb] at h; subst h; rfl
  | x :: xs, bs, h => by
    unfold unb at h
    split at h
    · rename_i e; cases e
    · rename_i b ys e
      simp only [List.cons.injEq] at e
      obtain ⟨rfl, rfl⟩ := e
      simp only [Option.map_eq_some_iff] at h
      obtain ⟨bs', h1, rfl⟩ := h
      rw [unb_inv _ bs' h1]; rfl
    · cases h
def Trun : List V → Option V
  | [.bool c, .int .i64 t, .bool s, .list 1 xs, .list 1 ys] => (match unb xs, unb ys with
    | some os, some cs => bif decide (os.length ≤ 1000) then some (.list 4 (runRows c t s os cs)) else none
    | _, _ => none)
  | [.bool c, .int .i64 t, .bool s, .nils, .nils] => some (.list 4 (runRows c t s [] []))
  | _ => none
theorem run_tab : ∀ vs v, Trun vs = some v → PFresh Try.prog 19 vs v := by
  intro vs v h
  unfold Trun at h
  split at h
  · split at h
    · rename_i os cs h1 h2
      rw [unb_inv _ _ h1, unb_inv _ _ h2]
      simp only [cond_eq_ite, decide_eq_true_eq] at h
      split at h
      · cases h; exact run_ok _ _ _ _ _ (by assumption)
      · cases h
    · cases h
  · cases h
    exact (run_ok _ _ _ [] [] (by simp)).weaken (.cons (Wk.refl _) (.cons (Wk.refl _) (.cons (Wk.refl _) (.cons (Wk.nils 1) (.cons (Wk.nils 1) .nil))))) (Wk.refl _)
  · cases h
def B4 : Tab := addF 19 Trun (B3)
theorem B4_at (f : FuncId) (vs : List V) : B4.at' f vs = if f = 19 then Trun vs else B3.at' f vs := rfl
theorem B4_fr (f : FuncId) : B4.fr f = if f = 19 then true else B3.fr f := rfl
theorem B4_ok : TabOK Try.prog B4 := by
  refine addF_ok (B3_ok) (by kernel_rfl) ?_
  · exact run_tab
theorem known29_ok : PCall Try.prog 21 [] (.bool true) := by
  have h1 : runRows true 2 false [true, false, false] [false, false, false] = [Br.cs ⟨true, false, 2, true⟩, Br.cs ⟨true, false, 1, true⟩, Br.cs br0] := by rfl
  refine pcall_cx B4_ok mixed Try.func21 rfl Try.ntmps21 Try.results21 (by simp) (by kernel_rfl) ?_
  repeat' first
    | (refine gw_bool (fun _ => ?_) (fun _ => ?_))
    | (refine condw_bool (fun _ => ?_) (fun _ => ?_))
    | simp [*, td31, td33, td36, td3, td4, B4_at, B4_fr, Trun, unb, h1, Br.cs, br0, eq36, ieq]
end Go.Proofs.Ytlebbpgffjcgjaa
