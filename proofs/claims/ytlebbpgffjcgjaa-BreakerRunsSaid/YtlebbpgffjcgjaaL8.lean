/-
  BreakerRuns: the walk.
-/
import Derived.Test.YtlebbpgffjcgjaaRun2
namespace Go.Proofs.Ytlebbpgffjcgjaa.breakerRunsDone
open Go.Pv Go.RowKit
set_option linter.unusedSimpArgs false
set_option linter.unusedVariables false
set_option maxRecDepth 100000

def Inv (n : Nat) (f : Nat → Br) (st : St) : Prop := ∃ i : Nat, i ≤ n ∧ st.env 3 = .list 4 (rowsF n (fun j => (f j).cs)) ∧ st.env 4 = .list 4 (rowsF n (fun j => (f j).cs)) ∧ st.env 45 = .int .i64 n ∧ st.env 46 = .int .i64 i
def mu (n : Nat) (s : St) : Nat := ((n : Int) - ival (s.env 46)).toNat
theorem rr_form (c : Bool) (t : Int) (s : Bool) (os cs : List Bool) : ∃ (n : Nat) (f : Nat → Br), n ≤ os.length ∧ runRows c t s os cs = rowsF n (fun j => Br.cs (f j)) := by
  unfold runRows
  split
  · exact ⟨os.length, fun j => stt c t s os cs (j + 1), Nat.le_refl _, rfl⟩
  · exact ⟨0, fun _ => br0, Nat.zero_le _, rfl⟩
theorem rowsF_get {n i : Nat} {f : Nat → List V} (h : i < (rowsF n f).length) : (rowsF n f)[i] = f i := by simp [rowsF]
theorem walk (c : Bool) (t : Int) (s : Bool) (os cs : List Bool) (ho : os.length ≤ maxLen) : PCall Try.prog 8 [.agg [.bool c, .int .i64 t, .bool s, .list 1 (os.map bl), .list 1 (cs.map bl)]] (.bool true) := by
  obtain ⟨n, f, hn, hrr⟩ := rr_form c t s os cs
  obtain ⟨m, hm⟩ : ∃ m, os.length = m := ⟨_, rfl⟩
  rw [hm] at hn ho
  by_cases hbig : ilt 80 (m : Int) = true
  · refine pcall_cx B6_ok mixed Try.func8 rfl Try.ntmps8 Try.results8 (by simp) (by kernel_rfl) ?_
    repeat' first
      | (refine gw_bool (fun _ => ?_) (fun _ => ?_))
      | (refine condw_bool (fun _ => ?_) (fun _ => ?_))
      | simp [*, td44, td31, td33, td36, td3, td4, B6_at, B6_fr, B5_at, B5_fr, Ttrue]
  · have hbig' : ilt 80 (m : Int) = false := by simpa using hbig
    have hle : m ≤ 1000 := by simp only [ilt, decide_eq_false_iff_not] at hbig'; omega
    clear hbig
    refine pcall_cx B6_ok mixed Try.func8 rfl Try.ntmps8 Try.results8 (by simp) (by kernel_rfl) ?_
    repeat' first
      | (refine gw_bool (fun _ => ?_) (fun _ => ?_))
      | (refine condw_bool (fun _ => ?_) (fun _ => ?_))
      | simp [*, td44, td31, td33, td36, td3, td4, B6_at, B6_fr, B5_at, B5_fr, B4_at, B4_fr, Ttrue, Trun, unb_map]
    refine lp_intro (Inv n f) (mu n) ⟨0, by omega, rfl, rfl, rfl, rfl⟩ ?_
    rintro e h ⟨i, hi, g3, g4, g45, g46⟩
    simp only at g3 g4 g45 g46
    by_cases hlt : i < n
    · have w1 : IntKind.i64.wrap ((i : Int) + 1) = ((i + 1 : Nat) : Int) := wrap_succ (by omega)
      have f1 : ilt (i : Int) (n : Int) = true := by simp only [ilt, decide_eq_true_eq]; omega
      repeat' first
        | (refine gw_bool (fun _ => ?_) (fun _ => ?_))
        | (refine condw_bool (fun _ => ?_) (fun _ => ?_))
        | simp [*, td44, td31, td33, td36, td3, td4, rowsF_at, rowsF_get, Br.cs, eq36]
      refine ⟨_, View.refl _ _, ⟨i + 1, by omega, ?_⟩, ?_⟩
      · simp [g3, g4, g45, g46]
      · simp [mu, ival, g46]
        omega
    · have f1 : ilt (i : Int) (n : Int) = false := by simp only [ilt, decide_eq_false_iff_not]; omega
      repeat' first
        | (refine gw_bool (fun _ => ?_) (fun _ => ?_))
        | (refine condw_bool (fun _ => ?_) (fun _ => ?_))
        | simp [*, td44, td31, td33, td36, td3, td4, B6_at, B6_fr, B5_at, B5_fr, Ttrue]
end Go.Proofs.Ytlebbpgffjcgjaa.breakerRunsDone
