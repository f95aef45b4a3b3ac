/-
  Numbers by their digits: trimming, digits, what is made of them.
-/
import Derived.Test.YtacmchjaldljjaaLaw1
namespace Go.Proofs.Ytacmchjaldljjaa
open Go.Pv Go.RowKit
set_option linter.unusedSimpArgs false
set_option linter.unusedVariables false
set_option maxRecDepth 100000
set_option maxHeartbeats 4000000

def ul (n : Int) : List V := [.int .u32 n]
def unU : List V → Option Int
  | [.int .u32 n] => some n
  | _ => none
theorem unU_ul (n : Int) : unU (ul n) = some n := rfl
theorem unU_inv : ∀ c a, unU c = some a → c = ul a := by
  intro c a h; unfold unU at h; split at h
  · cases h; rfl
  · cases h
theorem dec_u (l : List Int) : decL unU (l.map ul) = some l := decL_map unU_ul _
def trL (a : List Int) : List Int := (a.reverse.dropWhile (fun d => ieq d 0)).reverse
theorem trL_zero {a : List Int} : trL (a ++ [0]) = trL a := by simp [trL, ieq]
theorem trL_keep {a : List Int} {d : Int} (h : d ≠ 0) : trL (a ++ [d]) = a ++ [d] := by
  have : ieq d 0 = false := ieq_f h
  simp [trL, this]
theorem trL_nil : trL [] = [] := rfl
theorem take_snoc {a : List Int} {n : Nat} {x : Int} (h : a[n]? = some x) : a.take (n + 1) = a.take n ++ [x] := by rw [List.take_add_one, h]; rfl
theorem trim_ok (a : List Int) (hl : a.length ≤ 1000) : PFresh Try.prog 37 [.list 1 (a.map ul)] (.list 1 ((trL a).map ul)) := by
  obtain ⟨N, hN⟩ : ∃ N, a.length = N := ⟨_, rfl⟩
  rw [hN] at hl
  refine pfresh_cx G6_ok mixed (fun _ => none) Try.func37 rfl Try.ntmps37 Try.results37 (by simp) (by kernel_rfl) ?_
  repeat' first
    | (refine gw_bool (fun _ => ?_) (fun _ => ?_))
    | (refine condw_bool (fun _ => ?_) (fun _ => ?_))
    | simp [*]
  refine lp_go (D := (fun _ => none)) G6_ok mixed (by kernel_rfl) [0] [18, 22] (α := Nat) (fun n e h => n ≤ N ∧ e 3 = .int .i64 n ∧ Hid (trL a = trL (a.take n))) (fun n => n) N ?_ ?_
  · exact ⟨by omega, by simp [hN], show _ = _ by rw [← hN, List.take_length]⟩
  · rintro n e h hk hkh ⟨hi, g3, hinv⟩
    simp [Keep] at hk
    simp [KeepH] at hkh
    have fin : ∀ b : List Int, trL a = b → a.take n = b → n ≤ N → True := fun _ _ _ _ => trivial
    cases n with
    | zero =>
      have hz : trL a = [] := by have := hinv.out; simpa [trL_nil] using this
      rw [hz]
      clear hinv fin
      repeat' first
        | (refine gw_bool (fun _ => ?_) (fun _ => ?_))
        | (refine condw_bool (fun _ => ?_) (fun _ => ?_))
        | simp [*, appendV, srcCells, St.forget, scr, scrC]
    | succ n =>
      obtain ⟨x, hx, hx'⟩ := at_ex (show n < a.length by omega)
      have f1 : ilt 0 (((n + 1 : Nat)) : Int) = true := ilt_t (by omega)
      have w1 : IntKind.i64.wrap (((n + 1 : Nat) : Int) - 1) = (n : Int) := by rw [wrap_id (by omega) (by omega)]; omega
      obtain ⟨M, hM⟩ : ∃ M, n + 1 = M := ⟨_, rfl⟩
      rw [hM] at f1 w1 g3
      have hMi : (0 : Int) ≤ (M : Int) := by omega
      cases hxz : ieq x 0
      · have ht : trL a = a.take M := by rw [hinv.out, take_snoc hx, trL_keep (ieq_iff'.1 hxz), ← take_snoc hx, hM]
        have hne : ¬ 0 = M := by omega
        have hne' : ¬ M = 0 := by omega
        obtain ⟨T, hT⟩ : ∃ T, (a.map ul).take M = T := ⟨_, rfl⟩
        have hT' : (trL a).map ul = T := by rw [ht, List.map_take, hT]
        have hTl : T.length = M := by rw [← hT, List.length_take, List.length_map]; omega
        have hTf : T.flatten.all oneV = true := by rw [← hT']; exact flat_one (fun _ => rfl) _
        have hTs : T.flatten.map (scrC 18) = T.flatten := by rw [← hT']; exact scrC_cells (flat_pure (fun _ => rfl) _)
        have hTp : T.flatten.any ownC = false := by rw [← hT']; exact flat_pure (fun _ => rfl) _
        have hTc : chunks 1 M T.flatten = T := by rw [← hT', ← hTl, ← hT']; have := flat_chunks (enc := ul) (sz := 1) (fun _ => rfl) (trL a); simpa using this
        have hTl3 : (trL a).length = M := by rw [← hTl, ← hT']; simp
        have hTl2 : T.flatten.length = M := by rw [← hT', flat_len (sz := 1) (fun _ => rfl), Nat.mul_one]; exact hTl3
        have hTa : T.all (fun c => c.all flatC) = true := by rw [← hT']; exact rows_flat (fun _ => rfl) _
        have f5 : M * 4 ≤ 140737488355328 := by omega
        have f6 : M ≤ 9223372036854775807 := by omega
        have f7 : M ≤ N := by omega
        rw [hT']
        obtain ⟨Fl, hFl⟩ : ∃ F, T.flatten = F := ⟨_, rfl⟩
        rw [hFl] at hTf hTs hTp hTc hTl2
        clear hinv fin ht hM
        repeat' first
          | (refine gw_bool (fun _ => ?_) (fun _ => ?_))
          | (refine condw_bool (fun _ => ?_) (fun _ => ?_))
          | simp [*, ul, appendV, srcCells, St.forget, scr, scrC]
      · have hz : Hid (trL a = trL (a.take n)) := by
          show _ = _
          rw [hinv.out, take_snoc hx, ieq_iff.1 hxz, trL_zero]
        clear hinv fin
        repeat' first
          | (refine gw_bool (fun _ => ?_) (fun _ => ?_))
          | (refine condw_bool (fun _ => ?_) (fun _ => ?_))
          | simp [*, ul]
        refine nxt_go n (View.refl _ _) (by omega) (by simp [*, Keep, St.forget, scr, scrC]) (by simp [*, KeepH, St.forget, scr, scrC]) ?_
        refine ⟨by omega, ?_, hz⟩; simp [*]
end Go.Proofs.Ytacmchjaldljjaa
