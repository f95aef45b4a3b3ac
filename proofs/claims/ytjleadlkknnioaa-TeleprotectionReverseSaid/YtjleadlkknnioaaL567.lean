/-
  TeleprotectionInternal, TeleprotectionExternal, TeleprotectionReverse: the walks.
-/
import Derived.Test.YtjleadlkknnioaaPlain
namespace Go.Proofs.Ytjleadlkknnioaa
open Go.Pv Go.RowKit
set_option linter.unusedSimpArgs false
set_option linter.unusedVariables false
set_option maxRecDepth 100000
set_option maxHeartbeats 4000000

def unIn : List V → Option In
  | [.bool a, .bool b, .bool c, .bool d] => some ⟨a, b, c, d⟩
  | _ => none
theorem unIn_cs (x : In) : unIn x.cs = some x := rfl
theorem unIn_inv : ∀ c a, unIn c = some a → c = In.cs a := by
  intro c a h; unfold unIn at h; split at h
  · cases h; rfl
  · cases h
def Tpair : List V → Option V
  | [.int .i64 s, .int .i64 w, .int .i64 g, .list 4 xs, .list 4 ys] => (match decL unIn xs, decL unIn ys with
    | some a, some b => bif decide (a.length ≤ b.length) && decide (a.length ≤ 1000) then some (.agg [.int .i64 (pairN s w g a b a.length).f0, .int .i64 (pairN s w g a b a.length).f1]) else none
    | _, _ => none)
  | _ => none
theorem pair_tab : ∀ vs v, Tpair vs = some v → PCall Try.prog 14 vs v := by
  intro vs v h
  unfold Tpair at h
  split at h
  · split at h
    · rename_i a b h1 h2
      rw [decL_inv unIn_inv _ _ h1, decL_inv unIn_inv _ _ h2]
      simp only [cond_eq_ite, Bool.and_eq_true, decide_eq_true_eq] at h
      split at h
      · rename_i hc
        cases h; exact pair_ok _ _ _ _ _ hc.1 hc.2
      · cases h
    · cases h
  · cases h
def G5 : Tab := add 14 Tpair (G4)
theorem G5_at (f : FuncId) (vs : List V) : G5.at' f vs = if f = 14 then Tpair vs else G4.at' f vs := rfl
theorem G5_fr (f : FuncId) : G5.fr f = if f = 14 then false else G4.fr f := rfl
attribute [simp] G5_at G5_fr Tpair
theorem G5_ok : TabOK Try.prog G5 := by
  refine add_ok (G4_ok) (by kernel_rfl) ?_
  · exact pair_tab
def cells (f : Nat → In) (n : Nat) : List V := ((lst f n).map In.cs).flatten
theorem cells_len (f : Nat → In) (n : Nat) : (cells f n).length = n * 4 := by
  rw [cells, flat_len (sz := 4) (fun _ => rfl), lst_len]
theorem cells_pure (f : Nat → In) (n : Nat) : (cells f n).any ownC = false := flat_pure (fun _ => rfl) _
theorem cells_chunks (f : Nat → In) (n : Nat) : chunks 4 n (cells f n) = (lst f n).map In.cs := by
  have := flat_chunks (enc := In.cs) (sz := 4) (fun _ => rfl) (lst f n)
  rwa [lst_len] at this
theorem cells_succ (f : Nat → In) (n : Nat) : cells f (n + 1) = cells f n ++ (f n).cs := by
  rw [cells, lst_succ, ← flat_snoc]; rfl
theorem cells_scr (f : Nat → In) (n key : Nat) : (cells f n).map (scrC key) = cells f n := scrC_cells (cells_pure f n)
theorem cells_zero (f : Nat → In) : cells f 0 = [] := rfl
theorem geq_nat {a b : Nat} : (!ilt (a : Int) (b : Int)) = decide (b ≤ a) := by
  simp only [ilt]; by_cases h : b ≤ a
  · simp [h, show ¬ ((a : Int) < b) by omega]
  · simp [h, show ((a : Int) < b) by omega]
attribute [simp] cells_len cells_pure cells_chunks cells_scr unIn_cs lst_len
theorem dec_lst (f : Nat → In) (n : Nat) : decL unIn ((lst f n).map In.cs) = some (lst f n) := decL_map unIn_cs _
theorem internal_ok (s w g F S : Int) : PCall Try.prog 5 [.agg [.int .i64 s, .int .i64 w, .int .i64 g], .int .i64 F, .int .i64 S] (.bool true) := by
  by_cases hg : 1 ≤ w ∧ w ≤ 50 ∧ 0 ≤ g ∧ g ≤ 50 ∧ 0 ≤ F ∧ F ≤ 10 ∧ 0 ≤ S ∧ S ≤ 100
  · obtain ⟨a1, a2, a3, a4, a5, a6, a7, a8⟩ := hg
    obtain ⟨f, rfl⟩ := Int.eq_ofNat_of_zero_le a5
    obtain ⟨k, rfl⟩ := Int.eq_ofNat_of_zero_le a7
    have b1 : ilt w 1 = false := ilt_f a1
    have b2 : ilt 50 w = false := ilt_f a2
    have b3 : ilt g 0 = false := ilt_f a3
    have b4 : ilt 50 g = false := ilt_f a4
    have b5 : ilt (f : Int) 0 = false := ilt_f a5
    have b6 : ilt 10 (f : Int) = false := ilt_f a6
    have b7 : ilt (k : Int) 0 = false := ilt_f a7
    have b8 : ilt 100 (k : Int) = false := ilt_f a8
    obtain ⟨n, hn⟩ : ∃ n, f + k = n := ⟨_, rfl⟩
    have w1 : IntKind.i64.wrap ((f : Int) + (k : Int)) = (n : Int) := by rw [wrap_id (by omega) (by omega)]; omega
    have hn2 : n ≤ 1000 := by omega
    refine pcall_cx G5_ok mixed (fun _ => none) Try.func5 rfl Try.ntmps5 Try.results5 (by simp) (by kernel_rfl) ?_
    repeat' first
      | (refine gw_bool (fun _ => ?_) (fun _ => ?_))
      | (refine condw_bool (fun _ => ?_) (fun _ => ?_))
      | simp [*]
    refine lp_view (View.nilOwn _ (t := 9) (key := 9) 4 29 rfl rfl) ?_
    refine lp_go (D := (fun _ => none)) G5_ok mixed (by kernel_rfl) [1, 2, 7, 8] [3, 11, 12, 62, 63] (α := Nat) (fun i e h => i ≤ n ∧ e 10 = .int .i64 i ∧ e 9 = .sl 9 0 i 4 ∧ h 9 = some ⟨29, cells (fwd f) i⟩) (fun i => n - i) 0 ?_ ?_
    · simp [cells_zero]
    · rintro i e h hk hkh ⟨hi, g10, g9, q9⟩
      simp [Keep] at hk
      simp [KeepH] at hkh
      by_cases hlt : i < n
      · have f1 : ilt (i : Int) (n : Int) = true := ilt_t (by omega)
        have w2 : IntKind.i64.wrap ((i : Int) + 1) = ((i + 1 : Nat) : Int) := wrap_succ (by omega)
        have f5 : (i + 1) * 4 ≤ 140737488355328 := by omega
        have f6 : i + 1 ≤ 9223372036854775807 := by omega
        repeat' first
          | (refine gw_bool (fun _ => ?_) (fun _ => ?_))
          | (refine condw_bool (fun _ => ?_) (fun _ => ?_))
          | simp [*, appendV, srcCells, St.forget, scr, scrC, geq_nat]
        refine nxt_go (i + 1) ((View.forget _ _ 62)) (by omega) (by simp [*, Keep, St.forget, scr, scrC]) (by simp [*, KeepH, St.forget, scr, scrC]) ?_
        refine ⟨by omega, ?_, ?_, ?_⟩
        · simp [*, St.forget, scr, scrC]
        · simp [*, St.forget, scr, scrC]
        · simp [*, St.forget, scr, scrC, cells_succ, In.cs, fwd]
      · have f1 : ilt (i : Int) (n : Int) = false := ilt_f (by omega)
        have e1 : i = n := by omega
        subst e1
        have r1 := int_over a3 a4 f i i (Nat.le_refl _)
        have r2 := int_blk a1 a2 a3 a4 f i i (Nat.le_refl _)
        have w3 : IntKind.i64.wrap ((f : Int) + 1) = ((f + 1 : Nat) : Int) := wrap_succ (by omega)
        have w4 : IntKind.i64.wrap ((f : Int) + w) = (f : Int) + w := wrap_id (by omega) (by omega)
        have w5 : IntKind.i64.wrap (w + 1) = w + 1 := wrap_id (by omega) (by omega)
        have c1 : (f + 1 < i) ↔ ilt (k : Int) 2 = false := by rw [ilt_iff']; omega
        have c2 : ((f : Int) + w < (i : Int)) ↔ ilt (k : Int) (w + 1) = false := by rw [ilt_iff']; omega
        simp only [c1] at r1
        simp only [c2] at r2
        clear hi c1 c2
        repeat' first
          | (refine gw_bool (fun _ => ?_) (fun _ => ?_))
          | (refine condw_bool (fun _ => ?_) (fun _ => ?_))
          | simp [*, dec_lst]
  · have hz : Hid (¬ (1 ≤ w ∧ w ≤ 50 ∧ 0 ≤ g ∧ g ≤ 50 ∧ 0 ≤ F ∧ F ≤ 10 ∧ 0 ≤ S ∧ S ≤ 100)) := hg
    clear hg
    refine pcall_cx G5_ok mixed (fun _ => none) Try.func5 rfl Try.ntmps5 Try.results5 (by simp) (by kernel_rfl) ?_
    repeat' first
      | (refine gw_bool (fun _ => ?_) (fun _ => ?_))
      | (refine condw_bool (fun _ => ?_) (fun _ => ?_))
      | simp [*]
    all_goals (exfalso; have hz := hz.out; simp only [ilt_iff', ilt_iff] at *; omega)
theorem external_ok (s w g F S : Int) : PCall Try.prog 6 [.agg [.int .i64 s, .int .i64 w, .int .i64 g], .int .i64 F, .int .i64 S] (.bool true) := by
  by_cases hg : 1 ≤ w ∧ w ≤ 50 ∧ 0 ≤ g ∧ g ≤ 50 ∧ 0 ≤ F ∧ F ≤ 10 ∧ 0 ≤ S ∧ S ≤ 100
  · obtain ⟨a1, a2, a3, a4, a5, a6, a7, a8⟩ := hg
    obtain ⟨f, rfl⟩ := Int.eq_ofNat_of_zero_le a5
    obtain ⟨k, rfl⟩ := Int.eq_ofNat_of_zero_le a7
    have b1 : ilt w 1 = false := ilt_f a1
    have b2 : ilt 50 w = false := ilt_f a2
    have b3 : ilt g 0 = false := ilt_f a3
    have b4 : ilt 50 g = false := ilt_f a4
    have b5 : ilt (f : Int) 0 = false := ilt_f a5
    have b6 : ilt 10 (f : Int) = false := ilt_f a6
    have b7 : ilt (k : Int) 0 = false := ilt_f a7
    have b8 : ilt 100 (k : Int) = false := ilt_f a8
    obtain ⟨n, hn⟩ : ∃ n, f + k = n := ⟨_, rfl⟩
    have w1 : IntKind.i64.wrap ((f : Int) + (k : Int)) = (n : Int) := by rw [wrap_id (by omega) (by omega)]; omega
    have hn2 : n ≤ 1000 := by omega
    refine pcall_cx G5_ok mixed (fun _ => none) Try.func6 rfl Try.ntmps6 Try.results6 (by simp) (by kernel_rfl) ?_
    repeat' first
      | (refine gw_bool (fun _ => ?_) (fun _ => ?_))
      | (refine condw_bool (fun _ => ?_) (fun _ => ?_))
      | simp [*]
    refine lp_view ((View.nilOwn _ (t := 9) (key := 9) 4 29 rfl rfl).trans (View.nilOwn _ (t := 10) (key := 10) 4 29 rfl rfl)) ?_
    refine lp_go (D := (fun _ => none)) G5_ok mixed (by kernel_rfl) [1, 2, 7, 8] [3, 12, 60, 61, 67, 68] (α := Nat) (fun i e h => i ≤ n ∧ e 11 = .int .i64 i ∧ e 9 = .sl 9 0 i 4 ∧ h 9 = some ⟨29, cells (fwd f) i⟩ ∧ e 10 = .sl 10 0 i 4 ∧ h 10 = some ⟨29, cells (bwd f) i⟩) (fun i => n - i) 0 ?_ ?_
    · simp [cells_zero]
    · rintro i e h hk hkh ⟨hi, g11, g9, q9, g10, q10⟩
      simp [Keep] at hk
      simp [KeepH] at hkh
      by_cases hlt : i < n
      · have f1 : ilt (i : Int) (n : Int) = true := ilt_t (by omega)
        have w2 : IntKind.i64.wrap ((i : Int) + 1) = ((i + 1 : Nat) : Int) := wrap_succ (by omega)
        have f5 : (i + 1) * 4 ≤ 140737488355328 := by omega
        have f6 : i + 1 ≤ 9223372036854775807 := by omega
        repeat' first
          | (refine gw_bool (fun _ => ?_) (fun _ => ?_))
          | (refine condw_bool (fun _ => ?_) (fun _ => ?_))
          | simp [*, appendV, srcCells, St.forget, scr, scrC, geq_nat]
        refine nxt_go (i + 1) ((View.forget _ _ 60).trans ((View.forget _ _ 67))) (by omega) (by simp [*, Keep, St.forget, scr, scrC]) (by simp [*, KeepH, St.forget, scr, scrC]) ?_
        refine ⟨by omega, ?_, ?_, ?_, ?_, ?_⟩
        all_goals simp [*, St.forget, scr, scrC, cells_succ, In.cs, fwd, bwd]
      · have f1 : ilt (i : Int) (n : Int) = false := ilt_f (by omega)
        have e1 : i = n := by omega
        subst e1
        have r1 := ext_over a3 a4 f i i (Nat.le_refl _)
        have r2 := ext_blk a1 a2 a3 a4 f i i (Nat.le_refl _)
        clear hi
        repeat' first
          | (refine gw_bool (fun _ => ?_) (fun _ => ?_))
          | (refine condw_bool (fun _ => ?_) (fun _ => ?_))
          | simp [*, dec_lst]
  · have hz : Hid (¬ (1 ≤ w ∧ w ≤ 50 ∧ 0 ≤ g ∧ g ≤ 50 ∧ 0 ≤ F ∧ F ≤ 10 ∧ 0 ≤ S ∧ S ≤ 100)) := hg
    clear hg
    refine pcall_cx G5_ok mixed (fun _ => none) Try.func6 rfl Try.ntmps6 Try.results6 (by simp) (by kernel_rfl) ?_
    repeat' first
      | (refine gw_bool (fun _ => ?_) (fun _ => ?_))
      | (refine condw_bool (fun _ => ?_) (fun _ => ?_))
      | simp [*]
    all_goals (exfalso; have hz := hz.out; simp only [ilt_iff', ilt_iff] at *; omega)
theorem reverse_ok (g F B S : Int) : PCall Try.prog 7 [.agg [.int .i64 g, .int .i64 F, .int .i64 B, .int .i64 S]] (.bool true) := by
  by_cases hg : 1 ≤ g ∧ g ≤ 50 ∧ 0 ≤ F ∧ F ≤ 5 ∧ 1 ≤ B ∧ B ≤ 30 ∧ 0 ≤ S ∧ S ≤ g
  · obtain ⟨a1, a2, a3, a4, a5, a6, a7, a8⟩ := hg
    obtain ⟨f, rfl⟩ := Int.eq_ofNat_of_zero_le a3
    obtain ⟨b, rfl⟩ := Int.eq_ofNat_of_zero_le (show 0 ≤ B by omega)
    obtain ⟨k, rfl⟩ := Int.eq_ofNat_of_zero_le a7
    have b1 : ilt g 1 = false := ilt_f a1
    have b2 : ilt 50 g = false := ilt_f a2
    have b3 : ilt (f : Int) 0 = false := ilt_f a3
    have b4 : ilt 5 (f : Int) = false := ilt_f a4
    have b5 : ilt (b : Int) 1 = false := ilt_f a5
    have b6 : ilt 30 (b : Int) = false := ilt_f a6
    have b7 : ilt (k : Int) 0 = false := ilt_f a7
    have b8 : ilt g (k : Int) = false := ilt_f a8
    obtain ⟨n, hn⟩ : ∃ n, f + b + k = n := ⟨_, rfl⟩
    have w1 : IntKind.i64.wrap ((f : Int) + (b : Int)) = ((f + b : Nat) : Int) := by rw [wrap_id (by omega) (by omega)]; omega
    have w1' : IntKind.i64.wrap (((f + b : Nat) : Int) + (k : Int)) = (n : Int) := by rw [wrap_id (by omega) (by omega)]; omega
    have hn2 : n ≤ 1000 := by omega
    obtain ⟨fb, hfb⟩ : ∃ m, f + b = m := ⟨_, rfl⟩
    rw [hfb] at w1 w1' hn
    refine pcall_cx G5_ok mixed (fun _ => none) Try.func7 rfl Try.ntmps7 Try.results7 (by simp) (by kernel_rfl) ?_
    repeat' first
      | (refine gw_bool (fun _ => ?_) (fun _ => ?_))
      | (refine condw_bool (fun _ => ?_) (fun _ => ?_))
      | simp [*]
    refine lp_view ((View.nilOwn _ (t := 7) (key := 7) 4 29 rfl rfl).trans (View.nilOwn _ (t := 8) (key := 8) 4 29 rfl rfl)) ?_
    refine lp_go (D := (fun _ => none)) G5_ok mixed (by kernel_rfl) [3, 4, 5, 6] [1, 74, 75, 86, 87] (α := Nat) (fun i e h => i ≤ n ∧ e 9 = .int .i64 i ∧ e 7 = .sl 7 0 i 4 ∧ h 7 = some ⟨29, cells (ra f b) i⟩ ∧ e 8 = .sl 8 0 i 4 ∧ h 8 = some ⟨29, cells (rb f b) i⟩) (fun i => n - i) 0 ?_ ?_
    · simp [cells_zero]
    · rintro i e h hk hkh ⟨hi, g9, g7, q7, g8, q8⟩
      simp [Keep] at hk
      simp [KeepH] at hkh
      by_cases hlt : i < n
      · have f1 : ilt (i : Int) (n : Int) = true := ilt_t (by omega)
        have w2 : IntKind.i64.wrap ((i : Int) + 1) = ((i + 1 : Nat) : Int) := wrap_succ (by omega)
        have f5 : (i + 1) * 4 ≤ 140737488355328 := by omega
        have f6 : i + 1 ≤ 9223372036854775807 := by omega
        have hra : (ra f b i).cs = [.bool false, .bool (decide (f ≤ i) && !decide (fb ≤ i)), .bool false, .bool false] := by rw [← hfb]; rfl
        have hrb : (rb f b i).cs = [.bool false, .bool (decide (fb ≤ i)), .bool (decide (f ≤ i) && !decide (fb ≤ i)), .bool false] := by rw [← hfb]; rfl
        by_cases c1 : f ≤ i
        · by_cases c2 : fb ≤ i
          · have d1 : ilt (i : Int) (f : Int) = false := ilt_f (by omega)
            have d2 : ilt (i : Int) (fb : Int) = false := ilt_f (by omega)
            repeat' first
              | (refine gw_bool (fun _ => ?_) (fun _ => ?_))
              | (refine condw_bool (fun _ => ?_) (fun _ => ?_))
              | simp [*, appendV, srcCells, St.forget, scr, scrC]
            refine nxt_go (i + 1) ((View.forget _ _ 74).trans ((View.forget _ _ 86))) (by omega) (by simp [*, Keep, St.forget, scr, scrC]) (by simp [*, KeepH, St.forget, scr, scrC]) ?_
            refine ⟨by omega, ?_, ?_, ?_, ?_, ?_⟩
            all_goals simp [*, St.forget, scr, scrC, cells_succ]
          · have d1 : ilt (i : Int) (f : Int) = false := ilt_f (by omega)
            have d2 : ilt (i : Int) (fb : Int) = true := ilt_t (by omega)
            repeat' first
              | (refine gw_bool (fun _ => ?_) (fun _ => ?_))
              | (refine condw_bool (fun _ => ?_) (fun _ => ?_))
              | simp [*, appendV, srcCells, St.forget, scr, scrC]
            refine nxt_go (i + 1) ((View.forget _ _ 74).trans ((View.forget _ _ 86))) (by omega) (by simp [*, Keep, St.forget, scr, scrC]) (by simp [*, KeepH, St.forget, scr, scrC]) ?_
            refine ⟨by omega, ?_, ?_, ?_, ?_, ?_⟩
            all_goals simp [*, St.forget, scr, scrC, cells_succ]
        · have c2 : ¬ fb ≤ i := by omega
          have d1 : ilt (i : Int) (f : Int) = true := ilt_t (by omega)
          have d2 : ilt (i : Int) (fb : Int) = true := ilt_t (by omega)
          repeat' first
            | (refine gw_bool (fun _ => ?_) (fun _ => ?_))
            | (refine condw_bool (fun _ => ?_) (fun _ => ?_))
            | simp [*, appendV, srcCells, St.forget, scr, scrC]
          refine nxt_go (i + 1) ((View.forget _ _ 74).trans ((View.forget _ _ 86))) (by omega) (by simp [*, Keep, St.forget, scr, scrC]) (by simp [*, KeepH, St.forget, scr, scrC]) ?_
          refine ⟨by omega, ?_, ?_, ?_, ?_, ?_⟩
          all_goals simp [*, St.forget, scr, scrC, cells_succ]
      · have f1 : ilt (i : Int) (n : Int) = false := ilt_f (by omega)
        have e1 : i = n := by omega
        subst e1
        have r1 := rev_over a1 a2 f b i (by omega) (by omega) i (Nat.le_refl _)
        clear hi
        repeat' first
          | (refine gw_bool (fun _ => ?_) (fun _ => ?_))
          | (refine condw_bool (fun _ => ?_) (fun _ => ?_))
          | simp [*, dec_lst]
  · have hz : Hid (¬ (1 ≤ g ∧ g ≤ 50 ∧ 0 ≤ F ∧ F ≤ 5 ∧ 1 ≤ B ∧ B ≤ 30 ∧ 0 ≤ S ∧ S ≤ g)) := hg
    clear hg
    refine pcall_cx G5_ok mixed (fun _ => none) Try.func7 rfl Try.ntmps7 Try.results7 (by simp) (by kernel_rfl) ?_
    repeat' first
      | (refine gw_bool (fun _ => ?_) (fun _ => ?_))
      | (refine condw_bool (fun _ => ?_) (fun _ => ?_))
      | simp [*]
    all_goals (exfalso; have hz := hz.out; simp only [ilt_iff', ilt_iff] at *; omega)
end Go.Proofs.Ytjleadlkknnioaa
