/-
  Resampling: one value of a shifted series, and whether two lists are equal.
-/
import Derived.Test.YtnilibgafkakpaaRes9
namespace Go.Proofs.Ytnilibgafkakpaa
open Go.Pv Go.RowKit
set_option linter.unusedSimpArgs false
set_option linter.unusedVariables false
set_option maxRecDepth 100000
set_option maxHeartbeats 4000000

theorem Wk.tup {us us' : List V} (h : WkL us us') : Wk (.tup us) (.tup us') := by
  intro w ro x hx
  cases hx with
  | tup _ arr hl hr =>
    refine .tup _ _ (by rw [hl, h.1]) fun j c x hc hx => ?_
    have hj : j < us.length := by rw [h.1]; exact (List.getElem?_eq_some_iff.1 hc).1
    exact h.2 j _ c (List.getElem?_eq_getElem hj) hc w ro x (hr j _ x (List.getElem?_eq_getElem hj) hx)
theorem WkL.refl (us : List V) : WkL us us := ⟨rfl, fun j u u' h h' => by rw [h] at h'; cases h'; exact Wk.refl _⟩

def valF (l : List Int) (k : Nat) (p q : Int) : (Int × Int) × Int :=
  if 1 ≤ k ∧ k + 2 < l.length then cuF (l.getD (k - 1) 0) (l.getD k 0) (l.getD (k + 1) 0) (l.getD (k + 2) 0) p q else liF (l.getD k 0) (l.getD (k + 1) 0) p q
theorem getD_of {l : List Int} {i : Nat} {x : Int} (h : l[i]? = some x) : l.getD i 0 = x := by rw [List.getD_eq_getElem?_getD, h]; rfl
theorem four_of {l : List Int} {j : Nat} {a b c e : Int} (ha : l[j]? = some a) (hb : l[j + 1]? = some b) (hc : l[j + 2]? = some c) (he : l[j + 3]? = some e) : (List.take 4 (List.drop j (l.map il))).flatten = [.int .i64 a, .int .i64 b, .int .i64 c, .int .i64 e] := by
  have h : l.drop j = a :: b :: c :: e :: l.drop (j + 4) := by
    apply List.ext_getElem?
    intro i
    rw [List.getElem?_drop]
    match i with
    | 0 => simpa using ha
    | 1 => simpa using hb
    | 2 => simpa using hc
    | 3 => simpa using he
    | i + 4 => simp only [List.getElem?_cons_succ, List.getElem?_drop]; congr 1; omega
  rw [← List.map_drop, h]
  simp [il]
theorem value_ok (l : List Int) (k : Nat) (p q : Int) (hk : k + 1 < l.length) (hl : l.length ≤ 240) : PCall Try.prog 31 [.list 1 (l.map il), .int .i64 k, .int .i64 p, .int .i64 q] (vF (valF l k p q)) := by
  obtain ⟨n, hn⟩ : ∃ n, l.length = n := ⟨_, rfl⟩
  by_cases hc : 1 ≤ k ∧ k + 2 < l.length
  · obtain ⟨h1, h2⟩ := hc
    obtain ⟨j, rfl⟩ : ∃ j, k = j + 1 := ⟨k - 1, by omega⟩
    obtain ⟨a, ha, -⟩ := at_ex (show j < l.length by omega)
    obtain ⟨b, hb, -⟩ := at_ex (show j + 1 < l.length by omega)
    obtain ⟨c, hc, -⟩ := at_ex (show j + 2 < l.length by omega)
    obtain ⟨e, he, -⟩ := at_ex (show j + 3 < l.length by omega)
    have h4 := four_of ha hb hc he
    have hv : valF l (j + 1) p q = cuF a b c e p q := by
      unfold valF
      rw [if_pos ⟨h1, h2⟩, show j + 1 - 1 = j by omega, getD_of ha, getD_of hb, show j + 1 + 1 = j + 2 by omega, show j + 1 + 2 = j + 3 by omega, getD_of hc, getD_of he]
    rw [hv]
    have f1 : ilt (((j + 1 : Nat) : Int)) 1 = false := ilt_f (by omega)
    have w1 : IntKind.i64.wrap (((j + 1 : Nat) : Int) + 2) = ((j + 3 : Nat) : Int) := by rw [wrap_id (by omega) (by omega)]; omega
    have w2 : IntKind.i64.wrap (((j + 1 : Nat) : Int) - 1) = ((j : Nat) : Int) := by rw [wrap_id (by omega) (by omega)]; omega
    have w3 : IntKind.i64.wrap (((j + 1 : Nat) : Int) + 3) = ((j + 4 : Nat) : Int) := by rw [wrap_id (by omega) (by omega)]; omega
    have f2 : ilt (((j + 3 : Nat) : Int)) (n : Int) = true := ilt_t (by omega)
    have d1 : j ≤ j + 4 := by omega
    have d2 : j + 4 ≤ n := by omega
    have d3 : ¬ j = j + 4 := by omega
    have d4 : j + 4 - j = 4 := by omega
    have d5 : ¬ (n - j = 0) := by omega
    have d6 : 4 ≤ n - j := by omega
    have m : ((j + 1 : Nat) : Int) = ((j + 1 : Nat) : Int) := rfl
    generalize hJ1 : ((j + 1 : Nat) : Int) = J1 at *
    generalize hJ3 : ((j + 3 : Nat) : Int) = J3 at *
    have hJ4 : ((j + 4 : Nat) : Int).toNat = j + 4 := by omega
    have hJ4' : (0 : Int) ≤ ((j + 4 : Nat) : Int) := by omega
    generalize hJ4 : ((j + 4 : Nat) : Int) = J4 at *
    clear h1 h2 hv ha hb hc he hk hl m
    refine pcall_cx G8_ok mixed (fun _ => none) Try.func31 rfl Try.ntmps31 Try.results31 (by simp) (by kernel_rfl) ?_
    repeat' first
      | (refine gw_bool (fun _ => ?_) (fun _ => ?_))
      | (refine condw_bool (fun _ => ?_) (fun _ => ?_))
      | simp [*, vF]
  · have hv : valF l k p q = liF (l.getD k 0) (l.getD (k + 1) 0) p q := by unfold valF; rw [if_neg hc]
    obtain ⟨a, ha, ha'⟩ := at_ex (show k < l.length by omega)
    obtain ⟨b, hb, hb'⟩ := at_ex (show k + 1 < l.length by omega)
    rw [hv, getD_of ha, getD_of hb]
    have w1 : IntKind.i64.wrap ((k : Int) + 1) = ((k + 1 : Nat) : Int) := wrap_succ (by omega)
    have w2 : IntKind.i64.wrap ((k : Int) + 2) = ((k + 2 : Nat) : Int) := by rw [wrap_id (by omega) (by omega)]; omega
    cases f1 : ilt (k : Int) 1
    · have f2 : ilt (((k + 2 : Nat) : Int)) (n : Int) = false := ilt_f (by have := ilt_iff'.1 f1; omega)
      generalize hK2 : ((k + 2 : Nat) : Int) = K2 at *
      clear hc hv hl
      refine pcall_cx G8_ok mixed (fun _ => none) Try.func31 rfl Try.ntmps31 Try.results31 (by simp) (by kernel_rfl) ?_
      repeat' first
        | (refine gw_bool (fun _ => ?_) (fun _ => ?_))
        | (refine condw_bool (fun _ => ?_) (fun _ => ?_))
        | simp [*, vF, il]
      all_goals omega
    · clear hc hv hl
      refine pcall_cx G8_ok mixed (fun _ => none) Try.func31 rfl Try.ntmps31 Try.results31 (by simp) (by kernel_rfl) ?_
      repeat' first
        | (refine gw_bool (fun _ => ?_) (fun _ => ?_))
        | (refine condw_bool (fun _ => ?_) (fun _ => ?_))
        | simp [*, vF, il]
      all_goals omega
def Tval : List V → Option V
  | [.list 1 xs, .int .i64 k, .int .i64 p, .int .i64 q] => (match decL unI xs with
    | some l => bif decide (0 ≤ k) && (decide (k.toNat + 1 < l.length) && decide (l.length ≤ 240)) then some (vF (valF l k.toNat p q)) else none
    | none => none)
  | _ => none
theorem val_tab : ∀ vs v, Tval vs = some v → PCall Try.prog 31 vs v := by
  intro vs v h; unfold Tval at h; split at h
  · split at h
    · rename_i l h1
      rw [decL_inv unI_inv _ _ h1]
      simp only [cond_eq_ite, Bool.and_eq_true, decide_eq_true_eq] at h
      split at h
      · rename_i hc
        cases h
        obtain ⟨hc1, hc2, hc3⟩ := hc
        obtain ⟨K, rfl⟩ := Int.eq_ofNat_of_zero_le hc1
        exact value_ok _ _ _ _ hc2 hc3
      · cases h
    · cases h
  · cases h
theorem take_ne {a b : List Int} {i : Nat} {x y : Int} (hx : a[i]? = some x) (hy : b[i]? = some y) (h : x ≠ y) : a ≠ b := by
  intro e; rw [e, hy] at hx; cases hx; exact h rfl
theorem same_ok (a b : List Int) (ha : a.length ≤ maxLen) (hb : b.length ≤ maxLen) : PCall Try.prog 22 [.list 1 (a.map il), .list 1 (b.map il)] (.bool (decide (a = b))) := by
  have hm : maxLen = 9223372036854775807 := by decide
  obtain ⟨n, hn⟩ : ∃ n, a.length = n := ⟨_, rfl⟩
  by_cases hl : a.length = b.length
  · have hn' : b.length = n := by omega
    refine pcall_cx G8_ok mixed (fun _ => none) Try.func22 rfl Try.ntmps22 Try.results22 (by simp) (by kernel_rfl) ?_
    repeat' first
      | (refine gw_bool (fun _ => ?_) (fun _ => ?_))
      | (refine condw_bool (fun _ => ?_) (fun _ => ?_))
      | simp [*]
    refine lp_go (D := (fun _ => none)) G8_ok mixed (by kernel_rfl) [0, 1] [] (α := Nat) (fun i e h => i ≤ n ∧ e 5 = .int .i64 i ∧ Hid (a.take i = b.take i)) (fun i => n - i) 0 ?_ ?_
    · exact ⟨by omega, rfl, show _ = _ by simp⟩
    · rintro i e h hk hkh ⟨hi, g5, hinv⟩
      simp [Keep] at hk
      simp [KeepH] at hkh
      by_cases hlt : i < n
      · obtain ⟨x, hx, hx'⟩ := at_ex (show i < a.length by omega)
        obtain ⟨y, hy, hy'⟩ := at_ex (show i < b.length by omega)
        have f1 : ilt (i : Int) (n : Int) = true := ilt_t (by omega)
        have w1 : IntKind.i64.wrap ((i : Int) + 1) = ((i + 1 : Nat) : Int) := wrap_succ (by omega)
        cases hs : ieq x y
        · have hall : decide (a = b) = false := decide_eq_false (take_ne hx hy (ieq_iff'.1 hs))
          clear hinv
          repeat' first
            | (refine gw_bool (fun _ => ?_) (fun _ => ?_))
            | (refine condw_bool (fun _ => ?_) (fun _ => ?_))
            | simp [*, il]
        · have hz : Hid (a.take (i + 1) = b.take (i + 1)) := by
            show _ = _
            rw [List.take_add_one, List.take_add_one, hx, hy, hinv.out, ieq_iff.1 hs]
          clear hinv
          repeat' first
            | (refine gw_bool (fun _ => ?_) (fun _ => ?_))
            | (refine condw_bool (fun _ => ?_) (fun _ => ?_))
            | simp [*, il]
          refine nxt_go (i + 1) (View.refl _ _) (by omega) (by simp [*, Keep, St.forget, scr, scrC]) (by simp [*, KeepH, St.forget, scr, scrC]) ?_
          refine ⟨by omega, ?_, hz⟩; simp [*]
      · have f1 : ilt (i : Int) (n : Int) = false := ilt_f (by omega)
        have e1 : i = n := by omega
        have hall : decide (a = b) = true := by
          have := hinv.out
          rw [e1, List.take_of_length_le (by omega), List.take_of_length_le (by omega)] at this
          exact decide_eq_true this
        clear hinv
        repeat' first
          | (refine gw_bool (fun _ => ?_) (fun _ => ?_))
          | (refine condw_bool (fun _ => ?_) (fun _ => ?_))
          | simp [*]
  · have hall : decide (a = b) = false := decide_eq_false (fun e => hl (by rw [e]))
    have k0 : ieq (n : Int) (b.length : Int) = false := ieq_f (by omega)
    clear hl
    refine pcall_cx G8_ok mixed (fun _ => none) Try.func22 rfl Try.ntmps22 Try.results22 (by simp) (by kernel_rfl) ?_
    repeat' first
      | (refine gw_bool (fun _ => ?_) (fun _ => ?_))
      | (refine condw_bool (fun _ => ?_) (fun _ => ?_))
      | simp [*]
def Tsame : List V → Option V
  | [.list 1 xs, .list 1 ys] => (match decL unI xs, decL unI ys with
    | some a, some b => bif decide (a.length ≤ 9223372036854775807) && decide (b.length ≤ 9223372036854775807) then some (.bool (decide (a = b))) else none
    | _, _ => none)
  | _ => none
theorem same_tab : ∀ vs v, Tsame vs = some v → PCall Try.prog 22 vs v := by
  intro vs v h; unfold Tsame at h; split at h
  · split at h
    · rename_i a b h1 h2
      rw [decL_inv unI_inv _ _ h1, decL_inv unI_inv _ _ h2]
      simp only [cond_eq_ite, Bool.and_eq_true, decide_eq_true_eq] at h
      split at h
      · rename_i hc; cases h; exact same_ok _ _ hc.1 hc.2
      · cases h
    · cases h
  · cases h
def G9 : Tab := add 31 Tval (add 22 Tsame (G8))
theorem G9_at (f : FuncId) (vs : List V) : G9.at' f vs = if f = 31 then Tval vs else if f = 22 then Tsame vs else G8.at' f vs := rfl
theorem G9_fr (f : FuncId) : G9.fr f = if f = 31 then false else if f = 22 then false else G8.fr f := rfl
attribute [simp] G9_at G9_fr Tsame Tval
theorem G9_ok : TabOK Try.prog G9 := by
  refine add_ok (add_ok (G8_ok) (by kernel_rfl) ?_) (by kernel_rfl) ?_
  · exact same_tab
  · exact val_tab
end Go.Proofs.Ytnilibgafkakpaa
