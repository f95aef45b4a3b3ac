/-
  The types of this seat's program, as far as its functions use them: size, bytes, zero, fields.
  The clock (texts of the clock's own seat).
  Values: their contents, what checks them, their bytes.
  Values: their methods.
  Values: their bytes; the header; reading.
  Values: checks; reading.
-/
import Derived.Test.YtpkibnkhllefaaaJ3
import Derived.Test.YtpkibnkhllefaaaProg
import Derived.KernelRfl
import Derived.Laws.Externs
section
namespace Go.Proofs.Ytpkibnkhllefaaa
open Go.Pv
theorem mixed : Try.prog.follows .mixedOrders = true := by kernel_rfl
theorem td3 : td Try.prog 3 = some { size := 1, bytes := 8, agg := false, strct := false, zero := some [.int .i64 0], fields := [], arr := none, slc := none, int := some .i64, isBool := false, isStr := false, eqg := false } := by kernel_rfl
theorem td4 : td Try.prog 4 = some { size := 1, bytes := 1, agg := false, strct := false, zero := some [.bool false], fields := [], arr := none, slc := none, int := none, isBool := true, isStr := false, eqg := false } := by kernel_rfl
theorem td5 : td Try.prog 5 = some { size := 1, bytes := 1, agg := false, strct := false, zero := some [.int .u8 0], fields := [], arr := none, slc := none, int := some .u8, isBool := false, isStr := false, eqg := false } := by kernel_rfl
theorem td9 : td Try.prog 9 = some { size := 1, bytes := 16, agg := false, strct := false, zero := some [.str ⟨#[]⟩], fields := [], arr := none, slc := none, int := none, isBool := false, isStr := true, eqg := false } := by kernel_rfl
theorem td19 : td Try.prog 19 = some { size := 1, bytes := 8, agg := true, strct := true, zero := some [.junk], fields := [some (0, 1, false)], arr := none, slc := none, int := none, isBool := false, isStr := false, eqg := false } := by kernel_rfl
theorem td22 : td Try.prog 22 = some { size := 1, bytes := 24, agg := false, strct := false, zero := some [.nils], fields := [], arr := none, slc := some (37, 3), int := none, isBool := false, isStr := false, eqg := false } := by kernel_rfl
theorem td25 : td Try.prog 25 = some { size := 5, bytes := 40, agg := true, strct := true, zero := some [.int .i64 0, .int .i64 0, .bool false, .int .i64 0, .int .i64 0], fields := [some (0, 1, false), some (1, 1, false), some (2, 1, false), some (3, 1, false), some (4, 1, false)], arr := none, slc := none, int := none, isBool := false, isStr := false, eqg := false } := by kernel_rfl
theorem td28 : td Try.prog 28 = some { size := 3, bytes := 24, agg := true, strct := true, zero := some [.int .i64 0, .int .i64 0, .int .i64 0], fields := [some (0, 1, false), some (1, 1, false), some (2, 1, false)], arr := none, slc := none, int := none, isBool := false, isStr := false, eqg := false } := by kernel_rfl
theorem td29 : td Try.prog 29 = some { size := 1, bytes := 24, agg := false, strct := false, zero := some [.nils], fields := [], arr := none, slc := some (45, 6), int := none, isBool := false, isStr := false, eqg := false } := by kernel_rfl
theorem td31 : td Try.prog 31 = some { size := 13, bytes := 120, agg := true, strct := true, zero := some [.int .i64 0, .int .i64 0, .int .i64 0, .int .i64 0, .bool false, .int .i64 0, .int .i64 0, .int .i64 0, .int .i64 0, .int .i64 0, .int .i64 0, .int .i64 0, .nils], fields := [some (0, 1, false), some (1, 1, false), some (2, 1, false), some (3, 1, false), some (4, 1, false), some (5, 1, false), some (6, 1, false), some (7, 1, false), some (8, 1, false), some (9, 3, true), some (12, 1, false)], arr := none, slc := none, int := none, isBool := false, isStr := false, eqg := false } := by kernel_rfl
theorem td32 : td Try.prog 32 = some { size := 1, bytes := 8, agg := false, strct := false, zero := some [.int .i64 0], fields := [], arr := none, slc := none, int := some .i64, isBool := false, isStr := false, eqg := false } := by kernel_rfl
theorem td37 : td Try.prog 37 = some { size := 3, bytes := 24, agg := true, strct := true, zero := some [.int .i64 0, .int .i64 0, .bool false], fields := [some (0, 1, false), some (1, 1, false), some (2, 1, false)], arr := none, slc := none, int := none, isBool := false, isStr := false, eqg := false } := by kernel_rfl
theorem td41 : td Try.prog 41 = some { size := 1, bytes := 24, agg := false, strct := false, zero := some [.nils], fields := [], arr := none, slc := some (50, 10), int := none, isBool := false, isStr := false, eqg := false } := by kernel_rfl
theorem td45 : td Try.prog 45 = some { size := 6, bytes := 56, agg := true, strct := true, zero := some [.int .i64 0, .int .i64 0, .str ⟨#[]⟩, .int .i64 0, .int .i64 0, .int .i64 0], fields := [some (0, 1, false), some (1, 1, false), some (2, 1, false), some (3, 3, true)], arr := none, slc := none, int := none, isBool := false, isStr := false, eqg := false } := by kernel_rfl
theorem td46 : td Try.prog 46 = some { size := 1, bytes := 24, agg := false, strct := false, zero := some [.nils], fields := [], arr := none, slc := some (5, 1), int := none, isBool := false, isStr := false, eqg := false } := by kernel_rfl
theorem td50 : td Try.prog 50 = some { size := 10, bytes := 96, agg := true, strct := true, zero := some [.int .i64 0, .int .i64 0, .int .i64 0, .int .i64 0, .int .i64 0, .int .i64 0, .int .i64 0, .bool false, .int .i64 0, .nils], fields := [some (0, 1, false), some (1, 1, false), some (2, 3, true), some (5, 1, false), some (6, 1, false), some (7, 1, false), some (8, 1, false), some (9, 1, false)], arr := none, slc := none, int := none, isBool := false, isStr := false, eqg := false } := by kernel_rfl
theorem td63 : td Try.prog 63 = some { size := 1, bytes := 24, agg := false, strct := false, zero := some [.nils], fields := [], arr := none, slc := some (68, 3), int := none, isBool := false, isStr := false, eqg := false } := by kernel_rfl
theorem td68 : td Try.prog 68 = some { size := 3, bytes := 56, agg := true, strct := true, zero := some [.int .i64 0, .nils, .nils], fields := [some (0, 1, false), some (1, 1, false), some (2, 1, false)], arr := none, slc := none, int := none, isBool := false, isStr := false, eqg := false } := by kernel_rfl
theorem td71 : td Try.prog 71 = some { size := 1, bytes := 8, agg := true, strct := true, zero := some [.int .i64 0], fields := [some (0, 1, false)], arr := none, slc := none, int := none, isBool := false, isStr := false, eqg := false } := by kernel_rfl
theorem td75 : td Try.prog 75 = some { size := 42, bytes := 392, agg := true, strct := false, zero := some [.int .i64 0, .int .i64 0, .str ⟨#[]⟩, .int .i64 0, .int .i64 0, .int .i64 0, .int .i64 0, .int .i64 0, .str ⟨#[]⟩, .int .i64 0, .int .i64 0, .int .i64 0, .int .i64 0, .int .i64 0, .str ⟨#[]⟩, .int .i64 0, .int .i64 0, .int .i64 0, .int .i64 0, .int .i64 0, .str ⟨#[]⟩, .int .i64 0, .int .i64 0, .int .i64 0, .int .i64 0, .int .i64 0, .str ⟨#[]⟩, .int .i64 0, .int .i64 0, .int .i64 0, .int .i64 0, .int .i64 0, .str ⟨#[]⟩, .int .i64 0, .int .i64 0, .int .i64 0, .int .i64 0, .int .i64 0, .str ⟨#[]⟩, .int .i64 0, .int .i64 0, .int .i64 0], fields := [], arr := some (7, 6, true), slc := none, int := none, isBool := false, isStr := false, eqg := false } := by kernel_rfl
theorem td100 : td Try.prog 100 = some { size := 1, bytes := 8, agg := false, strct := false, zero := some [.int .i64 0], fields := [], arr := none, slc := none, int := some .i64, isBool := false, isStr := false, eqg := false } := by kernel_rfl
theorem td101 : td Try.prog 101 = some { size := 1, bytes := 8, agg := false, strct := false, zero := some [.int .i64 0], fields := [], arr := none, slc := none, int := some .i64, isBool := false, isStr := false, eqg := false } := by kernel_rfl
theorem td102 : td Try.prog 102 = some { size := 1, bytes := 16, agg := false, strct := false, zero := some [.str ⟨#[]⟩], fields := [], arr := none, slc := none, int := none, isBool := false, isStr := true, eqg := false } := by kernel_rfl
theorem td103 : td Try.prog 103 = some { size := 1, bytes := 16, agg := false, strct := false, zero := some [.str ⟨#[]⟩], fields := [], arr := none, slc := none, int := none, isBool := false, isStr := true, eqg := false } := by kernel_rfl
theorem td104 : td Try.prog 104 = some { size := 3, bytes := 24, agg := true, strct := true, zero := some [.int .i64 0, .int .i64 0, .int .i64 0], fields := [some (0, 1, false), some (1, 1, false), some (2, 1, false)], arr := none, slc := none, int := none, isBool := false, isStr := false, eqg := false } := by kernel_rfl
theorem td111 : td Try.prog 111 = some { size := 1, bytes := 24, agg := false, strct := false, zero := some [.nils], fields := [], arr := none, slc := some (3, 1), int := none, isBool := false, isStr := false, eqg := false } := by kernel_rfl
theorem td112 : td Try.prog 112 = some { size := 1, bytes := 8, agg := false, strct := false, zero := some [.int .u64 0], fields := [], arr := none, slc := none, int := some .u64, isBool := false, isStr := false, eqg := false } := by kernel_rfl
attribute [simp] td3 td4 td5 td9 td19 td22 td25 td28 td29 td31 td32 td37 td41 td45 td46 td50 td63 td68 td71 td75 td100 td101 td102 td103 td104 td111 td112 
theorem eq25 (x0 y0 : Int) (x1 y1 : Int) (x2 y2 : Bool) (x3 y3 : Int) (x4 y4 : Int) : eqV Try.prog 6 25 (.agg [.int .i64 x0, .int .i64 x1, .bool x2, .int .i64 x3, .int .i64 x4]) (.agg [.int .i64 y0, .int .i64 y1, .bool y2, .int .i64 y3, .int .i64 y4]) = some (ieq x0 y0 && (ieq x1 y1 && ((x2 == y2) && (ieq x3 y3 && (ieq x4 y4 && true))))) := by kernel_rfl
theorem eq28 (x0 y0 : Int) (x1 y1 : Int) (x2 y2 : Int) : eqV Try.prog 6 28 (.agg [.int .i64 x0, .int .i64 x1, .int .i64 x2]) (.agg [.int .i64 y0, .int .i64 y1, .int .i64 y2]) = some (ieq x0 y0 && (ieq x1 y1 && (ieq x2 y2 && true))) := by kernel_rfl
theorem eq37 (x0 y0 : Int) (x1 y1 : Int) (x2 y2 : Bool) : eqV Try.prog 6 37 (.agg [.int .i64 x0, .int .i64 x1, .bool x2]) (.agg [.int .i64 y0, .int .i64 y1, .bool y2]) = some (ieq x0 y0 && (ieq x1 y1 && ((x2 == y2) && true))) := by kernel_rfl
theorem eq45 (x0 y0 : Int) (x1 y1 : Int) (x2 y2 : ByteArray) (x3 y3 : Int) (x4 y4 : Int) (x5 y5 : Int) : eqV Try.prog 6 45 (.agg [.int .i64 x0, .int .i64 x1, .str x2, .int .i64 x3, .int .i64 x4, .int .i64 x5]) (.agg [.int .i64 y0, .int .i64 y1, .str y2, .int .i64 y3, .int .i64 y4, .int .i64 y5]) = some (ieq x0 y0 && (ieq x1 y1 && ((x2.toList == y2.toList) && ((ieq x3 y3 && (ieq x4 y4 && (ieq x5 y5 && true))) && true)))) := by kernel_rfl
theorem eq71 (x0 y0 : Int) : eqV Try.prog 6 71 (.agg [.int .i64 x0]) (.agg [.int .i64 y0]) = some (ieq x0 y0 && true) := by kernel_rfl
theorem eq104 (x0 y0 : Int) (x1 y1 : Int) (x2 y2 : Int) : eqV Try.prog 6 104 (.agg [.int .i64 x0, .int .i64 x1, .int .i64 x2]) (.agg [.int .i64 y0, .int .i64 y1, .int .i64 y2]) = some (ieq x0 y0 && (ieq x1 y1 && (ieq x2 y2 && true))) := by kernel_rfl
attribute [simp] eq25 eq28 eq37 eq45 eq71 eq104
end Go.Proofs.Ytpkibnkhllefaaa
end
section
namespace Go.Proofs.Ytpkibnkhllefaaa
open Go.Pv Go.RowKit
set_option linter.unusedSimpArgs false
set_option linter.unusedVariables false
set_option maxRecDepth 100000
set_option maxHeartbeats 4000000

theorem tmod_fix {n m : Int} (hm : 0 < m) : (if n.tmod m < 0 then n.tmod m + m else n.tmod m) = n % m := by
  rw [Int.tmod_eq_emod]
  have h1 := Int.emod_nonneg n (show m ≠ 0 by omega)
  have h2 := Int.emod_lt_of_pos n hm
  by_cases h : 0 ≤ n ∨ m ∣ n
  · simp [h, show ¬ n % m < 0 by omega]
  · simp only [h, if_false]
    have : (m.toNat : Int) = m := Int.toNat_of_nonneg (by omega)
    split <;> omega
theorem tdiv_fix {n m : Int} (hm : 0 < m) : (if n.tmod m < 0 then n.tdiv m - 1 else n.tdiv m) = n / m := by
  have h1 := Int.mul_tdiv_add_tmod n m
  have h3 := Int.mul_ediv_add_emod n m
  have h4 := tmod_fix (n := n) hm
  have h5 := Int.emod_nonneg n (show m ≠ 0 by omega)
  have h6 := Int.emod_lt_of_pos n hm
  by_cases h : n.tmod m < 0
  · simp only [h, if_true] at h4 ⊢
    have : m * (n.tdiv m - 1) = m * (n / m) := by rw [Int.mul_sub]; omega
    exact Int.eq_of_mul_eq_mul_left (by omega) this
  · simp only [h, if_false] at h4 ⊢
    have : m * (n.tdiv m) = m * (n / m) := by omega
    exact Int.eq_of_mul_eq_mul_left (by omega) this
theorem within_ok (n m : Int) (hm : 0 < m) (hm2 : m ≤ 4611686018427387904) : PCall Try.prog 4 [.int .i64 n, .int .i64 m] (.int .i64 (n % m)) := by
  have h0 : m ≠ 0 := by omega
  have h1 := tmod_fix (n := n) hm
  have h2 := Int.emod_nonneg n h0
  have h3 := Int.emod_lt_of_pos n hm
  cases hn : ilt (n.tmod m) 0
  · have h4 : n.tmod m = n % m := by rw [← h1, if_neg (by have := ilt_iff'.1 hn; omega)]
    rw [h4] at hn
    clear h1 h2 h3
    refine pcall_cx noTab_ok mixed (fun _ => none) Try.func4 rfl Try.ntmps4 Try.results4 (by simp) (by kernel_rfl) ?_
    repeat' first
      | (with_reducible refine gw_bool (fun _ => ?_) (fun _ => ?_))
      | (with_reducible refine condw_bool (fun _ => ?_) (fun _ => ?_))
      | simp [*]
  · have h4 : n.tmod m + m = n % m := by rw [← h1, if_pos (ilt_iff.1 hn)]
    have h5 : IntKind.i64.wrap (n.tmod m + m) = n % m := by rw [h4]; exact wrap_id (by omega) (by omega)
    clear h1 h2 h3 h4
    refine pcall_cx noTab_ok mixed (fun _ => none) Try.func4 rfl Try.ntmps4 Try.results4 (by simp) (by kernel_rfl) ?_
    repeat' first
      | (with_reducible refine gw_bool (fun _ => ?_) (fun _ => ?_))
      | (with_reducible refine condw_bool (fun _ => ?_) (fun _ => ?_))
      | simp [*]
def Twithin : List V → Option V
  | [.int .i64 n, .int .i64 m] => bif decide (0 < m) && decide (m ≤ 4611686018427387904) then some (.int .i64 (n % m)) else none
  | _ => none
theorem within_tab : ∀ vs v, Twithin vs = some v → PCall Try.prog 4 vs v := by
  intro vs v h; unfold Twithin at h; split at h
  · simp only [cond_eq_ite, Bool.and_eq_true, decide_eq_true_eq] at h
    split at h
    · rename_i hc; cases h; exact within_ok _ _ hc.1 hc.2
    · cases h
  · cases h
theorem split_ok (n : Int) (h1 : -4611686018427387904 ≤ n) (h2 : n ≤ 4611686018427387904) : PCall Try.prog 14 [.int .i64 n] (.tup [.int .i64 (n / 1000000), .int .i64 (n % 1000000)]) := by
  have h3 := tmod_fix (n := n) (m := 1000000) (by omega)
  have h4 := tdiv_fix (n := n) (m := 1000000) (by omega)
  cases hn : ilt (n.tmod 1000000) 0
  · have hh := ilt_iff'.1 hn
    rw [if_neg (by omega)] at h3 h4
    have w1 : IntKind.i64.wrap (n.tdiv 1000000) = n / 1000000 := by rw [h4]; exact wrap_id (by omega) (by omega)
    rw [h3] at hn
    clear h4 hh
    refine pcall_cx noTab_ok mixed (fun _ => none) Try.func14 rfl Try.ntmps14 Try.results14 (by simp) (by kernel_rfl) ?_
    repeat' first
      | (with_reducible refine gw_bool (fun _ => ?_) (fun _ => ?_))
      | (with_reducible refine condw_bool (fun _ => ?_) (fun _ => ?_))
      | simp [*]
  · have hh := ilt_iff.1 hn
    rw [if_pos hh] at h3 h4
    have w0 : IntKind.i64.wrap (n.tdiv 1000000) = n.tdiv 1000000 := wrap_id (by omega) (by omega)
    have w1 : IntKind.i64.wrap (n.tdiv 1000000 - 1) = n / 1000000 := by rw [h4]; exact wrap_id (by omega) (by omega)
    have w2 : IntKind.i64.wrap (n.tmod 1000000 + 1000000) = n % 1000000 := by rw [h3]; exact wrap_id (by omega) (by omega)
    clear h3 h4 hh
    refine pcall_cx noTab_ok mixed (fun _ => none) Try.func14 rfl Try.ntmps14 Try.results14 (by simp) (by kernel_rfl) ?_
    repeat' first
      | (with_reducible refine gw_bool (fun _ => ?_) (fun _ => ?_))
      | (with_reducible refine condw_bool (fun _ => ?_) (fun _ => ?_))
      | simp [*]
def Tsplit : List V → Option V
  | [.int .i64 n] => bif decide (-4611686018427387904 ≤ n) && decide (n ≤ 4611686018427387904) then some (.tup [.int .i64 (n / 1000000), .int .i64 (n % 1000000)]) else none
  | _ => none
theorem split_tab : ∀ vs v, Tsplit vs = some v → PCall Try.prog 14 vs v := by
  intro vs v h; unfold Tsplit at h; split at h
  · simp only [cond_eq_ite, Bool.and_eq_true, decide_eq_true_eq] at h
    split at h
    · rename_i hc; cases h; exact split_ok _ hc.1 hc.2
    · cases h
  · cases h
structure Ck where
  t : Int
  r : Int
  k : Bool
  e : Int
  s : Int
def Ck.v (c : Ck) : V := .agg [.int .i64 c.t, .int .i64 c.r, .bool c.k, .int .i64 c.e, .int .i64 c.s]
theorem new_ok (t : Int) : PCall Try.prog 5 [.int .i64 t] (Ck.v ⟨t, 0, false, 0, 0⟩) := by
  refine pcall_cx noTab_ok mixed (fun _ => none) Try.func5 rfl Try.ntmps5 Try.results5 (by simp) (by kernel_rfl) ?_
  repeat' first
    | (with_reducible refine gw_bool (fun _ => ?_) (fun _ => ?_))
    | (with_reducible refine condw_bool (fun _ => ?_) (fun _ => ?_))
    | simp [*, Ck.v]
def Tnew : List V → Option V
  | [.int .i64 t] => some (Ck.v ⟨t, 0, false, 0, 0⟩)
  | _ => none
def G1 : Tab := add 4 Twithin (add 14 Tsplit (add 5 Tnew (noTab)))
theorem G1_at (f : FuncId) (vs : List V) : G1.at' f vs = if f = 4 then Twithin vs else if f = 14 then Tsplit vs else if f = 5 then Tnew vs else noTab.at' f vs := rfl
theorem G1_fr (f : FuncId) : G1.fr f = if f = 4 then false else if f = 14 then false else if f = 5 then false else noTab.fr f := rfl
theorem G1_gb (f : FuncId) : G1.gb f = noTab.gb f := rfl
theorem G1_gv (f : FuncId) (vs : List V) : G1.gv f vs = noTab.gv f vs := rfl
attribute [simp] G1_at G1_fr G1_gb G1_gv Tnew Tsplit Twithin
theorem G1_ok : TabOK Try.prog G1 := by
  refine add_ok (add_ok (add_ok (noTab_ok) (by kernel_rfl) ?_) (by kernel_rfl) ?_) (by kernel_rfl) ?_
  · intro vs v h; unfold Tnew at h; split at h
    · cases h; apply new_ok
    · cases h
  · exact split_tab
  · exact within_tab
/-- A clock whose numbers are far from the ends of their range. -/
def Ck.ok (c : Ck) : Bool := decide (-1152921504606846976 ≤ c.t) && decide (c.t ≤ 1152921504606846976) && decide (0 ≤ c.r) && decide (c.r ≤ 1000000) && decide (0 ≤ c.e) && decide (c.e ≤ 1000000) && decide (0 ≤ c.s) && decide (c.s ≤ 1099511627776)
def lim (d : Int) : Int := min (max d (-100)) 100
def stC (c : Ck) (d : Int) : Ck := ⟨c.t + 20000 + (c.r + 20000 * lim d) / 1000000, (c.r + 20000 * lim d) % 1000000, c.k, c.e, if c.k then c.s + 1 else c.s⟩
theorem ok_iff {c : Ck} : c.ok = true ↔ (-1152921504606846976 ≤ c.t ∧ c.t ≤ 1152921504606846976 ∧ 0 ≤ c.r ∧ c.r ≤ 1000000 ∧ 0 ≤ c.e ∧ c.e ≤ 1000000 ∧ 0 ≤ c.s ∧ c.s ≤ 1099511627776) := by
  simp only [Ck.ok, Bool.and_eq_true, decide_eq_true_eq]
  constructor
  · rintro ⟨⟨⟨⟨⟨⟨⟨h1, h2⟩, h3⟩, h4⟩, h5⟩, h6⟩, h7⟩, h8⟩; exact ⟨h1, h2, h3, h4, h5, h6, h7, h8⟩
  · rintro ⟨h1, h2, h3, h4, h5, h6, h7, h8⟩; exact ⟨⟨⟨⟨⟨⟨⟨h1, h2⟩, h3⟩, h4⟩, h5⟩, h6⟩, h7⟩, h8⟩
theorem step_ok (t r : Int) (k : Bool) (e s d : Int) (h : Ck.ok ⟨t, r, k, e, s⟩ = true) : PCall Try.prog 7 [.agg [.int .i64 t, .int .i64 r, .bool k, .int .i64 e, .int .i64 s], .int .i64 d] (stC ⟨t, r, k, e, s⟩ d).v := by
  have hb := ok_iff.1 h
  simp only at hb
  obtain ⟨l, hl⟩ : ∃ l, lim d = l := ⟨_, rfl⟩
  have hl' : min (max d (-100)) 100 = l := hl
  have hlb : -100 ≤ l ∧ l ≤ 100 := by rw [← hl']; omega
  obtain ⟨q, hq⟩ : ∃ q, r + 20000 * l = q := ⟨_, rfl⟩
  have w1 : IntKind.i64.wrap (20000 * l) = 20000 * l := wrap_id (by omega) (by omega)
  have w2 : IntKind.i64.wrap q = q := wrap_id (by omega) (by omega)
  have w3 : IntKind.i64.wrap (20000 + q / 1000000) = 20000 + q / 1000000 := wrap_id (by omega) (by omega)
  have w4 : IntKind.i64.wrap (t + (20000 + q / 1000000)) = t + (20000 + q / 1000000) := wrap_id (by omega) (by omega)
  have w5 : IntKind.i64.wrap (s + 1) = s + 1 := wrap_id (by omega) (by omega)
  have c1 : -4611686018427387904 ≤ q := by omega
  have c2 : q ≤ 4611686018427387904 := by omega
  have hfin : stC ⟨t, r, k, e, s⟩ d = ⟨t + (20000 + q / 1000000), q % 1000000, k, e, if k then s + 1 else s⟩ := by
    simp only [stC, hl, hq, Ck.mk.injEq, and_true]; omega
  rw [hfin]
  clear hb hlb hl hfin h
  cases k
  · refine pcall_cx G1_ok mixed (fun _ => none) Try.func7 rfl Try.ntmps7 Try.results7 (by simp) (by kernel_rfl) ?_
    repeat' first
      | (with_reducible refine gw_bool (fun _ => ?_) (fun _ => ?_))
      | (with_reducible refine condw_bool (fun _ => ?_) (fun _ => ?_))
      | simp [*, Ck.v]
  · refine pcall_cx G1_ok mixed (fun _ => none) Try.func7 rfl Try.ntmps7 Try.results7 (by simp) (by kernel_rfl) ?_
    repeat' first
      | (with_reducible refine gw_bool (fun _ => ?_) (fun _ => ?_))
      | (with_reducible refine condw_bool (fun _ => ?_) (fun _ => ?_))
      | simp [*, Ck.v]
def Tstep : List V → Option V
  | [.agg [.int .i64 t, .int .i64 r, .bool k, .int .i64 e, .int .i64 s], .int .i64 d] => bif Ck.ok ⟨t, r, k, e, s⟩ then some (stC ⟨t, r, k, e, s⟩ d).v else none
  | _ => none
theorem step_tab : ∀ vs v, Tstep vs = some v → PCall Try.prog 7 vs v := by
  intro vs v h; unfold Tstep at h; split at h
  · simp only [cond_eq_ite] at h
    split at h
    · rename_i hc; cases h; exact step_ok _ _ _ _ _ _ hc
    · cases h
  · cases h
def syC (c : Ck) (ref acc : Int) : Ck × Int := if ilt acc 0 || ilt 1000 acc || ilt ref (-1125899906842624) || ilt 1125899906842624 ref then (c, 2) else (⟨ref, 0, true, acc, 0⟩, 0)
def vE (y : Ck × Int) : V := .tup [y.1.v, .int .i64 y.2]
theorem sync_ok (t r : Int) (k : Bool) (e s ref acc : Int) : PCall Try.prog 8 [.agg [.int .i64 t, .int .i64 r, .bool k, .int .i64 e, .int .i64 s], .int .i64 ref, .int .i64 acc] (vE (syC ⟨t, r, k, e, s⟩ ref acc)) := by
  refine pcall_cx noTab_ok mixed (fun _ => none) Try.func8 rfl Try.ntmps8 Try.results8 (by simp) (by kernel_rfl) ?_
  repeat' first
    | (with_reducible refine gw_bool (fun _ => ?_) (fun _ => ?_))
    | (with_reducible refine condw_bool (fun _ => ?_) (fun _ => ?_))
    | simp [*, syC, vE, Ck.v]
def Tsync : List V → Option V
  | [.agg [.int .i64 t, .int .i64 r, .bool k, .int .i64 e, .int .i64 s], .int .i64 ref, .int .i64 acc] => some (vE (syC ⟨t, r, k, e, s⟩ ref acc))
  | _ => none
def G3 : Tab := add 7 Tstep (add 8 Tsync (G1))
theorem G3_at (f : FuncId) (vs : List V) : G3.at' f vs = if f = 7 then Tstep vs else if f = 8 then Tsync vs else G1.at' f vs := rfl
theorem G3_fr (f : FuncId) : G3.fr f = if f = 7 then false else if f = 8 then false else G1.fr f := rfl
theorem G3_gb (f : FuncId) : G3.gb f = G1.gb f := rfl
theorem G3_gv (f : FuncId) (vs : List V) : G3.gv f vs = G1.gv f vs := rfl
attribute [simp] G3_at G3_fr G3_gb G3_gv Tstep Tsync
theorem G3_ok : TabOK Try.prog G3 := by
  refine add_ok (add_ok (G1_ok) (by kernel_rfl) ?_) (by kernel_rfl) ?_
  · intro vs v h; unfold Tsync at h; split at h
    · cases h; apply sync_ok
    · cases h
  · exact step_tab
theorem r0_int {w : World} {ro : Nat → Prop} {k : IntKind} {n : Int} {x : Value} (h : R0 w ro (.int k n) x) : x = .int k n := by cases h; rfl
theorem add64_ext (x y c : Int) (hx : 0 ≤ x) (hy : 0 ≤ y) (hc0 : 0 ≤ c) (hc : c ≤ 1) : PExt Try.prog 51 [.int .u64 x, .int .u64 y, .int .u64 c] (.tup [.int .u64 ((x + y + c) % 18446744073709551616), .int .u64 ((x + y + c) / 18446744073709551616)]) := by
  intro w ro args hsz hr
  have hargs : args = #[.int .u64 x, .int .u64 y, .int .u64 c] := by
    apply Array.ext
    · simpa using hsz
    · intro i h1 h2
      have h3 : i = 0 ∨ i = 1 ∨ i = 2 := by simp at h2; omega
      rcases h3 with rfl | rfl | rfl
      · exact r0_int (hr 0 _ _ rfl (Array.getElem?_eq_getElem h1))
      · exact r0_int (hr 1 _ _ rfl (Array.getElem?_eq_getElem h1))
      · exact r0_int (hr 2 _ _ rfl (Array.getElem?_eq_getElem h1))
  subst hargs
  refine ⟨.tuple #[.int .u64 ((x + y + c) % 18446744073709551616), .int .u64 ((x + y + c) / 18446744073709551616)], ?_, ?_⟩
  · rw [run_callFunc_extern (e := add64Entry) Try.func51 (by kernel_rfl) (by kernel_rfl) (by kernel_rfl) (by kernel_rfl), run_add64 x y c hx hy hc0 hc]
    rfl
  · refine .tup _ _ rfl fun j c' x' hc' hx' => ?_
    have h3 : j = 0 ∨ j = 1 := by
      have := (List.getElem?_eq_some_iff.1 hc').1
      simp at this; omega
    rcases h3 with rfl | rfl
    · simp at hc' hx'; subst hc'; subst hx'; exact .int _ _
    · simp at hc' hx'; subst hc'; subst hx'; exact .int _ _
def Tadd64 : List V → Option V
  | [.int .u64 x, .int .u64 y, .int .u64 c] => bif decide (0 ≤ x) && (decide (0 ≤ y) && (decide (0 ≤ c) && decide (c ≤ 1))) then some (.tup [.int .u64 ((x + y + c) % 18446744073709551616), .int .u64 ((x + y + c) / 18446744073709551616)]) else none
  | _ => none
theorem add64_tab : ∀ vs v, Tadd64 vs = some v → extFlat v = true ∧ PExt Try.prog 51 vs v := by
  intro vs v h; unfold Tadd64 at h; split at h
  · simp only [cond_eq_ite, Bool.and_eq_true, decide_eq_true_eq] at h
    split at h
    · rename_i hc; cases h; exact ⟨rfl, add64_ext _ _ _ hc.1 hc.2.1 hc.2.2.1 hc.2.2.2⟩
    · cases h
  · cases h
def G4 : Tab := add 51 Tadd64 (G3)
theorem G4_at (f : FuncId) (vs : List V) : G4.at' f vs = if f = 51 then Tadd64 vs else G3.at' f vs := rfl
theorem G4_fr (f : FuncId) : G4.fr f = if f = 51 then false else G3.fr f := rfl
theorem G4_gb (f : FuncId) : G4.gb f = G3.gb f := rfl
theorem G4_gv (f : FuncId) (vs : List V) : G4.gv f vs = G3.gv f vs := rfl
attribute [simp] G4_at G4_fr G4_gb G4_gv Tadd64
theorem G4_ok : TabOK Try.prog G4 := by
  refine addE_ok (G3_ok) ?_
  · exact add64_tab
theorem wu_id {n : Int} (h1 : 0 ≤ n) (h2 : n < 18446744073709551616) : IntKind.u64.wrap n = n := by
  simp only [IntKind.wrap, IntKind.signed, IntKind.bits]; simp; omega
theorem total_ok (e s : Int) (e0 : 0 ≤ e) (e1 : e ≤ 1000000) (s0 : 0 ≤ s) (s1 : s ≤ 1099511627776) : PCall Try.prog 41 [.list 1 [[.int .i64 e], [.int .i64 s], [.int .i64 s], [.int .i64 1]]] (.int .i64 (e + s + s + 1)) := by
  have a1 : IntKind.u64.wrap e = e := wu_id (by omega) (by omega)
  have a2 : IntKind.u64.wrap s = s := wu_id (by omega) (by omega)
  have a3 : IntKind.u64.wrap 1 = 1 := by decide
  have a4 : IntKind.u64.wrap 0 = 0 := by decide
  have b1 : e % 18446744073709551616 = e := by omega
  have b2 : e / 18446744073709551616 = 0 := by omega
  have b3 : (e + s) % 18446744073709551616 = e + s := by omega
  have b4 : (e + s) / 18446744073709551616 = 0 := by omega
  have b5 : (e + s + s) % 18446744073709551616 = e + s + s := by omega
  have b6 : (e + s + s) / 18446744073709551616 = 0 := by omega
  have b7 : (e + s + s + 1) % 18446744073709551616 = e + s + s + 1 := by omega
  have b8 : (e + s + s + 1) / 18446744073709551616 = 0 := by omega
  have c1 : e.fdiv 9223372036854775808 = 0 := by rw [Int.fdiv_eq_ediv_of_nonneg _ (by decide)]; omega
  have c2 : s.fdiv 9223372036854775808 = 0 := by rw [Int.fdiv_eq_ediv_of_nonneg _ (by decide)]; omega
  have c3 : (e + s + s + 1).fdiv 9223372036854775808 = 0 := by rw [Int.fdiv_eq_ediv_of_nonneg _ (by decide)]; omega
  have c4 : (1 : Int).fdiv 9223372036854775808 = 0 := by decide
  have d1 : 0 ≤ e + s := by omega
  have d2 : 0 ≤ e + s + s := by omega
  have w1 : IntKind.i64.wrap (e + s + s + 1) = e + s + s + 1 := wrap_id (by omega) (by omega)
  refine pcall_cx G4_ok mixed (fun _ => none) Try.func41 rfl Try.ntmps41 Try.results41 (by simp) (by kernel_rfl) ?_
  repeat' first
    | (with_reducible refine gw_bool (fun _ => ?_) (fun _ => ?_))
    | (with_reducible refine condw_bool (fun _ => ?_) (fun _ => ?_))
    | (refine lp_unroll (D := (fun _ => none)) G4_ok mixed (by kernel_rfl) ?_)
    | simp [*, IntKind.bits]
def Ttotal : List V → Option V
  | [.list 1 [[.int .i64 e], [.int .i64 s], [.int .i64 s'], [.int .i64 1]]] => bif decide (0 ≤ e) && (decide (e ≤ 1000000) && (decide (0 ≤ s) && (decide (s ≤ 1099511627776) && decide (s = s')))) then some (.int .i64 (e + s + s + 1)) else none
  | _ => none
theorem total_tab : ∀ vs v, Ttotal vs = some v → PCall Try.prog 41 vs v := by
  intro vs v h; unfold Ttotal at h; split at h
  · simp only [cond_eq_ite, Bool.and_eq_true, decide_eq_true_eq] at h
    split at h
    · rename_i hc; obtain ⟨h1, h2, h3, h4, rfl⟩ := hc; cases h; exact total_ok _ _ h1 h2 h3 h4
    · cases h
  · cases h
def G5 : Tab := add 41 Ttotal (G4)
theorem G5_at (f : FuncId) (vs : List V) : G5.at' f vs = if f = 41 then Ttotal vs else G4.at' f vs := rfl
theorem G5_fr (f : FuncId) : G5.fr f = if f = 41 then false else G4.fr f := rfl
theorem G5_gb (f : FuncId) : G5.gb f = G4.gb f := rfl
theorem G5_gv (f : FuncId) (vs : List V) : G5.gv f vs = G4.gv f vs := rfl
attribute [simp] G5_at G5_fr G5_gb G5_gv Ttotal
theorem G5_ok : TabOK Try.prog G5 := by
  refine add_ok (G4_ok) (by kernel_rfl) ?_
  · exact total_tab
def bdC (c : Ck) : Int × Bool := if c.k then (c.e + c.s + c.s + 1, true) else (0, false)
theorem bound_ok (t r : Int) (k : Bool) (e s : Int) (h : Ck.ok ⟨t, r, k, e, s⟩ = true) : PCall Try.prog 29 [.agg [.int .i64 t, .int .i64 r, .bool k, .int .i64 e, .int .i64 s]] (.tup [.int .i64 (bdC ⟨t, r, k, e, s⟩).1, .bool (bdC ⟨t, r, k, e, s⟩).2]) := by
  obtain ⟨_, _, _, _, h1, h2, h3, h4⟩ := ok_iff.1 h
  simp only at h1 h2 h3 h4
  clear h
  cases k
  · refine pcall_cx G5_ok mixed (fun _ => none) Try.func29 rfl Try.ntmps29 Try.results29 (by simp) (by kernel_rfl) ?_
    repeat' first
      | (with_reducible refine gw_bool (fun _ => ?_) (fun _ => ?_))
      | (with_reducible refine condw_bool (fun _ => ?_) (fun _ => ?_))
      | simp [*, bdC]
  · refine pcall_cx G5_ok mixed (fun _ => none) Try.func29 rfl Try.ntmps29 Try.results29 (by simp) (by kernel_rfl) ?_
    repeat' first
      | (with_reducible refine gw_bool (fun _ => ?_) (fun _ => ?_))
      | (with_reducible refine condw_bool (fun _ => ?_) (fun _ => ?_))
      | simp [*, bdC]
def Tbound : List V → Option V
  | [.agg [.int .i64 t, .int .i64 r, .bool k, .int .i64 e, .int .i64 s]] => bif Ck.ok ⟨t, r, k, e, s⟩ then some (.tup [.int .i64 (bdC ⟨t, r, k, e, s⟩).1, .bool (bdC ⟨t, r, k, e, s⟩).2]) else none
  | _ => none
theorem bound_tab : ∀ vs v, Tbound vs = some v → PCall Try.prog 29 vs v := by
  intro vs v h; unfold Tbound at h; split at h
  · simp only [cond_eq_ite] at h
    split at h
    · rename_i hc; cases h; exact bound_ok _ _ _ _ _ hc
    · cases h
  · cases h
def G6 : Tab := add 29 Tbound (G5)
theorem G6_at (f : FuncId) (vs : List V) : G6.at' f vs = if f = 29 then Tbound vs else G5.at' f vs := rfl
theorem G6_fr (f : FuncId) : G6.fr f = if f = 29 then false else G5.fr f := rfl
theorem G6_gb (f : FuncId) : G6.gb f = G5.gb f := rfl
theorem G6_gv (f : FuncId) (vs : List V) : G6.gv f vs = G5.gv f vs := rfl
attribute [simp] G6_at G6_fr G6_gb G6_gv Tbound
theorem G6_ok : TabOK Try.prog G6 := by
  refine add_ok (G5_ok) (by kernel_rfl) ?_
  · exact bound_tab
def clC (c : Ck) : Int := if !(bdC c).2 || ilt 1000 (bdC c).1 then 2 else if !ilt 4 c.s then 0 else 1
theorem class_ok (t r : Int) (k : Bool) (e s : Int) (h : Ck.ok ⟨t, r, k, e, s⟩ = true) : PCall Try.prog 13 [.agg [.int .i64 t, .int .i64 r, .bool k, .int .i64 e, .int .i64 s]] (.int .i64 (clC ⟨t, r, k, e, s⟩)) := by
  refine pcall_cx G6_ok mixed (fun _ => none) Try.func13 rfl Try.ntmps13 Try.results13 (by simp) (by kernel_rfl) ?_
  repeat' first
    | (with_reducible refine gw_bool (fun _ => ?_) (fun _ => ?_))
    | (with_reducible refine condw_bool (fun _ => ?_) (fun _ => ?_))
    | simp [*, clC]
def Tclass : List V → Option V
  | [.agg [.int .i64 t, .int .i64 r, .bool k, .int .i64 e, .int .i64 s]] => bif Ck.ok ⟨t, r, k, e, s⟩ then some (.int .i64 (clC ⟨t, r, k, e, s⟩)) else none
  | _ => none
theorem class_tab : ∀ vs v, Tclass vs = some v → PCall Try.prog 13 vs v := by
  intro vs v h; unfold Tclass at h; split at h
  · simp only [cond_eq_ite] at h
    split at h
    · rename_i hc; cases h; exact class_ok _ _ _ _ _ hc
    · cases h
  · cases h
def G7 : Tab := add 13 Tclass (G6)
theorem G7_at (f : FuncId) (vs : List V) : G7.at' f vs = if f = 13 then Tclass vs else G6.at' f vs := rfl
theorem G7_fr (f : FuncId) : G7.fr f = if f = 13 then false else G6.fr f := rfl
theorem G7_gb (f : FuncId) : G7.gb f = G6.gb f := rfl
theorem G7_gv (f : FuncId) (vs : List V) : G7.gv f vs = G6.gv f vs := rfl
attribute [simp] G7_at G7_fr G7_gb G7_gv Tclass
theorem G7_ok : TabOK Try.prog G7 := by
  refine add_ok (G6_ok) (by kernel_rfl) ?_
  · exact class_tab
theorem and32 {a : Int} (h0 : 0 ≤ a) (h1 : a < 9223372036854775808) : (BitVec.ofInt 64 a &&& BitVec.ofInt 64 4294967295).toNat = (a % 4294967296).toNat := by
  obtain ⟨n, rfl⟩ := Int.eq_ofNat_of_zero_le h0
  have e1 : (BitVec.ofInt 64 (n : Int)).toNat = n := by
    rw [BitVec.toNat_ofInt]
    simp
    omega
  have e2 : (BitVec.ofInt 64 4294967295).toNat = 2 ^ 32 - 1 := by decide
  rw [BitVec.toNat_and, e1, e2, Nat.and_two_pow_sub_one_eq_mod]
  omega
def spC (c : Ck) : Int × Int := (c.t / 1000000 % 4294967296, c.t % 1000000 * 16777216 / 1000000)
theorem stamp_ok (t r : Int) (k : Bool) (e s : Int) (h : Ck.ok ⟨t, r, k, e, s⟩ = true) (ht : 0 ≤ t) : PCall Try.prog 9 [.agg [.int .i64 t, .int .i64 r, .bool k, .int .i64 e, .int .i64 s]] (.agg [.int .i64 (spC ⟨t, r, k, e, s⟩).1, .int .i64 (spC ⟨t, r, k, e, s⟩).2, .int .i64 (clC ⟨t, r, k, e, s⟩)]) := by
  have hb := ok_iff.1 h
  simp only at hb
  obtain ⟨q, hq⟩ : ∃ q, t / 1000000 = q := ⟨_, rfl⟩
  obtain ⟨m, hm⟩ : ∃ m, t % 1000000 = m := ⟨_, rfl⟩
  have a1 := and32 (a := q) (by omega) (by omega)
  have a1' : (BitVec.ofInt 64 q &&& 4294967295#64).toNat = (q % 4294967296).toNat := a1
  have a2 : IntKind.i64.wrap ((q % 4294967296).toNat : Int) = q % 4294967296 := by
    rw [Int.toNat_of_nonneg (by omega)]; exact wrap_id (by omega) (by omega)
  have a2' : IntKind.i64.wrap (max (q % 4294967296) 0) = q % 4294967296 := by
    rw [Int.max_eq_left (by omega)]; exact wrap_id (by omega) (by omega)
  have a3 : IntKind.i64.wrap (m * 16777216) = m * 16777216 := wrap_id (by omega) (by omega)
  have a4 : (m * 16777216).tdiv 1000000 = m * 16777216 / 1000000 := Int.tdiv_eq_ediv_of_nonneg (by omega)
  have a5 : IntKind.i64.wrap (m * 16777216 / 1000000) = m * 16777216 / 1000000 := wrap_id (by omega) (by omega)
  have c1 : -4611686018427387904 ≤ t := by omega
  have c2 : t ≤ 4611686018427387904 := by omega
  simp only [spC, hq, hm]
  clear hb ht
  refine pcall_cx G7_ok mixed (fun _ => none) Try.func9 rfl Try.ntmps9 Try.results9 (by simp) (by kernel_rfl) ?_
  repeat' first
    | (with_reducible refine gw_bool (fun _ => ?_) (fun _ => ?_))
    | (with_reducible refine condw_bool (fun _ => ?_) (fun _ => ?_))
    | simp [*, IntKind.bits]
  show IntKind.i64.wrap (((BitVec.ofInt 64 q &&& BitVec.ofInt 64 4294967295).toNat : Nat) : Int) = _
  rw [a1]; exact a2
def Tstamp : List V → Option V
  | [.agg [.int .i64 t, .int .i64 r, .bool k, .int .i64 e, .int .i64 s]] => bif Ck.ok ⟨t, r, k, e, s⟩ && decide (0 ≤ t) then some (.agg [.int .i64 (spC ⟨t, r, k, e, s⟩).1, .int .i64 (spC ⟨t, r, k, e, s⟩).2, .int .i64 (clC ⟨t, r, k, e, s⟩)]) else none
  | _ => none
theorem stamp_tab : ∀ vs v, Tstamp vs = some v → PCall Try.prog 9 vs v := by
  intro vs v h; unfold Tstamp at h; split at h
  · simp only [cond_eq_ite, Bool.and_eq_true, decide_eq_true_eq] at h
    split at h
    · rename_i hc; cases h; exact stamp_ok _ _ _ _ _ hc.1 hc.2
    · cases h
  · cases h
def G9 : Tab := add 9 Tstamp (G7)
theorem G9_at (f : FuncId) (vs : List V) : G9.at' f vs = if f = 9 then Tstamp vs else G7.at' f vs := rfl
theorem G9_fr (f : FuncId) : G9.fr f = if f = 9 then false else G7.fr f := rfl
theorem G9_gb (f : FuncId) : G9.gb f = G7.gb f := rfl
theorem G9_gv (f : FuncId) (vs : List V) : G9.gv f vs = G7.gv f vs := rfl
attribute [simp] G9_at G9_fr G9_gb G9_gv Tstamp
theorem G9_ok : TabOK Try.prog G9 := by
  refine add_ok (G7_ok) (by kernel_rfl) ?_
  · exact stamp_tab
end Go.Proofs.Ytpkibnkhllefaaa
end
section
namespace Go.Proofs.Ytpkibnkhllefaaa
open Go.Pv Go.RowKit
set_option linter.unusedSimpArgs false
set_option linter.unusedVariables false
set_option maxRecDepth 100000
set_option maxHeartbeats 4000000

theorem ni100 : notI Try.prog 100 = true := by kernel_rfl
theorem ni101 : notI Try.prog 101 = true := by kernel_rfl
theorem ni102 : notI Try.prog 102 = true := by kernel_rfl
theorem ni103 : notI Try.prog 103 = true := by kernel_rfl
theorem ni104 : notI Try.prog 104 = true := by kernel_rfl
theorem hz100 : hasZ Try.prog 100 = true := by kernel_rfl
theorem hz101 : hasZ Try.prog 101 = true := by kernel_rfl
theorem hz102 : hasZ Try.prog 102 = true := by kernel_rfl
theorem hz103 : hasZ Try.prog 103 = true := by kernel_rfl
theorem hz104 : hasZ Try.prog 104 = true := by kernel_rfl
theorem mt100 : methV Try.prog 100 "substation/dataset.tag" = some 69 := by kernel_rfl
theorem mt101 : methV Try.prog 101 "substation/dataset.tag" = some 72 := by kernel_rfl
theorem mt104 : methV Try.prog 104 "substation/dataset.tag" = some 82 := by kernel_rfl
theorem md100 : methV Try.prog 100 "substation/dataset.data" = some 68 := by kernel_rfl
theorem md101 : methV Try.prog 101 "substation/dataset.data" = some 71 := by kernel_rfl
theorem md104 : methV Try.prog 104 "substation/dataset.data" = some 81 := by kernel_rfl
theorem mc100 : methV Try.prog 100 "substation/dataset.check" = some 67 := by kernel_rfl
theorem mc101 : methV Try.prog 101 "substation/dataset.check" = some 70 := by kernel_rfl
theorem mc104 : methV Try.prog 104 "substation/dataset.check" = some 80 := by kernel_rfl
attribute [simp] ni100 ni101 ni102 ni103 ni104 hz100 hz101 hz102 hz103 hz104 mt100 mt101 mt104 md100 md101 md104 mc100 mc101 mc104

def vI (n : Int) : List V := [.int .i64 2, .int .i64 n, .str ⟨#[]⟩, .int .i64 0, .int .i64 0, .int .i64 0]
def vB (n : Int) : List V := [.int .i64 1, .int .i64 n, .str ⟨#[]⟩, .int .i64 0, .int .i64 0, .int .i64 0]
def vT (s f q : Int) : List V := [.int .i64 5, .int .i64 0, .str ⟨#[]⟩, .int .i64 s, .int .i64 f, .int .i64 q]
/-- A value of one of three kinds. -/
inductive Dv where
  | i (n : Int)
  | b (n : Int)
  | t (s f q : Int)
def Dv.cs : Dv → List V
  | .i n => vI n
  | .b n => vB n
  | .t s f q => vT s f q
def Dv.c : Dv → V
  | .i n => .ifc 101 (.int .i64 n)
  | .b n => .ifc 100 (.int .i64 n)
  | .t s f q => .ifc 104 (.agg [.int .i64 s, .int .i64 f, .int .i64 q])
theorem cnt_ok (v : Dv) : PCall Try.prog 32 [.agg v.cs] (.tup [v.c, .bool true]) := by
  cases v with
  | i n =>
    refine pcall_cx noTab_ok mixed (fun _ => none) Try.func32 rfl Try.ntmps32 Try.results32 (by simp) (by kernel_rfl) ?_
    repeat' first
      | (with_reducible refine gw_bool (fun _ => ?_) (fun _ => ?_))
      | (with_reducible refine condw_bool (fun _ => ?_) (fun _ => ?_))
      | simp [*, ownT, ownC, Dv.cs, Dv.c, vI]
  | b n =>
    refine pcall_cx noTab_ok mixed (fun _ => none) Try.func32 rfl Try.ntmps32 Try.results32 (by simp) (by kernel_rfl) ?_
    repeat' first
      | (with_reducible refine gw_bool (fun _ => ?_) (fun _ => ?_))
      | (with_reducible refine condw_bool (fun _ => ?_) (fun _ => ?_))
      | simp [*, ownT, ownC, Dv.cs, Dv.c, vB]
  | t s f q =>
    refine pcall_cx noTab_ok mixed (fun _ => none) Try.func32 rfl Try.ntmps32 Try.results32 (by simp) (by kernel_rfl) ?_
    repeat' first
      | (with_reducible refine gw_bool (fun _ => ?_) (fun _ => ?_))
      | (with_reducible refine condw_bool (fun _ => ?_) (fun _ => ?_))
      | simp [*, ownT, ownC, Dv.cs, Dv.c, vT]
theorem val_ok (v : Dv) : PCall Try.prog 40 [v.c] (.agg v.cs) := by
  cases v with
  | i n =>
    refine pcall_cx noTab_ok mixed (fun _ => none) Try.func40 rfl Try.ntmps40 Try.results40 (by simp) (by kernel_rfl) ?_
    repeat' first
      | (with_reducible refine gw_bool (fun _ => ?_) (fun _ => ?_))
      | (with_reducible refine condw_bool (fun _ => ?_) (fun _ => ?_))
      | simp [*, ownT, ownC, Dv.cs, Dv.c, vI]
  | b n =>
    refine pcall_cx noTab_ok mixed (fun _ => none) Try.func40 rfl Try.ntmps40 Try.results40 (by simp) (by kernel_rfl) ?_
    repeat' first
      | (with_reducible refine gw_bool (fun _ => ?_) (fun _ => ?_))
      | (with_reducible refine condw_bool (fun _ => ?_) (fun _ => ?_))
      | simp [*, ownT, ownC, Dv.cs, Dv.c, vB]
  | t s f q =>
    refine pcall_cx noTab_ok mixed (fun _ => none) Try.func40 rfl Try.ntmps40 Try.results40 (by simp) (by kernel_rfl) ?_
    repeat' first
      | (with_reducible refine gw_bool (fun _ => ?_) (fun _ => ?_))
      | (with_reducible refine condw_bool (fun _ => ?_) (fun _ => ?_))
      | simp [*, ownT, ownC, Dv.cs, Dv.c, vT]
def unDv : List V → Option Dv
  | [.int .i64 2, .int .i64 n, .str s, .int .i64 0, .int .i64 0, .int .i64 0] => if s = ⟨#[]⟩ then some (.i n) else none
  | [.int .i64 1, .int .i64 n, .str s, .int .i64 0, .int .i64 0, .int .i64 0] => if s = ⟨#[]⟩ then some (.b n) else none
  | [.int .i64 5, .int .i64 0, .str s, .int .i64 a, .int .i64 f, .int .i64 q] => if s = ⟨#[]⟩ then some (.t a f q) else none
  | _ => none
theorem unDv_cs (v : Dv) : unDv v.cs = some v := by cases v <;> simp [unDv, Dv.cs, vI, vB, vT]
theorem unDv_inv : ∀ c a, unDv c = some a → c = Dv.cs a := by
  intro c a h; unfold unDv at h; split at h
  · split at h
    · rename_i hs; cases h; subst hs; rfl
    · cases h
  · split at h
    · rename_i hs; cases h; subst hs; rfl
    · cases h
  · split at h
    · rename_i hs; cases h; subst hs; rfl
    · cases h
  · cases h
def Tcnt : List V → Option V
  | [.agg c] => (match unDv c with
    | some v => some (.tup [v.c, .bool true])
    | none => none)
  | _ => none
theorem Tcnt_at (v : Dv) : Tcnt [.agg v.cs] = some (.tup [v.c, .bool true]) := by simp only [Tcnt, unDv_cs]
theorem cnt_tab : ∀ vs u, Tcnt vs = some u → PCall Try.prog 32 vs u := by
  intro vs u h; unfold Tcnt at h; split at h
  · split at h
    · rename_i h1; cases h; rw [unDv_inv _ _ h1]; exact cnt_ok _
    · cases h
  · cases h
def Tval : List V → Option V
  | [.ifc t (.int .i64 n)] => if t = 101 then some (.agg (vI n)) else if t = 100 then some (.agg (vB n)) else none
  | [.ifc t (.agg [.int .i64 s, .int .i64 f, .int .i64 q])] => if t = 104 then some (.agg (vT s f q)) else none
  | _ => none
theorem val_tab : ∀ vs u, Tval vs = some u → PCall Try.prog 40 vs u := by
  intro vs u h; unfold Tval at h; split at h
  · split at h
    · rename_i e; subst e; cases h; exact val_ok (.i _)
    · split at h
      · rename_i e; subst e; cases h; exact val_ok (.b _)
      · cases h
  · split at h
    · rename_i e; subst e; cases h; exact val_ok (.t _ _ _)
    · cases h
  · cases h
end Go.Proofs.Ytpkibnkhllefaaa
end
section
namespace Go.Proofs.Ytpkibnkhllefaaa
open Go.Pv Go.RowKit
set_option linter.unusedSimpArgs false
set_option linter.unusedVariables false
set_option maxRecDepth 100000
set_option maxHeartbeats 4000000

theorem u8_wrap (x : Int) : IntKind.u8.wrap x = x % 256 := by
  simp [IntKind.wrap, IntKind.bits, IntKind.signed]
theorem fd (x : Int) {k : Int} (h : 0 ≤ k) : x.fdiv k = x / k := Int.fdiv_eq_ediv_of_nonneg _ h
/-! ### tag -/
def Ttg0 : List V → Option V
  | [.int .i64 n] => some (.int .i64 131)
  | _ => none
def Ttg1 : List V → Option V
  | [.int .i64 n] => some (.int .i64 133)
  | _ => none
def Ttg4 : List V → Option V
  | [.agg [.int .i64 s, .int .i64 f, .int .i64 q]] => some (.int .i64 145)
  | _ => none
theorem tg0_ok (n : Int) : PCall Try.prog 69 [.int .i64 n] (.int .i64 131) := by
  refine pcall_cx noTab_ok mixed (fun _ => none) Try.func69 rfl Try.ntmps69 Try.results69 (by simp) (by kernel_rfl) ?_
  repeat' first
    | (with_reducible refine gw_bool (fun _ => ?_) (fun _ => ?_))
    | (with_reducible refine condw_bool (fun _ => ?_) (fun _ => ?_))
    | simp [*]
theorem tg1_ok (n : Int) : PCall Try.prog 72 [.int .i64 n] (.int .i64 133) := by
  refine pcall_cx noTab_ok mixed (fun _ => none) Try.func72 rfl Try.ntmps72 Try.results72 (by simp) (by kernel_rfl) ?_
  repeat' first
    | (with_reducible refine gw_bool (fun _ => ?_) (fun _ => ?_))
    | (with_reducible refine condw_bool (fun _ => ?_) (fun _ => ?_))
    | simp [*]
theorem tg4_ok (s f q : Int) : PCall Try.prog 82 [.agg [.int .i64 s, .int .i64 f, .int .i64 q]] (.int .i64 145) := by
  refine pcall_cx noTab_ok mixed (fun _ => none) Try.func82 rfl Try.ntmps82 Try.results82 (by simp) (by kernel_rfl) ?_
  repeat' first
    | (with_reducible refine gw_bool (fun _ => ?_) (fun _ => ?_))
    | (with_reducible refine condw_bool (fun _ => ?_) (fun _ => ?_))
    | simp [*]
/-! ### check -/
def Tck0 : List V → Option V
  | [.int .i64 n] => if n = 0 ∨ n = 1 then some (.int .i64 0) else none
  | _ => none
theorem ck0_tab : ∀ vs u, Tck0 vs = some u → PCall Try.prog 67 vs u := by
  intro vs u h; unfold Tck0 at h; split at h
  · split at h
    · rename_i hc; cases h
      rcases hc with rfl | rfl
      · refine pcall_cx noTab_ok mixed (fun _ => none) Try.func67 rfl Try.ntmps67 Try.results67 (by simp) (by kernel_rfl) ?_
        repeat' first
          | (with_reducible refine gw_bool (fun _ => ?_) (fun _ => ?_))
          | (with_reducible refine condw_bool (fun _ => ?_) (fun _ => ?_))
          | simp [*]
      · refine pcall_cx noTab_ok mixed (fun _ => none) Try.func67 rfl Try.ntmps67 Try.results67 (by simp) (by kernel_rfl) ?_
        repeat' first
          | (with_reducible refine gw_bool (fun _ => ?_) (fun _ => ?_))
          | (with_reducible refine condw_bool (fun _ => ?_) (fun _ => ?_))
          | simp [*]
    · cases h
  · cases h
def Tck1 : List V → Option V
  | [.int .i64 n] => some (.int .i64 0)
  | _ => none
theorem ck1_ok (n : Int) : PCall Try.prog 70 [.int .i64 n] (.int .i64 0) := by
  refine pcall_cx noTab_ok mixed (fun _ => none) Try.func70 rfl Try.ntmps70 Try.results70 (by simp) (by kernel_rfl) ?_
  repeat' first
    | (with_reducible refine gw_bool (fun _ => ?_) (fun _ => ?_))
    | (with_reducible refine condw_bool (fun _ => ?_) (fun _ => ?_))
    | simp [*]
def stB (s f q : Int) : Prop := (0 ≤ s ∧ s ≤ 4294967295) ∧ (0 ≤ f ∧ f ≤ 16777215) ∧ (0 ≤ q ∧ q ≤ 255)
instance (s f q : Int) : Decidable (stB s f q) := by unfold stB; infer_instance
def Tck4 : List V → Option V
  | [.agg [.int .i64 s, .int .i64 f, .int .i64 q]] => if stB s f q then some (.int .i64 0) else none
  | _ => none
theorem ck4_tab : ∀ vs u, Tck4 vs = some u → PCall Try.prog 80 vs u := by
  intro vs u h; unfold Tck4 at h; split at h
  · split at h
    · rename_i hc; cases h
      obtain ⟨⟨h1, h2⟩, ⟨h3, h4⟩, h5, h6⟩ := hc
      have e1 := ilt_f h1
      have e2 := ilt_f h2
      have e3 := ilt_f h3
      have e4 := ilt_f h4
      have e5 := ilt_f h5
      have e6 := ilt_f h6
      refine pcall_cx noTab_ok mixed (fun _ => none) Try.func80 rfl Try.ntmps80 Try.results80 (by simp) (by kernel_rfl) ?_
      repeat' first
        | (with_reducible refine gw_bool (fun _ => ?_) (fun _ => ?_))
        | (with_reducible refine condw_bool (fun _ => ?_) (fun _ => ?_))
        | simp [*]
    · cases h
  · cases h
/-! ### number, data -/
def numL (n : Int) : Int → Option (List V)
  | 1 => some [.int .u8 (n % 256)]
  | 3 => some [.int .u8 (n / 65536 % 256), .int .u8 (n / 256 % 256), .int .u8 (n % 256)]
  | 4 => some [.int .u8 (n / 16777216 % 256), .int .u8 (n / 65536 % 256), .int .u8 (n / 256 % 256), .int .u8 (n % 256)]
  | _ => none
def Tnum : List V → Option (V × List (Nat × Blk))
  | [.int .i64 n, .int .i64 1] => some (.sl 8 0 1 1, [(8, ⟨5, [.int .u8 (n % 256)]⟩)])
  | [.int .i64 n, .int .i64 3] => some (.sl 8 0 3 1, [(8, ⟨5, [.int .u8 (n / 65536 % 256), .int .u8 (n / 256 % 256), .int .u8 (n % 256)]⟩)])
  | [.int .i64 n, .int .i64 4] => some (.sl 8 0 4 1, [(8, ⟨5, [.int .u8 (n / 16777216 % 256), .int .u8 (n / 65536 % 256), .int .u8 (n / 256 % 256), .int .u8 (n % 256)]⟩)])
  | _ => none
theorem num_tab : ∀ vs u bl, Tnum vs = some (u, bl) → PGive Try.prog 73 vs u bl := by
  have d0 := fun x => fd x (k := 1) (by decide)
  have d1 := fun x => fd x (k := 256) (by decide)
  have d2 := fun x => fd x (k := 65536) (by decide)
  have d3 := fun x => fd x (k := 16777216) (by decide)
  intro vs u bl h; unfold Tnum at h; split at h
  · cases h
    refine pgive_cx noTab_ok mixed (fun _ => none) Try.func73 rfl Try.ntmps73 Try.results73 (by simp) (by kernel_rfl) ?_
    repeat' first
      | (with_reducible refine gw_bool (fun _ => ?_) (fun _ => ?_))
      | (with_reducible refine condw_bool (fun _ => ?_) (fun _ => ?_))
      | (refine lp_unroll (D := (fun _ => none)) noTab_ok mixed (by kernel_rfl) ?_)
      | simp [*, u8_wrap, IntKind.bits, ownC, KeepBl, closedB, inT, inA, inC, blkOf]
  · cases h
    refine pgive_cx noTab_ok mixed (fun _ => none) Try.func73 rfl Try.ntmps73 Try.results73 (by simp) (by kernel_rfl) ?_
    repeat' first
      | (with_reducible refine gw_bool (fun _ => ?_) (fun _ => ?_))
      | (with_reducible refine condw_bool (fun _ => ?_) (fun _ => ?_))
      | (refine lp_unroll (D := (fun _ => none)) noTab_ok mixed (by kernel_rfl) ?_)
      | simp [*, u8_wrap, IntKind.bits, ownC, KeepBl, closedB, inT, inA, inC, blkOf]
  · cases h
    refine pgive_cx noTab_ok mixed (fun _ => none) Try.func73 rfl Try.ntmps73 Try.results73 (by simp) (by kernel_rfl) ?_
    repeat' first
      | (with_reducible refine gw_bool (fun _ => ?_) (fun _ => ?_))
      | (with_reducible refine condw_bool (fun _ => ?_) (fun _ => ?_))
      | (refine lp_unroll (D := (fun _ => none)) noTab_ok mixed (by kernel_rfl) ?_)
      | simp [*, u8_wrap, IntKind.bits, ownC, KeepBl, closedB, inT, inA, inC, blkOf]
  · cases h
def G20 : Tab := addG 73 Tnum (noTab)
theorem G20_at (f : FuncId) (vs : List V) : G20.at' f vs = noTab.at' f vs := rfl
theorem G20_fr (f : FuncId) : G20.fr f = noTab.fr f := rfl
theorem G20_gb (f : FuncId) : G20.gb f = if f = 73 then true else noTab.gb f := rfl
theorem G20_gv (f : FuncId) (vs : List V) : G20.gv f vs = if f = 73 then Tnum vs else noTab.gv f vs := rfl
attribute [simp] G20_at G20_fr G20_gb G20_gv Tnum
theorem G20_ok : TabOK Try.prog G20 := by
  refine addG_ok (noTab_ok) (by kernel_rfl) ?_
  · exact num_tab
end Go.Proofs.Ytpkibnkhllefaaa
end
section
namespace Go.Proofs.Ytpkibnkhllefaaa
open Go.Pv Go.RowKit
set_option linter.unusedSimpArgs false
set_option linter.unusedVariables false
set_option maxRecDepth 100000
set_option maxHeartbeats 4000000

/-! ### data -/
def by1 (n : Int) : List V := [.int .u8 (n % 256)]
def mB (s f q : Int) : List (List V) := [[.int .u8 (s / 16777216 % 256)], [.int .u8 (s / 65536 % 256)], [.int .u8 (s / 256 % 256)], [.int .u8 (s % 256)], [.int .u8 (f / 65536 % 256)], [.int .u8 (f / 256 % 256)], [.int .u8 (f % 256)], [.int .u8 (q % 256)]]
theorem da0_ok (n : Int) : PFresh Try.prog 68 [.int .i64 n] (.list 1 [by1 n]) := by
  refine pfresh_cx noTab_ok mixed (fun _ => none) Try.func68 rfl Try.ntmps68 Try.results68 (by simp) (by kernel_rfl) ?_
  repeat' first
    | (with_reducible refine gw_bool (fun _ => ?_) (fun _ => ?_))
    | (with_reducible refine condw_bool (fun _ => ?_) (fun _ => ?_))
    | simp [*, u8_wrap, by1]
def Tda0 : List V → Option V
  | [.int .i64 n] => some (.list 1 [by1 n])
  | _ => none
theorem wdata_ok (n : Int) (h0 : 0 ≤ n) (h1 : n < 128) : PFresh Try.prog 71 [.int .i64 n] (.list 1 [by1 n]) := by
  have h2 : n.fdiv 128 = 0 := by rw [fd _ (by decide)]; omega
  refine pfresh_cx G20_ok mixed (fun _ => none) Try.func71 rfl Try.ntmps71 Try.results71 (by simp) (by kernel_rfl) ?_
  repeat' first
    | (with_reducible refine gw_bool (fun _ => ?_) (fun _ => ?_))
    | (with_reducible refine condw_bool (fun _ => ?_) (fun _ => ?_))
    | (refine lp_unroll (D := (fun _ => none)) G20_ok mixed (by kernel_rfl) ?_)
    | simp [*, u8_wrap, by1, IntKind.bits, KeepBl, closedB, inT, inA, inC, blkOf]
def Tda1 : List V → Option V
  | [.int .i64 n] => if 0 ≤ n ∧ n < 128 then some (.list 1 [by1 n]) else none
  | _ => none
theorem da1_tab : ∀ vs u, Tda1 vs = some u → PFresh Try.prog 71 vs u := by
  intro vs u h; unfold Tda1 at h; split at h
  · split at h
    · rename_i hc; cases h; exact wdata_ok _ hc.1 hc.2
    · cases h
  · cases h
theorem mdata_ok (s f q : Int) : PFresh Try.prog 81 [.agg [.int .i64 s, .int .i64 f, .int .i64 q]] (.list 1 (mB s f q)) := by
  refine pfresh_cx G20_ok mixed (fun _ => none) Try.func81 rfl Try.ntmps81 Try.results81 (by simp) (by kernel_rfl) ?_
  repeat' first
    | (with_reducible refine gw_bool (fun _ => ?_) (fun _ => ?_))
    | (with_reducible refine condw_bool (fun _ => ?_) (fun _ => ?_))
    | (refine lp_unroll (D := (fun _ => none)) G20_ok mixed (by kernel_rfl) ?_)
    | simp [*, u8_wrap, mB, IntKind.bits, KeepBl, closedB, inT, inA, inC, blkOf, appendV, srcCells, St.forget, scr, scrC, usesC, usesA, chunks, oneV]
def Tda4 : List V → Option V
  | [.agg [.int .i64 s, .int .i64 f, .int .i64 q]] => some (.list 1 (mB s f q))
  | _ => none
end Go.Proofs.Ytpkibnkhllefaaa
end
section
namespace Go.Proofs.Ytpkibnkhllefaaa
open Go.Pv Go.RowKit
set_option linter.unusedSimpArgs false
set_option linter.unusedVariables false
set_option maxRecDepth 100000
set_option maxHeartbeats 4000000

theorem wrap_in {n : Int} (h1 : -9223372036854775808 ≤ n) (h2 : n ≤ 9223372036854775807) : IntKind.i64.wrap n = n := wrap_id h1 h2
theorem u8_in {n : Int} (h1 : 0 ≤ n) (h2 : n < 256) : IntKind.u8.wrap n = n := by rw [u8_wrap]; omega
def G21 : Tab := add 67 Tck0 (add 70 Tck1 (add 80 Tck4 (add 32 Tcnt (add 40 Tval (noTab)))))
theorem G21_at (f : FuncId) (vs : List V) : G21.at' f vs = if f = 67 then Tck0 vs else if f = 70 then Tck1 vs else if f = 80 then Tck4 vs else if f = 32 then Tcnt vs else if f = 40 then Tval vs else noTab.at' f vs := rfl
theorem G21_fr (f : FuncId) : G21.fr f = if f = 67 then false else if f = 70 then false else if f = 80 then false else if f = 32 then false else if f = 40 then false else noTab.fr f := rfl
theorem G21_gb (f : FuncId) : G21.gb f = noTab.gb f := rfl
theorem G21_gv (f : FuncId) (vs : List V) : G21.gv f vs = noTab.gv f vs := rfl
attribute [simp] G21_at G21_fr G21_gb G21_gv Tck0 Tck1 Tck4 Tcnt Tval
theorem G21_ok : TabOK Try.prog G21 := by
  refine add_ok (add_ok (add_ok (add_ok (add_ok (noTab_ok) (by kernel_rfl) ?_) (by kernel_rfl) ?_) (by kernel_rfl) ?_) (by kernel_rfl) ?_) (by kernel_rfl) ?_
  · exact val_tab
  · exact cnt_tab
  · exact ck4_tab
  · intro vs v h; unfold Tck1 at h; split at h
    · cases h; apply ck1_ok
    · cases h
  · exact ck0_tab
def Dv.fit : Dv → Prop
  | .i _ => True
  | .b n => n = 0 ∨ n = 1
  | .t s f q => stB s f q
instance (v : Dv) : Decidable v.fit := by cases v <;> (unfold Dv.fit; infer_instance)
theorem chk_ok (v : Dv) (h : v.fit) : PCall Try.prog 31 [.agg v.cs] (.int .i64 0) := by
  have e1 := Tcnt_at v
  cases v with
  | i n =>
    refine pcall_cx G21_ok mixed (fun _ => none) Try.func31 rfl Try.ntmps31 Try.results31 (by simp) (by kernel_rfl) ?_
    repeat' first
      | (with_reducible refine gw_bool (fun _ => ?_) (fun _ => ?_))
      | (with_reducible refine condw_bool (fun _ => ?_) (fun _ => ?_))
      | simp [*, ownT, ownC, Dv.cs, Dv.c, vI, Tcnt, unDv]
  | b n =>
    have h' : n = 0 ∨ n = 1 := h
    refine pcall_cx G21_ok mixed (fun _ => none) Try.func31 rfl Try.ntmps31 Try.results31 (by simp) (by kernel_rfl) ?_
    repeat' first
      | (with_reducible refine gw_bool (fun _ => ?_) (fun _ => ?_))
      | (with_reducible refine condw_bool (fun _ => ?_) (fun _ => ?_))
      | simp [*, ownT, ownC, Dv.cs, Dv.c, vB, Tcnt, unDv]
  | t s f q =>
    have h' : stB s f q := h
    refine pcall_cx G21_ok mixed (fun _ => none) Try.func31 rfl Try.ntmps31 Try.results31 (by simp) (by kernel_rfl) ?_
    repeat' first
      | (with_reducible refine gw_bool (fun _ => ?_) (fun _ => ?_))
      | (with_reducible refine condw_bool (fun _ => ?_) (fun _ => ?_))
      | simp [*, ownT, ownC, Dv.cs, Dv.c, vT, Tcnt, unDv]
def Tchk : List V → Option V
  | [.agg c] => (match unDv c with
    | some v => if v.fit then some (.int .i64 0) else none
    | none => none)
  | _ => none
theorem Tchk_at (v : Dv) (h : v.fit) : Tchk [.agg v.cs] = some (.int .i64 0) := by simp only [Tchk, unDv_cs, if_pos h]
theorem chk_tab : ∀ vs u, Tchk vs = some u → PCall Try.prog 31 vs u := by
  intro vs u h; unfold Tchk at h; split at h
  · split at h
    · rename_i h1
      split at h
      · rename_i h2; cases h; rw [unDv_inv _ _ h1]; exact chk_ok _ h2
      · cases h
    · cases h
  · cases h
/-! ### reading -/
def Tknown : List V → Option V
  | [.int .i64 n] => if n = 131 ∨ n = 133 ∨ n = 145 then some (.bool true) else none
  | _ => none
theorem known_tab : ∀ vs u, Tknown vs = some u → PCall Try.prog 38 vs u := by
  intro vs u h; unfold Tknown at h; split at h
  · split at h
    · rename_i hc; cases h
      rcases hc with rfl | rfl | rfl
      · refine pcall_cx noTab_ok mixed (fun _ => none) Try.func38 rfl Try.ntmps38 Try.results38 (by simp) (by kernel_rfl) ?_
        repeat' first
          | (with_reducible refine gw_bool (fun _ => ?_) (fun _ => ?_))
          | (with_reducible refine condw_bool (fun _ => ?_) (fun _ => ?_))
          | simp [*]
      · refine pcall_cx noTab_ok mixed (fun _ => none) Try.func38 rfl Try.ntmps38 Try.results38 (by simp) (by kernel_rfl) ?_
        repeat' first
          | (with_reducible refine gw_bool (fun _ => ?_) (fun _ => ?_))
          | (with_reducible refine condw_bool (fun _ => ?_) (fun _ => ?_))
          | simp [*]
      · refine pcall_cx noTab_ok mixed (fun _ => none) Try.func38 rfl Try.ntmps38 Try.results38 (by simp) (by kernel_rfl) ?_
        repeat' first
          | (with_reducible refine gw_bool (fun _ => ?_) (fun _ => ?_))
          | (with_reducible refine condw_bool (fun _ => ?_) (fun _ => ?_))
          | simp [*]
    · cases h
  · cases h
theorem or8 {a b : Int} (h0 : 0 ≤ a) (h1 : a < 36028797018963968) (h2 : 0 ≤ b) (h3 : b < 256) : (BitVec.ofInt 64 (a * 256) ||| BitVec.ofInt 64 b).toNat = (a * 256 + b).toNat := by
  obtain ⟨n, rfl⟩ := Int.eq_ofNat_of_zero_le h0
  obtain ⟨m, rfl⟩ := Int.eq_ofNat_of_zero_le h2
  have e1 : (BitVec.ofInt 64 ((n : Int) * 256)).toNat = n * 256 := by
    rw [BitVec.toNat_ofInt]; omega
  have e2 : (BitVec.ofInt 64 (m : Int)).toNat = m := by
    rw [BitVec.toNat_ofInt]; omega
  rw [BitVec.toNat_or, e1, e2]
  have := Nat.shiftLeft_add_eq_or_of_lt (i := 8) (b := m) (by omega) n
  rw [Nat.shiftLeft_eq] at this
  simp only [Nat.reducePow] at this
  omega
def jn (a b : Int) : Int := a * 256 + b
theorem jn_step {a b : Int} (h0 : 0 ≤ a) (h1 : a < 36028797018963968) (h2 : 0 ≤ b) (h3 : b < 256) : IntKind.i64.wrap (((BitVec.ofInt 64 (IntKind.i64.wrap (a * 256)) ||| BitVec.ofInt 64 (IntKind.i64.wrap b)).toNat : Nat) : Int) = jn a b := by
  rw [wrap_in (n := a * 256) (by omega) (by omega), wrap_in (n := b) (by omega) (by omega), or8 h0 h1 h2 h3, Int.toNat_of_nonneg (by omega)]
  exact wrap_in (by omega) (by omega)
theorem jn_one {a : Int} (h2 : 0 ≤ a) (h3 : a < 256) : IntKind.i64.wrap (((0#64 ||| BitVec.ofInt 64 (IntKind.i64.wrap a)).toNat : Nat) : Int) = a := by
  have := jn_step (a := 0) (by decide) (by decide) h2 h3
  simpa [jn, wrap_in] using this
def byB (a : Int) : Prop := 0 ≤ a ∧ a < 256
instance (a : Int) : Decidable (byB a) := by unfold byB; infer_instance
def o8 (x y : BitVec 64) : Int := IntKind.i64.wrap (((x ||| y).toNat : Nat) : Int)
def w8 (a : Int) : BitVec 64 := BitVec.ofInt 64 (IntKind.i64.wrap a)
theorem o8_one {a : Int} (h : byB a) : o8 (0#64) (w8 a) = a := jn_one h.1 h.2
theorem o8_step {a b : Int} (h0 : 0 ≤ a) (h1 : a < 36028797018963968) (h : byB b) : o8 (w8 (a * 256)) (w8 b) = jn a b := jn_step h0 h1 h.1 h.2
theorem join1_ok (a : Int) (ha : byB a) : PCall Try.prog 50 [.list 1 [[.int .u8 a]]] (.int .i64 a) := by
  have s1 := o8_one ha
  refine pcall_cx noTab_ok mixed (fun _ => none) Try.func50 rfl Try.ntmps50 Try.results50 (by simp) (by kernel_rfl) ?_
  repeat' first
    | (with_reducible refine gw_bool (fun _ => ?_) (fun _ => ?_))
    | (with_reducible refine condw_bool (fun _ => ?_) (fun _ => ?_))
    | (refine lp_unroll (D := (fun _ => none)) noTab_ok mixed (by kernel_rfl) ?_)
    | simp [*, IntKind.bits]
  exact s1
theorem jn3 {a b c : Int} (ha : byB a) (hb : byB b) (hc : byB c) : o8 (w8 (o8 (w8 (o8 (0#64) (w8 a) * 256)) (w8 b) * 256)) (w8 c) = jn (jn a b) c := by
  obtain ⟨a1, a2⟩ := ha
  have hb' := hb
  obtain ⟨b1, b2⟩ := hb'
  rw [o8_one ⟨a1, a2⟩, o8_step a1 (by omega) hb, o8_step (by unfold jn; omega) (by unfold jn; omega) hc]
theorem jn4 {a b c d : Int} (ha : byB a) (hb : byB b) (hc : byB c) (hd : byB d) : o8 (w8 (o8 (w8 (o8 (w8 (o8 (0#64) (w8 a) * 256)) (w8 b) * 256)) (w8 c) * 256)) (w8 d) = jn (jn (jn a b) c) d := by
  rw [jn3 ha hb hc]
  obtain ⟨a1, a2⟩ := ha
  obtain ⟨b1, b2⟩ := hb
  obtain ⟨c1, c2⟩ := hc
  exact o8_step (by unfold jn; omega) (by unfold jn; omega) hd
theorem join3_ok (a b c : Int) (ha : byB a) (hb : byB b) (hc : byB c) : PCall Try.prog 50 [.list 1 [[.int .u8 a], [.int .u8 b], [.int .u8 c]]] (.int .i64 (jn (jn a b) c)) := by
  have s1 := jn3 ha hb hc
  clear ha hb hc
  refine pcall_cx noTab_ok mixed (fun _ => none) Try.func50 rfl Try.ntmps50 Try.results50 (by simp) (by kernel_rfl) ?_
  repeat' first
    | (with_reducible refine gw_bool (fun _ => ?_) (fun _ => ?_))
    | (with_reducible refine condw_bool (fun _ => ?_) (fun _ => ?_))
    | (refine lp_unroll (D := (fun _ => none)) noTab_ok mixed (by kernel_rfl) ?_)
    | simp [*, IntKind.bits]
  exact s1
theorem join4_ok (a b c d : Int) (ha : byB a) (hb : byB b) (hc : byB c) (hd : byB d) : PCall Try.prog 50 [.list 1 [[.int .u8 a], [.int .u8 b], [.int .u8 c], [.int .u8 d]]] (.int .i64 (jn (jn (jn a b) c) d)) := by
  have s1 := jn4 ha hb hc hd
  clear ha hb hc hd
  refine pcall_cx noTab_ok mixed (fun _ => none) Try.func50 rfl Try.ntmps50 Try.results50 (by simp) (by kernel_rfl) ?_
  repeat' first
    | (with_reducible refine gw_bool (fun _ => ?_) (fun _ => ?_))
    | (with_reducible refine condw_bool (fun _ => ?_) (fun _ => ?_))
    | (refine lp_unroll (D := (fun _ => none)) noTab_ok mixed (by kernel_rfl) ?_)
    | simp [*, IntKind.bits]
  exact s1
def Tjoin : List V → Option V
  | [.list 1 [[.int .u8 a]]] => if byB a then some (.int .i64 a) else none
  | [.list 1 [[.int .u8 a], [.int .u8 b], [.int .u8 c]]] => if byB a ∧ byB b ∧ byB c then some (.int .i64 (jn (jn a b) c)) else none
  | [.list 1 [[.int .u8 a], [.int .u8 b], [.int .u8 c], [.int .u8 d]]] => if byB a ∧ byB b ∧ byB c ∧ byB d then some (.int .i64 (jn (jn (jn a b) c) d)) else none
  | _ => none
theorem join_tab : ∀ vs u, Tjoin vs = some u → PCall Try.prog 50 vs u := by
  intro vs u h; unfold Tjoin at h; split at h
  · split at h
    · rename_i hc; cases h; exact join1_ok _ hc
    · cases h
  · split at h
    · rename_i hc; cases h; exact join3_ok _ _ _ hc.1 hc.2.1 hc.2.2
    · cases h
  · split at h
    · rename_i hc; cases h; exact join4_ok _ _ _ _ hc.1 hc.2.1 hc.2.2.1 hc.2.2.2
    · cases h
  · cases h
def G22 : Tab := add 50 Tjoin (noTab)
theorem G22_at (f : FuncId) (vs : List V) : G22.at' f vs = if f = 50 then Tjoin vs else noTab.at' f vs := rfl
theorem G22_fr (f : FuncId) : G22.fr f = if f = 50 then false else noTab.fr f := rfl
theorem G22_gb (f : FuncId) : G22.gb f = noTab.gb f := rfl
theorem G22_gv (f : FuncId) (vs : List V) : G22.gv f vs = noTab.gv f vs := rfl
attribute [simp] G22_at G22_fr G22_gb G22_gv Tjoin
theorem G22_ok : TabOK Try.prog G22 := by
  refine add_ok (noTab_ok) (by kernel_rfl) ?_
  · exact join_tab
theorem rw_ok (a : Int) (h0 : 0 ≤ a) (h1 : a < 128) : PCall Try.prog 49 [.list 1 [[.int .u8 a]]] (.tup [.ifc 101 (.int .i64 a), .bool true]) := by
  have hb : byB a := ⟨h0, by omega⟩
  have e1 : ilt a 128 = true := by simp [ilt, h1]
  refine pcall_cx G22_ok mixed (fun _ => none) Try.func49 rfl Try.ntmps49 Try.results49 (by simp) (by kernel_rfl) ?_
  repeat' first
    | (with_reducible refine gw_bool (fun _ => ?_) (fun _ => ?_))
    | (with_reducible refine condw_bool (fun _ => ?_) (fun _ => ?_))
    | simp [*, ownT, ownC, Tjoin]
def Trw : List V → Option V
  | [.list 1 [[.int .u8 a]]] => if 0 ≤ a ∧ a < 128 then some (.tup [.ifc 101 (.int .i64 a), .bool true]) else none
  | _ => none
theorem rw_tab : ∀ vs u, Trw vs = some u → PCall Try.prog 49 vs u := by
  intro vs u h; unfold Trw at h; split at h
  · split at h
    · rename_i hc; cases h; exact rw_ok _ hc.1 hc.2
    · cases h
  · cases h
def G23 : Tab := add 49 Trw (G22)
theorem G23_at (f : FuncId) (vs : List V) : G23.at' f vs = if f = 49 then Trw vs else G22.at' f vs := rfl
theorem G23_fr (f : FuncId) : G23.fr f = if f = 49 then false else G22.fr f := rfl
theorem G23_gb (f : FuncId) : G23.gb f = G22.gb f := rfl
theorem G23_gv (f : FuncId) (vs : List V) : G23.gv f vs = G22.gv f vs := rfl
attribute [simp] G23_at G23_fr G23_gb G23_gv Trw
theorem G23_ok : TabOK Try.prog G23 := by
  refine add_ok (G22_ok) (by kernel_rfl) ?_
  · exact rw_tab
theorem rd1_ok (a : Int) (h0 : 0 ≤ a) (h1 : a < 128) : PCall Try.prog 39 [.int .i64 133, .list 1 [[.int .u8 a]]] (.tup [.ifc 101 (.int .i64 a), .bool true]) := by
  refine pcall_cx G23_ok mixed (fun _ => none) Try.func39 rfl Try.ntmps39 Try.results39 (by simp) (by kernel_rfl) ?_
  repeat' first
    | (with_reducible refine gw_bool (fun _ => ?_) (fun _ => ?_))
    | (with_reducible refine condw_bool (fun _ => ?_) (fun _ => ?_))
    | simp [*, ownT, ownC, Trw]
theorem rd0_ok (a : Int) (h : a = 0 ∨ a = 1) : PCall Try.prog 39 [.int .i64 131, .list 1 [[.int .u8 a]]] (.tup [.ifc 100 (.int .i64 a), .bool true]) := by
  rcases h with rfl | rfl
  · refine pcall_cx G23_ok mixed (fun _ => none) Try.func39 rfl Try.ntmps39 Try.results39 (by simp) (by kernel_rfl) ?_
    repeat' first
      | (with_reducible refine gw_bool (fun _ => ?_) (fun _ => ?_))
      | (with_reducible refine condw_bool (fun _ => ?_) (fun _ => ?_))
      | simp [*, ownT, ownC, Trw]
  · refine pcall_cx G23_ok mixed (fun _ => none) Try.func39 rfl Try.ntmps39 Try.results39 (by simp) (by kernel_rfl) ?_
    repeat' first
      | (with_reducible refine gw_bool (fun _ => ?_) (fun _ => ?_))
      | (with_reducible refine condw_bool (fun _ => ?_) (fun _ => ?_))
      | simp [*, ownT, ownC, Trw]
def jT (a b c d e f g h : Int) : V := .ifc 104 (.agg [.int .i64 (jn (jn (jn a b) c) d), .int .i64 (jn (jn e f) g), .int .i64 h])
def by8 (a b c d e f g h : Int) : Prop := (byB a ∧ byB b ∧ byB c ∧ byB d) ∧ (byB e ∧ byB f ∧ byB g) ∧ byB h
instance (a b c d e f g h : Int) : Decidable (by8 a b c d e f g h) := by unfold by8; infer_instance
theorem rd4_ok (a b c d e f g h : Int) (hh : by8 a b c d e f g h) : PCall Try.prog 39 [.int .i64 145, .list 1 [[.int .u8 a], [.int .u8 b], [.int .u8 c], [.int .u8 d], [.int .u8 e], [.int .u8 f], [.int .u8 g], [.int .u8 h]]] (.tup [jT a b c d e f g h, .bool true]) := by
  obtain ⟨h1, h2, h3⟩ := hh
  have w : IntKind.i64.wrap h = h := wrap_in (by have := h3.1; omega) (by have := h3.2; omega)
  refine pcall_cx G23_ok mixed (fun _ => none) Try.func39 rfl Try.ntmps39 Try.results39 (by simp) (by kernel_rfl) ?_
  repeat' first
    | (with_reducible refine gw_bool (fun _ => ?_) (fun _ => ?_))
    | (with_reducible refine condw_bool (fun _ => ?_) (fun _ => ?_))
    | simp [*, ownT, ownC, Tjoin, jT]
def Tread : List V → Option V
  | [.int .i64 133, .list 1 [[.int .u8 a]]] => if 0 ≤ a ∧ a < 128 then some (.tup [.ifc 101 (.int .i64 a), .bool true]) else none
  | [.int .i64 131, .list 1 [[.int .u8 a]]] => if a = 0 ∨ a = 1 then some (.tup [.ifc 100 (.int .i64 a), .bool true]) else none
  | [.int .i64 145, .list 1 [[.int .u8 a], [.int .u8 b], [.int .u8 c], [.int .u8 d], [.int .u8 e], [.int .u8 f], [.int .u8 g], [.int .u8 h]]] => if by8 a b c d e f g h then some (.tup [jT a b c d e f g h, .bool true]) else none
  | _ => none
theorem read_tab : ∀ vs u, Tread vs = some u → PCall Try.prog 39 vs u := by
  intro vs u h; unfold Tread at h; split at h
  · split at h
    · rename_i hc; cases h; exact rd1_ok _ hc.1 hc.2
    · cases h
  · split at h
    · rename_i hc; cases h; exact rd0_ok _ hc
    · cases h
  · split at h
    · rename_i hc; cases h; exact rd4_ok _ _ _ _ _ _ _ _ hc
    · cases h
  · cases h
end Go.Proofs.Ytpkibnkhllefaaa
end
