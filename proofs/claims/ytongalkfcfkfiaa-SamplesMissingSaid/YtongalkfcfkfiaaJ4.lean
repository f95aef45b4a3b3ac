/-
  The types of this seat's program, as far as its functions use them: size, bytes, zero, fields.
  Frames: the small functions.
  Frames as bytes.
  Frames out of bytes.
  The loop over a map that nobody turns: whatever the order, every entry comes once.
  A map of constants is made; the copies of a payload.
  The loop over a map, as a statement.
  The two copies of a payload.
  A copy is opened.
  What a receiver remembers of a source.
  The first of a pair is accepted.
-/
import Derived.Test.YtongalkfcfkfiaaJ3
import Derived.Test.YtongalkfcfkfiaaProg
import Derived.KernelRfl
import Derived.Maps.RangeRun
section
namespace Go.Proofs.Ytongalkfcfkfiaa
open Go.Pv
theorem mixed : Try.prog.follows .mixedOrders = true := by kernel_rfl
theorem td3 : td Try.prog 3 = some { size := 1, bytes := 8, agg := false, strct := false, zero := some [.int .i64 0], fields := [], arr := none, slc := none, int := some .i64, isBool := false, isStr := false, eqg := false } := by kernel_rfl
theorem td4 : td Try.prog 4 = some { size := 1, bytes := 1, agg := false, strct := false, zero := some [.bool false], fields := [], arr := none, slc := none, int := none, isBool := true, isStr := false, eqg := false } := by kernel_rfl
theorem td5 : td Try.prog 5 = some { size := 1, bytes := 1, agg := false, strct := false, zero := some [.int .u8 0], fields := [], arr := none, slc := none, int := some .u8, isBool := false, isStr := false, eqg := false } := by kernel_rfl
theorem td9 : td Try.prog 9 = some { size := 1, bytes := 16, agg := false, strct := false, zero := some [.str ⟨#[]⟩], fields := [], arr := none, slc := none, int := none, isBool := false, isStr := true, eqg := false } := by kernel_rfl
theorem td19 : td Try.prog 19 = some { size := 1, bytes := 8, agg := true, strct := true, zero := some [.junk], fields := [some (0, 1, false)], arr := none, slc := none, int := none, isBool := false, isStr := false, eqg := false } := by kernel_rfl
theorem td23 : td Try.prog 23 = some { size := 4, bytes := 32, agg := true, strct := true, zero := some [.int .i64 0, .int .i64 0, .int .i64 0, .int .i64 0], fields := [some (0, 1, false), some (1, 1, false), some (2, 1, false), some (3, 1, false)], arr := none, slc := none, int := none, isBool := false, isStr := false, eqg := false } := by kernel_rfl
theorem td24 : td Try.prog 24 = some { size := 12, bytes := 96, agg := true, strct := false, zero := some [.int .i64 0, .int .i64 0, .int .i64 0, .int .i64 0, .int .i64 0, .int .i64 0, .int .i64 0, .int .i64 0, .int .i64 0, .int .i64 0, .int .i64 0, .int .i64 0], fields := [], arr := some (12, 1, false), slc := none, int := none, isBool := false, isStr := false, eqg := false } := by kernel_rfl
theorem td25 : td Try.prog 25 = some { size := 36, bytes := 288, agg := true, strct := false, zero := some [.int .i64 0, .int .i64 0, .int .i64 0, .int .i64 0, .int .i64 0, .int .i64 0, .int .i64 0, .int .i64 0, .int .i64 0, .int .i64 0, .int .i64 0, .int .i64 0, .int .i64 0, .int .i64 0, .int .i64 0, .int .i64 0, .int .i64 0, .int .i64 0, .int .i64 0, .int .i64 0, .int .i64 0, .int .i64 0, .int .i64 0, .int .i64 0, .int .i64 0, .int .i64 0, .int .i64 0, .int .i64 0, .int .i64 0, .int .i64 0, .int .i64 0, .int .i64 0, .int .i64 0, .int .i64 0, .int .i64 0, .int .i64 0], fields := [], arr := some (3, 12, true), slc := none, int := none, isBool := false, isStr := false, eqg := false } := by kernel_rfl
theorem td26 : td Try.prog 26 = some { size := 1, bytes := 24, agg := false, strct := false, zero := some [.nils], fields := [], arr := none, slc := some (3, 1), int := none, isBool := false, isStr := false, eqg := false } := by kernel_rfl
theorem td30 : td Try.prog 30 = some { size := 1, bytes := 24, agg := false, strct := false, zero := some [.nils], fields := [], arr := none, slc := some (42, 5), int := none, isBool := false, isStr := false, eqg := false } := by kernel_rfl
theorem td31 : td Try.prog 31 = some { size := 1, bytes := 8, agg := false, strct := false, zero := some [.int .i64 0], fields := [], arr := none, slc := none, int := some .i64, isBool := false, isStr := false, eqg := false } := by kernel_rfl
theorem td34 : td Try.prog 34 = some { size := 1, bytes := 24, agg := false, strct := false, zero := some [.nils], fields := [], arr := none, slc := some (26, 1), int := none, isBool := false, isStr := false, eqg := false } := by kernel_rfl
theorem td42 : td Try.prog 42 = some { size := 5, bytes := 72, agg := true, strct := true, zero := some [.int .i64 0, .int .i64 0, .bool false, .nils, .nils], fields := [some (0, 1, false), some (1, 1, false), some (2, 1, false), some (3, 1, false), some (4, 1, false)], arr := none, slc := none, int := none, isBool := false, isStr := false, eqg := false } := by kernel_rfl
theorem td44 : td Try.prog 44 = some { size := 1, bytes := 24, agg := false, strct := false, zero := some [.nils], fields := [], arr := none, slc := some (4, 1), int := none, isBool := false, isStr := false, eqg := false } := by kernel_rfl
theorem td46 : td Try.prog 46 = some { size := 1, bytes := 24, agg := true, strct := true, zero := some [.nils], fields := [some (0, 1, false)], arr := none, slc := none, int := none, isBool := false, isStr := false, eqg := false } := by kernel_rfl
theorem td47 : td Try.prog 47 = some { size := 2, bytes := 48, agg := true, strct := false, zero := some [.nils, .nils], fields := [], arr := some (2, 1, true), slc := none, int := none, isBool := false, isStr := false, eqg := false } := by kernel_rfl
theorem td50 : td Try.prog 50 = some { size := 1, bytes := 24, agg := false, strct := false, zero := some [.nils], fields := [], arr := none, slc := some (52, 1), int := none, isBool := false, isStr := false, eqg := false } := by kernel_rfl
theorem td51 : td Try.prog 51 = some { size := 2, bytes := 48, agg := true, strct := false, zero := some [.nils, .nils], fields := [], arr := some (2, 1, false), slc := none, int := none, isBool := false, isStr := false, eqg := false } := by kernel_rfl
theorem td52 : td Try.prog 52 = some { size := 1, bytes := 24, agg := false, strct := false, zero := some [.nils], fields := [], arr := none, slc := some (5, 1), int := none, isBool := false, isStr := false, eqg := false } := by kernel_rfl
theorem td55 : td Try.prog 55 = some { size := 2, bytes := 48, agg := true, strct := false, zero := some [.nils, .nils], fields := [], arr := some (2, 1, false), slc := none, int := none, isBool := false, isStr := false, eqg := false } := by kernel_rfl
theorem td58 : td Try.prog 58 = some { size := 1, bytes := 24, agg := false, strct := false, zero := some [.nils], fields := [], arr := none, slc := some (88, 3), int := none, isBool := false, isStr := false, eqg := false } := by kernel_rfl
theorem td60 : td Try.prog 60 = some { size := 1, bytes := 24, agg := true, strct := true, zero := some [.nils], fields := [some (0, 1, false)], arr := none, slc := none, int := none, isBool := false, isStr := false, eqg := false } := by kernel_rfl
theorem td63 : td Try.prog 63 = some { size := 4, bytes := 48, agg := true, strct := true, zero := some [.int .i64 0, .int .i64 0, .int .i64 0, .nils], fields := [some (0, 1, false), some (1, 1, false), some (2, 1, false), some (3, 1, false)], arr := none, slc := none, int := none, isBool := false, isStr := false, eqg := false } := by kernel_rfl
theorem td79 : td Try.prog 79 = some { size := 2, bytes := 16, agg := true, strct := false, zero := some [.junk, .junk], fields := [], arr := some (2, 1, false), slc := none, int := none, isBool := false, isStr := false, eqg := false } := by kernel_rfl
theorem td86 : td Try.prog 86 = some { size := 1, bytes := 8, agg := false, strct := false, zero := some [.int .u64 0], fields := [], arr := none, slc := none, int := some .u64, isBool := false, isStr := false, eqg := false } := by kernel_rfl
theorem td88 : td Try.prog 88 = some { size := 3, bytes := 24, agg := true, strct := true, zero := some [.int .i64 0, .int .i64 0, .int .u64 0], fields := [some (0, 1, false), some (1, 1, false), some (2, 1, false)], arr := none, slc := none, int := none, isBool := false, isStr := false, eqg := false } := by kernel_rfl
theorem td94 : td Try.prog 94 = some { size := 1, bytes := 2, agg := false, strct := false, zero := some [.int .i16 0], fields := [], arr := none, slc := none, int := some .i16, isBool := false, isStr := false, eqg := false } := by kernel_rfl
theorem td95 : td Try.prog 95 = some { size := 1, bytes := 2, agg := false, strct := false, zero := some [.int .u16 0], fields := [], arr := none, slc := none, int := some .u16, isBool := false, isStr := false, eqg := false } := by kernel_rfl
attribute [simp] td3 td4 td5 td9 td19 td23 td24 td25 td26 td30 td31 td34 td42 td44 td46 td47 td50 td51 td52 td55 td58 td60 td63 td79 td86 td88 td94 td95 
theorem eq23 (x0 y0 : Int) (x1 y1 : Int) (x2 y2 : Int) (x3 y3 : Int) : eqV Try.prog 6 23 (.agg [.int .i64 x0, .int .i64 x1, .int .i64 x2, .int .i64 x3]) (.agg [.int .i64 y0, .int .i64 y1, .int .i64 y2, .int .i64 y3]) = some (ieq x0 y0 && (ieq x1 y1 && (ieq x2 y2 && (ieq x3 y3 && true)))) := by kernel_rfl
theorem eq24 (x0 y0 : Int) (x1 y1 : Int) (x2 y2 : Int) (x3 y3 : Int) (x4 y4 : Int) (x5 y5 : Int) (x6 y6 : Int) (x7 y7 : Int) (x8 y8 : Int) (x9 y9 : Int) (x10 y10 : Int) (x11 y11 : Int) : eqV Try.prog 6 24 (.agg [.int .i64 x0, .int .i64 x1, .int .i64 x2, .int .i64 x3, .int .i64 x4, .int .i64 x5, .int .i64 x6, .int .i64 x7, .int .i64 x8, .int .i64 x9, .int .i64 x10, .int .i64 x11]) (.agg [.int .i64 y0, .int .i64 y1, .int .i64 y2, .int .i64 y3, .int .i64 y4, .int .i64 y5, .int .i64 y6, .int .i64 y7, .int .i64 y8, .int .i64 y9, .int .i64 y10, .int .i64 y11]) = some (ieq x0 y0 && (ieq x1 y1 && (ieq x2 y2 && (ieq x3 y3 && (ieq x4 y4 && (ieq x5 y5 && (ieq x6 y6 && (ieq x7 y7 && (ieq x8 y8 && (ieq x9 y9 && (ieq x10 y10 && (ieq x11 y11 && true)))))))))))) := by kernel_rfl
theorem eq88 (x0 y0 : Int) (x1 y1 : Int) (x2 y2 : Int) : eqV Try.prog 6 88 (.agg [.int .i64 x0, .int .i64 x1, .int .u64 x2]) (.agg [.int .i64 y0, .int .i64 y1, .int .u64 y2]) = some (ieq x0 y0 && (ieq x1 y1 && (ieq x2 y2 && true))) := by kernel_rfl
attribute [simp] eq23 eq24 eq88
end Go.Proofs.Ytongalkfcfkfiaa
end
section
namespace Go.Proofs.Ytongalkfcfkfiaa
open Go.Pv Go.RowKit
set_option linter.unusedSimpArgs false
set_option linter.unusedVariables false
set_option maxRecDepth 100000
set_option maxHeartbeats 4000000

theorem tmod_fix {n m : Int} (hm : 0 < m) : (bif ilt (n.tmod m) 0 then n.tmod m + m else n.tmod m) = n % m := by
  have h1 := Int.tmod_eq_emod (a := n) (b := m)
  have h2 := Int.emod_nonneg n (show m ≠ 0 by omega)
  have h3 := Int.emod_lt_of_pos n hm
  rw [h1]
  have h4 : (m.natAbs : Int) = m := by omega
  split
  · have : ilt (n % m) 0 = false := ilt_f (by omega)
    simp [this]
  · rename_i hh
    have : ilt (n % m - m.natAbs) 0 = true := ilt_t (by omega)
    rw [this, h4]; simp
/-! ### within -/
def Twi : List V → Option V
  | [.int .i64 n, .int .i64 m] => if 0 < m ∧ m ≤ 1099511627776 then some (.int .i64 (n % m)) else none
  | _ => none
theorem Twi_at {n m : Int} (h1 : 0 < m) (h2 : m ≤ 1099511627776) : Twi [.int .i64 n, .int .i64 m] = some (.int .i64 (n % m)) := if_pos ⟨h1, h2⟩
theorem wi_ok (f : FuncId) (hf : f = 4 ∨ f = 12) (n m : Int) (h1 : 0 < m) (h2 : m ≤ 1099511627776) : PCall Try.prog f [.int .i64 n, .int .i64 m] (.int .i64 (n % m)) := by
  have hb : (m == 0) = false := by simp; omega
  have hne : m ≠ 0 := by omega
  have he := tmod_fix (n := n) h1
  have g1 := Int.lt_tmod_of_pos n h1
  generalize n % m = r at he
  generalize hq : n.tmod m = q at he g1
  rcases hf with rfl | rfl
  · cases hl : ilt q 0
    · rw [hl] at he; simp only [cond_false] at he; subst he
      refine pcall_cx noTab_ok mixed (fun _ => none) Try.func4 rfl Try.ntmps4 Try.results4 (by simp) (by kernel_rfl) ?_
      repeat' first
        | (with_reducible refine gw_bool (fun _ => ?_) (fun _ => ?_))
        | (with_reducible refine condw_bool (fun _ => ?_) (fun _ => ?_))
        | simp [*]
    · rw [hl] at he; simp only [cond_true] at he
      have hw : IntKind.i64.wrap r = r := wrap_id (by have := ilt_iff.1 hl; omega) (by have := ilt_iff.1 hl; omega)
      refine pcall_cx noTab_ok mixed (fun _ => none) Try.func4 rfl Try.ntmps4 Try.results4 (by simp) (by kernel_rfl) ?_
      repeat' first
        | (with_reducible refine gw_bool (fun _ => ?_) (fun _ => ?_))
        | (with_reducible refine condw_bool (fun _ => ?_) (fun _ => ?_))
        | simp [*]
  · cases hl : ilt q 0
    · rw [hl] at he; simp only [cond_false] at he; subst he
      refine pcall_cx noTab_ok mixed (fun _ => none) Try.func12 rfl Try.ntmps12 Try.results12 (by simp) (by kernel_rfl) ?_
      repeat' first
        | (with_reducible refine gw_bool (fun _ => ?_) (fun _ => ?_))
        | (with_reducible refine condw_bool (fun _ => ?_) (fun _ => ?_))
        | simp [*]
    · rw [hl] at he; simp only [cond_true] at he
      have hw : IntKind.i64.wrap r = r := wrap_id (by have := ilt_iff.1 hl; omega) (by have := ilt_iff.1 hl; omega)
      refine pcall_cx noTab_ok mixed (fun _ => none) Try.func12 rfl Try.ntmps12 Try.results12 (by simp) (by kernel_rfl) ?_
      repeat' first
        | (with_reducible refine gw_bool (fun _ => ?_) (fun _ => ?_))
        | (with_reducible refine condw_bool (fun _ => ?_) (fun _ => ?_))
        | simp [*]
theorem wi1_tab : ∀ vs u, Twi vs = some u → PCall Try.prog 4 vs u := by
  intro vs u h; unfold Twi at h; split at h
  · split at h
    · rename_i hc; cases h; exact wi_ok _ (.inl rfl) _ _ hc.1 hc.2
    · cases h
  · cases h
theorem wi2_tab : ∀ vs u, Twi vs = some u → PCall Try.prog 12 vs u := by
  intro vs u h; unfold Twi at h; split at h
  · split at h
    · rename_i hc; cases h; exact wi_ok _ (.inr rfl) _ _ hc.1 hc.2
    · cases h
  · cases h
/-! ### between, Count -/
def Tbw : List V → Option V
  | [.int .i64 x, .int .i64 lo, .int .i64 hi] => some (.bool (!ilt x lo && !ilt hi x))
  | _ => none
theorem bw_ok (x lo hi : Int) : PCall Try.prog 9 [.int .i64 x, .int .i64 lo, .int .i64 hi] (.bool (!ilt x lo && !ilt hi x)) := by
  cases h1 : ilt x lo
  · refine pcall_cx noTab_ok mixed (fun _ => none) Try.func9 rfl Try.ntmps9 Try.results9 (by simp) (by kernel_rfl) ?_
    repeat' first
      | (with_reducible refine gw_bool (fun _ => ?_) (fun _ => ?_))
      | (with_reducible refine condw_bool (fun _ => ?_) (fun _ => ?_))
      | simp [*]
  · refine pcall_cx noTab_ok mixed (fun _ => none) Try.func9 rfl Try.ntmps9 Try.results9 (by simp) (by kernel_rfl) ?_
    repeat' first
      | (with_reducible refine gw_bool (fun _ => ?_) (fun _ => ?_))
      | (with_reducible refine condw_bool (fun _ => ?_) (fun _ => ?_))
      | simp [*]
theorem bw_tab : ∀ vs u, Tbw vs = some u → PCall Try.prog 9 vs u := by
  intro vs u h; unfold Tbw at h; split at h
  · cases h; exact bw_ok _ _ _
  · cases h
def G1 : Tab := add 9 Tbw (noTab)
theorem G1_at (f : FuncId) (vs : List V) : G1.at' f vs = if f = 9 then Tbw vs else noTab.at' f vs := rfl
theorem G1_fr (f : FuncId) : G1.fr f = if f = 9 then false else noTab.fr f := rfl
theorem G1_gb (f : FuncId) : G1.gb f = noTab.gb f := rfl
theorem G1_gv (f : FuncId) (vs : List V) : G1.gv f vs = noTab.gv f vs := rfl
attribute [simp] G1_at G1_fr G1_gb G1_gv Tbw
theorem G1_ok : TabOK Try.prog G1 := by
  refine add_ok (noTab_ok) (by kernel_rfl) ?_
  · exact bw_tab
def Tct : List V → Option V
  | [.int .i64 s, .int .i64 k] => if (0 ≤ s ∧ s ≤ 1099511627776) ∧ (0 ≤ k ∧ k ≤ 11) then some (.int .i64 ((12 * s + k) % 600)) else none
  | _ => none
theorem Tct_at {s k : Int} (h1 : 0 ≤ s) (h2 : s ≤ 1099511627776) (h3 : 0 ≤ k) (h4 : k ≤ 11) : Tct [.int .i64 s, .int .i64 k] = some (.int .i64 ((12 * s + k) % 600)) := if_pos ⟨⟨h1, h2⟩, h3, h4⟩
theorem ct_ok (s k : Int) (h1 : 0 ≤ s) (h2 : s ≤ 1099511627776) (h3 : 0 ≤ k) (h4 : k ≤ 11) : PCall Try.prog 10 [.int .i64 s, .int .i64 k] (.int .i64 ((12 * s + k) % 600)) := by
  have e1 : ilt s 0 = false := ilt_f (by omega)
  have e2 : ilt 1099511627776 s = false := ilt_f (by omega)
  have e3 : ilt k 0 = false := ilt_f (by omega)
  have e4 : ilt 11 k = false := ilt_f (by omega)
  have w1 : IntKind.i64.wrap (12 * s) = 12 * s := wrap_id (by omega) (by omega)
  have w2 : IntKind.i64.wrap (12 * s + k) = 12 * s + k := wrap_id (by omega) (by omega)
  have w3 : (12 * s + k).tmod 600 = (12 * s + k) % 600 := Int.tmod_eq_emod_of_nonneg (by omega)
  refine pcall_cx G1_ok mixed (fun _ => none) Try.func10 rfl Try.ntmps10 Try.results10 (by simp) (by kernel_rfl) ?_
  repeat' first
    | (with_reducible refine gw_bool (fun _ => ?_) (fun _ => ?_))
    | (with_reducible refine condw_bool (fun _ => ?_) (fun _ => ?_))
    | simp [*]
theorem ct_tab : ∀ vs u, Tct vs = some u → PCall Try.prog 10 vs u := by
  intro vs u h; unfold Tct at h; split at h
  · split at h
    · rename_i hc; cases h; exact ct_ok _ _ hc.1.1 hc.1.2 hc.2.1 hc.2.2
    · cases h
  · cases h
/-! ### a frame, Check -/
structure Fr where
  u : Int
  c : Int
  x : Int
  y : Int
  z : Int
def l3 (x y z : Int) : V := .list 1 [[.int .i64 x], [.int .i64 y], [.int .i64 z]]
def Fr.cs (f : Fr) : List V := [.int .i64 f.u, .int .i64 f.c, .bool true, l3 f.x f.y f.z, l3 0 0 0]
def okFr (f : Fr) : Prop := (0 ≤ f.u ∧ f.u ≤ 999) ∧ (0 ≤ f.c ∧ f.c ≤ 599) ∧ (-16383 ≤ f.x ∧ f.x ≤ 16383) ∧ (-16383 ≤ f.y ∧ f.y ≤ 16383) ∧ (-16383 ≤ f.z ∧ f.z ≤ 16383)
instance (f : Fr) : Decidable (okFr f) := by unfold okFr; infer_instance
def unFr : List V → Option Fr
  | [.int .i64 u, .int .i64 c, .bool true, .list 1 [[.int .i64 x], [.int .i64 y], [.int .i64 z]], .list 1 [[.int .i64 0], [.int .i64 0], [.int .i64 0]]] => some ⟨u, c, x, y, z⟩
  | _ => none
theorem unFr_cs (f : Fr) : unFr f.cs = some f := rfl
theorem unFr_inv : ∀ c a, unFr c = some a → c = Fr.cs a := by
  intro c a h; unfold unFr at h; split at h
  · cases h; rfl
  · cases h
theorem chk_ok (f : Fr) (h : okFr f) : PCall Try.prog 11 [.agg f.cs] (.int .i64 0) := by
  obtain ⟨⟨h1, h2⟩, ⟨h3, h4⟩, ⟨h5, h6⟩, ⟨h7, h8⟩, h9, h10⟩ := h
  have e1 := ilt_f h1
  have e2 := ilt_f h2
  have e3 := ilt_f h3
  have e4 := ilt_f h4
  have e5 := ilt_f h5
  have e6 := ilt_f h6
  have e7 := ilt_f h7
  have e8 := ilt_f h8
  have e9 := ilt_f h9
  have e10 := ilt_f h10
  clear h1 h2 h3 h4 h5 h6 h7 h8 h9 h10
  refine pcall_cx G1_ok mixed (fun _ => none) Try.func11 rfl Try.ntmps11 Try.results11 (by simp) (by kernel_rfl) ?_
  repeat' first
    | (with_reducible refine gw_bool (fun _ => ?_) (fun _ => ?_))
    | (with_reducible refine condw_bool (fun _ => ?_) (fun _ => ?_))
    | (refine lp_unroll (D := (fun _ => none)) G1_ok mixed (by kernel_rfl) ?_)
    | simp [*, Fr.cs, l3]
def Tck : List V → Option V
  | [.agg a] => (match unFr a with
    | some f => if okFr f then some (.int .i64 0) else none
    | none => none)
  | _ => none
theorem Tck_at {f : Fr} (h : okFr f) : Tck [.agg f.cs] = some (.int .i64 0) := by
  simp only [Tck, unFr_cs]; exact if_pos h
theorem ck_tab : ∀ vs u, Tck vs = some u → PCall Try.prog 11 vs u := by
  intro vs u h; unfold Tck at h; split at h
  · split at h
    · rename_i h1
      split at h
      · rename_i hc; cases h; rw [unFr_inv _ _ h1]; exact chk_ok _ hc
      · cases h
    · cases h
  · cases h
end Go.Proofs.Ytongalkfcfkfiaa
end
section
namespace Go.Proofs.Ytongalkfcfkfiaa
open Go.Pv Go.RowKit
set_option linter.unusedSimpArgs false
set_option linter.unusedVariables false
set_option maxRecDepth 100000
set_option maxHeartbeats 4000000
def G2 : Tab := add 11 Tck (G1)
theorem G2_at (f : FuncId) (vs : List V) : G2.at' f vs = if f = 11 then Tck vs else G1.at' f vs := rfl
theorem G2_fr (f : FuncId) : G2.fr f = if f = 11 then false else G1.fr f := rfl
theorem G2_gb (f : FuncId) : G2.gb f = G1.gb f := rfl
theorem G2_gv (f : FuncId) (vs : List V) : G2.gv f vs = G1.gv f vs := rfl
attribute [simp] G2_at G2_fr G2_gb G2_gv Tck
theorem G2_ok : TabOK Try.prog G2 := by
  refine add_ok (G1_ok) (by kernel_rfl) ?_
  · exact ck_tab
attribute [-simp] Tck
def hiB (x : Int) : Int := x / 256 % 256
def loB (x : Int) : Int := x % 256
def encL (f : Fr) : List (List V) := [[.int .u8 136], [.int .u8 186], [.int .u8 (hiB f.u)], [.int .u8 (loB f.u)], [.int .u8 (hiB f.c)], [.int .u8 (loB f.c)], [.int .u8 1], [.int .u8 3],
  [.int .u8 (hiB f.x)], [.int .u8 (loB f.x)], [.int .u8 0], [.int .u8 (hiB f.y)], [.int .u8 (loB f.y)], [.int .u8 0], [.int .u8 (hiB f.z)], [.int .u8 (loB f.z)], [.int .u8 0]]
theorem u8_wrap (x : Int) : IntKind.u8.wrap x = x % 256 := by
  simp [IntKind.wrap, IntKind.bits, IntKind.signed]
theorem hi_w (x : Int) : IntKind.u8.wrap (x.fdiv (2 ^ min 8 IntKind.i64.bits)) = hiB x := by
  rw [u8_wrap, show (2 : Int) ^ min 8 IntKind.i64.bits = 256 from rfl, Int.fdiv_eq_ediv_of_nonneg _ (by omega)]; rfl
theorem lo_w (x : Int) : IntKind.u8.wrap x = loB x := u8_wrap x
theorem u8_z : IntKind.u8.wrap 0 = 0 := by rw [u8_wrap]; rfl
theorem u8_3 : IntKind.u8.wrap 3 = 3 := by rw [u8_wrap]; rfl
theorem enc_ok (f : Fr) (h : okFr f) : PCall Try.prog 14 [.agg f.cs] (.tup [.list 1 (encL f), .int .i64 0]) := by
  have hc := Tck_at h
  simp only [Fr.cs, l3] at hc
  refine pcall_cx G2_ok mixed (fun _ => none) Try.func14 rfl Try.ntmps14 Try.results14 (by simp) (by kernel_rfl) ?_
  repeat' first
    | (with_reducible refine gw_bool (fun _ => ?_) (fun _ => ?_))
    | (with_reducible refine condw_bool (fun _ => ?_) (fun _ => ?_))
    | simp [*, Fr.cs, l3, srcCells, hi_w, lo_w f.u, lo_w f.c, lo_w f.x, lo_w f.y, lo_w f.z, u8_z, u8_3, encL]
  refine lp_unroll (D := (fun _ => none)) G2_ok mixed (by kernel_rfl) ?_
  repeat' first
    | (with_reducible refine gw_bool (fun _ => ?_) (fun _ => ?_))
    | (with_reducible refine condw_bool (fun _ => ?_) (fun _ => ?_))
    | simp [*, St.forget, scr, scrC, srcCells, hi_w, lo_w f.u, lo_w f.c, lo_w f.x, lo_w f.y, lo_w f.z, u8_z, u8_3, encL]
  refine lp_view (View.forget _ _ 70) ?_
  refine lp_unroll (D := (fun _ => none)) G2_ok mixed (by kernel_rfl) ?_
  repeat' first
    | (with_reducible refine gw_bool (fun _ => ?_) (fun _ => ?_))
    | (with_reducible refine condw_bool (fun _ => ?_) (fun _ => ?_))
    | simp [*, St.forget, scr, scrC, srcCells, hi_w, lo_w f.u, lo_w f.c, lo_w f.x, lo_w f.y, lo_w f.z, u8_z, u8_3, encL]
  refine lp_view (View.forget _ _ 70) ?_
  refine lp_unroll (D := (fun _ => none)) G2_ok mixed (by kernel_rfl) ?_
  repeat' first
    | (with_reducible refine gw_bool (fun _ => ?_) (fun _ => ?_))
    | (with_reducible refine condw_bool (fun _ => ?_) (fun _ => ?_))
    | simp [*, St.forget, scr, scrC, srcCells, hi_w, lo_w f.u, lo_w f.c, lo_w f.x, lo_w f.y, lo_w f.z, u8_z, u8_3, encL]
  refine lp_view (View.forget _ _ 70) ?_
  refine lp_unroll (D := (fun _ => none)) G2_ok mixed (by kernel_rfl) ?_
  repeat' first
    | (with_reducible refine gw_bool (fun _ => ?_) (fun _ => ?_))
    | (with_reducible refine condw_bool (fun _ => ?_) (fun _ => ?_))
    | simp [*, St.forget, scr, scrC, srcCells, hi_w, lo_w f.u, lo_w f.c, lo_w f.x, lo_w f.y, lo_w f.z, u8_z, u8_3, encL]
end Go.Proofs.Ytongalkfcfkfiaa
end
section
namespace Go.Proofs.Ytongalkfcfkfiaa
open Go.Pv Go.RowKit
set_option linter.unusedSimpArgs false
set_option linter.unusedVariables false
set_option maxRecDepth 100000
set_option maxHeartbeats 4000000
attribute [-simp] Tck

theorem nan_ok (x : Int) : PCall Try.prog 39 [.int .i64 x] (.bool false) := by
  have h : ieq x x = true := ieq_t rfl
  refine pcall_cx noTab_ok mixed (fun _ => none) Try.func39 rfl Try.ntmps39 Try.results39 (by simp) (by kernel_rfl) ?_
  repeat' first
    | (with_reducible refine gw_bool (fun _ => ?_) (fun _ => ?_))
    | (with_reducible refine condw_bool (fun _ => ?_) (fun _ => ?_))
    | simp [*]
def Tnan : List V → Option V
  | [.int .i64 x] => some (.bool false)
  | _ => none
def G3 : Tab := add 39 Tnan (G2)
theorem G3_at (f : FuncId) (vs : List V) : G3.at' f vs = if f = 39 then Tnan vs else G2.at' f vs := rfl
theorem G3_fr (f : FuncId) : G3.fr f = if f = 39 then false else G2.fr f := rfl
theorem G3_gb (f : FuncId) : G3.gb f = G2.gb f := rfl
theorem G3_gv (f : FuncId) (vs : List V) : G3.gv f vs = G2.gv f vs := rfl
attribute [simp] G3_at G3_fr G3_gb G3_gv Tnan
theorem G3_ok : TabOK Try.prog G3 := by
  refine add_ok (G2_ok) (by kernel_rfl) ?_
  · intro vs v h; unfold Tnan at h; split at h
    · cases h; apply nan_ok
    · cases h
def Tcp : List V → Option V
  | [.int .i64 x, .int .i64 y] => if x = y then some (.int .i64 0) else none
  | _ => none
theorem cp_tab : ∀ vs u, Tcp vs = some u → PCall Try.prog 32 vs u := by
  intro vs u h; unfold Tcp at h; split at h
  · split at h
    · rename_i x y hxy
      subst hxy; cases h
      have h : ilt x x = false := ilt_f (by omega)
      refine pcall_cx G3_ok mixed (fun _ => none) Try.func32 rfl Try.ntmps32 Try.results32 (by simp) (by kernel_rfl) ?_
      repeat' first
        | (with_reducible refine gw_bool (fun _ => ?_) (fun _ => ?_))
        | (with_reducible refine condw_bool (fun _ => ?_) (fun _ => ?_))
        | simp [*]
    · cases h
  · cases h
def G4 : Tab := add 32 Tcp (G3)
theorem G4_at (f : FuncId) (vs : List V) : G4.at' f vs = if f = 32 then Tcp vs else G3.at' f vs := rfl
theorem G4_fr (f : FuncId) : G4.fr f = if f = 32 then false else G3.fr f := rfl
theorem G4_gb (f : FuncId) : G4.gb f = G3.gb f := rfl
theorem G4_gv (f : FuncId) (vs : List V) : G4.gv f vs = G3.gv f vs := rfl
attribute [simp] G4_at G4_fr G4_gb G4_gv Tcp
theorem G4_ok : TabOK Try.prog G4 := by
  refine add_ok (G3_ok) (by kernel_rfl) ?_
  · exact cp_tab
theorem byte_or (A B : Int) (hA : 0 ≤ A) (hB : 0 ≤ B) (hB2 : B < 256) : (((A * 256).toNat ||| B.toNat : Nat) : Int) = A * 256 + B := by
  obtain ⟨a, rfl⟩ := Int.eq_ofNat_of_zero_le hA
  obtain ⟨b, rfl⟩ := Int.eq_ofNat_of_zero_le hB
  have h1 : ((a : Int) * 256).toNat = a <<< 8 := by rw [Nat.shiftLeft_eq]; omega
  rw [h1, Int.toNat_natCast, ← Nat.shiftLeft_add_eq_or_of_lt (by omega), Nat.shiftLeft_eq]
  push_cast; rfl
theorem u16_wrap (x : Int) : IntKind.u16.wrap x = x % 65536 := by
  simp [IntKind.wrap, IntKind.bits, IntKind.signed]
theorem hiB_b (x : Int) : 0 ≤ hiB x ∧ hiB x < 256 := by unfold hiB; omega
theorem loB_b (x : Int) : 0 ≤ loB x ∧ loB x < 256 := by unfold loB; omega
theorem or64 {x : Int} (h0 : 0 ≤ x) (h1 : x < 65536) : IntKind.i64.wrap ↑((IntKind.i64.wrap (IntKind.i64.wrap (hiB x) * 2 ^ min 8 IntKind.i64.bits) % 2 ^ IntKind.i64.bits).toNat ||| (IntKind.i64.wrap (loB x) % 2 ^ IntKind.i64.bits).toNat) = x := by
  have a1 := hiB_b x
  have a2 := loB_b x
  have e : hiB x * 256 + loB x = x := by unfold hiB loB; omega
  generalize hiB x = A at a1 e ⊢
  generalize loB x = B at a2 e ⊢
  rw [show (2 : Int) ^ min 8 IntKind.i64.bits = 256 from rfl, show (2 : Int) ^ IntKind.i64.bits = 18446744073709551616 from rfl, wrap_id (n := A) (by omega) (by omega), wrap_id (n := A * 256) (by omega) (by omega), wrap_id (n := B) (by omega) (by omega), show A * 256 % 18446744073709551616 = A * 256 by omega, show B % 18446744073709551616 = B by omega, byte_or A B a1.1 a2.1 a2.2, e, wrap_id (by omega) (by omega)]
theorem i16_wrap (x : Int) : IntKind.i16.wrap x = (x + 32768) % 65536 - 32768 := by
  simp [IntKind.wrap, IntKind.bits, IntKind.signed]
  split <;> omega
theorem or16 {x : Int} (h0 : -32768 ≤ x) (h1 : x ≤ 32767) : IntKind.i64.wrap (IntKind.i16.wrap (IntKind.u16.wrap ↑((IntKind.u16.wrap (IntKind.u16.wrap (hiB x) * 2 ^ min 8 IntKind.u16.bits) % 2 ^ IntKind.u16.bits).toNat ||| (IntKind.u16.wrap (loB x) % 2 ^ IntKind.u16.bits).toNat))) = x := by
  have a1 := hiB_b x
  have a2 := loB_b x
  have e : (hiB x * 256 + loB x + 32768) % 65536 - 32768 = x := by unfold hiB loB; omega
  generalize hiB x = A at a1 e ⊢
  generalize loB x = B at a2 e ⊢
  rw [show (2 : Int) ^ min 8 IntKind.u16.bits = 256 from rfl, show (2 : Int) ^ IntKind.u16.bits = 65536 from rfl, u16_wrap, u16_wrap, u16_wrap, u16_wrap, show A % 65536 * 256 % 65536 % 65536 = A * 256 by omega, show B % 65536 % 65536 = B by omega, byte_or A B a1.1 a2.1 a2.2, i16_wrap, show (A * 256 + B) % 65536 = A * 256 + B by omega, e, wrap_id (by omega) (by omega)]
theorem dec_ok (f : Fr) (h : okFr f) : PCall Try.prog 19 [.list 1 (encL f)] (.tup [.agg f.cs, .int .i64 0]) := by
  have hc := Tck_at h
  simp only [Fr.cs, l3] at hc
  obtain ⟨⟨h1, h2⟩, ⟨h3, h4⟩, ⟨h5, h6⟩, ⟨h7, h8⟩, h9, h10⟩ := h
  have q1 := or64 (x := f.u) (by omega) (by omega)
  have q2 := or64 (x := f.c) (by omega) (by omega)
  have q3 := or16 (x := f.x) (by omega) (by omega)
  have q4 := or16 (x := f.y) (by omega) (by omega)
  have q5 := or16 (x := f.z) (by omega) (by omega)
  clear h1 h2 h3 h4 h5 h6 h7 h8 h9 h10
  refine pcall_cx G4_ok mixed (fun _ => none) Try.func19 rfl Try.ntmps19 Try.results19 (by simp) (by kernel_rfl) ?_
  repeat' first
    | (with_reducible refine gw_bool (fun _ => ?_) (fun _ => ?_))
    | (with_reducible refine condw_bool (fun _ => ?_) (fun _ => ?_))
    | (refine lp_unroll (D := (fun _ => none)) G4_ok mixed (by kernel_rfl) ?_)
    | simp [*, encL, Fr.cs, l3]
end Go.Proofs.Ytongalkfcfkfiaa
end
section
namespace Go.Pv
open Go.RowKit
open Go.ChangeMaps (setBlock)
set_option linter.unusedSimpArgs false
set_option linter.unusedVariables false
abbrev Sd := World → (Nat → Prop) → Lam → Base → Prop
section
variable {P : Program} {n : Nat}
/-- Statements, with something known of the world beside the frame and its heap. -/
def CWS (P : Program) (n : Nat) (c : Code) (Q : Exit → St → Sd) (S : Sd) (st : St) : Prop :=
  ∀ (w0 : Base) (ro : Nat → Prop) (lam : Lam) (a : Act) (w : World), S w ro lam w0 → Sim w0 n ro lam st a w →
    c.wp P (fun e a' w' => ∃ st' ro' lam', Q e st' w' ro' lam' w0 ∧ Ext w0 ro ro' ∧ Sim w0 n ro' lam' st' a' w') a w
variable {c x y : Code} {Q : Exit → St → Sd} {S : Sd} {st : St}
theorem CWS.cw {Q : Exit → St → Prop} (h : CWS P n c (fun e s _ _ _ _ => Q e s) (fun _ _ _ _ => True) st) : CW P n c Q st :=
  fun w0 ro lam a w hs => wp_mono (h w0 ro lam a w trivial hs) fun _ _ _ ⟨st', ro', lam', h1, h2, h3⟩ => ⟨st', ro', lam', h1, h2, h3⟩
theorem CWS.mono {Q' : Exit → St → Sd} (h : CWS P n c Q S st) (hq : ∀ e s w ro lam w0, Q e s w ro lam w0 → Q' e s w ro lam w0) : CWS P n c Q' S st :=
  fun w0 ro lam a w h0 hs => wp_mono (h w0 ro lam a w h0 hs) fun _ _ _ ⟨st', ro', lam', h1, h2, h3⟩ => ⟨st', ro', lam', hq _ _ _ _ _ _ h1, h2, h3⟩
def NxS (P : Program) (n : Nat) (c : Code) (Q : Exit → St → Sd) : Exit → St → Sd
  | .normal, st, w, ro, lam, w0 => ∃ S' : Sd, S' w ro lam w0 ∧ CWS P n c Q S' st
  | e, st, w, ro, lam, w0 => Q e st w ro lam w0
theorem cws_seq (h : CWS P n x (NxS P n y Q) S st) : CWS P n (.seq x y) Q S st := by
  intro w0 ro lam a w h0 hs
  refine wp_seq (wp_mono (h w0 ro lam a w h0 hs) fun e a' w' hh => ?_)
  obtain ⟨st', ro', lam', h1, h2, h3⟩ := hh
  cases e with
  | normal =>
    obtain ⟨S', k0, k1⟩ := h1
    refine wp_mono (k1 w0 ro' lam' a' w' k0 h3) fun e a'' w'' hh => ?_
    obtain ⟨st'', ro'', lam'', k1, k2, k3⟩ := hh
    exact ⟨st'', ro'', lam'', k1, h2.trans k2, k3⟩
  | _ => exact ⟨st', ro', lam', h1, h2, h3⟩
def BkS (id : Nat) (Q : Exit → St → Sd) : Exit → St → Sd
  | .exit i, st, w, ro, lam, w0 => if i = id then Q .normal st w ro lam w0 else Q (.exit i) st w ro lam w0
  | e, st, w, ro, lam, w0 => Q e st w ro lam w0
theorem cws_block {id : Nat} (h : CWS P n c (BkS id Q) S st) : CWS P n (.block id c) Q S st := by
  intro w0 ro lam a w h0 hs
  refine wp_block (wp_mono (h w0 ro lam a w h0 hs) fun e a' w' hh => ?_)
  obtain ⟨st', ro', lam', h1, h2, h3⟩ := hh
  cases e with
  | exit id' =>
    simp only [BkS] at h1
    simp only [Exit.inBlock]
    split at h1
    · rename_i hi; rw [if_pos hi]; exact ⟨st', ro', lam', h1, h2, h3⟩
    · rename_i hi; rw [if_neg hi]; exact ⟨st', ro', lam', h1, h2, h3⟩
  | _ => exact ⟨st', ro', lam', h1, h2, h3⟩
def LHS (P : Program) (n : Nat) (c : Code) (Q : Exit → St → Sd) (S : Sd) (st : St) : Prop :=
  ∀ (w0 : Base) (ro : Nat → Prop) (lam : Lam) (a : Act) (w : World), S w ro lam w0 → Sim w0 n ro lam st a w → ∀ (b : Frame) (kk : List Item) (cs : List Frame),
    ∃ e a' w', (∃ st' ro' lam', Q e st' w' ro' lam' w0 ∧ Ext w0 ro ro' ∧ Sim w0 n ro' lam' st' a' w') ∧ Arrives P (lone (b.at a (.code c :: .inLoop c :: kk)) cs w) b kk cs e a' w'
theorem LHS.cw (h : LHS P n c Q S st) : CWS P n (.loop c) Q S st := fun w0 ro lam a w h0 hs b kk cs =>
  let ⟨e, a', w', hq, harr⟩ := h w0 ro lam a w h0 hs b kk cs
  ⟨e, a', w', hq, .of_steps (.one step_loop) harr⟩
def LuS (P : Program) (n : Nat) (c : Code) (Q : Exit → St → Sd) : Exit → St → Sd
  | .normal, st, w, ro, lam, w0 => ∃ S' : Sd, S' w ro lam w0 ∧ LHS P n c Q S' st
  | e, st, w, ro, lam, w0 => Q e st w ro lam w0
theorem LHS.unroll (h : CWS P n c (LuS P n c Q) S st) : LHS P n c Q S st := fun w0 ro lam a w h0 hs b kk cs => by
  obtain ⟨e, a2, w2, ⟨s2, ro2, lam2, hq, hext2, hs2⟩, harr⟩ := h w0 ro lam a w h0 hs b (.inLoop c :: kk) cs
  cases e with
  | normal =>
    obtain ⟨S', k0, k1⟩ := hq
    obtain ⟨e', a', w', ⟨s3, ro3, lam3, hq', hext3, hs3⟩, harr'⟩ := k1 w0 ro2 lam2 a2 w2 k0 hs2 b kk cs
    exact ⟨e', a', w', ⟨s3, ro3, lam3, hq', hext2.trans hext3, hs3⟩, .of_steps (Steps.trans harr (.one step_inLoop)) harr'⟩
  | exit id => exact ⟨_, a2, w2, ⟨s2, ro2, lam2, hq, hext2, hs2⟩, .pass (x := .inLoop c) rfl (fun _ _ => .inl (by simp)) harr⟩
  | goto l => exact ⟨_, a2, w2, ⟨s2, ro2, lam2, hq, hext2, hs2⟩, .pass (x := .inLoop c) rfl (fun _ _ => .inl (by simp)) harr⟩
  | ret => exact ⟨_, a2, w2, ⟨s2, ro2, lam2, hq, hext2, hs2⟩, .pass (x := .inLoop c) rfl (fun _ _ => .inl (by simp)) harr⟩
  | panic ch => exact ⟨_, a2, w2, ⟨s2, ro2, lam2, hq, hext2, hs2⟩, .pass (x := .inLoop c) rfl (fun _ _ => .inl (by simp)) harr⟩
  | outgrown => exact ⟨_, a2, w2, ⟨s2, ro2, lam2, hq, hext2, hs2⟩, .pass (x := .inLoop c) rfl (fun _ _ => .inl (by simp)) harr⟩

/-! ### the iterator -/
structure ItAt (es : List (Value × Value)) (b r : Nat) (seq : List Nat) (w : World) (ro : Nat → Prop) (lam : Lam) (w0 : Base) : Prop where
  rob : ro b
  mp : ∃ ents clk, w.heap[b]? = some (.map ents clk) ∧ ents.size = es.length ∧ (∀ (j : Nat) (p : Value × Value) (e : MapEntry), es[j]? = some p → ents[j]? = some e → e.key = p.1 ∧ e.val = p.2 ∧ e.born = j ∧ j < clk) ∧ ∃ c0, clk ≤ c0 ∧ c0 ≤ clk ∧ w.heap[r]? = some (.mapIter (some b) clk seq.toArray c0)
  nro : ¬ ro r
  nown : ¬ ownB lam r
  free : w0.Free r
variable {es : List (Value × Value)} {b r : Nat} {seq : List Nat} {w0 : Base} {ro ro' : Nat → Prop} {lam lam' : Lam} {a a' : Act} {w w' : World}
theorem ItAt.r_lt (h : ItAt es b r seq w ro lam w0) : r < w.heap.size := by
  obtain ⟨ents, clk, _, _, _, c0, _, _, hr⟩ := h.mp
  exact (Array.getElem?_eq_some_iff.1 hr).1
theorem ItAt.keep {st' : St} (h : ItAt es b r seq w ro lam w0) (hs : Sim w0 n ro lam st a w) (hx : Ext ⟨w, ownB lam, a.defers⟩ ro ro') (hs' : Sim ⟨w, ownB lam, a.defers⟩ n ro' lam' st' a' w') : ItAt es b r seq w' ro' lam' w0 := by
  have hr := h.r_lt
  have kb : w'.heap[b]? = w.heap[b]? := hs'.below.block b (hs.rolt b h.rob) (fun ⟨key, hk⟩ => (hs.ob hk).2.2 h.rob)
  have kr : w'.heap[r]? = w.heap[r]? := hs'.below.block r hr h.nown
  obtain ⟨ents, clk, m1, m2, m3, c0, m4, m5, m6⟩ := h.mp
  refine ⟨hx.1 b h.rob, ⟨ents, clk, kb.trans m1, m2, m3, c0, m4, m5, kr.trans m6⟩, fun hh => ?_, fun ⟨key, hk⟩ => ?_, h.free⟩
  · rcases hx.2 r hh with h1 | h1
    · exact h.nro h1
    · rcases h1 with h1 | h1
      · exact h.nown h1
      · exact Nat.lt_irrefl _ (Nat.lt_of_lt_of_le hr h1)
  · rcases (hs'.ob hk).1 with h1 | h1
    · exact h.nown h1
    · exact Nat.lt_irrefl _ (Nat.lt_of_lt_of_le hr h1)
theorem cws_of_cw {Q : Exit → St → Prop} (h : CW P n c Q st) : CWS P n c (fun e s w ro lam w0 => Q e s ∧ ItAt es b r seq w ro lam w0) (ItAt es b r seq) st := by
  intro w0 ro lam a w h0 hs
  refine wp_mono (h ⟨w, ownB lam, a.defers⟩ ro lam a w hs.rebase) ?_
  rintro e a' w' ⟨st', ro', lam', hq, hx, hs'⟩
  exact ⟨st', ro', lam', ⟨hq, h0.keep hs hx hs'⟩, hx.unbase hs, hs.unbase hs'⟩
theorem Sim.other (hs : Sim w0 n ro lam st a w) (hw : w0.Keeps w') (hsz : w.heap.size ≤ w'.heap.size) (hro : ∀ b, ro b → w'.heap[b]? = w.heap[b]?) (hown : ∀ b, ownB lam b → w'.heap[b]? = w.heap[b]?) : Sim w0 n ro lam st a w' :=
  let m := hs.move hsz hro hown
  ⟨hw, hs.dfr, m.size, m.rolt, m.env, m.heap, m.dead, fun key b m' h => ⟨(hs.own key b m' h).1, (m.own key b m' h).2⟩, m.inj, fun key b h => ⟨⟨(hs.maps key b h).1.1, (m.maps key b h).1.2⟩, (m.maps key b h).2⟩⟩
theorem setBlock_other {w : World} {r k : Nat} {o : Obj} (h : k ≠ r) : (setBlock w r o).heap[k]? = w.heap[k]? := by
  simp [setBlock, Array.getElem?_setIfInBounds, Ne.symm h]
theorem setBlock_at {w : World} {r : Nat} {o : Obj} (h : r < w.heap.size) : (setBlock w r o).heap[r]? = some o := by
  simp [setBlock, Array.getElem?_setIfInBounds, h]
theorem tup_R {vs : List V} {xs : List Value} (h : vs.length = xs.length) (hr : ∀ (j : Nat) (c : V) (x : Value), vs[j]? = some c → xs[j]? = some x → R w ro lam c x) : R w ro lam (.tup vs) (.tuple xs.toArray) :=
  .tup _ _ (by simp [h]) fun j c x hc hx => hr j c x hc (by simpa using hx)
/-- The step. -/
theorem next_wp {o : Oper} {t d : Nat} (ho : o.op = .next (.tmp t) false) (hd : o.dst = some d) (hdn : d < n) (hs : Sim w0 n ro lam st a w) (hi : ItAt es b r seq w ro lam w0) (ht : st.env t = .val (.pointer (some ⟨r, 0, none⟩))) {K : Act → World → Prop} {QQ : Exit → Act → World → Prop}
    (h0 : (∀ j, j < es.length → j ∈ seq) → ∀ a', Sim w0 n ro lam (st.put (some d) (.tup [.bool false])) a' w → K a' w)
    (h1 : ∀ j p, es[j]? = some p → j ∉ seq → ∀ a' w', ItAt es b r (seq ++ [j]) w' ro lam w0 → Sim w0 n ro lam (st.put (some d) (.tup [.bool true, .junk, .junk])) a' w' → K a' w') : o.wp P a w K QQ := by
  have hx : a.eval (.tmp t) = .pointer (some ⟨r, 0, none⟩) := by
    have h9 := hs.env t
    rw [ht] at h9
    exact getD_val h9
  have hrl := hi.r_lt
  obtain ⟨ents, clk, m1, m2, m3, c0, m4, m5, m6⟩ := hi.mp
  have hent : ∀ e ∈ ents.toList, ∃ j p, es[j]? = some p ∧ ents[j]? = some e ∧ e.key = p.1 ∧ e.val = p.2 ∧ e.born = j ∧ j < clk := fun e he => by
    obtain ⟨j, hj⟩ := List.getElem?_of_mem he
    have hj' : ents[j]? = some e := by simpa using hj
    have hlt := (Array.getElem?_eq_some_iff.1 hj').1
    have hp : es[j]? = some (es[j]'(by omega)) := List.getElem?_eq_getElem _
    obtain ⟨q1, q2, q3, q4⟩ := m3 j _ e hp hj'
    exact ⟨j, _, hp, hj', q1, q2, q3, q4⟩
  unfold Oper.wp execOp
  simp only [ho]
  rcases run_next_at (P := P) w o.type r b clk c0 seq.toArray ents clk m6 m1 (fun e he => by obtain ⟨j, p, _, _, _, _, q, q'⟩ := hent e he; omega) m4 with ⟨hz, hrun⟩ | ⟨e, he, w1, hw1, hrun⟩
  · simp only [hx, Sem.run_bind, hrun, Result.andThen_ok, Sem.run_pure, Oper.upon, hd]
    refine h0 (fun j hj => ?_) _ (hs.put (by simpa [fits] using hdn) (.tup _ _ rfl fun j c x hc hx => ?_))
    · have hj' : ents[j]? = some (ents[j]'(by omega)) := Array.getElem?_eq_getElem _
      have hp : es[j]? = some (es[j]'hj) := List.getElem?_eq_getElem _
      have hb := (m3 j _ _ hp hj').2.2.1
      have hemp : leftOf ents seq.toArray = #[] := Array.eq_empty_of_size_eq_zero hz
      unfold leftOf at hemp
      rw [Array.filter_eq_empty_iff] at hemp
      have := hemp _ (Array.getElem_mem (by omega : j < ents.size))
      rw [hb] at this
      simpa using this
    · match j with
      | 0 => simp at hc hx; subst hc; subst hx; exact .pure _ _ (.bool _)
      | j + 1 => simp at hc
  · simp only [hx, Sem.run_bind, hrun, Result.andThen_ok, Sem.run_pure, Oper.upon, hd]
    have hm : e ∈ ents.toList ∧ seq.toArray.contains e.born = false := mem_left he
    obtain ⟨j, p, hp, hj', q1, q2, q3, q4⟩ := hent e hm.1
    have hh : w1.heap = w.heap := by rcases hw1 with rfl | rfl <;> rfl
    have hos : w1.os = w.os ∧ w1.tape = w.tape ∧ w1.output = w.output := by rcases hw1 with rfl | rfl <;> exact ⟨rfl, rfl, rfl⟩
    have hsz : (setBlock w1 r (.mapIter (some b) clk (seq.toArray.push e.born) clk)).heap.size = w.heap.size := by simp [setBlock, hh]
    have hoth : ∀ k, k ≠ r → (setBlock w1 r (.mapIter (some b) clk (seq.toArray.push e.born) clk)).heap[k]? = w.heap[k]? := fun k hk => by rw [setBlock_other hk, hh]
    have hbr : b ≠ r := fun h => hi.nro (h ▸ hi.rob)
    have hs1 : Sim w0 n ro lam st a (setBlock w1 r (.mapIter (some b) clk (seq.toArray.push e.born) clk)) :=
      hs.other (hs.below.but hos.1 hos.2.1 hos.2.2 (by omega) fun k _ hf => hoth k (fun h => hf (h ▸ hi.free))) (by omega) (fun k hk => hoth k (fun h => hi.nro (h ▸ hk))) (fun k hk => hoth k (fun h => hi.nown (h ▸ hk)))
    refine h1 j p hp (fun hmem => ?_) _ _ ⟨hi.rob, ⟨ents, clk, (hoth b hbr).trans m1, m2, m3, clk, Nat.le_refl _, Nat.le_refl _, ?_⟩, hi.nro, hi.nown, hi.free⟩ (hs1.put (by simpa [fits] using hdn) (.tup _ _ rfl fun i c x hc hx => ?_))
    · have := hm.2
      rw [q3] at this
      simp at this
      exact this hmem
    · rw [setBlock_at (by rw [hh]; exact hrl), q3]; simp
    · match i with
      | 0 => simp at hc hx; subst hc; subst hx; exact .pure _ _ (.bool _)
      | 1 => simp at hc hx; subst hc; exact .pure _ _ (.junk _)
      | 2 => simp at hc hx; subst hc; exact .pure _ _ (.junk _)
      | i + 3 => simp at hc
/-- The entry behind the step. -/
theorem entry_wp {o : Oper} {t d j : Nat} {p : Value × Value} (ho : o.op = .entry (.tmp t)) (hd : o.dst = some d) (hdn : d < n) (hs : Sim w0 n ro lam st a w) (hi : ItAt es b r (seq ++ [j]) w ro lam w0) (hp : es[j]? = some p) (ht : st.env t = .val (.pointer (some ⟨r, 0, none⟩))) {K : Act → World → Prop} {QQ : Exit → Act → World → Prop}
    (h : ∀ a', Sim w0 n ro lam (st.put (some d) (.tup [cv1 p.1, cv1 p.2])) a' w → K a' w) : o.wp P a w K QQ := by
  have hx : a.eval (.tmp t) = .pointer (some ⟨r, 0, none⟩) := by
    have h9 := hs.env t
    rw [ht] at h9
    exact getD_val h9
  obtain ⟨ents, clk, m1, m2, m3, c0, m4, m5, m6⟩ := hi.mp
  have hjl : j < ents.size := by rw [m2]; exact (List.getElem?_eq_some_iff.1 hp).1
  have hj' : ents[j]? = some (ents[j]'hjl) := Array.getElem?_eq_getElem _
  obtain ⟨q1, q2, q3, q4⟩ := m3 j p _ hp hj'
  have hcl : c0 = clk := by omega
  subst hcl
  have hn : (ents.toList.map (·.born)).Nodup := by
    have : ents.toList.map (·.born) = List.range ents.size := by
      apply List.ext_getElem
      · simp
      · intro i h1 h2
        simp only [List.length_map, Array.length_toList] at h1
        have hp' : es[i]? = some (es[i]'(by omega)) := List.getElem?_eq_getElem _
        have := (m3 i _ _ hp' (Array.getElem?_eq_getElem h1)).2.2.1
        simpa using this
    rw [this]; exact List.nodup_range
  have hrun := run_entry_at (P := P) w r b c0 seq.toArray ents c0 (ents[j]'hjl) (by rw [q3, m6]; simp) m1 (by simp) hn
  unfold Oper.wp execOp
  simp only [ho, hx, Sem.run_bind, hrun, Result.andThen_ok, Sem.run_pure, Oper.upon, hd]
  refine h _ (hs.put (by simpa [fits] using hdn) (.tup _ _ rfl fun i c x hc hx => ?_))
  match i with
  | 0 => simp at hc hx; subst hc; subst hx; rw [q1]; exact .pure _ _ (R0_cv1 _)
  | 1 => simp at hc hx; subst hc; subst hx; rw [q2]; exact .pure _ _ (R0_cv1 _)
  | i + 2 => simp at hc
/-- The iterator's making. -/
theorem range_wp {o : Oper} {t d : Nat} {ty k e : TypeId} (ho : o.op = .range ty (.tmp t)) (hty : P.underlying ty = some (.map k e)) (hd : o.dst = some d) (hdn : d < n) (hs : Sim w0 n ro lam st a w) (ht : st.env t = .rmap es) {K : Act → World → Prop} {QQ : Exit → Act → World → Prop}
    (h : ∀ b r a' w', ItAt es b r [] w' ro lam w0 → Sim w0 n ro lam (st.put (some d) (.val (.pointer (some ⟨r, 0, none⟩)))) a' w' → K a' w') : o.wp P a w K QQ := by
  obtain ⟨b, om, hro, hw, hm, hx⟩ : ∃ b om, ro b ∧ w.heap[b]? = some om ∧ MapR es om ∧ a.eval (.tmp t) = .map (some b) := by
    have := hs.env t
    rw [ht] at this
    generalize hg : a.tmps.getD t Go.undef = g at this
    cases this with
    | pure _ _ h => cases h with | rmap _ b om h1 h2 h3 => exact ⟨b, om, h1, h2, h3, hg⟩
  obtain ⟨ents, clk, rfl, m2, m3⟩ := hm
  have hrun := run_range_map (P := P) w ty k e b ents clk hty hw
  have hbl : b < w.heap.size := hs.rolt b hro
  have hold : ∀ i, i < w.heap.size → (w.alloc (.mapIter (some b) clk #[] clk)).heap[i]? = w.heap[i]? := fun i hi => heap_alloc_old w _ hi
  have hsz : w.heap.size ≤ (w.alloc (.mapIter (some b) clk #[] clk)).heap.size := by simp
  have hs1 : Sim w0 n ro lam st a (w.alloc (.mapIter (some b) clk #[] clk)) :=
    hs.other (hs.below.but rfl rfl rfl hsz fun i hi _ => hold i hi) hsz (fun i hi => hold i (hs.rolt i hi)) (fun i ⟨key, hk⟩ => hold i (hs.ob hk).2.1)
  unfold Oper.wp execOp
  simp only [ho, hx, Sem.run_bind, hrun, Result.andThen_ok, Sem.run_pure, Oper.upon, hd]
  refine h b w.heap.size _ _ ⟨hro, ⟨ents, clk, (hold b hbl).trans hw, m2, m3, clk, Nat.le_refl _, Nat.le_refl _, heap_alloc_new w _⟩, fun hh => Nat.lt_irrefl _ (hs.rolt _ hh), fun ⟨key, hk⟩ => Nat.lt_irrefl _ (hs.ob hk).2.1, .inr hs.below.size⟩ (hs1.put (by simpa [fits] using hdn) (.pure _ _ (.val _)))
end
end Go.Pv
end
section
namespace Go.Pv
open Go.RowKit
open Go.ChangeMaps (setBlock)
set_option linter.unusedSimpArgs false
set_option linter.unusedVariables false
section
variable {P : Program} {n : Nat} {w0 : Base} {ro ro' : Nat → Prop} {lam lam' : Lam} {st st' : St} {a a' : Act} {w w' : World}
theorem eg_wp0 {K : St → Prop} {Γ : Tab} (hΓ : TabOK P Γ) {w0 : Base} {ops : Array Oper} {QQ : Exit → Act → World → Prop} {rest : List Oper} : ∀ (l' : List Oper) (st : St) (ro : Nat → Prop) (lam : Lam) (a : Act) (w : World), l'.all (fun o => fits n o.dst) = true →
    egX P Γ ops l' K st → Sim w0 n ro lam st a w → (∀ st' a' ro' lam' w', K st' → Ext w0 ro ro' → Sim w0 n ro' lam' st' a' w' → wpList P ops QQ rest a' w') → wpList P ops QQ (l' ++ rest) a w
  | [], st, ro, lam, a, w, _, h, hs, hK => hK _ _ _ _ _ h (Ext.refl _ _) hs
  | o :: l', st, ro, lam, a, w, hf, h, hs, hK => by
    simp only [List.all_cons, Bool.and_eq_true] at hf
    show if Region.wanted o (yielded ops a.tmps) then o.wp P a w (wpList P ops QQ (l' ++ rest)) QQ ∨ (o.asks P a w ∧ LetsOut QQ) else wpList P ops QQ (l' ++ rest) (a.put o.dst undef) w
    simp only [egX] at h
    cases hw : wantV ops st o.guard with
    | none => rw [hw] at h; exact h.elim
    | some b =>
      rw [hw] at h
      rw [wantV_sound hs hw]
      cases b with
      | true =>
        rw [if_pos rfl]
        exact .inl (swX_sound hΓ hs hf.1 h fun st' a' ro' lam' w' k hx hs' => eg_wp0 hΓ l' st' ro' lam' a' w' hf.2 k hs' fun st2 a2 ro2 lam2 w2 k e hs2 => hK st2 a2 ro2 lam2 w2 k (hx.trans e) hs2)
      | false =>
        rw [if_neg (by simp)]
        exact eg_wp0 hΓ l' _ ro lam _ w hf.2 h (hs.put hf.1 (.pure _ _ .undef)) hK
theorem eg_end {K : St → Prop} {Γ : Tab} (hΓ : TabOK P Γ) {w0 : Base} {ops : Array Oper} {QQ : Exit → Act → World → Prop} (l' : List Oper) (st : St) (ro : Nat → Prop) (lam : Lam) (a : Act) (w : World) (hf : l'.all (fun o => fits n o.dst) = true)
    (h : egX P Γ ops l' K st) (hs : Sim w0 n ro lam st a w) (hK : ∀ st' a' ro' lam' w', K st' → Ext w0 ro ro' → Sim w0 n ro' lam' st' a' w' → QQ .normal a' w') : wpList P ops QQ l' a w := by
  have := eg_wp0 (rest := []) (QQ := QQ) hΓ l' st ro lam a w hf h hs hK
  rwa [List.append_nil] at this
theorem pcall_of2 {f : FuncId} {fn : Func} {c : Code} {vs : List V} {v : V} {n : Nat} {rs : Array ResultVar} (hf : P.funcs[f]? = some fn) (hb : fn.body = some c) (hn : fn.ntmps = n) (hrs : fn.results = rs) (hvs : vs.length ≤ n) (h : CW P n c (Fin P rs.toList (fun u => u = v)) ⟨ini 0 vs, fun _ => none⟩) : PCall P f vs v := by
  subst hn; subst hrs
  exact pcall_of hf hb hvs h
theorem cut {x y : Code} {Q : Exit → St → Prop} {K : St → Prop} {st : St} (hx : CW P n x (fun e s => e = .normal ∧ K s) st) (hy : ∀ s, K s → CW P n y Q s) : CW P n (.seq x y) Q st :=
  cw_seq (hx.mono fun e s ⟨h1, h2⟩ => by subst h1; exact hy s h2)
/-- A map in the making lies in block r. -/
structure Mk (ents : Array MapEntry) (clk : Nat) (r : Nat) (w : World) (ro : Nat → Prop) (lam : Lam) (w0 : Base) : Prop where
  at' : w.heap[r]? = some (.map ents clk)
  nro : ¬ ro r
  nown : ¬ ownB lam r
  free : w0.Free r
theorem mkmap_wp {o : Oper} {d : Nat} {ty : TypeId} (ho : o.op = .makeMap ty none) (hd : o.dst = some d) (hdn : d < n) (hs : Sim w0 n ro lam st a w) {K : Act → World → Prop} {QQ : Exit → Act → World → Prop}
    (h : ∀ r a' w', Mk #[] 0 r w' ro lam w0 → Sim w0 n ro lam (st.put (some d) (.val (.map (some r)))) a' w' → K a' w') : o.wp P a w K QQ := by
  have hold : ∀ i, i < w.heap.size → (w.alloc (.map #[] 0)).heap[i]? = w.heap[i]? := fun i hi => heap_alloc_old w _ hi
  have hsz : w.heap.size ≤ (w.alloc (.map #[] 0)).heap.size := by simp
  have hs1 : Sim w0 n ro lam st a (w.alloc (.map #[] 0)) :=
    hs.other (hs.below.but rfl rfl rfl hsz fun i hi _ => hold i hi) hsz (fun i hi => hold i (hs.rolt i hi)) (fun i ⟨key, hk⟩ => hold i (hs.ob hk).2.1)
  unfold Oper.wp execOp
  have hrun : (Instr.makeMap ty none).run P w = .ok (.map (some w.heap.size)) (w.alloc (.map #[] 0)) := by simp [Instr.makeMap, run_newObj]
  simp only [ho, Option.map_none, Sem.run_bind, hrun, Result.andThen_ok, Sem.run_pure, Oper.upon, hd]
  exact h w.heap.size _ _ ⟨heap_alloc_new w _, fun hh => Nat.lt_irrefl _ (hs.rolt _ hh), fun ⟨key, hk⟩ => Nat.lt_irrefl _ (hs.ob hk).2.1, .inr hs.below.size⟩ (hs1.put (by simpa [fits] using hdn) (.pure _ _ (.val _)))
theorem ins_wp {o : Oper} {t : Nat} {ty k e : TypeId} {K0 : IntKind} {kk : IntKind} {i : Int} {y : Value} {r clk : Nat} {ents : Array MapEntry} (ho : o.op = .insert ty (.tmp t) (.const (.int kk i)) (.const y)) (hty : P.underlying ty = some (.map k e)) (hk : P.underlying k = some (.int K0)) (hd : o.dst = none) (hs : Sim w0 n ro lam st a w)
    (hm : Mk ents clk r w ro lam w0) (ht : st.env t = .val (.map (some r))) (hf : Instr.findNow (.int K0) (.int kk i) ents.toList 0 = some none) {Kn : Act → World → Prop} {QQ : Exit → Act → World → Prop}
    (h : ∀ a' w', Mk (ents.push { key := .int kk i, val := y, born := clk }) (clk + 1) r w' ro lam w0 → Sim w0 n ro lam st a' w' → Kn a' w') : o.wp P a w Kn QQ := by
  have hx : a.eval (.tmp t) = .map (some r) := by
    have h9 := hs.env t
    rw [ht] at h9
    exact getD_val h9
  have hrl : r < w.heap.size := (Array.getElem?_eq_some_iff.1 hm.at').1
  have hobj : (getObj r).run P w = .ok (.map ents clk) w := by simp [getObj, Sem.run, hm.at']
  have hck : ∀ em, (Instr.checkKey em 10000 k (.int kk i)).run P w = .ok () w := fun em => run_checkKeyI hk em 9999
  have hset : ∀ o', (setObj r o').run P w = .ok () (setBlock w r o') := fun o' => by simp [setObj, Sem.run, hm.at', setBlock]
  have hrun : (Instr.mapUpdate ty (.map (some r)) (.int kk i) y).run P w = .ok () (setBlock w r (.map (ents.push { key := .int kk i, val := y, born := clk }) (clk + 1))) := by
    simp [Instr.mapUpdate, run_underlying hty, hobj, hck, Instr.findKey, run_underlying hk, hf, hset]
  have hoth : ∀ (o' : Obj) k, k ≠ r → (setBlock w r o').heap[k]? = w.heap[k]? := fun o' k hk => setBlock_other hk
  have hsz : ∀ o', (setBlock w r o').heap.size = w.heap.size := fun o' => by simp [setBlock]
  have hs1 : ∀ o', Sim w0 n ro lam st a (setBlock w r o') := fun o' =>
    hs.other (hs.below.but rfl rfl rfl (by rw [hsz]; exact Nat.le_refl _) fun k _ hf => hoth o' k (fun h => hf (h ▸ hm.free))) (by rw [hsz]; exact Nat.le_refl _) (fun k hk => hoth o' k (fun h => hm.nro (h ▸ hk))) (fun k hk => hoth o' k (fun h => hm.nown (h ▸ hk)))
  unfold Oper.wp execOp
  have ev1 : a.eval (.const (.int kk i)) = .int kk i := rfl
  have ev2 : a.eval (.const y) = y := rfl
  simp only [ho, hx, ev1, ev2, Sem.run_bind, hrun, Result.andThen_ok, Sem.run_pure, Oper.upon, hd]
  exact h _ _ ⟨setBlock_at hrl, hm.nro, hm.nown, hm.free⟩ (show Sim w0 n ro lam st (a.put none Go.undef) _ from (hs1 _).put (d := none) (v := .undef) rfl (.pure _ _ .undef))
/-- From here on it is only read. -/
theorem Mk.done {ents : Array MapEntry} {clk r : Nat} {es : List (Value × Value)} {t : Nat} (hm : Mk ents clk r w ro lam w0) (hs : Sim w0 n ro lam st a w) (ht : st.env t = .val (.map (some r))) (hes : MapR es (.map ents clk)) :
    ∃ ro', Ext w0 ro ro' ∧ Sim w0 n ro' lam ⟨upd st.env t (.rmap es), st.heap⟩ a w := by
  have hrl : r < w.heap.size := (Array.getElem?_eq_some_iff.1 hm.at').1
  have hs1 : Sim w0 n (fun b => ro b ∨ b = r) lam st a w := hs.more (fun b h => .inl h) (fun b h => h.elim (hs.rolt b) (fun h => h ▸ hrl))
    (fun key b m hl h => h.elim (hs.own key b m hl).2.2 (fun h => hm.nown ⟨key, .inl ⟨m, h ▸ hl⟩⟩)) (fun key b hl h => h.elim (hs.maps key b hl).1.2.2 (fun h => hm.nown ⟨key, .inr (h ▸ hl)⟩))
  refine ⟨fun b => ro b ∨ b = r, ⟨fun b h => .inl h, fun b h => h.imp id (fun h => by rw [h]; exact hm.free)⟩, hs1.env' fun k => ?_⟩
  by_cases hk : k = t
  · subst hk
    rw [upd_same]
    have h9 := hs1.env k
    rw [ht] at h9
    rw [getD_val h9]
    exact .pure _ _ (.rmap _ r _ (.inr rfl) hm.at' hes)
  · rw [upd_ne _ _ hk]; exact hs1.env k
end
end Go.Pv
namespace Go.Proofs.Ytongalkfcfkfiaa
open Go.Pv Go.RowKit
set_option linter.unusedSimpArgs false
set_option linter.unusedVariables false
set_option maxRecDepth 100000
set_option maxHeartbeats 4000000
def netE : List (Value × Value) := [(.int .u8 160, .int .i64 0), (.int .u8 161, .int .i64 1)]
theorem ud75 : Try.prog.underlying 75 = some (.map 5 3) := by kernel_rfl
theorem ud5 : Try.prog.underlying 5 = some (.int .u8) := by kernel_rfl
theorem net_ok : PCall Try.prog 22 [] (.rmap netE) := by
  refine pcall_of2 Try.func22 rfl Try.ntmps22 Try.results22 (by simp) ?_
  refine cut (K := fun s => True) ?_ ?_
  · refine CW.of_cx (D := (fun _ => none)) noTab_ok mixed _ _ _ (by kernel_rfl) ?_
    repeat' first
      | (with_reducible refine gw_bool (fun _ => ?_) (fun _ => ?_))
      | (with_reducible refine condw_bool (fun _ => ?_) (fun _ => ?_))
      | simp [*]
  rintro ⟨e, h⟩ -
  refine cut (K := fun s => s.env 0 = .rmap netE) ?_ ?_
  case' refine_2 =>
    rintro ⟨e, h⟩ h0
    simp only at h0
    refine CW.of_cx (D := (fun _ => none)) noTab_ok mixed _ _ _ (by kernel_rfl) ?_
    repeat' first
      | (with_reducible refine gw_bool (fun _ => ?_) (fun _ => ?_))
      | (with_reducible refine condw_bool (fun _ => ?_) (fun _ => ?_))
      | simp [*]
  intro w0 ro lam a w hs
  refine wp_region_list ?_
  refine wpList_plain rfl fun K1 hK1 => mkmap_wp rfl rfl (by decide) hs fun r a1 w1 m1 s1 => hK1 _ _ ?_
  refine wpList_plain rfl fun K2 hK2 => ins_wp (K0 := .u8) (kk := .u8) (i := 160) (y := .int .i64 0) rfl ud75 ud5 rfl s1 m1 (by simp [St.put, upd]) rfl fun a2 w2 m2 s2 => hK2 _ _ ?_
  refine wpList_plain rfl fun K3 hK3 => ins_wp (K0 := .u8) (kk := .u8) (i := 161) (y := .int .i64 1) rfl ud75 ud5 rfl s2 m2 (by simp [St.put, upd]) rfl fun a3 w3 m3 s3 => hK3 _ _ ?_
  obtain ⟨ro4, x4, s4⟩ := m3.done (es := netE) s3 (t := 1) (by simp [St.put, upd]) ⟨_, _, rfl, rfl, fun j p e hp he => by
    match j with
    | 0 => simp [netE] at hp he; subst hp; subst he; simp
    | 1 => simp [netE] at hp he; subst hp; subst he; simp
    | j + 2 => simp [netE] at hp⟩
  refine eg_end (K := fun s => s.env 0 = .rmap netE) noTab_ok (n := 3) _ _ _ _ _ _ (by kernel_rfl) ?_ s4 fun st5 a5 ro5 lam5 w5 k5 x5 s5 => ?_
  · simp [St.put, upd]
  · exact ⟨st5, ro5, lam5, ⟨rfl, k5⟩, x4.trans x5, s5⟩
end Go.Proofs.Ytongalkfcfkfiaa
end
section
namespace Go.Pv
open Go.RowKit
open Go.ChangeMaps (setBlock)
set_option linter.unusedSimpArgs false
set_option linter.unusedVariables false
section
variable {P : Program} {n : Nat}
def ptV (r : Nat) : V := .val (.pointer (some ⟨r, 0, none⟩))
def mapLp (bid i8 b2 i9 : Nat) (ops8 ops9 : Array Oper) (tc : Nat) (rest : Code) : Code :=
  .seq (.region i8 ops8 false) (.seq (.cond (.tmp tc) .skip (.exit bid)) (.block b2 (.seq (.region i9 ops9 false) rest)))
def leftN (es : List (Value × Value)) (seq : List Nat) : Nat := ((List.range es.length).filter (fun j => !seq.contains j)).length
theorem leftN_lt {es : List (Value × Value)} {seq : List Nat} {j : Nat} (hj : j < es.length) (hn : j ∉ seq) : leftN es (seq ++ [j]) < leftN es seq := by
  unfold leftN
  refine filter_lt (fun i => !seq.contains i) (fun i => !(seq ++ [j]).contains i) (fun x hx => ?_) j ?_ ?_ (List.range es.length) (by simpa using hj)
  · simp at hx ⊢; exact hx.1
  · simpa using hn
  · simp
theorem mapLp_ok {Γ : Tab} (hΓ : TabOK P Γ) (hm : P.follows .mixedOrders = true) {es : List (Value × Value)} {bid i8 b2 i9 tc ti tn te : Nat} {ops8 ops9 : Array Oper} {rest : Code} {on ox oe : Oper} {r9 : List Oper} {Q : Exit → St → Prop} (I : Nat → List Nat → St → Prop)
    (h8 : ops8.toList = [on, ox]) (gn : on.guard = none) (hon : on.op = .next (.tmp ti) false) (don : on.dst = some tn) (gx : ox.guard = none) (hox : ox.op = .extract (.tmp tn) 0) (dox : ox.dst = some tc) (htn : tn < n) (htc : tc < n)
    (h9 : ops9.toList = oe :: r9) (ge : oe.guard = none) (hoe : oe.op = .entry (.tmp ti)) (doe : oe.dst = some te) (hte : te < n) (hr9 : r9.all (fun o => fits n o.dst) = true) (hne : ti ≠ tn) (hne2 : ti ≠ tc)
    (hI : ∀ r seq s, I r seq s → s.env ti = ptV r)
    (hround : ∀ r seq j p e h, I r seq ⟨e, h⟩ → es[j]? = some p → j ∉ seq →
      egX P Γ ops9 r9 (fun s => CW P n rest (fun ex s => ex = .normal ∧ ∃ s', View n s s' ∧ I r (seq ++ [j]) s') s) ⟨upd (upd (upd e tn (.tup [.bool true, .junk, .junk])) tc (.bool true)) te (.tup [cv1 p.1, cv1 p.2]), h⟩)
    (hend : ∀ r seq e h, I r seq ⟨e, h⟩ → (∀ j, j < es.length → j ∈ seq) → Q .normal ⟨upd (upd e tn (.tup [.bool false])) tc (.bool false), h⟩) :
    ∀ (d : Nat) (b r : Nat) (seq : List Nat) (st : St), leftN es seq < d → I r seq st → LHS P n (mapLp bid i8 b2 i9 ops8 ops9 tc rest) (BkS bid (fun e s _ _ _ _ => Q e s)) (ItAt es b r seq) st := by
  intro d
  induction d with
  | zero => intro b r seq st hd; omega
  | succ d ih =>
    intro b r seq st hd hi
    obtain ⟨e, h⟩ := st
    have hfx : [ox].all (fun o => fits n o.dst) = true := by simp [dox, fits, htc]
    have hti := hI _ _ _ hi
    simp only at hti
    have hd0 : ([ox] : List Oper).all (fun o => fits n o.dst) = true := hfx
    refine LHS.unroll (cws_seq ?_)
    intro w0 ro lam a w it hs
    refine wp_region_list ?_
    rw [h8]
    refine wpList_plain gn fun K1 hK1 => next_wp hon don htn hs it hti ?_ ?_
    · intro hall a1 s1
      refine hK1 _ _ ?_
      refine eg_end (K := fun s => s = ⟨upd (upd e tn (.tup [.bool false])) tc (.bool false), h⟩) hΓ (n := n) [ox] _ ro lam a1 w hfx ?_ s1 ?_
      · obtain ⟨dst, op, ty, pos, aft, g⟩ := ox
        simp only at hox dox gx
        subst hox; subst dox; subst gx
        simp [St.put]
      rintro s2 a2 ro2 lam2 w2 rfl hx2 hs2
      refine ⟨_, ro2, lam2, ⟨fun _ _ _ _ => True, trivial, cws_seq ?_⟩, hx2, hs2⟩
      intro w0' ro3 lam3 a3 w3 _ hs3
      refine wp_mono (CW.of_cx (D := fun _ => none) hΓ hm _ (fun ex s => ex = .exit bid ∧ s = ⟨upd (upd e tn (.tup [.bool false])) tc (.bool false), h⟩) _ rfl (by simp [cx]) w0' ro3 lam3 a3 w3 hs3) ?_
      rintro ex a4 w4 ⟨s4, ro4, lam4, ⟨rfl, rfl⟩, hx4, hs4⟩
      refine ⟨_, ro4, lam4, ?_, hx4, hs4⟩
      simp only [NxS, LuS, BkS, if_true]
      exact hend r seq e h hi hall
    · intro j p hp hj a1 w1 it1 s1
      refine hK1 _ _ ?_
      refine eg_end (K := fun s => s = ⟨upd (upd e tn (.tup [.bool true, .junk, .junk])) tc (.bool true), h⟩) hΓ (n := n) [ox] _ ro lam a1 w1 hfx ?_ s1.rebase ?_
      · obtain ⟨dst, op, ty, pos, aft, g⟩ := ox
        simp only at hox dox gx
        subst hox; subst dox; subst gx
        simp [St.put]
      rintro s2 a2 ro2 lam2 w2 rfl hx2 hs2
      refine ⟨_, ro2, lam2, ⟨ItAt es b r (seq ++ [j]), it1.keep s1 hx2 hs2, cws_seq ?_⟩, hx2.unbase s1, s1.unbase hs2⟩
      intro w0' ro3 lam3 a3 w3 it3 hs3
      refine wp_mono (cws_of_cw (CW.of_cx (D := fun _ => none) hΓ hm _ (fun ex s => ex = .normal ∧ s = ⟨upd (upd e tn (.tup [.bool true, .junk, .junk])) tc (.bool true), h⟩) _ rfl (by simp [cx])) w0' ro3 lam3 a3 w3 it3 hs3) ?_
      rintro ex a4 w4 ⟨s4, ro4, lam4, ⟨⟨rfl, rfl⟩, it4⟩, hx4, hs4⟩
      refine ⟨_, ro4, lam4, ⟨ItAt es b r (seq ++ [j]), it4, ?_⟩, hx4, hs4⟩
      clear it hs hK1 it1 s1 hx2 hs2 it3 hs3 it4 hx4 hs4
      refine cws_block (cws_seq ?_)
      intro w0 ro lam a w it hs
      refine wp_region_list ?_
      rw [h9]
      refine wpList_plain ge fun K1 hK1 => entry_wp hoe doe hte hs it hp (by simp only [upd_ne _ _ hne2, upd_ne _ _ hne]; exact hti) fun a1 s1 => hK1 _ _ ?_
      refine eg_end hΓ (n := n) r9 _ ro lam a1 w hr9 (hround r seq j p e h hi hp hj) s1.rebase ?_
      intro s2 a2 ro2 lam2 w2 hcw hx2 hs2
      refine ⟨_, ro2, lam2, ⟨ItAt es b r (seq ++ [j]), it.keep s1 hx2 hs2, ?_⟩, hx2.unbase s1, s1.unbase hs2⟩
      intro w0' ro3 lam3 a3 w3 it3 hs3
      refine wp_mono (cws_of_cw hcw w0' ro3 lam3 a3 w3 it3 hs3) ?_
      rintro ex a4 w4 ⟨s4, ro4, lam4, ⟨⟨rfl, s5, hv, hi5⟩, it4⟩, hx4, hs4⟩
      obtain ⟨ro5, lam5, hx5, hs5⟩ := hv _ _ _ _ _ hs4.rebase
      refine ⟨s5, ro5, lam5, ⟨ItAt es b r (seq ++ [j]), it4.keep hs4 hx5 hs5, ih b r (seq ++ [j]) s5 ?_ hi5⟩, hx4.trans (hx5.unbase hs4), hs4.unbase hs5⟩
      have := leftN_lt (List.getElem?_eq_some_iff.1 hp).1 hj
      omega
theorem mapSt_ok {Γ : Tab} (hΓ : TabOK P Γ) (hm : P.follows .mixedOrders = true) {es : List (Value × Value)} {i7 bid i8 b2 i9 tc ti tn te tm : Nat} {ty kt et : TypeId} {rest : Code} {oc og on ox oe : Oper} {r9 : List Oper} {Q : Exit → St → Prop} {st : St} (I : Nat → List Nat → St → Prop)
    (gg : og.guard = none) (hog : og.op = .range ty (.tmp tm)) (dog : og.dst = some ti) (hti : ti < n) (hty : P.underlying ty = some (.map kt et)) (hf7 : fits n oc.dst = true)
    (gn : on.guard = none) (hon : on.op = .next (.tmp ti) false) (don : on.dst = some tn) (gx : ox.guard = none) (hox : ox.op = .extract (.tmp tn) 0) (dox : ox.dst = some tc) (htn : tn < n) (htc : tc < n)
    (ge : oe.guard = none) (hoe : oe.op = .entry (.tmp ti)) (doe : oe.dst = some te) (hte : te < n) (hr9 : r9.all (fun o => fits n o.dst) = true) (hne : ti ≠ tn) (hne2 : ti ≠ tc)
    (hI : ∀ r seq s, I r seq s → s.env ti = ptV r)
    (hround : ∀ r seq j p e h, I r seq ⟨e, h⟩ → es[j]? = some p → j ∉ seq →
      egX P Γ (oe :: r9).toArray r9 (fun s => CW P n rest (fun ex s => ex = .normal ∧ ∃ s', View n s s' ∧ I r (seq ++ [j]) s') s) ⟨upd (upd (upd e tn (.tup [.bool true, .junk, .junk])) tc (.bool true)) te (.tup [cv1 p.1, cv1 p.2]), h⟩)
    (hend : ∀ r seq e h, I r seq ⟨e, h⟩ → (∀ j, j < es.length → j ∈ seq) → Q .normal ⟨upd (upd e tn (.tup [.bool false])) tc (.bool false), h⟩)
    (h : egX P Γ #[oc, og] [oc] (fun s => s.env tm = .rmap es ∧ ∀ r, I r [] ⟨upd s.env ti (ptV r), s.heap⟩) st) :
    CW P n (.seq (.region i7 #[oc, og] false) (.block bid (.loop (.seq (.region i8 #[on, ox] false) (.seq (.cond (.tmp tc) .skip (.exit bid)) (.block b2 (.seq (.region i9 (oe :: r9).toArray false) rest))))))) Q st := by
  refine CWS.cw (cws_seq ?_)
  intro w0 ro lam a w _ hs
  refine wp_region_list ?_
  rw [show (#[oc, og] : Array Oper).toList = [oc] ++ [og] from rfl]
  refine eg_wp0 hΓ (n := n) _ _ _ _ _ _ (by simp [hf7]) h hs ?_
  rintro s a2 ro2 lam2 w2 ⟨q1, q2⟩ hx2 hs2
  refine wpList_plain gg fun K1 hK1 => range_wp hog hty dog hti hs2 q1 fun b r a3 w3 it3 hs3 => hK1 _ _ ?_
  refine ⟨_, ro2, lam2, ⟨ItAt es b r [], it3, cws_block (LHS.cw (mapLp_ok (bid := bid) (i8 := i8) (b2 := b2) (i9 := i9) (ops8 := #[on, ox]) (ops9 := (oe :: r9).toArray) hΓ hm I rfl gn hon don gx hox dox htn htc (by simp) ge hoe doe hte hr9 hne hne2 hI hround hend _ b r [] _ (Nat.lt_succ_self _) (q2 r)))⟩, hx2, hs3⟩
end
end Go.Pv
end
section
namespace Go.Proofs.Ytongalkfcfkfiaa
open Go.Pv Go.RowKit
set_option linter.unusedSimpArgs false
set_option linter.unusedVariables false
set_option maxRecDepth 100000
set_option maxHeartbeats 4000000

def Tnet : List V → Option V
  | [] => some (.rmap netE)
  | _ => none
def G5 : Tab := add 22 Tnet (noTab)
theorem G5_at (f : FuncId) (vs : List V) : G5.at' f vs = if f = 22 then Tnet vs else noTab.at' f vs := rfl
theorem G5_fr (f : FuncId) : G5.fr f = if f = 22 then false else noTab.fr f := rfl
theorem G5_gb (f : FuncId) : G5.gb f = noTab.gb f := rfl
theorem G5_gv (f : FuncId) (vs : List V) : G5.gv f vs = noTab.gv f vs := rfl
attribute [simp] G5_at G5_fr G5_gb G5_gv Tnet
theorem G5_ok : TabOK Try.prog G5 := by
  refine add_ok (noTab_ok) (by kernel_rfl) ?_
  · intro vs v h; unfold Tnet at h; split at h
    · cases h; apply net_ok
    · cases h
def pk (m : Int) (f : Fr) (src sq : Int) : List (List V) := encL f ++ [[.int .u8 (hiB src)], [.int .u8 (loB src)], [.int .u8 (hiB sq)], [.int .u8 (loB sq)], [.int .u8 m], [.int .u8 0], [.int .u8 0], [.int .u8 17]]
def cpC (f : Fr) (src sq : Int) (seq : List Nat) : List V := [if 0 ∈ seq then .list 1 (pk 160 f src sq) else .nils, if 1 ∈ seq then .list 1 (pk 161 f src sq) else .nils]
def SendI (f : Fr) (src sq : Int) (r : Nat) (seq : List Nat) (s : St) : Prop :=
  (s.env 0 = .list 1 (encL f) ∧ s.env 1 = .int .i64 src ∧ s.env 2 = .int .i64 sq ∧ s.env 6 = .ptr 6 0 ∧ s.env 9 = .int .i64 17 ∧ s.env 10 = .ptr 10 0 ∧ s.env 35 = ptV r) ∧
  s.heap 6 = some ⟨55, [.nils, .nils]⟩ ∧ s.heap 10 = some ⟨55, cpC f src sq seq⟩ ∧ s.heap 44 = none ∧ s.heap 66 = none
theorem u8_17 : IntKind.u8.wrap 17 = 17 := by rw [u8_wrap]; rfl
theorem send_ok (f : Fr) (src sq : Int) (h1 : 0 ≤ src) (h2 : src < 65536) (h3 : 0 ≤ sq) (h4 : sq < 65536) : PCall Try.prog 15 [.list 1 (encL f), .int .i64 src, .int .i64 sq] (.tup [.agg [.list 1 (pk 160 f src sq), .list 1 (pk 161 f src sq)], .int .i64 ((sq + 1) % 65536), .int .i64 0]) := by
  have e1 := ilt_f h1
  have e2 := ilt_t h2
  have e3 := ilt_f h3
  have e4 := ilt_t h4
  have w1 : IntKind.i64.wrap (sq + 1) = sq + 1 := wrap_id (by omega) (by omega)
  have w2 : (sq + 1).tmod 65536 = (sq + 1) % 65536 := Int.tmod_eq_emod_of_nonneg (by omega)
  clear h1 h2 h3 h4
  have hE : (encL f).length = 17 := rfl
  refine pcall_of2 Try.func15 rfl Try.ntmps15 Try.results15 (by simp) ?_
  refine cut (K := fun s => s.env 0 = .list 1 (encL f) ∧ s.env 1 = .int .i64 src ∧ s.env 2 = .int .i64 sq ∧ s.env 6 = .ptr 6 0 ∧ s.heap = upd (fun _ => none) 6 (some ⟨55, [.nils, .nils]⟩)) ?_ ?_
  · refine CW.of_cx (D := (fun _ => none)) noTab_ok mixed _ _ _ (by kernel_rfl) ?_
    repeat' first
      | (with_reducible refine gw_bool (fun _ => ?_) (fun _ => ?_))
      | (with_reducible refine condw_bool (fun _ => ?_) (fun _ => ?_))
      | simp [*]
  rintro ⟨e, h⟩ ⟨k0, k1, k2, k6, rfl⟩
  simp only at k0 k1 k2 k6
  refine cut (K := fun s => s.env 0 = .list 1 (encL f) ∧ s.env 1 = .int .i64 src ∧ s.env 2 = .int .i64 sq ∧ s.env 6 = .ptr 6 0 ∧ s.heap = upd (fun _ => none) 6 (some ⟨55, [.nils, .nils]⟩)) ?_ ?_
  · refine CW.of_cx (D := (fun _ => none)) noTab_ok mixed _ _ _ (by kernel_rfl) ?_
    repeat' first
      | (with_reducible refine gw_bool (fun _ => ?_) (fun _ => ?_))
      | (with_reducible refine condw_bool (fun _ => ?_) (fun _ => ?_))
      | simp [*]
  clear k0 k1 k2 k6 e
  rintro ⟨e, h⟩ ⟨k0, k1, k2, k6, rfl⟩
  simp only at k0 k1 k2 k6
  refine cut (K := fun s => s.env 0 = .list 1 (encL f) ∧ s.env 1 = .int .i64 src ∧ s.env 2 = .int .i64 sq ∧ s.env 6 = .ptr 6 0 ∧ s.env 9 = .int .i64 17 ∧ s.heap = upd (fun _ => none) 6 (some ⟨55, [.nils, .nils]⟩)) ?_ ?_
  · refine CW.of_cx (D := (fun _ => none)) noTab_ok mixed _ _ _ (by kernel_rfl) ?_
    repeat' first
      | (with_reducible refine gw_bool (fun _ => ?_) (fun _ => ?_))
      | (with_reducible refine condw_bool (fun _ => ?_) (fun _ => ?_))
      | simp [*]
  clear k0 k1 k2 k6 e
  rintro ⟨e, h⟩ ⟨k0, k1, k2, k6, k9, rfl⟩
  simp only at k0 k1 k2 k6 k9
  refine cut (K := fun s => s.env 0 = .list 1 (encL f) ∧ s.env 1 = .int .i64 src ∧ s.env 2 = .int .i64 sq ∧ s.env 6 = .ptr 6 0 ∧ s.env 9 = .int .i64 17 ∧ s.heap = upd (fun _ => none) 6 (some ⟨55, [.nils, .nils]⟩)) ?_ ?_
  · refine CW.of_cx (D := (fun _ => none)) noTab_ok mixed _ _ _ (by kernel_rfl) ?_
    repeat' first
      | (with_reducible refine gw_bool (fun _ => ?_) (fun _ => ?_))
      | (with_reducible refine condw_bool (fun _ => ?_) (fun _ => ?_))
      | simp [*]
  clear k0 k1 k2 k6 k9 e
  rintro ⟨e, h⟩ ⟨k0, k1, k2, k6, k9, rfl⟩
  simp only at k0 k1 k2 k6 k9
  refine cut (K := fun s => s.env 0 = .list 1 (encL f) ∧ s.env 1 = .int .i64 src ∧ s.env 2 = .int .i64 sq ∧ s.env 6 = .ptr 6 0 ∧ s.env 9 = .int .i64 17 ∧ s.env 10 = .ptr 10 0 ∧ s.heap = upd (upd (fun _ => none) 6 (some ⟨55, [.nils, .nils]⟩)) 10 (some ⟨55, [.nils, .nils]⟩)) ?_ ?_
  · refine CW.of_cx (D := (fun _ => none)) noTab_ok mixed _ _ _ (by kernel_rfl) ?_
    repeat' first
      | (with_reducible refine gw_bool (fun _ => ?_) (fun _ => ?_))
      | (with_reducible refine condw_bool (fun _ => ?_) (fun _ => ?_))
      | simp [*]
  clear k0 k1 k2 k6 k9 e
  rintro ⟨e, h⟩ ⟨k0, k1, k2, k6, k9, k10, rfl⟩
  simp only at k0 k1 k2 k6 k9 k10
  refine cut (K := fun s => s.env 2 = .int .i64 sq ∧ s.env 6 = .ptr 6 0 ∧ s.env 10 = .ptr 10 0 ∧ s.heap 6 = some ⟨55, [.nils, .nils]⟩ ∧ s.heap 10 = some ⟨55, [.list 1 (pk 160 f src sq), .list 1 (pk 161 f src sq)]⟩) ?_ ?_
  · refine mapSt_ok G5_ok mixed (es := netE) (SendI f src sq) rfl rfl rfl (by decide) ud75 (by decide) rfl rfl rfl rfl rfl rfl (by decide) (by decide) rfl rfl rfl (by decide) (by kernel_rfl) (by decide) (by decide) ?_ ?_ ?_ ?_
    · intro r seq s hI; exact hI.1.2.2.2.2.2.2
    · rintro r seq j p e h ⟨⟨i0, i1, i2, i6, i9, i10, i35⟩, g6, g10, g44, g66⟩ hp hj
      simp only at i0 i1 i2 i6 i9 i10 i35 g6 g10 g44 g66
      match j with
      | 0 =>
        simp only [netE, List.getElem?_cons_zero, Option.some.injEq] at hp
        subst hp
        obtain ⟨y, hy, hyc⟩ : ∃ y, (if 1 ∈ seq then V.list 1 (pk 161 f src sq) else .nils) = y ∧ (y = .nils ∨ ∃ L, y = .list 1 L) := by
          refine ⟨_, rfl, ?_⟩
          split
          · exact .inr ⟨_, rfl⟩
          · exact .inl rfl
        simp only [cpC, if_neg hj, hy] at g10
        replace hy : Hid (_ = _) := hy
        have h17 : hiB 17 = 0 := rfl
        have hpt : ptV r = .val (.pointer (some ⟨r, 0, none⟩)) := rfl
        simp only [hpt] at i35
        simp [*]
        refine CW.mono (Q := fun ex s => ex = .normal ∧ (s.env 0 = .list 1 (encL f) ∧ s.env 1 = .int .i64 src ∧ s.env 2 = .int .i64 sq ∧ s.env 6 = .ptr 6 0 ∧ s.env 9 = .int .i64 17 ∧ s.env 10 = .ptr 10 0 ∧ s.env 35 = .val (.pointer (some ⟨r, 0, none⟩))) ∧ s.heap 6 = some ⟨55, [.nils, .nils]⟩ ∧ s.heap 10 = some ⟨55, [.sl 44 0 25 1, y]⟩ ∧ s.heap 44 = some ⟨5, (pk 160 f src sq).flatten⟩) ?_ ?_
        · rcases hyc with rfl | ⟨L, rfl⟩
          · refine CW.of_cx (D := (fun _ => none)) G5_ok mixed _ _ _ (by kernel_rfl) ?_
            repeat' first
              | (with_reducible refine gw_bool (fun _ => ?_) (fun _ => ?_))
              | (with_reducible refine condw_bool (fun _ => ?_) (fun _ => ?_))
              | simp [*, setsV, srcCells, hi_w, lo_w src, lo_w sq, u8_z, u8_17, encL, appendV, pk, St.forget, scr, scrC]
          · refine CW.of_cx (D := (fun _ => none)) G5_ok mixed _ _ _ (by kernel_rfl) ?_
            repeat' first
              | (with_reducible refine gw_bool (fun _ => ?_) (fun _ => ?_))
              | (with_reducible refine condw_bool (fun _ => ?_) (fun _ => ?_))
              | simp [*, setsV, srcCells, hi_w, lo_w src, lo_w sq, u8_z, u8_17, encL, appendV, pk, St.forget, scr, scrC]
        · rintro ex ⟨e2, hh⟩ ⟨rfl, ⟨a0, a1, a2, a6, a9, a10, a35⟩, b6, b10, b44⟩
          simp only at a0 a1 a2 a6 a9 a10 a35 b6 b10 b44
          refine ⟨rfl, _, (View.pub 73 (key := 44) b44 rfl).trans (View.forget _ _ 66), ⟨?_, ?_, ?_, ?_, ?_, ?_, ?_⟩, ?_, ?_, ?_, ?_⟩
          all_goals first
            | (simp [St.forget, St.pub, pubT, pubA, pubC, scr, scrC, a0, a1, a2, a6, a9, a10, a35, b6, ptV]; done)
            | skip
          rcases hyc with rfl | ⟨L, rfl⟩
          · simp [St.forget, St.pub, pubC, scrC, b10, cpC, hy.out]
            simp [pk, encL, chunks]
          · simp [St.forget, St.pub, pubC, scrC, b10, cpC, hy.out]
            simp [pk, encL, chunks]
      | 1 =>
        simp only [netE, List.getElem?_cons_succ, List.getElem?_cons_zero, Option.some.injEq] at hp
        subst hp
        obtain ⟨y, hy, hyc⟩ : ∃ y, (if 0 ∈ seq then V.list 1 (pk 160 f src sq) else .nils) = y ∧ (y = .nils ∨ ∃ L, y = .list 1 L) := by
          refine ⟨_, rfl, ?_⟩
          split
          · exact .inr ⟨_, rfl⟩
          · exact .inl rfl
        simp only [cpC, if_neg hj, hy] at g10
        replace hy : Hid (_ = _) := hy
        have h17 : hiB 17 = 0 := rfl
        have hpt : ptV r = .val (.pointer (some ⟨r, 0, none⟩)) := rfl
        simp only [hpt] at i35
        simp [*]
        refine CW.mono (Q := fun ex s => ex = .normal ∧ (s.env 0 = .list 1 (encL f) ∧ s.env 1 = .int .i64 src ∧ s.env 2 = .int .i64 sq ∧ s.env 6 = .ptr 6 0 ∧ s.env 9 = .int .i64 17 ∧ s.env 10 = .ptr 10 0 ∧ s.env 35 = .val (.pointer (some ⟨r, 0, none⟩))) ∧ s.heap 6 = some ⟨55, [.nils, .nils]⟩ ∧ s.heap 10 = some ⟨55, [y, .sl 44 0 25 1]⟩ ∧ s.heap 44 = some ⟨5, (pk 161 f src sq).flatten⟩) ?_ ?_
        · rcases hyc with rfl | ⟨L, rfl⟩
          · refine CW.of_cx (D := (fun _ => none)) G5_ok mixed _ _ _ (by kernel_rfl) ?_
            repeat' first
              | (with_reducible refine gw_bool (fun _ => ?_) (fun _ => ?_))
              | (with_reducible refine condw_bool (fun _ => ?_) (fun _ => ?_))
              | simp [*, setsV, srcCells, hi_w, lo_w src, lo_w sq, u8_z, u8_17, encL, appendV, pk, St.forget, scr, scrC]
          · refine CW.of_cx (D := (fun _ => none)) G5_ok mixed _ _ _ (by kernel_rfl) ?_
            repeat' first
              | (with_reducible refine gw_bool (fun _ => ?_) (fun _ => ?_))
              | (with_reducible refine condw_bool (fun _ => ?_) (fun _ => ?_))
              | simp [*, setsV, srcCells, hi_w, lo_w src, lo_w sq, u8_z, u8_17, encL, appendV, pk, St.forget, scr, scrC]
        · rintro ex ⟨e2, hh⟩ ⟨rfl, ⟨a0, a1, a2, a6, a9, a10, a35⟩, b6, b10, b44⟩
          simp only at a0 a1 a2 a6 a9 a10 a35 b6 b10 b44
          refine ⟨rfl, _, (View.pub 73 (key := 44) b44 rfl).trans (View.forget _ _ 66), ⟨?_, ?_, ?_, ?_, ?_, ?_, ?_⟩, ?_, ?_, ?_, ?_⟩
          all_goals first
            | (simp [St.forget, St.pub, pubT, pubA, pubC, scr, scrC, a0, a1, a2, a6, a9, a10, a35, b6, ptV]; done)
            | skip
          rcases hyc with rfl | ⟨L, rfl⟩
          · simp [St.forget, St.pub, pubC, scrC, b10, cpC, hy.out]
            simp [pk, encL, chunks]
          · simp [St.forget, St.pub, pubC, scrC, b10, cpC, hy.out]
            simp [pk, encL, chunks]
      | j + 2 => simp [netE] at hp
    · rintro r seq e h ⟨⟨i0, i1, i2, i6, i9, i10, i35⟩, g6, g10, g44, g66⟩ hall
      simp only at i0 i1 i2 i6 i9 i10 i35 g6 g10 g44 g66
      have h0 := hall 0 (by decide)
      have h1 := hall 1 (by decide)
      simp only [cpC, h0, h1, if_true] at g10
      exact ⟨rfl, by simp [i2], by simp [i6], by simp [i10], g6, g10⟩
    · simp [*]
      exact fun r => ⟨by simp [*], by simp, by simp [cpC], by simp, by simp⟩
  clear k0 k1 k2 k6 k9 k10 e
  rintro ⟨e, h⟩ ⟨k2, k6, k10, g6, g10⟩
  simp only at k2 k6 k10 g6 g10
  refine CW.of_cx (D := (fun _ => none)) noTab_ok mixed _ _ _ (by kernel_rfl) ?_
  repeat' first
    | (with_reducible refine gw_bool (fun _ => ?_) (fun _ => ?_))
    | (with_reducible refine condw_bool (fun _ => ?_) (fun _ => ?_))
    | simp [*, setsV]
end Go.Proofs.Ytongalkfcfkfiaa
end
section
namespace Go.Proofs.Ytongalkfcfkfiaa
open Go.Pv Go.RowKit
set_option linter.unusedSimpArgs false
set_option linter.unusedVariables false
set_option maxRecDepth 100000
set_option maxHeartbeats 4000000

theorem orAB {A B : Int} (h0 : 0 ≤ A) (h1 : A < 256) (h2 : 0 ≤ B) (h3 : B < 256) : IntKind.i64.wrap ↑((IntKind.i64.wrap (IntKind.i64.wrap A * 2 ^ min 8 IntKind.i64.bits) % 2 ^ IntKind.i64.bits).toNat ||| (IntKind.i64.wrap B % 2 ^ IntKind.i64.bits).toNat) = A * 256 + B := by
  rw [show (2 : Int) ^ min 8 IntKind.i64.bits = 256 from rfl, show (2 : Int) ^ IntKind.i64.bits = 18446744073709551616 from rfl, wrap_id (n := A) (by omega) (by omega), wrap_id (n := A * 256) (by omega) (by omega), wrap_id (n := B) (by omega) (by omega), show A * 256 % 18446744073709551616 = A * 256 by omega, show B % 18446744073709551616 = B by omega, byte_or A B h0 h2 h3, wrap_id (by omega) (by omega)]
def Tpr : List V → Option V
  | [.list 1 ([.int .u8 a] :: [.int .u8 b] :: _)] => if (0 ≤ a ∧ a < 256) ∧ (0 ≤ b ∧ b < 256) then some (.int .i64 (a * 256 + b)) else none
  | _ => none
theorem Tpr_at {x : Int} {l : List (List V)} (h0 : 0 ≤ x) (h1 : x < 65536) : Tpr [.list 1 ([.int .u8 (hiB x)] :: [.int .u8 (loB x)] :: l)] = some (.int .i64 x) := by
  have e : hiB x * 256 + loB x = x := by unfold hiB loB; omega
  rw [Tpr, if_pos ⟨hiB_b x, loB_b x⟩, e]
theorem pr_tab : ∀ vs u, Tpr vs = some u → PCall Try.prog 25 vs u := by
  intro vs u h; unfold Tpr at h; split at h
  · split at h
    · rename_i a b l hc
      cases h
      have q := orAB hc.1.1 hc.1.2 hc.2.1 hc.2.2
      clear hc
      refine pcall_cx noTab_ok mixed (fun _ => none) Try.func25 rfl Try.ntmps25 Try.results25 (by simp) (by kernel_rfl) ?_
      repeat' first
        | (with_reducible refine gw_bool (fun _ => ?_) (fun _ => ?_))
        | (with_reducible refine condw_bool (fun _ => ?_) (fun _ => ?_))
        | simp [*]
    · cases h
  · cases h
def G6 : Tab := add 25 Tpr (G5)
theorem G6_at (f : FuncId) (vs : List V) : G6.at' f vs = if f = 25 then Tpr vs else G5.at' f vs := rfl
theorem G6_fr (f : FuncId) : G6.fr f = if f = 25 then false else G5.fr f := rfl
theorem G6_gb (f : FuncId) : G6.gb f = G5.gb f := rfl
theorem G6_gv (f : FuncId) (vs : List V) : G6.gv f vs = G5.gv f vs := rfl
attribute [simp] G6_at G6_fr G6_gb G6_gv Tpr
theorem G6_ok : TabOK Try.prog G6 := by
  refine add_ok (G5_ok) (by kernel_rfl) ?_
  · exact pr_tab
attribute [-simp] Tpr
theorem mtd75 : mtdI Try.prog 75 = some (.int .i64 0) := by kernel_rfl
theorem td75 : td Try.prog 75 = some { size := 1, bytes := 8, agg := false, strct := false, zero := some [.junk], fields := [], arr := none, slc := none, int := none, isBool := false, isStr := false, eqg := false } := by kernel_rfl
attribute [simp] mtd75
theorem open_ok (f : Fr) (src sq k : Int) (hk : k = 0 ∨ k = 1) (h1 : 0 ≤ src) (h2 : src < 65536) (h3 : 0 ≤ sq) (h4 : sq < 65536) : PCall Try.prog 17 [.list 1 (pk (160 + k) f src sq)] (.tup [.agg [.int .i64 src, .int .i64 sq, .int .i64 k, .list 1 (encL f)], .int .i64 0]) := by
  have t1 := fun l => Tpr_at (l := l) h1 h2
  have t2 := fun l => Tpr_at (l := l) h3 h4
  have t3 := Tpr_at (x := 17) (l := []) (by decide) (by decide)
  rw [show hiB 17 = 0 from rfl, show loB 17 = 17 from rfl] at t3
  clear h1 h2 h3 h4
  rcases hk with rfl | rfl
  · refine pcall_cx G6_ok mixed (fun _ => none) Try.func17 rfl Try.ntmps17 Try.results17 (by simp) (by kernel_rfl) ?_
    repeat' first
      | (with_reducible refine gw_bool (fun _ => ?_) (fun _ => ?_))
      | (with_reducible refine condw_bool (fun _ => ?_) (fun _ => ?_))
      | simp [*, pk, encL, netE, appendV, srcCells, chunks]
  · refine pcall_cx G6_ok mixed (fun _ => none) Try.func17 rfl Try.ntmps17 Try.results17 (by simp) (by kernel_rfl) ?_
    repeat' first
      | (with_reducible refine gw_bool (fun _ => ?_) (fun _ => ?_))
      | (with_reducible refine condw_bool (fun _ => ?_) (fun _ => ?_))
      | simp [*, pk, encL, netE, appendV, srcCells, chunks]
end Go.Proofs.Ytongalkfcfkfiaa
end
section
namespace Go.Proofs.Ytongalkfcfkfiaa
open Go.Pv Go.RowKit
set_option linter.unusedSimpArgs false
set_option linter.unusedVariables false
set_option maxRecDepth 100000
set_option maxHeartbeats 4000000

theorem take_a (f t q s D s' : Int) (hD : IntKind.i64.wrap ↑((IntKind.i64.wrap (q - t) % 2 ^ IntKind.i64.bits).toNat &&& 65535 % 2 ^ IntKind.i64.bits) = D) (h1 : 1 ≤ D) (h2 : D < 32768)
    (hS : IntKind.u64.wrap ↑((IntKind.u64.wrap (s * 2 ^ min D.toNat IntKind.u64.bits) % 2 ^ IntKind.u64.bits).toNat ||| 1 % 2 ^ IntKind.u64.bits) = s') :
    PCall Try.prog 29 [.agg [.int .i64 f, .int .i64 t, .int .u64 s], .int .i64 q] (.tup [.agg [.int .i64 f, .int .i64 q, .int .u64 s'], .bool true]) := by
  have e1 := ilt_f h1
  have e2 := ilt_t h2
  have e3 : (0 : Int) ≤ D := by omega
  clear h1 h2
  refine pcall_cx noTab_ok mixed (fun _ => none) Try.func29 rfl Try.ntmps29 Try.results29 (by simp) (by kernel_rfl) ?_
  repeat' first
    | (with_reducible refine gw_bool (fun _ => ?_) (fun _ => ?_))
    | (with_reducible refine condw_bool (fun _ => ?_) (fun _ => ?_))
    | simp [*, setsV]
theorem take_b (f t q s D K : Int) (hD : IntKind.i64.wrap ↑((IntKind.i64.wrap (q - t) % 2 ^ IntKind.i64.bits).toNat &&& 65535 % 2 ^ IntKind.i64.bits) = D) (h1 : ilt D 1 = true ∨ ilt D 32768 = false)
    (hK : IntKind.i64.wrap ↑((IntKind.i64.wrap (t - q) % 2 ^ IntKind.i64.bits).toNat &&& 65535 % 2 ^ IntKind.i64.bits) = K) (h2 : 0 ≤ K) (h3 : K < 64)
    (hS : IntKind.u64.wrap ↑((s.fdiv (2 ^ min K.toNat IntKind.u64.bits) % 2 ^ IntKind.u64.bits).toNat &&& 1 % 2 ^ IntKind.u64.bits) = 1) :
    PCall Try.prog 29 [.agg [.int .i64 f, .int .i64 t, .int .u64 s], .int .i64 q] (.tup [.agg [.int .i64 f, .int .i64 t, .int .u64 s], .bool false]) := by
  have e2 := ilt_t h3
  clear h3
  cases e1 : ilt D 1
  · have e3 : ilt D 32768 = false := by rcases h1 with h1 | h1; · rw [e1] at h1; cases h1
                                        · exact h1
    clear h1
    refine pcall_cx noTab_ok mixed (fun _ => none) Try.func29 rfl Try.ntmps29 Try.results29 (by simp) (by kernel_rfl) ?_
    repeat' first
      | (with_reducible refine gw_bool (fun _ => ?_) (fun _ => ?_))
      | (with_reducible refine condw_bool (fun _ => ?_) (fun _ => ?_))
      | simp [*, setsV]
  · clear h1
    cases e3 : ilt D 32768
    · refine pcall_cx noTab_ok mixed (fun _ => none) Try.func29 rfl Try.ntmps29 Try.results29 (by simp) (by kernel_rfl) ?_
      repeat' first
        | (with_reducible refine gw_bool (fun _ => ?_) (fun _ => ?_))
        | (with_reducible refine condw_bool (fun _ => ?_) (fun _ => ?_))
        | simp [*, setsV]
    · refine pcall_cx noTab_ok mixed (fun _ => none) Try.func29 rfl Try.ntmps29 Try.results29 (by simp) (by kernel_rfl) ?_
      repeat' first
        | (with_reducible refine gw_bool (fun _ => ?_) (fun _ => ?_))
        | (with_reducible refine condw_bool (fun _ => ?_) (fun _ => ?_))
        | simp [*, setsV]
/-- The k-th sequence number; what is remembered after k of them. -/
def sqN (k : Nat) : Int := ((65530 + k) % 65536 : Nat)
def seenN (k : Nat) : Int := ((2 ^ k - 1) : Nat)
def srcC (f : Int) (k : Nat) : List V := [.int .i64 f, .int .i64 (sqN (k - 1)), .int .u64 (seenN k)]
theorem take_new (f : Int) (k : Nat) (h1 : 1 ≤ k) (h2 : k ≤ 10) : PCall Try.prog 29 [.agg (srcC f k), .int .i64 (sqN k)] (.tup [.agg (srcC f (k + 1)), .bool true]) := by
  have : k = 1 ∨ k = 2 ∨ k = 3 ∨ k = 4 ∨ k = 5 ∨ k = 6 ∨ k = 7 ∨ k = 8 ∨ k = 9 ∨ k = 10 := by omega
  rcases this with rfl | rfl | rfl | rfl | rfl | rfl | rfl | rfl | rfl | rfl <;>
    exact take_a f _ _ _ 1 _ (by rfl) (by decide) (by decide) (by rfl)
theorem take_old (f : Int) (k : Nat) (h2 : k ≤ 10) : PCall Try.prog 29 [.agg (srcC f 11), .int .i64 (sqN k)] (.tup [.agg (srcC f 11), .bool false]) := by
  have : k = 0 ∨ k = 1 ∨ k = 2 ∨ k = 3 ∨ k = 4 ∨ k = 5 ∨ k = 6 ∨ k = 7 ∨ k = 8 ∨ k = 9 ∨ k = 10 := by omega
  rcases this with rfl | rfl | rfl | rfl | rfl | rfl | rfl | rfl | rfl | rfl | rfl
  · exact take_b f _ _ _ 65526 10 (by rfl) (.inr rfl) (by rfl) (by decide) (by decide) (by rfl)
  · exact take_b f _ _ _ 65527 9 (by rfl) (.inr rfl) (by rfl) (by decide) (by decide) (by rfl)
  · exact take_b f _ _ _ 65528 8 (by rfl) (.inr rfl) (by rfl) (by decide) (by decide) (by rfl)
  · exact take_b f _ _ _ 65529 7 (by rfl) (.inr rfl) (by rfl) (by decide) (by decide) (by rfl)
  · exact take_b f _ _ _ 65530 6 (by rfl) (.inr rfl) (by rfl) (by decide) (by decide) (by rfl)
  · exact take_b f _ _ _ 65531 5 (by rfl) (.inr rfl) (by rfl) (by decide) (by decide) (by rfl)
  · exact take_b f _ _ _ 65532 4 (by rfl) (.inr rfl) (by rfl) (by decide) (by decide) (by rfl)
  · exact take_b f _ _ _ 65533 3 (by rfl) (.inr rfl) (by rfl) (by decide) (by decide) (by rfl)
  · exact take_b f _ _ _ 65534 2 (by rfl) (.inr rfl) (by rfl) (by decide) (by decide) (by rfl)
  · exact take_b f _ _ _ 65535 1 (by rfl) (.inr rfl) (by rfl) (by decide) (by decide) (by rfl)
  · exact take_b f _ _ _ 0 0 (by rfl) (.inl rfl) (by rfl) (by decide) (by decide) (by rfl)
end Go.Proofs.Ytongalkfcfkfiaa
end
section
namespace Go.Proofs.Ytongalkfcfkfiaa
open Go.Pv Go.RowKit
set_option linter.unusedSimpArgs false
set_option linter.unusedVariables false
set_option maxRecDepth 100000
set_option maxHeartbeats 4000000

/-! ### library functions -/
def s3 (a b : Int) (c : Int) : List V := [.int .i64 a, .int .i64 b, .int .u64 c]
def Tcln : List V → Option (V × List (Nat × Blk))
  | [.nils] => some (.nils, [])
  | [.list 3 [[.int .i64 a, .int .i64 b, .int .u64 c]]] => some (.sl 5 0 1 3, [(5, ⟨88, [.int .i64 a, .int .i64 b, .int .u64 c]⟩)])
  | _ => none
theorem cln_tab : ∀ vs u bl, Tcln vs = some (u, bl) → PGive Try.prog 26 vs u bl := by
  intro vs u bl h; unfold Tcln at h; split at h
  · cases h
    refine pgive_cx noTab_ok mixed (fun _ => none) Try.func26 rfl Try.ntmps26 Try.results26 (by simp) (by kernel_rfl) ?_
    repeat' first
      | (with_reducible refine gw_bool (fun _ => ?_) (fun _ => ?_))
      | (with_reducible refine condw_bool (fun _ => ?_) (fun _ => ?_))
      | simp [*, appendV, srcCells]
  · cases h
    refine pgive_cx noTab_ok mixed (fun _ => none) Try.func26 rfl Try.ntmps26 Try.results26 (by simp) (by kernel_rfl) ?_
    repeat' first
      | (with_reducible refine gw_bool (fun _ => ?_) (fun _ => ?_))
      | (with_reducible refine condw_bool (fun _ => ?_) (fun _ => ?_))
      | simp [*, appendV, srcCells, chunks, St.forget, scr, scrC]
  · cases h
def Tac1 : List V → Option V
  | [.agg [.int .i64 a, .int .i64 b, .int .u64 c], .rp [.int .i64 s]] => some (.bool (ieq a s))
  | _ => none
theorem ac1_tab : ∀ vs u, Tac1 vs = some u → PCall Try.prog 28 vs u := by
  intro vs u h; unfold Tac1 at h; split at h
  · cases h
    refine pcall_cx noTab_ok mixed (fun _ => none) Try.func28 rfl Try.ntmps28 Try.results28 (by simp) (by kernel_rfl) ?_
    repeat' first
      | (with_reducible refine gw_bool (fun _ => ?_) (fun _ => ?_))
      | (with_reducible refine condw_bool (fun _ => ?_) (fun _ => ?_))
      | simp [*]
  · cases h
def G7 : Tab := add 28 Tac1 (noTab)
theorem G7_at (f : FuncId) (vs : List V) : G7.at' f vs = if f = 28 then Tac1 vs else noTab.at' f vs := rfl
theorem G7_fr (f : FuncId) : G7.fr f = if f = 28 then false else noTab.fr f := rfl
theorem G7_gb (f : FuncId) : G7.gb f = noTab.gb f := rfl
theorem G7_gv (f : FuncId) (vs : List V) : G7.gv f vs = noTab.gv f vs := rfl
attribute [simp] G7_at G7_fr G7_gb G7_gv Tac1
theorem G7_ok : TabOK Try.prog G7 := by
  refine add_ok (noTab_ok) (by kernel_rfl) ?_
  · exact ac1_tab
def Tifn : List V → Option V
  | [.nils, .clo _ _] => some (.int .i64 (-1))
  | [.list 3 [[.int .i64 a, .int .i64 b, .int .u64 c]], .clo 28 [.rp [.int .i64 s]]] => if a = s then some (.int .i64 0) else none
  | _ => none
theorem ifn_tab : ∀ vs u, Tifn vs = some u → PCall Try.prog 27 vs u := by
  intro vs u h; unfold Tifn at h; split at h
  · cases h
    refine pcall_cx G7_ok mixed (fun _ => none) Try.func27 rfl Try.ntmps27 Try.results27 (by simp) (by kernel_rfl) ?_
    repeat' first
      | (with_reducible refine gw_bool (fun _ => ?_) (fun _ => ?_))
      | (with_reducible refine condw_bool (fun _ => ?_) (fun _ => ?_))
      | (refine lp_unroll (D := (fun _ => none)) G7_ok mixed (by kernel_rfl) ?_)
      | simp [*]
  · split at h
    · rename_i a b c s hs
      subst hs
      cases h
      have he : ieq a a = true := ieq_t rfl
      refine pcall_cx G7_ok mixed (fun _ => none) Try.func27 rfl Try.ntmps27 Try.results27 (by simp) (by kernel_rfl) ?_
      repeat' first
        | (with_reducible refine gw_bool (fun _ => ?_) (fun _ => ?_))
        | (with_reducible refine condw_bool (fun _ => ?_) (fun _ => ?_))
        | (refine lp_unroll (D := (fun _ => none)) G7_ok mixed (by kernel_rfl) ?_)
        | simp [*]
    · cases h
  · cases h
def Tins : List V → Option V
  | [.nils, .int .i64 0, .list 3 [[.int .i64 a, .int .i64 b, .int .u64 c]]] => some (.list 3 [[.int .i64 a, .int .i64 b, .int .u64 c]])
  | _ => none
theorem ins_tab : ∀ vs u, Tins vs = some u → PFresh Try.prog 31 vs u := by
  intro vs u h; unfold Tins at h; split at h
  · cases h
    refine pfresh_cx noTab_ok mixed (fun _ => none) Try.func31 rfl Try.ntmps31 Try.results31 (by simp) (by kernel_rfl) ?_
    repeat' first
      | (with_reducible refine gw_bool (fun _ => ?_) (fun _ => ?_))
      | (with_reducible refine condw_bool (fun _ => ?_) (fun _ => ?_))
      | simp [*, appendV, srcCells, chunks]
  · cases h
/-! ### take, as a table -/
def tkNew (t s q : Int) : Bool := (List.range 11).any fun k => decide (1 ≤ k) && (decide (t = sqN (k - 1)) && (decide (s = seenN k) && decide (q = sqN k)))
def tkOld (t s q : Int) : Bool := (List.range 11).any fun k => decide (t = sqN 10) && (decide (s = seenN 11) && decide (q = sqN k))
def Ttk : List V → Option V
  | [.agg [.int .i64 f, .int .i64 t, .int .u64 s], .int .i64 q] => if tkNew t s q = true then some (.tup [.agg [.int .i64 f, .int .i64 q, .int .u64 (2 * s + 1)], .bool true]) else
      if tkOld t s q = true then some (.tup [.agg [.int .i64 f, .int .i64 t, .int .u64 s], .bool false]) else none
  | _ => none
theorem seen_succ (k : Nat) : seenN (k + 1) = 2 * seenN k + 1 := by
  unfold seenN
  have : 1 ≤ 2 ^ k := Nat.one_le_two_pow
  have e : (2 : Nat) ^ (k + 1) = 2 * 2 ^ k := by rw [Nat.pow_succ]; omega
  rw [e]; omega
theorem tk_tab : ∀ vs u, Ttk vs = some u → PCall Try.prog 29 vs u := by
  intro vs u h; unfold Ttk at h; split at h
  · split at h
    · rename_i f t s q h1
      cases h
      unfold tkNew at h1
      simp only [List.any_eq_true, List.mem_range, Bool.and_eq_true, decide_eq_true_eq] at h1
      obtain ⟨k, hk, k1, rfl, rfl, rfl⟩ := h1
      have := take_new f k k1 (by omega)
      rw [srcC, srcC, seen_succ, Nat.add_sub_cancel] at this
      exact this
    · split at h
      · rename_i f t s q _ h1
        cases h
        unfold tkOld at h1
        simp only [List.any_eq_true, List.mem_range, Bool.and_eq_true, decide_eq_true_eq] at h1
        obtain ⟨k, hk, rfl, rfl, rfl⟩ := h1
        exact take_old f k (by omega)
      · cases h
  · cases h
theorem Ttk_new (f : Int) {k : Nat} (h1 : 1 ≤ k) (h2 : k ≤ 10) : Ttk [.agg (srcC f k), .int .i64 (sqN k)] = some (.tup [.agg (srcC f (k + 1)), .bool true]) := by
  have h : tkNew (sqN (k - 1)) (seenN k) (sqN k) = true := by
    unfold tkNew
    simp only [List.any_eq_true, List.mem_range, Bool.and_eq_true, decide_eq_true_eq]
    exact ⟨k, by omega, h1, by simp⟩
  rw [srcC, srcC, seen_succ, Nat.add_sub_cancel]
  exact if_pos h
theorem Ttk_old (f : Int) {k : Nat} (h2 : k ≤ 10) : Ttk [.agg (srcC f 11), .int .i64 (sqN k)] = some (.tup [.agg (srcC f 11), .bool false]) := by
  have h : tkOld (sqN 10) (seenN 11) (sqN k) = true := by
    unfold tkOld
    simp only [List.any_eq_true, List.mem_range, Bool.and_eq_true, decide_eq_true_eq]
    exact ⟨k, by omega, by simp⟩
  have h0 : tkNew (sqN 10) (seenN 11) (sqN k) = false := by
    unfold tkNew
    rw [List.any_eq_false]
    intro j hj
    simp only [List.mem_range] at hj
    have : ¬ seenN 11 = seenN j := by
      have : j = 0 ∨ j = 1 ∨ j = 2 ∨ j = 3 ∨ j = 4 ∨ j = 5 ∨ j = 6 ∨ j = 7 ∨ j = 8 ∨ j = 9 ∨ j = 10 := by omega
      rcases this with rfl | rfl | rfl | rfl | rfl | rfl | rfl | rfl | rfl | rfl | rfl <;> decide
    simp [this]
  rw [srcC]
  simp only [Ttk, Nat.reduceSub]
  rw [if_neg (by rw [h0]; decide), if_pos h]
def G8 : Tab := addG 26 Tcln (add 27 Tifn (addF 31 Tins (add 29 Ttk (noTab))))
theorem G8_at (f : FuncId) (vs : List V) : G8.at' f vs = if f = 27 then Tifn vs else if f = 31 then Tins vs else if f = 29 then Ttk vs else noTab.at' f vs := rfl
theorem G8_fr (f : FuncId) : G8.fr f = if f = 27 then false else if f = 31 then true else if f = 29 then false else noTab.fr f := rfl
theorem G8_gb (f : FuncId) : G8.gb f = if f = 26 then true else noTab.gb f := rfl
theorem G8_gv (f : FuncId) (vs : List V) : G8.gv f vs = if f = 26 then Tcln vs else noTab.gv f vs := rfl
attribute [simp] G8_at G8_fr G8_gb G8_gv Tcln Tifn Tins Ttk
theorem G8_ok : TabOK Try.prog G8 := by
  refine addG_ok (add_ok (addF_ok (add_ok (noTab_ok) (by kernel_rfl) ?_) (by kernel_rfl) ?_) (by kernel_rfl) ?_) (by kernel_rfl) ?_
  · exact tk_tab
  · exact ins_tab
  · exact ifn_tab
  · exact cln_tab
attribute [-simp] Ttk
/-! ### Accept -/
theorem accPre {q f : Int} {src : V} {Q : Exit → St → Prop} {c : Code} (hsrc : src = .nils ∨ ∃ l, src = .list 3 l)
    (h : ∀ e' h', (e' 2 = .int .i64 q ∧ e' 3 = .ptr 3 0 ∧ e' 4 = .rp [.int .i64 f] ∧ e' 6 = .ptr 6 0 ∧ e' 7 = .bool false) → h' 3 = some ⟨60, [src]⟩ → h' 6 = some ⟨60, [.nils]⟩ → h' 8 = none → h' 10 = none → h' 69 = none → h' 150005 = none → CW Try.prog 73 c Q ⟨e', h'⟩)
    (e : Nat → V) (k : e 2 = .int .i64 q ∧ e 3 = .ptr 3 0 ∧ e 4 = .ptr 4 0 ∧ e 6 = .ptr 6 0 ∧ e 7 = .bool false) :
    CW Try.prog 73 c Q ⟨e, upd (upd (upd (fun _ => none) 3 (some ⟨60, [src]⟩)) 4 (some ⟨3, [.int .i64 f]⟩)) 6 (some ⟨60, [.nils]⟩)⟩ := by
  refine cw_view (View.pub _ (key := 4) (blk := ⟨3, [.int .i64 f]⟩) (by simp) rfl) ?_
  obtain ⟨k2, k3, k4, k6, k7⟩ := k
  refine h _ _ ⟨by simp [St.pub, pubT, pubA, pubC, k2], by simp [St.pub, pubT, pubA, pubC, k3], by simp [St.pub, pubT, pubA, pubC, k4], by simp [St.pub, pubT, pubA, pubC, k6], by simp [St.pub, pubT, pubA, pubC, k7]⟩ ?_ (by simp [St.pub, pubC]) (by simp [St.pub]) (by simp [St.pub]) (by simp [St.pub]) (by simp [St.pub])
  rcases hsrc with rfl | ⟨l, rfl⟩ <;> simp [St.pub, pubC]
theorem acc_new (f q : Int) (h1 : 0 ≤ f) (h2 : f < 65536) (h3 : 0 ≤ q) (h4 : q < 65536) : PCall Try.prog 18 [.agg [.nils], .int .i64 f, .int .i64 q] (.tup [.agg [.list 3 [[.int .i64 f, .int .i64 q, .int .u64 1]]], .bool true]) := by
  have e1 := ilt_f h1
  have e2 := ilt_t h2
  have e3 := ilt_f h3
  have e4 := ilt_t h4
  clear h1 h2 h3 h4
  refine pcall_of2 Try.func18 rfl Try.ntmps18 Try.results18 (by simp) ?_
  refine cut (K := fun s => (s.env 2 = .int .i64 q ∧ s.env 3 = .ptr 3 0 ∧ s.env 4 = .ptr 4 0 ∧ s.env 6 = .ptr 6 0 ∧ s.env 7 = .bool false) ∧ s.heap = upd (upd (upd (fun _ => none) 3 (some ⟨60, [.nils]⟩)) 4 (some ⟨3, [.int .i64 f]⟩)) 6 (some ⟨60, [.nils]⟩)) ?_ ?_
  · refine CW.of_cx (D := (fun _ => none)) noTab_ok mixed _ _ _ (by kernel_rfl) ?_
    repeat' first
      | (with_reducible refine gw_bool (fun _ => ?_) (fun _ => ?_))
      | (with_reducible refine condw_bool (fun _ => ?_) (fun _ => ?_))
      | simp [*]
  rintro ⟨e, h⟩ ⟨k, hh⟩
  simp only at hh
  subst hh
  refine accPre (.inl rfl) ?_ e k
  rintro e h ⟨k2, k3, k4, k6, k7⟩ g3 g6 g8 g10 g69 gk
  refine CW.of_cx (D := (fun _ => none)) G8_ok mixed _ _ _ (by kernel_rfl) ?_
  repeat' first
    | (with_reducible refine gw_bool (fun _ => ?_) (fun _ => ?_))
    | (with_reducible refine condw_bool (fun _ => ?_) (fun _ => ?_))
    | simp [*, setsV, chunks, srcCells]
theorem acc_take (f q t s t' s' : Int) (b : Bool) (h1 : 0 ≤ f) (h2 : f < 65536) (h3 : 0 ≤ q) (h4 : q < 65536) (ht : Ttk [.agg [.int .i64 f, .int .i64 t, .int .u64 s], .int .i64 q] = some (.tup [.agg [.int .i64 f, .int .i64 t', .int .u64 s'], .bool b])) :
    PCall Try.prog 18 [.agg [.list 3 [[.int .i64 f, .int .i64 t, .int .u64 s]]], .int .i64 f, .int .i64 q] (.tup [.agg [.list 3 [[.int .i64 f, .int .i64 t', .int .u64 s']]], .bool b]) := by
  have e1 := ilt_f h1
  have e2 := ilt_t h2
  have e3 := ilt_f h3
  have e4 := ilt_t h4
  clear h1 h2 h3 h4
  refine pcall_of2 Try.func18 rfl Try.ntmps18 Try.results18 (by simp) ?_
  refine cut (K := fun s' => (s'.env 2 = .int .i64 q ∧ s'.env 3 = .ptr 3 0 ∧ s'.env 4 = .ptr 4 0 ∧ s'.env 6 = .ptr 6 0 ∧ s'.env 7 = .bool false) ∧ s'.heap = upd (upd (upd (fun _ => none) 3 (some ⟨60, [.list 3 [[.int .i64 f, .int .i64 t, .int .u64 s]]]⟩)) 4 (some ⟨3, [.int .i64 f]⟩)) 6 (some ⟨60, [.nils]⟩)) ?_ ?_
  · refine CW.of_cx (D := (fun _ => none)) noTab_ok mixed _ _ _ (by kernel_rfl) ?_
    repeat' first
      | (with_reducible refine gw_bool (fun _ => ?_) (fun _ => ?_))
      | (with_reducible refine condw_bool (fun _ => ?_) (fun _ => ?_))
      | simp [*]
  rintro ⟨e, h⟩ ⟨k, hh⟩
  simp only at hh
  subst hh
  refine accPre (.inr ⟨_, rfl⟩) ?_ e k
  rintro e h ⟨k2, k3, k4, k6, k7⟩ g3 g6 g8 g10 g69 gk
  refine CW.of_cx (D := (fun _ => none)) G8_ok mixed _ _ _ (by kernel_rfl) ?_
  repeat' first
    | (with_reducible refine gw_bool (fun _ => ?_) (fun _ => ?_))
    | (with_reducible refine condw_bool (fun _ => ?_) (fun _ => ?_))
    | simp [*, setsV, chunks, srcCells]
end Go.Proofs.Ytongalkfcfkfiaa
end
