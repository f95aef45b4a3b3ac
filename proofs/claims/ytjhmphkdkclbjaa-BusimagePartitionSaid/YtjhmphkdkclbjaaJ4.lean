/-
  The types of this seat's program, as far as its functions use them: size, bytes, zero, fields.
  Stations: names, ranges, links: what the small functions answer.
  Stations: the builder's checks of a name and of a bay's links.
  Stations: the builder's memory, and what its methods do to it: a bus, a line, a source.
  Stations: the builder takes a line, a source.
  Stations: the builder takes a bay.
  Stations: the first error that a method of the builder finds in a list.
  Stations: a new builder, and what station.Check answers.
  Positions: what topology.Check answers.
  Positions: copies of lists.
-/
import Derived.Test.YtjhmphkdkclbjaaJ3
import Derived.Test.YtjhmphkdkclbjaaProg
import Derived.KernelRfl
import Derived.TacticsInMore
section
namespace Go.Proofs.Ytjhmphkdkclbjaa
open Go.Pv
theorem mixed : Try.prog.follows .mixedOrders = true := by kernel_rfl
theorem td3 : td Try.prog 3 = some { size := 1, bytes := 8, agg := false, strct := false, zero := some [.int .i64 0], fields := [], arr := none, slc := none, int := some .i64, isBool := false, isStr := false, eqg := false } := by kernel_rfl
theorem td4 : td Try.prog 4 = some { size := 1, bytes := 1, agg := false, strct := false, zero := some [.bool false], fields := [], arr := none, slc := none, int := none, isBool := true, isStr := false, eqg := false } := by kernel_rfl
theorem td5 : td Try.prog 5 = some { size := 1, bytes := 1, agg := false, strct := false, zero := some [.int .u8 0], fields := [], arr := none, slc := none, int := some .u8, isBool := false, isStr := false, eqg := false } := by kernel_rfl
theorem td9 : td Try.prog 9 = some { size := 1, bytes := 16, agg := false, strct := false, zero := some [.str ⟨#[]⟩], fields := [], arr := none, slc := none, int := none, isBool := false, isStr := true, eqg := false } := by kernel_rfl
theorem td19 : td Try.prog 19 = some { size := 1, bytes := 8, agg := true, strct := true, zero := some [.junk], fields := [some (0, 1, false)], arr := none, slc := none, int := none, isBool := false, isStr := false, eqg := false } := by kernel_rfl
theorem td22 : td Try.prog 22 = some { size := 1, bytes := 24, agg := false, strct := false, zero := some [.nils], fields := [], arr := none, slc := some (9, 1), int := none, isBool := false, isStr := false, eqg := false } := by kernel_rfl
theorem td23 : td Try.prog 23 = some { size := 1, bytes := 24, agg := false, strct := false, zero := some [.nils], fields := [], arr := none, slc := some (92, 5), int := none, isBool := false, isStr := false, eqg := false } := by kernel_rfl
theorem td24 : td Try.prog 24 = some { size := 1, bytes := 24, agg := false, strct := false, zero := some [.nils], fields := [], arr := none, slc := some (96, 6), int := none, isBool := false, isStr := false, eqg := false } := by kernel_rfl
theorem td25 : td Try.prog 25 = some { size := 1, bytes := 24, agg := false, strct := false, zero := some [.nils], fields := [], arr := none, slc := some (54, 12), int := none, isBool := false, isStr := false, eqg := false } := by kernel_rfl
theorem td27 : td Try.prog 27 = some { size := 5, bytes := 112, agg := true, strct := true, zero := some [.str ⟨#[]⟩, .nils, .nils, .nils, .nils], fields := [some (0, 1, false), some (1, 1, false), some (2, 1, false), some (3, 1, false), some (4, 1, false)], arr := none, slc := none, int := none, isBool := false, isStr := false, eqg := false } := by kernel_rfl
theorem td28 : td Try.prog 28 = some { size := 1, bytes := 24, agg := false, strct := false, zero := some [.nils], fields := [], arr := none, slc := some (4, 1), int := none, isBool := false, isStr := false, eqg := false } := by kernel_rfl
theorem td29 : td Try.prog 29 = some { size := 1, bytes := 24, agg := false, strct := false, zero := some [.nils], fields := [], arr := none, slc := some (42, 1), int := none, isBool := false, isStr := false, eqg := false } := by kernel_rfl
theorem td31 : td Try.prog 31 = some { size := 2, bytes := 48, agg := true, strct := true, zero := some [.nils, .nils], fields := [some (0, 1, false), some (1, 1, false)], arr := none, slc := none, int := none, isBool := false, isStr := false, eqg := false } := by kernel_rfl
theorem td34 : td Try.prog 34 = some { size := 1, bytes := 24, agg := false, strct := false, zero := some [.nils], fields := [], arr := none, slc := some (45, 3), int := none, isBool := false, isStr := false, eqg := false } := by kernel_rfl
theorem td35 : td Try.prog 35 = some { size := 1, bytes := 8, agg := false, strct := false, zero := some [.int .i64 0], fields := [], arr := none, slc := none, int := some .i64, isBool := false, isStr := false, eqg := false } := by kernel_rfl
theorem td39 : td Try.prog 39 = some { size := 1, bytes := 24, agg := false, strct := false, zero := some [.nils], fields := [], arr := none, slc := some (28, 1), int := none, isBool := false, isStr := false, eqg := false } := by kernel_rfl
theorem td42 : td Try.prog 42 = some { size := 1, bytes := 24, agg := false, strct := false, zero := some [.nils], fields := [], arr := none, slc := some (3, 1), int := none, isBool := false, isStr := false, eqg := false } := by kernel_rfl
theorem td43 : td Try.prog 43 = some { size := 1, bytes := 24, agg := false, strct := false, zero := some [.nils], fields := [], arr := none, slc := some (82, 2), int := none, isBool := false, isStr := false, eqg := false } := by kernel_rfl
theorem td45 : td Try.prog 45 = some { size := 3, bytes := 56, agg := true, strct := true, zero := some [.nils, .nils, .bool false], fields := [some (0, 1, false), some (1, 1, false), some (2, 1, false)], arr := none, slc := none, int := none, isBool := false, isStr := false, eqg := false } := by kernel_rfl
theorem td51 : td Try.prog 51 = some { size := 2, bytes := 16, agg := true, strct := true, zero := some [.int .i64 0, .int .i64 0], fields := [some (0, 1, false), some (1, 1, false)], arr := none, slc := none, int := none, isBool := false, isStr := false, eqg := false } := by kernel_rfl
theorem td52 : td Try.prog 52 = some { size := 1, bytes := 24, agg := false, strct := false, zero := some [.nils], fields := [], arr := none, slc := some (84, 2), int := none, isBool := false, isStr := false, eqg := false } := by kernel_rfl
theorem td54 : td Try.prog 54 = some { size := 12, bytes := 120, agg := true, strct := true, zero := some [.str ⟨#[]⟩, .int .i64 0, .int .i64 0, .int .i64 0, .int .i64 0, .int .i64 0, .nils, .bool false, .int .i64 0, .int .i64 0, .int .i64 0, .int .i64 0], fields := [some (0, 1, false), some (1, 1, false), some (2, 1, false), some (3, 1, false), some (4, 2, true), some (6, 1, false), some (7, 1, false), some (8, 1, false), some (9, 1, false), some (10, 1, false), some (11, 1, false)], arr := none, slc := none, int := none, isBool := false, isStr := false, eqg := false } := by kernel_rfl
theorem td56 : td Try.prog 56 = some { size := 2, bytes := 16, agg := true, strct := true, zero := some [.int .i64 0, .int .i64 0], fields := [some (0, 1, false), some (1, 1, false)], arr := none, slc := none, int := none, isBool := false, isStr := false, eqg := false } := by kernel_rfl
theorem td57 : td Try.prog 57 = some { size := 4, bytes := 32, agg := true, strct := false, zero := some [.int .i64 0, .int .i64 0, .int .i64 0, .int .i64 0], fields := [], arr := some (2, 2, true), slc := none, int := none, isBool := false, isStr := false, eqg := false } := by kernel_rfl
theorem td66 : td Try.prog 66 = some { size := 3, bytes := 24, agg := true, strct := true, zero := some [.int .i64 0, .int .i64 0, .bool false], fields := [some (0, 1, false), some (1, 1, false), some (2, 1, false)], arr := none, slc := none, int := none, isBool := false, isStr := false, eqg := false } := by kernel_rfl
theorem td71 : td Try.prog 71 = some { size := 1, bytes := 24, agg := false, strct := false, zero := some [.nils], fields := [], arr := none, slc := some (66, 3), int := none, isBool := false, isStr := false, eqg := false } := by kernel_rfl
theorem td79 : td Try.prog 79 = some { size := 2, bytes := 16, agg := true, strct := true, zero := some [.int .i64 0, .int .i64 0], fields := [some (0, 1, false), some (1, 1, false)], arr := none, slc := none, int := none, isBool := false, isStr := false, eqg := false } := by kernel_rfl
theorem td82 : td Try.prog 82 = some { size := 2, bytes := 16, agg := true, strct := true, zero := some [.int .i64 0, .int .i64 0], fields := [some (0, 1, false), some (1, 1, false)], arr := none, slc := none, int := none, isBool := false, isStr := false, eqg := false } := by kernel_rfl
theorem td84 : td Try.prog 84 = some { size := 2, bytes := 16, agg := true, strct := true, zero := some [.int .i64 0, .int .i64 0], fields := [some (0, 1, false), some (1, 1, false)], arr := none, slc := none, int := none, isBool := false, isStr := false, eqg := false } := by kernel_rfl
theorem td92 : td Try.prog 92 = some { size := 5, bytes := 48, agg := true, strct := true, zero := some [.str ⟨#[]⟩, .int .i64 0, .int .i64 0, .int .i64 0, .int .i64 0], fields := [some (0, 1, false), some (1, 2, true), some (3, 2, true)], arr := none, slc := none, int := none, isBool := false, isStr := false, eqg := false } := by kernel_rfl
theorem td96 : td Try.prog 96 = some { size := 6, bytes := 56, agg := true, strct := true, zero := some [.str ⟨#[]⟩, .int .i64 0, .int .i64 0, .int .i64 0, .int .i64 0, .int .i64 0], fields := [some (0, 1, false), some (1, 1, false), some (2, 2, true), some (4, 2, true)], arr := none, slc := none, int := none, isBool := false, isStr := false, eqg := false } := by kernel_rfl
theorem td101 : td Try.prog 101 = some { size := 8, bytes := 184, agg := true, strct := true, zero := some [.str ⟨#[]⟩, .nils, .nils, .nils, .nils, .nils, .nils, .nils], fields := [some (0, 5, true), some (5, 2, true), some (7, 1, false)], arr := none, slc := none, int := none, isBool := false, isStr := false, eqg := false } := by kernel_rfl
theorem td107 : td Try.prog 107 = some { size := 16, bytes := 16, agg := true, strct := false, zero := some [.bool false, .bool false, .bool false, .bool false, .bool false, .bool false, .bool false, .bool false, .bool false, .bool false, .bool false, .bool false, .bool false, .bool false, .bool false, .bool false], fields := [], arr := some (16, 1, false), slc := none, int := none, isBool := false, isStr := false, eqg := false } := by kernel_rfl
theorem td110 : td Try.prog 110 = some { size := 2, bytes := 16, agg := true, strct := true, zero := some [.int .i64 0, .int .i64 0], fields := [some (0, 1, false), some (1, 1, false)], arr := none, slc := none, int := none, isBool := false, isStr := false, eqg := false } := by kernel_rfl
theorem td111 : td Try.prog 111 = some { size := 4, bytes := 32, agg := true, strct := false, zero := some [.int .i64 0, .int .i64 0, .int .i64 0, .int .i64 0], fields := [], arr := some (2, 2, true), slc := none, int := none, isBool := false, isStr := false, eqg := false } := by kernel_rfl
theorem td126 : td Try.prog 126 = some { size := 6, bytes := 120, agg := true, strct := true, zero := some [.str ⟨#[]⟩, .nils, .nils, .nils, .nils, .junk], fields := [some (0, 5, true), some (5, 1, false)], arr := none, slc := none, int := none, isBool := false, isStr := false, eqg := false } := by kernel_rfl
attribute [simp] td3 td4 td5 td9 td19 td22 td23 td24 td25 td27 td28 td29 td31 td34 td35 td39 td42 td43 td45 td51 td52 td54 td56 td57 td66 td71 td79 td82 td84 td92 td96 td101 td107 td110 td111 td126 
theorem eq51 (x0 y0 : Int) (x1 y1 : Int) : eqV Try.prog 6 51 (.agg [.int .i64 x0, .int .i64 x1]) (.agg [.int .i64 y0, .int .i64 y1]) = some (ieq x0 y0 && (ieq x1 y1 && true)) := by kernel_rfl
theorem eq56 (x0 y0 : Int) (x1 y1 : Int) : eqV Try.prog 6 56 (.agg [.int .i64 x0, .int .i64 x1]) (.agg [.int .i64 y0, .int .i64 y1]) = some (ieq x0 y0 && (ieq x1 y1 && true)) := by kernel_rfl
theorem eq57 (x0 y0 : Int) (x1 y1 : Int) (x2 y2 : Int) (x3 y3 : Int) : eqV Try.prog 6 57 (.agg [.int .i64 x0, .int .i64 x1, .int .i64 x2, .int .i64 x3]) (.agg [.int .i64 y0, .int .i64 y1, .int .i64 y2, .int .i64 y3]) = some ((ieq x0 y0 && (ieq x1 y1 && true)) && ((ieq x2 y2 && (ieq x3 y3 && true)) && true)) := by kernel_rfl
theorem eq66 (x0 y0 : Int) (x1 y1 : Int) (x2 y2 : Bool) : eqV Try.prog 6 66 (.agg [.int .i64 x0, .int .i64 x1, .bool x2]) (.agg [.int .i64 y0, .int .i64 y1, .bool y2]) = some (ieq x0 y0 && (ieq x1 y1 && ((x2 == y2) && true))) := by kernel_rfl
theorem eq79 (x0 y0 : Int) (x1 y1 : Int) : eqV Try.prog 6 79 (.agg [.int .i64 x0, .int .i64 x1]) (.agg [.int .i64 y0, .int .i64 y1]) = some (ieq x0 y0 && (ieq x1 y1 && true)) := by kernel_rfl
theorem eq82 (x0 y0 : Int) (x1 y1 : Int) : eqV Try.prog 6 82 (.agg [.int .i64 x0, .int .i64 x1]) (.agg [.int .i64 y0, .int .i64 y1]) = some (ieq x0 y0 && (ieq x1 y1 && true)) := by kernel_rfl
theorem eq84 (x0 y0 : Int) (x1 y1 : Int) : eqV Try.prog 6 84 (.agg [.int .i64 x0, .int .i64 x1]) (.agg [.int .i64 y0, .int .i64 y1]) = some (ieq x0 y0 && (ieq x1 y1 && true)) := by kernel_rfl
theorem eq92 (x0 y0 : ByteArray) (x1 y1 : Int) (x2 y2 : Int) (x3 y3 : Int) (x4 y4 : Int) : eqV Try.prog 6 92 (.agg [.str x0, .int .i64 x1, .int .i64 x2, .int .i64 x3, .int .i64 x4]) (.agg [.str y0, .int .i64 y1, .int .i64 y2, .int .i64 y3, .int .i64 y4]) = some ((x0.toList == y0.toList) && ((ieq x1 y1 && (ieq x2 y2 && true)) && ((ieq x3 y3 && (ieq x4 y4 && true)) && true))) := by kernel_rfl
theorem eq96 (x0 y0 : ByteArray) (x1 y1 : Int) (x2 y2 : Int) (x3 y3 : Int) (x4 y4 : Int) (x5 y5 : Int) : eqV Try.prog 6 96 (.agg [.str x0, .int .i64 x1, .int .i64 x2, .int .i64 x3, .int .i64 x4, .int .i64 x5]) (.agg [.str y0, .int .i64 y1, .int .i64 y2, .int .i64 y3, .int .i64 y4, .int .i64 y5]) = some ((x0.toList == y0.toList) && (ieq x1 y1 && ((ieq x2 y2 && (ieq x3 y3 && true)) && ((ieq x4 y4 && (ieq x5 y5 && true)) && true)))) := by kernel_rfl
theorem eq107 (x0 y0 : Bool) (x1 y1 : Bool) (x2 y2 : Bool) (x3 y3 : Bool) (x4 y4 : Bool) (x5 y5 : Bool) (x6 y6 : Bool) (x7 y7 : Bool) (x8 y8 : Bool) (x9 y9 : Bool) (x10 y10 : Bool) (x11 y11 : Bool) (x12 y12 : Bool) (x13 y13 : Bool) (x14 y14 : Bool) (x15 y15 : Bool) : eqV Try.prog 6 107 (.agg [.bool x0, .bool x1, .bool x2, .bool x3, .bool x4, .bool x5, .bool x6, .bool x7, .bool x8, .bool x9, .bool x10, .bool x11, .bool x12, .bool x13, .bool x14, .bool x15]) (.agg [.bool y0, .bool y1, .bool y2, .bool y3, .bool y4, .bool y5, .bool y6, .bool y7, .bool y8, .bool y9, .bool y10, .bool y11, .bool y12, .bool y13, .bool y14, .bool y15]) = some ((x0 == y0) && ((x1 == y1) && ((x2 == y2) && ((x3 == y3) && ((x4 == y4) && ((x5 == y5) && ((x6 == y6) && ((x7 == y7) && ((x8 == y8) && ((x9 == y9) && ((x10 == y10) && ((x11 == y11) && ((x12 == y12) && ((x13 == y13) && ((x14 == y14) && ((x15 == y15) && true)))))))))))))))) := by kernel_rfl
theorem eq110 (x0 y0 : Int) (x1 y1 : Int) : eqV Try.prog 6 110 (.agg [.int .i64 x0, .int .i64 x1]) (.agg [.int .i64 y0, .int .i64 y1]) = some (ieq x0 y0 && (ieq x1 y1 && true)) := by kernel_rfl
theorem eq111 (x0 y0 : Int) (x1 y1 : Int) (x2 y2 : Int) (x3 y3 : Int) : eqV Try.prog 6 111 (.agg [.int .i64 x0, .int .i64 x1, .int .i64 x2, .int .i64 x3]) (.agg [.int .i64 y0, .int .i64 y1, .int .i64 y2, .int .i64 y3]) = some ((ieq x0 y0 && (ieq x1 y1 && true)) && ((ieq x2 y2 && (ieq x3 y3 && true)) && true)) := by kernel_rfl
attribute [simp] eq51 eq56 eq57 eq66 eq79 eq82 eq84 eq92 eq96 eq107 eq110 eq111
end Go.Proofs.Ytjhmphkdkclbjaa
end
section
namespace Go.Proofs.Ytjhmphkdkclbjaa
open Go.Pv Go.RowKit
set_option linter.unusedSimpArgs false
set_option linter.unusedVariables false
set_option maxRecDepth 100000
set_option maxHeartbeats 4000000

theorem td125 : td Try.prog 124 = some { size := 1, bytes := 8, agg := false, strct := false, zero := some [.junk], fields := [], arr := none, slc := none, int := none, isBool := false, isStr := false, eqg := false } := by kernel_rfl
theorem mtd125 : mtd Try.prog 124 = true := by kernel_rfl
attribute [simp] td125 mtd125

/-! ### names -/
def letF (c : Int) : Bool := (!ilt c 65 && !ilt 90 c) || (!ilt c 97 && !ilt 122 c)
def othF (c : Int) : Bool := (!ilt c 48 && !ilt 57 c) || ieq c 95
def badC (i : Int) (c : Int) : Bool := !letF c && (ieq i 0 || !othF c)
def chN (s : ByteArray) (i : Nat) : Int := ((s[i]?).map (fun c => (c.toNat : Int))).getD 0
def gdN (s : ByteArray) (i : Nat) : Bool := !badC i (chN s i)
def nameF (s : ByteArray) : Bool := !ieq (s.size : Int) 0 && !ilt 12 (s.size : Int) && (List.range s.size).all (gdN s)
theorem ba_at {s : ByteArray} {i : Nat} (h : i < s.size) : s[i]? = some (s[i]'h) := getElem?_pos s i h
theorem name_ok (s : ByteArray) : PCall Try.prog 45 [.str s] (.bool (nameF s)) := by
  obtain ⟨n, hn⟩ : ∃ n, s.size = n := ⟨_, rfl⟩
  cases b1 : ieq (n : Int) 0
  · cases b2 : ilt 12 (n : Int)
    · have hok : nameF s = (List.range n).all (gdN s) := by simp [nameF, hn, b1, b2]
      have hn12 : n ≤ 12 := by have := ilt_iff'.1 b2; omega
      rw [hok]
      refine pcall_cx noTab_ok mixed (fun _ => none) Try.func45 rfl Try.ntmps45 Try.results45 (by simp) (by kernel_rfl) ?_
      repeat' first
        | (with_reducible refine gw_bool (fun _ => ?_) (fun _ => ?_))
        | (with_reducible refine condw_bool (fun _ => ?_) (fun _ => ?_))
        | simp [*]
      refine lp_go (D := (fun _ => none)) noTab_ok mixed (by kernel_rfl) [0, 16] [] (α := Nat) (fun i e h => i ≤ n ∧ e 17 = .int .i64 i ∧ Hid ((List.range i).all (gdN s) = true)) (fun i => n - i) 0 ?_ ?_
      · exact ⟨by omega, rfl, show _ = _ by simp⟩
      · rintro i e h hk hkh ⟨hi, g7, hinv⟩
        simp [Keep] at hk
        simp [KeepH] at hkh
        by_cases hlt : i < n
        · have hx := ba_at (s := s) (i := i) (by omega)
          obtain ⟨c, hc⟩ : ∃ c, s[i]'(by omega) = c := ⟨_, rfl⟩
          rw [hc] at hx
          obtain ⟨z, hz⟩ : ∃ z : Int, (c.toNat : Int) = z := ⟨_, rfl⟩
          have f1 : ilt (i : Int) (n : Int) = true := ilt_t (by omega)
          have w1 : IntKind.i64.wrap ((i : Int) + 1) = ((i + 1 : Nat) : Int) := wrap_succ (by omega)
          have hg : gdN s i = !badC i z := by simp [gdN, chN, hx, hz]
          have hnext : (List.range (i + 1)).all (gdN s) = gdN s i := by
            rw [List.range_succ, List.all_append, hinv.out]; simp
          have hbu : badC i z = (!letF z && (ieq i 0 || !othF z)) := rfl
          cases hb : badC i z
          · have hq : Hid ((List.range (i + 1)).all (gdN s) = true) := by rw [hg, hb] at hnext; exact hnext
            rw [hb] at hbu
            clear hinv hnext hg hb
            unfold letF othF at hbu
            replace hbu : Hid (false = (!((!ilt z 65 && !ilt 90 z) || (!ilt z 97 && !ilt 122 z)) && (ieq (i : Int) 0 || !((!ilt z 48 && !ilt 57 z) || ieq z 95)))) := hbu
            repeat' first
              | (with_reducible refine gw_bool (fun _ => ?_) (fun _ => ?_))
              | (with_reducible refine condw_bool (fun _ => ?_) (fun _ => ?_))
              | simp [*]
            all_goals first
              | (exfalso; have hbu := hbu.out; simp [*] at hbu; done)
              | skip
            all_goals refine nxt_go (i + 1) (View.refl _ _) (by omega) (by simp [*, Keep, St.forget, scr, scrC]) (by simp [*, KeepH, St.forget, scr, scrC]) ?_
            all_goals (refine ⟨by omega, ?_, hq⟩; simp [*])
          · have hall : (List.range n).all (gdN s) = false := by
              rw [Bool.eq_false_iff]
              intro hc
              have := List.all_eq_true.1 hc i (by simpa using hlt)
              rw [hg, hb] at this; cases this
            rw [hb] at hbu
            clear hinv hnext hg hb
            unfold letF othF at hbu
            replace hbu : Hid (true = (!((!ilt z 65 && !ilt 90 z) || (!ilt z 97 && !ilt 122 z)) && (ieq (i : Int) 0 || !((!ilt z 48 && !ilt 57 z) || ieq z 95)))) := hbu
            repeat' first
              | (with_reducible refine gw_bool (fun _ => ?_) (fun _ => ?_))
              | (with_reducible refine condw_bool (fun _ => ?_) (fun _ => ?_))
              | simp [*]
            all_goals (exfalso; have hbu := hbu.out; simp [*] at hbu; done)
        · have f1 : ilt (i : Int) (n : Int) = false := ilt_f (by omega)
          have e1 : i = n := by omega
          have hall : (List.range n).all (gdN s) = true := by
            have := hinv.out
            rwa [e1] at this
          clear hinv
          repeat' first
            | (with_reducible refine gw_bool (fun _ => ?_) (fun _ => ?_))
            | (with_reducible refine condw_bool (fun _ => ?_) (fun _ => ?_))
            | simp [*]
    · have hok : nameF s = false := by simp [nameF, hn, b1, b2]
      refine pcall_cx noTab_ok mixed (fun _ => none) Try.func45 rfl Try.ntmps45 Try.results45 (by simp) (by kernel_rfl) ?_
      repeat' first
        | (with_reducible refine gw_bool (fun _ => ?_) (fun _ => ?_))
        | (with_reducible refine condw_bool (fun _ => ?_) (fun _ => ?_))
        | simp [*]
  · have hok : nameF s = false := by simp [nameF, hn, b1]
    refine pcall_cx noTab_ok mixed (fun _ => none) Try.func45 rfl Try.ntmps45 Try.results45 (by simp) (by kernel_rfl) ?_
    repeat' first
      | (with_reducible refine gw_bool (fun _ => ?_) (fun _ => ?_))
      | (with_reducible refine condw_bool (fun _ => ?_) (fun _ => ?_))
      | simp [*]
def Tname : List V → Option V
  | [.str s] => some (.bool (nameF s))
  | _ => none
/-! ### ranges -/
def withinF (n lo hi : Int) : Bool := !ilt n lo && !ilt hi n
def Twithin : List V → Option V
  | [.int .i64 n, .int .i64 lo, .int .i64 hi] => some (.bool (withinF n lo hi))
  | _ => none
theorem within_ok (n lo hi : Int) : PCall Try.prog 83 [.int .i64 n, .int .i64 lo, .int .i64 hi] (.bool (withinF n lo hi)) := by
  refine pcall_cx noTab_ok mixed (fun _ => none) Try.func83 rfl Try.ntmps83 Try.results83 (by simp) (by kernel_rfl) ?_
  repeat' first
    | (with_reducible refine gw_bool (fun _ => ?_) (fun _ => ?_))
    | (with_reducible refine condw_bool (fun _ => ?_) (fun _ => ?_))
    | simp [*, withinF]
def C1 : Tab := add 45 Tname (add 83 Twithin (noTab))
theorem C1_at (f : FuncId) (vs : List V) : C1.at' f vs = if f = 45 then Tname vs else if f = 83 then Twithin vs else noTab.at' f vs := rfl
theorem C1_fr (f : FuncId) : C1.fr f = if f = 45 then false else if f = 83 then false else noTab.fr f := rfl
theorem C1_gb (f : FuncId) : C1.gb f = noTab.gb f := rfl
theorem C1_gv (f : FuncId) (vs : List V) : C1.gv f vs = noTab.gv f vs := rfl
attribute [simp] C1_at C1_fr C1_gb C1_gv Tname Twithin
theorem C1_ok : TabOK Try.prog C1 := by
  refine add_ok (add_ok (noTab_ok) (by kernel_rfl) ?_) (by kernel_rfl) ?_
  · intro vs v h; unfold Twithin at h; split at h
    · cases h; apply within_ok
    · cases h
  · intro vs v h; unfold Tname at h; split at h
    · cases h; apply name_ok
    · cases h
def impF (r x : Int) : Bool := withinF r 0 1000 && withinF x 1 1000
def Timp : List V → Option V
  | [.agg [.int .i64 r, .int .i64 x]] => some (.bool (impF r x))
  | _ => none
theorem imp_ok (r x : Int) : PCall Try.prog 82 [.agg [.int .i64 r, .int .i64 x]] (.bool (impF r x)) := by
  refine pcall_cx C1_ok mixed (fun _ => none) Try.func82 rfl Try.ntmps82 Try.results82 (by simp) (by kernel_rfl) ?_
  repeat' first
    | (with_reducible refine gw_bool (fun _ => ?_) (fun _ => ?_))
    | (with_reducible refine condw_bool (fun _ => ?_) (fun _ => ?_))
    | simp [*, impF]
def C2 : Tab := add 82 Timp (C1)
theorem C2_at (f : FuncId) (vs : List V) : C2.at' f vs = if f = 82 then Timp vs else C1.at' f vs := rfl
theorem C2_fr (f : FuncId) : C2.fr f = if f = 82 then false else C1.fr f := rfl
theorem C2_gb (f : FuncId) : C2.gb f = C1.gb f := rfl
theorem C2_gv (f : FuncId) (vs : List V) : C2.gv f vs = C1.gv f vs := rfl
attribute [simp] C2_at C2_fr C2_gb C2_gv Timp
theorem C2_ok : TabOK Try.prog C2 := by
  refine add_ok (C1_ok) (by kernel_rfl) ?_
  · intro vs v h; unfold Timp at h; split at h
    · cases h; apply imp_ok
    · cases h
structure Lk where
  bus : Int
  pos : Int
def Lk.cs (l : Lk) : List V := [.int .i64 l.bus, .int .i64 l.pos]
def unLk : List V → Option Lk
  | [.int .i64 b, .int .i64 p] => some ⟨b, p⟩
  | _ => none
theorem unLk_cs (l : Lk) : unLk l.cs = some l := rfl
theorem unLk_inv : ∀ c a, unLk c = some a → c = Lk.cs a := by
  intro c a h; unfold unLk at h; split at h
  · cases h; rfl
  · cases h
structure Ln where
  nm : ByteArray
  r1 : Int
  x1 : Int
  r0 : Int
  x0 : Int
def Ln.cs (l : Ln) : List V := [.str l.nm, .int .i64 l.r1, .int .i64 l.x1, .int .i64 l.r0, .int .i64 l.x0]
structure Sr where
  nm : ByteArray
  emf : Int
  r1 : Int
  x1 : Int
  r0 : Int
  x0 : Int
def Sr.cs (l : Sr) : List V := [.str l.nm, .int .i64 l.emf, .int .i64 l.r1, .int .i64 l.x1, .int .i64 l.r0, .int .i64 l.x0]
structure By where
  nm : ByteArray
  kind : Int
  ob : Int
  en : Int
  zr : Int
  zx : Int
  lks : List Lk
  cl : Bool
  ct : Int
  vt : Int
  sat : Int
  tr : Int
def By.cs (b : By) : List V := [.str b.nm, .int .i64 b.kind, .int .i64 b.ob, .int .i64 b.en, .int .i64 b.zr, .int .i64 b.zx, .list 2 (b.lks.map Lk.cs), .bool b.cl, .int .i64 b.ct, .int .i64 b.vt, .int .i64 b.sat, .int .i64 b.tr]
def rngF (b : By) : Bool :=
  (if ieq b.kind 3 then impF b.zr b.zx && ieq b.vt 0 else (ieq b.zr 0 && ieq b.zx 0) && withinF b.vt 1 10000) &&
    (withinF b.en 0 (if ieq b.kind 1 then 1 else 0) && withinF b.ct 1 100 && withinF b.sat 0 16383 && withinF b.tr 1 6)
theorem ranges_ok (b : By) : PCall Try.prog 84 [.agg b.cs] (.bool (rngF b)) := by
  cases h1 : ieq b.kind 3
  · cases h3 : ieq b.zr 0 <;> cases h4 : ieq b.zx 0 <;> cases h5 : withinF b.vt 1 10000 <;> cases h2 : ieq b.kind 1
    all_goals
      refine pcall_cx C2_ok mixed (fun _ => none) Try.func84 rfl Try.ntmps84 Try.results84 (by simp) (by kernel_rfl) ?_
    all_goals
      repeat' first
        | (with_reducible refine gw_bool (fun _ => ?_) (fun _ => ?_))
        | (with_reducible refine condw_bool (fun _ => ?_) (fun _ => ?_))
        | simp [*, rngF, By.cs]
  · cases h3 : impF b.zr b.zx <;> cases h4 : ieq b.vt 0 <;> cases h2 : ieq b.kind 1
    all_goals
      refine pcall_cx C2_ok mixed (fun _ => none) Try.func84 rfl Try.ntmps84 Try.results84 (by simp) (by kernel_rfl) ?_
    all_goals
      repeat' first
        | (with_reducible refine gw_bool (fun _ => ?_) (fun _ => ?_))
        | (with_reducible refine condw_bool (fun _ => ?_) (fun _ => ?_))
        | simp [*, rngF, By.cs]
def unBy : List V → Option By
  | [.str nm, .int .i64 kind, .int .i64 ob, .int .i64 en, .int .i64 zr, .int .i64 zx, .list 2 ls, .bool cl, .int .i64 ct, .int .i64 vt, .int .i64 sat, .int .i64 tr] => (match decL unLk ls with
    | some lks => some ⟨nm, kind, ob, en, zr, zx, lks, cl, ct, vt, sat, tr⟩
    | none => none)
  | _ => none
theorem unBy_cs (b : By) : unBy b.cs = some b := by simp [unBy, By.cs, decL_map unLk_cs]
theorem unBy_inv : ∀ c a, unBy c = some a → c = By.cs a := by
  intro c a h; unfold unBy at h; split at h
  · split at h
    · rename_i lks h1
      cases h
      rw [decL_inv unLk_inv _ _ h1]; rfl
    · cases h
  · cases h
end Go.Proofs.Ytjhmphkdkclbjaa
end
section
namespace Go.Proofs.Ytjhmphkdkclbjaa
open Go.Pv Go.RowKit
set_option linter.unusedSimpArgs false
set_option linter.unusedVariables false
set_option maxRecDepth 100000
set_option maxHeartbeats 4000000

def nmE (s : ByteArray) (dup : Bool) : Int := if nameF s = true then (if dup = true then 8 else 0) else 7
theorem bname_ok (a0 a1 a2 a3 a4 : V) (ks : List V) (s : ByteArray) (b : Bool) (hb : findS ks s = some b) : PCall Try.prog 81 [.rp [a0, a1, a2, a3, a4, .rset ks], .str s] (.int .i64 (nmE s b)) := by
  cases h1 : nameF s <;> cases b
  all_goals
    refine pcall_cx C2_ok mixed (fun _ => none) Try.func81 rfl Try.ntmps81 Try.results81 (by simp) (by kernel_rfl) ?_
  all_goals
    repeat' first
      | (with_reducible refine gw_bool (fun _ => ?_) (fun _ => ?_))
      | (with_reducible refine condw_bool (fun _ => ?_) (fun _ => ?_))
      | simp [*, nmE]
def Tbname : List V → Option V
  | [.rp [_, _, _, _, _, .rset ks], .str s] => (findS ks s).map fun b => .int .i64 (nmE s b)
  | _ => none
theorem bname_tab : ∀ vs v, Tbname vs = some v → PCall Try.prog 81 vs v := by
  intro vs v h; unfold Tbname at h; split at h
  · simp only [Option.map_eq_some_iff] at h
    obtain ⟨b, hb, rfl⟩ := h
    exact bname_ok _ _ _ _ _ _ _ _ hb
  · cases h
def Tranges : List V → Option V
  | [.agg cs] => (unBy cs).map fun b => .bool (rngF b)
  | _ => none
theorem ranges_tab : ∀ vs v, Tranges vs = some v → PCall Try.prog 84 vs v := by
  intro vs v h; unfold Tranges at h; split at h
  · simp only [Option.map_eq_some_iff] at h
    obtain ⟨b, hb, rfl⟩ := h
    rw [unBy_inv _ _ hb]
    exact ranges_ok _
  · cases h
/-- The error of one link: nb buses, the bay's kind, the bus of the link before. -/
def lkE (nb kind : Int) (first : Bool) (prev : Int) (l : Lk) : Int :=
  if withinF l.bus 0 (IntKind.i64.wrap (nb - 1)) = true then
    (if (!ieq l.pos 1 && (!ieq l.pos 0 || ieq kind 3)) = true then 16 else if (!first && ieq prev l.bus) = true then 12 else 0)
  else 9
def lksE (nb : Int) (kind : Int) : List Lk → Int
  | [a] => if ieq kind 3 = true then 3 else lkE nb kind true 0 a
  | [a, b] => if ieq (lkE nb kind true 0 a) 0 = true then lkE nb kind false a.bus b else lkE nb kind true 0 a
  | _ => 3
theorem len3 {α : Type} (t : List α) : ilt 2 ((t.length + 1 + 1 + 1 : Nat) : Int) = true := ilt_t (by omega)
theorem len3' {α : Type} (t : List α) : ilt ((t.length + 1 + 1 + 1 : Nat) : Int) 1 = false := ilt_f (by omega)
theorem links_ok (bs : List (List V)) (b : By) (a0 a2 a3 a4 a5 : V) : PCall Try.prog 85 [.rp [a0, .list 1 bs, a2, a3, a4, a5], .agg b.cs] (.int .i64 (lksE bs.length b.kind b.lks)) := by
  obtain ⟨nb, hnb⟩ : ∃ nb : Int, (bs.length : Int) = nb := ⟨_, rfl⟩
  obtain ⟨nm, kind, ob, en, zr, zx, lks, cl, ct, vt, sat, tr⟩ := b
  match lks with
  | [] =>
    refine pcall_cx C2_ok mixed (fun _ => none) Try.func85 rfl Try.ntmps85 Try.results85 (by simp) (by kernel_rfl) ?_
    repeat' first
      | (with_reducible refine gw_bool (fun _ => ?_) (fun _ => ?_))
      | (with_reducible refine condw_bool (fun _ => ?_) (fun _ => ?_))
      | simp [*, By.cs, lksE, Lk.cs]
  | x :: y :: z :: t =>
    have e1 := len3 (List.map Lk.cs t)
    have e2 := len3' (List.map Lk.cs t)
    have hh : lksE bs.length kind (x :: y :: z :: t) = 3 := rfl
    show PCall _ _ _ (.int .i64 (lksE bs.length kind (x :: y :: z :: t)))
    rw [hh]
    obtain ⟨u, hu⟩ : ∃ u, x :: y :: z :: t = u := ⟨_, rfl⟩
    have hl1 : ilt 2 ((u.length : Nat) : Int) = true := by rw [← hu]; exact ilt_t (by simp; omega)
    have hl2 : ilt ((u.length : Nat) : Int) 1 = false := by rw [← hu]; exact ilt_f (by simp; omega)
    rw [hu]
    clear hu e1 e2 hh
    refine pcall_cx C2_ok mixed (fun _ => none) Try.func85 rfl Try.ntmps85 Try.results85 (by simp) (by kernel_rfl) ?_
    repeat' first
      | (with_reducible refine gw_bool (fun _ => ?_) (fun _ => ?_))
      | (with_reducible refine condw_bool (fun _ => ?_) (fun _ => ?_))
      | simp [*, By.cs]
  | [x] =>
    cases k3 : ieq kind 3
    · cases h1 : withinF x.bus 0 (IntKind.i64.wrap (nb - 1)) <;> cases h2 : ieq x.pos 1 <;> cases h3 : ieq x.pos 0
      all_goals
        refine pcall_cx C2_ok mixed (fun _ => none) Try.func85 rfl Try.ntmps85 Try.results85 (by simp) (by kernel_rfl) ?_
      all_goals
        repeat' first
          | (with_reducible refine gw_bool (fun _ => ?_) (fun _ => ?_))
          | (with_reducible refine condw_bool (fun _ => ?_) (fun _ => ?_))
          | (refine lp_unroll (D := (fun _ => none)) C2_ok mixed (by kernel_rfl) ?_)
          | simp [*, By.cs, lksE, lkE, Lk.cs]
    · refine pcall_cx C2_ok mixed (fun _ => none) Try.func85 rfl Try.ntmps85 Try.results85 (by simp) (by kernel_rfl) ?_
      repeat' first
        | (with_reducible refine gw_bool (fun _ => ?_) (fun _ => ?_))
        | (with_reducible refine condw_bool (fun _ => ?_) (fun _ => ?_))
        | (refine lp_unroll (D := (fun _ => none)) C2_ok mixed (by kernel_rfl) ?_)
        | simp [*, By.cs, lksE, lkE, Lk.cs]
  | [x, y] =>
    cases k3 : ieq kind 3 <;> cases wx : withinF x.bus 0 (IntKind.i64.wrap (nb - 1))
    · skip
      refine pcall_cx C2_ok mixed (fun _ => none) Try.func85 rfl Try.ntmps85 Try.results85 (by simp) (by kernel_rfl) ?_
      repeat' first
        | (with_reducible refine gw_bool (fun _ => ?_) (fun _ => ?_))
        | (with_reducible refine condw_bool (fun _ => ?_) (fun _ => ?_))
        | simp [*, By.cs, lksE, lkE, Lk.cs]
      refine lp_go (D := (fun _ => none)) C2_ok mixed (by kernel_rfl) [0, 3, 27, 28] [3, 7] (α := Nat) (fun i e h => i ≤ 0 ∧ e 29 = .int .i64 i) (fun i => 2 - i) 0 ?_ ?_
      · exact ⟨by omega, rfl⟩
      · rintro i e h hk hkh ⟨hi, g⟩
        simp [Keep] at hk
        simp [KeepH] at hkh
        obtain rfl : i = 0 := by omega
        repeat' first
          | (with_reducible refine gw_bool (fun _ => ?_) (fun _ => ?_))
          | (with_reducible refine condw_bool (fun _ => ?_) (fun _ => ?_))
          | simp [*, By.cs, lksE, lkE, Lk.cs]
    · cases px1 : ieq x.pos 1
      · cases px0 : ieq x.pos 0
        · skip
          refine pcall_cx C2_ok mixed (fun _ => none) Try.func85 rfl Try.ntmps85 Try.results85 (by simp) (by kernel_rfl) ?_
          repeat' first
            | (with_reducible refine gw_bool (fun _ => ?_) (fun _ => ?_))
            | (with_reducible refine condw_bool (fun _ => ?_) (fun _ => ?_))
            | simp [*, By.cs, lksE, lkE, Lk.cs]
          refine lp_go (D := (fun _ => none)) C2_ok mixed (by kernel_rfl) [0, 3, 27, 28] [3, 7] (α := Nat) (fun i e h => i ≤ 0 ∧ e 29 = .int .i64 i) (fun i => 2 - i) 0 ?_ ?_
          · exact ⟨by omega, rfl⟩
          · rintro i e h hk hkh ⟨hi, g⟩
            simp [Keep] at hk
            simp [KeepH] at hkh
            obtain rfl : i = 0 := by omega
            repeat' first
              | (with_reducible refine gw_bool (fun _ => ?_) (fun _ => ?_))
              | (with_reducible refine condw_bool (fun _ => ?_) (fun _ => ?_))
              | simp [*, By.cs, lksE, lkE, Lk.cs]
        · cases wy : withinF y.bus 0 (IntKind.i64.wrap (nb - 1))
          · skip
            refine pcall_cx C2_ok mixed (fun _ => none) Try.func85 rfl Try.ntmps85 Try.results85 (by simp) (by kernel_rfl) ?_
            repeat' first
              | (with_reducible refine gw_bool (fun _ => ?_) (fun _ => ?_))
              | (with_reducible refine condw_bool (fun _ => ?_) (fun _ => ?_))
              | simp [*, By.cs, lksE, lkE, Lk.cs]
            refine lp_go (D := (fun _ => none)) C2_ok mixed (by kernel_rfl) [0, 3, 27, 28] [3, 7] (α := Nat) (fun i e h => i ≤ 1 ∧ e 29 = .int .i64 i) (fun i => 2 - i) 0 ?_ ?_
            · exact ⟨by omega, rfl⟩
            · rintro i e h hk hkh ⟨hi, g⟩
              simp [Keep] at hk
              simp [KeepH] at hkh
              rcases (show i = 0 ∨ i = 1 by omega) with rfl | rfl
              · skip
                repeat' first
                  | (with_reducible refine gw_bool (fun _ => ?_) (fun _ => ?_))
                  | (with_reducible refine condw_bool (fun _ => ?_) (fun _ => ?_))
                  | simp [*, By.cs, lksE, lkE, Lk.cs]
                refine nxt_go 1 ((View.forget _ _ 7)) (by omega) (by simp [*, Keep, St.forget, scr, scrC]) (by simp [*, KeepH, St.forget, scr, scrC]) ?_
                refine ⟨by omega, ?_⟩; simp [*, St.forget, scr, scrC]
              · skip
                repeat' first
                  | (with_reducible refine gw_bool (fun _ => ?_) (fun _ => ?_))
                  | (with_reducible refine condw_bool (fun _ => ?_) (fun _ => ?_))
                  | simp [*, By.cs, lksE, lkE, Lk.cs]
          · cases py1 : ieq y.pos 1
            · cases py0 : ieq y.pos 0
              · skip
                refine pcall_cx C2_ok mixed (fun _ => none) Try.func85 rfl Try.ntmps85 Try.results85 (by simp) (by kernel_rfl) ?_
                repeat' first
                  | (with_reducible refine gw_bool (fun _ => ?_) (fun _ => ?_))
                  | (with_reducible refine condw_bool (fun _ => ?_) (fun _ => ?_))
                  | simp [*, By.cs, lksE, lkE, Lk.cs]
                refine lp_go (D := (fun _ => none)) C2_ok mixed (by kernel_rfl) [0, 3, 27, 28] [3, 7] (α := Nat) (fun i e h => i ≤ 1 ∧ e 29 = .int .i64 i) (fun i => 2 - i) 0 ?_ ?_
                · exact ⟨by omega, rfl⟩
                · rintro i e h hk hkh ⟨hi, g⟩
                  simp [Keep] at hk
                  simp [KeepH] at hkh
                  rcases (show i = 0 ∨ i = 1 by omega) with rfl | rfl
                  · skip
                    repeat' first
                      | (with_reducible refine gw_bool (fun _ => ?_) (fun _ => ?_))
                      | (with_reducible refine condw_bool (fun _ => ?_) (fun _ => ?_))
                      | simp [*, By.cs, lksE, lkE, Lk.cs]
                    refine nxt_go 1 ((View.forget _ _ 7)) (by omega) (by simp [*, Keep, St.forget, scr, scrC]) (by simp [*, KeepH, St.forget, scr, scrC]) ?_
                    refine ⟨by omega, ?_⟩; simp [*, St.forget, scr, scrC]
                  · skip
                    repeat' first
                      | (with_reducible refine gw_bool (fun _ => ?_) (fun _ => ?_))
                      | (with_reducible refine condw_bool (fun _ => ?_) (fun _ => ?_))
                      | simp [*, By.cs, lksE, lkE, Lk.cs]
              · cases ee : ieq x.bus y.bus
                · skip
                  refine pcall_cx C2_ok mixed (fun _ => none) Try.func85 rfl Try.ntmps85 Try.results85 (by simp) (by kernel_rfl) ?_
                  repeat' first
                    | (with_reducible refine gw_bool (fun _ => ?_) (fun _ => ?_))
                    | (with_reducible refine condw_bool (fun _ => ?_) (fun _ => ?_))
                    | simp [*, By.cs, lksE, lkE, Lk.cs]
                  refine lp_go (D := (fun _ => none)) C2_ok mixed (by kernel_rfl) [0, 3, 27, 28] [3, 7] (α := Nat) (fun i e h => i ≤ 2 ∧ e 29 = .int .i64 i) (fun i => 2 - i) 0 ?_ ?_
                  · exact ⟨by omega, rfl⟩
                  · rintro i e h hk hkh ⟨hi, g⟩
                    simp [Keep] at hk
                    simp [KeepH] at hkh
                    rcases (show i = 0 ∨ i = 1 ∨ i = 2 by omega) with rfl | rfl | rfl
                    · skip
                      repeat' first
                        | (with_reducible refine gw_bool (fun _ => ?_) (fun _ => ?_))
                        | (with_reducible refine condw_bool (fun _ => ?_) (fun _ => ?_))
                        | simp [*, By.cs, lksE, lkE, Lk.cs]
                      refine nxt_go 1 ((View.forget _ _ 7)) (by omega) (by simp [*, Keep, St.forget, scr, scrC]) (by simp [*, KeepH, St.forget, scr, scrC]) ?_
                      refine ⟨by omega, ?_⟩; simp [*, St.forget, scr, scrC]
                    · skip
                      repeat' first
                        | (with_reducible refine gw_bool (fun _ => ?_) (fun _ => ?_))
                        | (with_reducible refine condw_bool (fun _ => ?_) (fun _ => ?_))
                        | simp [*, By.cs, lksE, lkE, Lk.cs]
                      refine nxt_go 2 ((View.forget _ _ 7)) (by omega) (by simp [*, Keep, St.forget, scr, scrC]) (by simp [*, KeepH, St.forget, scr, scrC]) ?_
                      refine ⟨by omega, ?_⟩; simp [*, St.forget, scr, scrC]
                    · skip
                      repeat' first
                        | (with_reducible refine gw_bool (fun _ => ?_) (fun _ => ?_))
                        | (with_reducible refine condw_bool (fun _ => ?_) (fun _ => ?_))
                        | simp [*, By.cs, lksE, lkE, Lk.cs]
                · skip
                  refine pcall_cx C2_ok mixed (fun _ => none) Try.func85 rfl Try.ntmps85 Try.results85 (by simp) (by kernel_rfl) ?_
                  repeat' first
                    | (with_reducible refine gw_bool (fun _ => ?_) (fun _ => ?_))
                    | (with_reducible refine condw_bool (fun _ => ?_) (fun _ => ?_))
                    | simp [*, By.cs, lksE, lkE, Lk.cs]
                  refine lp_go (D := (fun _ => none)) C2_ok mixed (by kernel_rfl) [0, 3, 27, 28] [3, 7] (α := Nat) (fun i e h => i ≤ 1 ∧ e 29 = .int .i64 i) (fun i => 2 - i) 0 ?_ ?_
                  · exact ⟨by omega, rfl⟩
                  · rintro i e h hk hkh ⟨hi, g⟩
                    simp [Keep] at hk
                    simp [KeepH] at hkh
                    rcases (show i = 0 ∨ i = 1 by omega) with rfl | rfl
                    · skip
                      repeat' first
                        | (with_reducible refine gw_bool (fun _ => ?_) (fun _ => ?_))
                        | (with_reducible refine condw_bool (fun _ => ?_) (fun _ => ?_))
                        | simp [*, By.cs, lksE, lkE, Lk.cs]
                      refine nxt_go 1 ((View.forget _ _ 7)) (by omega) (by simp [*, Keep, St.forget, scr, scrC]) (by simp [*, KeepH, St.forget, scr, scrC]) ?_
                      refine ⟨by omega, ?_⟩; simp [*, St.forget, scr, scrC]
                    · skip
                      repeat' first
                        | (with_reducible refine gw_bool (fun _ => ?_) (fun _ => ?_))
                        | (with_reducible refine condw_bool (fun _ => ?_) (fun _ => ?_))
                        | simp [*, By.cs, lksE, lkE, Lk.cs]
            · cases ee : ieq x.bus y.bus
              · skip
                refine pcall_cx C2_ok mixed (fun _ => none) Try.func85 rfl Try.ntmps85 Try.results85 (by simp) (by kernel_rfl) ?_
                repeat' first
                  | (with_reducible refine gw_bool (fun _ => ?_) (fun _ => ?_))
                  | (with_reducible refine condw_bool (fun _ => ?_) (fun _ => ?_))
                  | simp [*, By.cs, lksE, lkE, Lk.cs]
                refine lp_go (D := (fun _ => none)) C2_ok mixed (by kernel_rfl) [0, 3, 27, 28] [3, 7] (α := Nat) (fun i e h => i ≤ 2 ∧ e 29 = .int .i64 i) (fun i => 2 - i) 0 ?_ ?_
                · exact ⟨by omega, rfl⟩
                · rintro i e h hk hkh ⟨hi, g⟩
                  simp [Keep] at hk
                  simp [KeepH] at hkh
                  rcases (show i = 0 ∨ i = 1 ∨ i = 2 by omega) with rfl | rfl | rfl
                  · skip
                    repeat' first
                      | (with_reducible refine gw_bool (fun _ => ?_) (fun _ => ?_))
                      | (with_reducible refine condw_bool (fun _ => ?_) (fun _ => ?_))
                      | simp [*, By.cs, lksE, lkE, Lk.cs]
                    refine nxt_go 1 ((View.forget _ _ 7)) (by omega) (by simp [*, Keep, St.forget, scr, scrC]) (by simp [*, KeepH, St.forget, scr, scrC]) ?_
                    refine ⟨by omega, ?_⟩; simp [*, St.forget, scr, scrC]
                  · skip
                    repeat' first
                      | (with_reducible refine gw_bool (fun _ => ?_) (fun _ => ?_))
                      | (with_reducible refine condw_bool (fun _ => ?_) (fun _ => ?_))
                      | simp [*, By.cs, lksE, lkE, Lk.cs]
                    refine nxt_go 2 ((View.forget _ _ 7)) (by omega) (by simp [*, Keep, St.forget, scr, scrC]) (by simp [*, KeepH, St.forget, scr, scrC]) ?_
                    refine ⟨by omega, ?_⟩; simp [*, St.forget, scr, scrC]
                  · skip
                    repeat' first
                      | (with_reducible refine gw_bool (fun _ => ?_) (fun _ => ?_))
                      | (with_reducible refine condw_bool (fun _ => ?_) (fun _ => ?_))
                      | simp [*, By.cs, lksE, lkE, Lk.cs]
              · skip
                refine pcall_cx C2_ok mixed (fun _ => none) Try.func85 rfl Try.ntmps85 Try.results85 (by simp) (by kernel_rfl) ?_
                repeat' first
                  | (with_reducible refine gw_bool (fun _ => ?_) (fun _ => ?_))
                  | (with_reducible refine condw_bool (fun _ => ?_) (fun _ => ?_))
                  | simp [*, By.cs, lksE, lkE, Lk.cs]
                refine lp_go (D := (fun _ => none)) C2_ok mixed (by kernel_rfl) [0, 3, 27, 28] [3, 7] (α := Nat) (fun i e h => i ≤ 1 ∧ e 29 = .int .i64 i) (fun i => 2 - i) 0 ?_ ?_
                · exact ⟨by omega, rfl⟩
                · rintro i e h hk hkh ⟨hi, g⟩
                  simp [Keep] at hk
                  simp [KeepH] at hkh
                  rcases (show i = 0 ∨ i = 1 by omega) with rfl | rfl
                  · skip
                    repeat' first
                      | (with_reducible refine gw_bool (fun _ => ?_) (fun _ => ?_))
                      | (with_reducible refine condw_bool (fun _ => ?_) (fun _ => ?_))
                      | simp [*, By.cs, lksE, lkE, Lk.cs]
                    refine nxt_go 1 ((View.forget _ _ 7)) (by omega) (by simp [*, Keep, St.forget, scr, scrC]) (by simp [*, KeepH, St.forget, scr, scrC]) ?_
                    refine ⟨by omega, ?_⟩; simp [*, St.forget, scr, scrC]
                  · skip
                    repeat' first
                      | (with_reducible refine gw_bool (fun _ => ?_) (fun _ => ?_))
                      | (with_reducible refine condw_bool (fun _ => ?_) (fun _ => ?_))
                      | simp [*, By.cs, lksE, lkE, Lk.cs]
      · cases wy : withinF y.bus 0 (IntKind.i64.wrap (nb - 1))
        · skip
          refine pcall_cx C2_ok mixed (fun _ => none) Try.func85 rfl Try.ntmps85 Try.results85 (by simp) (by kernel_rfl) ?_
          repeat' first
            | (with_reducible refine gw_bool (fun _ => ?_) (fun _ => ?_))
            | (with_reducible refine condw_bool (fun _ => ?_) (fun _ => ?_))
            | simp [*, By.cs, lksE, lkE, Lk.cs]
          refine lp_go (D := (fun _ => none)) C2_ok mixed (by kernel_rfl) [0, 3, 27, 28] [3, 7] (α := Nat) (fun i e h => i ≤ 1 ∧ e 29 = .int .i64 i) (fun i => 2 - i) 0 ?_ ?_
          · exact ⟨by omega, rfl⟩
          · rintro i e h hk hkh ⟨hi, g⟩
            simp [Keep] at hk
            simp [KeepH] at hkh
            rcases (show i = 0 ∨ i = 1 by omega) with rfl | rfl
            · skip
              repeat' first
                | (with_reducible refine gw_bool (fun _ => ?_) (fun _ => ?_))
                | (with_reducible refine condw_bool (fun _ => ?_) (fun _ => ?_))
                | simp [*, By.cs, lksE, lkE, Lk.cs]
              refine nxt_go 1 ((View.forget _ _ 7)) (by omega) (by simp [*, Keep, St.forget, scr, scrC]) (by simp [*, KeepH, St.forget, scr, scrC]) ?_
              refine ⟨by omega, ?_⟩; simp [*, St.forget, scr, scrC]
            · skip
              repeat' first
                | (with_reducible refine gw_bool (fun _ => ?_) (fun _ => ?_))
                | (with_reducible refine condw_bool (fun _ => ?_) (fun _ => ?_))
                | simp [*, By.cs, lksE, lkE, Lk.cs]
        · cases py1 : ieq y.pos 1
          · cases py0 : ieq y.pos 0
            · skip
              refine pcall_cx C2_ok mixed (fun _ => none) Try.func85 rfl Try.ntmps85 Try.results85 (by simp) (by kernel_rfl) ?_
              repeat' first
                | (with_reducible refine gw_bool (fun _ => ?_) (fun _ => ?_))
                | (with_reducible refine condw_bool (fun _ => ?_) (fun _ => ?_))
                | simp [*, By.cs, lksE, lkE, Lk.cs]
              refine lp_go (D := (fun _ => none)) C2_ok mixed (by kernel_rfl) [0, 3, 27, 28] [3, 7] (α := Nat) (fun i e h => i ≤ 1 ∧ e 29 = .int .i64 i) (fun i => 2 - i) 0 ?_ ?_
              · exact ⟨by omega, rfl⟩
              · rintro i e h hk hkh ⟨hi, g⟩
                simp [Keep] at hk
                simp [KeepH] at hkh
                rcases (show i = 0 ∨ i = 1 by omega) with rfl | rfl
                · skip
                  repeat' first
                    | (with_reducible refine gw_bool (fun _ => ?_) (fun _ => ?_))
                    | (with_reducible refine condw_bool (fun _ => ?_) (fun _ => ?_))
                    | simp [*, By.cs, lksE, lkE, Lk.cs]
                  refine nxt_go 1 ((View.forget _ _ 7)) (by omega) (by simp [*, Keep, St.forget, scr, scrC]) (by simp [*, KeepH, St.forget, scr, scrC]) ?_
                  refine ⟨by omega, ?_⟩; simp [*, St.forget, scr, scrC]
                · skip
                  repeat' first
                    | (with_reducible refine gw_bool (fun _ => ?_) (fun _ => ?_))
                    | (with_reducible refine condw_bool (fun _ => ?_) (fun _ => ?_))
                    | simp [*, By.cs, lksE, lkE, Lk.cs]
            · cases ee : ieq x.bus y.bus
              · skip
                refine pcall_cx C2_ok mixed (fun _ => none) Try.func85 rfl Try.ntmps85 Try.results85 (by simp) (by kernel_rfl) ?_
                repeat' first
                  | (with_reducible refine gw_bool (fun _ => ?_) (fun _ => ?_))
                  | (with_reducible refine condw_bool (fun _ => ?_) (fun _ => ?_))
                  | simp [*, By.cs, lksE, lkE, Lk.cs]
                refine lp_go (D := (fun _ => none)) C2_ok mixed (by kernel_rfl) [0, 3, 27, 28] [3, 7] (α := Nat) (fun i e h => i ≤ 2 ∧ e 29 = .int .i64 i) (fun i => 2 - i) 0 ?_ ?_
                · exact ⟨by omega, rfl⟩
                · rintro i e h hk hkh ⟨hi, g⟩
                  simp [Keep] at hk
                  simp [KeepH] at hkh
                  rcases (show i = 0 ∨ i = 1 ∨ i = 2 by omega) with rfl | rfl | rfl
                  · skip
                    repeat' first
                      | (with_reducible refine gw_bool (fun _ => ?_) (fun _ => ?_))
                      | (with_reducible refine condw_bool (fun _ => ?_) (fun _ => ?_))
                      | simp [*, By.cs, lksE, lkE, Lk.cs]
                    refine nxt_go 1 ((View.forget _ _ 7)) (by omega) (by simp [*, Keep, St.forget, scr, scrC]) (by simp [*, KeepH, St.forget, scr, scrC]) ?_
                    refine ⟨by omega, ?_⟩; simp [*, St.forget, scr, scrC]
                  · skip
                    repeat' first
                      | (with_reducible refine gw_bool (fun _ => ?_) (fun _ => ?_))
                      | (with_reducible refine condw_bool (fun _ => ?_) (fun _ => ?_))
                      | simp [*, By.cs, lksE, lkE, Lk.cs]
                    refine nxt_go 2 ((View.forget _ _ 7)) (by omega) (by simp [*, Keep, St.forget, scr, scrC]) (by simp [*, KeepH, St.forget, scr, scrC]) ?_
                    refine ⟨by omega, ?_⟩; simp [*, St.forget, scr, scrC]
                  · skip
                    repeat' first
                      | (with_reducible refine gw_bool (fun _ => ?_) (fun _ => ?_))
                      | (with_reducible refine condw_bool (fun _ => ?_) (fun _ => ?_))
                      | simp [*, By.cs, lksE, lkE, Lk.cs]
              · skip
                refine pcall_cx C2_ok mixed (fun _ => none) Try.func85 rfl Try.ntmps85 Try.results85 (by simp) (by kernel_rfl) ?_
                repeat' first
                  | (with_reducible refine gw_bool (fun _ => ?_) (fun _ => ?_))
                  | (with_reducible refine condw_bool (fun _ => ?_) (fun _ => ?_))
                  | simp [*, By.cs, lksE, lkE, Lk.cs]
                refine lp_go (D := (fun _ => none)) C2_ok mixed (by kernel_rfl) [0, 3, 27, 28] [3, 7] (α := Nat) (fun i e h => i ≤ 1 ∧ e 29 = .int .i64 i) (fun i => 2 - i) 0 ?_ ?_
                · exact ⟨by omega, rfl⟩
                · rintro i e h hk hkh ⟨hi, g⟩
                  simp [Keep] at hk
                  simp [KeepH] at hkh
                  rcases (show i = 0 ∨ i = 1 by omega) with rfl | rfl
                  · skip
                    repeat' first
                      | (with_reducible refine gw_bool (fun _ => ?_) (fun _ => ?_))
                      | (with_reducible refine condw_bool (fun _ => ?_) (fun _ => ?_))
                      | simp [*, By.cs, lksE, lkE, Lk.cs]
                    refine nxt_go 1 ((View.forget _ _ 7)) (by omega) (by simp [*, Keep, St.forget, scr, scrC]) (by simp [*, KeepH, St.forget, scr, scrC]) ?_
                    refine ⟨by omega, ?_⟩; simp [*, St.forget, scr, scrC]
                  · skip
                    repeat' first
                      | (with_reducible refine gw_bool (fun _ => ?_) (fun _ => ?_))
                      | (with_reducible refine condw_bool (fun _ => ?_) (fun _ => ?_))
                      | simp [*, By.cs, lksE, lkE, Lk.cs]
          · cases ee : ieq x.bus y.bus
            · skip
              refine pcall_cx C2_ok mixed (fun _ => none) Try.func85 rfl Try.ntmps85 Try.results85 (by simp) (by kernel_rfl) ?_
              repeat' first
                | (with_reducible refine gw_bool (fun _ => ?_) (fun _ => ?_))
                | (with_reducible refine condw_bool (fun _ => ?_) (fun _ => ?_))
                | simp [*, By.cs, lksE, lkE, Lk.cs]
              refine lp_go (D := (fun _ => none)) C2_ok mixed (by kernel_rfl) [0, 3, 27, 28] [3, 7] (α := Nat) (fun i e h => i ≤ 2 ∧ e 29 = .int .i64 i) (fun i => 2 - i) 0 ?_ ?_
              · exact ⟨by omega, rfl⟩
              · rintro i e h hk hkh ⟨hi, g⟩
                simp [Keep] at hk
                simp [KeepH] at hkh
                rcases (show i = 0 ∨ i = 1 ∨ i = 2 by omega) with rfl | rfl | rfl
                · skip
                  repeat' first
                    | (with_reducible refine gw_bool (fun _ => ?_) (fun _ => ?_))
                    | (with_reducible refine condw_bool (fun _ => ?_) (fun _ => ?_))
                    | simp [*, By.cs, lksE, lkE, Lk.cs]
                  refine nxt_go 1 ((View.forget _ _ 7)) (by omega) (by simp [*, Keep, St.forget, scr, scrC]) (by simp [*, KeepH, St.forget, scr, scrC]) ?_
                  refine ⟨by omega, ?_⟩; simp [*, St.forget, scr, scrC]
                · skip
                  repeat' first
                    | (with_reducible refine gw_bool (fun _ => ?_) (fun _ => ?_))
                    | (with_reducible refine condw_bool (fun _ => ?_) (fun _ => ?_))
                    | simp [*, By.cs, lksE, lkE, Lk.cs]
                  refine nxt_go 2 ((View.forget _ _ 7)) (by omega) (by simp [*, Keep, St.forget, scr, scrC]) (by simp [*, KeepH, St.forget, scr, scrC]) ?_
                  refine ⟨by omega, ?_⟩; simp [*, St.forget, scr, scrC]
                · skip
                  repeat' first
                    | (with_reducible refine gw_bool (fun _ => ?_) (fun _ => ?_))
                    | (with_reducible refine condw_bool (fun _ => ?_) (fun _ => ?_))
                    | simp [*, By.cs, lksE, lkE, Lk.cs]
            · skip
              refine pcall_cx C2_ok mixed (fun _ => none) Try.func85 rfl Try.ntmps85 Try.results85 (by simp) (by kernel_rfl) ?_
              repeat' first
                | (with_reducible refine gw_bool (fun _ => ?_) (fun _ => ?_))
                | (with_reducible refine condw_bool (fun _ => ?_) (fun _ => ?_))
                | simp [*, By.cs, lksE, lkE, Lk.cs]
              refine lp_go (D := (fun _ => none)) C2_ok mixed (by kernel_rfl) [0, 3, 27, 28] [3, 7] (α := Nat) (fun i e h => i ≤ 1 ∧ e 29 = .int .i64 i) (fun i => 2 - i) 0 ?_ ?_
              · exact ⟨by omega, rfl⟩
              · rintro i e h hk hkh ⟨hi, g⟩
                simp [Keep] at hk
                simp [KeepH] at hkh
                rcases (show i = 0 ∨ i = 1 by omega) with rfl | rfl
                · skip
                  repeat' first
                    | (with_reducible refine gw_bool (fun _ => ?_) (fun _ => ?_))
                    | (with_reducible refine condw_bool (fun _ => ?_) (fun _ => ?_))
                    | simp [*, By.cs, lksE, lkE, Lk.cs]
                  refine nxt_go 1 ((View.forget _ _ 7)) (by omega) (by simp [*, Keep, St.forget, scr, scrC]) (by simp [*, KeepH, St.forget, scr, scrC]) ?_
                  refine ⟨by omega, ?_⟩; simp [*, St.forget, scr, scrC]
                · skip
                  repeat' first
                    | (with_reducible refine gw_bool (fun _ => ?_) (fun _ => ?_))
                    | (with_reducible refine condw_bool (fun _ => ?_) (fun _ => ?_))
                    | simp [*, By.cs, lksE, lkE, Lk.cs]
    · skip
      refine pcall_cx C2_ok mixed (fun _ => none) Try.func85 rfl Try.ntmps85 Try.results85 (by simp) (by kernel_rfl) ?_
      repeat' first
        | (with_reducible refine gw_bool (fun _ => ?_) (fun _ => ?_))
        | (with_reducible refine condw_bool (fun _ => ?_) (fun _ => ?_))
        | simp [*, By.cs, lksE, lkE, Lk.cs]
      refine lp_go (D := (fun _ => none)) C2_ok mixed (by kernel_rfl) [0, 3, 27, 28] [3, 7] (α := Nat) (fun i e h => i ≤ 0 ∧ e 29 = .int .i64 i) (fun i => 2 - i) 0 ?_ ?_
      · exact ⟨by omega, rfl⟩
      · rintro i e h hk hkh ⟨hi, g⟩
        simp [Keep] at hk
        simp [KeepH] at hkh
        obtain rfl : i = 0 := by omega
        repeat' first
          | (with_reducible refine gw_bool (fun _ => ?_) (fun _ => ?_))
          | (with_reducible refine condw_bool (fun _ => ?_) (fun _ => ?_))
          | simp [*, By.cs, lksE, lkE, Lk.cs]
    · cases px1 : ieq x.pos 1
      · cases px0 : ieq x.pos 0
        · skip
          refine pcall_cx C2_ok mixed (fun _ => none) Try.func85 rfl Try.ntmps85 Try.results85 (by simp) (by kernel_rfl) ?_
          repeat' first
            | (with_reducible refine gw_bool (fun _ => ?_) (fun _ => ?_))
            | (with_reducible refine condw_bool (fun _ => ?_) (fun _ => ?_))
            | simp [*, By.cs, lksE, lkE, Lk.cs]
          refine lp_go (D := (fun _ => none)) C2_ok mixed (by kernel_rfl) [0, 3, 27, 28] [3, 7] (α := Nat) (fun i e h => i ≤ 0 ∧ e 29 = .int .i64 i) (fun i => 2 - i) 0 ?_ ?_
          · exact ⟨by omega, rfl⟩
          · rintro i e h hk hkh ⟨hi, g⟩
            simp [Keep] at hk
            simp [KeepH] at hkh
            obtain rfl : i = 0 := by omega
            repeat' first
              | (with_reducible refine gw_bool (fun _ => ?_) (fun _ => ?_))
              | (with_reducible refine condw_bool (fun _ => ?_) (fun _ => ?_))
              | simp [*, By.cs, lksE, lkE, Lk.cs]
        · skip
          refine pcall_cx C2_ok mixed (fun _ => none) Try.func85 rfl Try.ntmps85 Try.results85 (by simp) (by kernel_rfl) ?_
          repeat' first
            | (with_reducible refine gw_bool (fun _ => ?_) (fun _ => ?_))
            | (with_reducible refine condw_bool (fun _ => ?_) (fun _ => ?_))
            | simp [*, By.cs, lksE, lkE, Lk.cs]
          refine lp_go (D := (fun _ => none)) C2_ok mixed (by kernel_rfl) [0, 3, 27, 28] [3, 7] (α := Nat) (fun i e h => i ≤ 0 ∧ e 29 = .int .i64 i) (fun i => 2 - i) 0 ?_ ?_
          · exact ⟨by omega, rfl⟩
          · rintro i e h hk hkh ⟨hi, g⟩
            simp [Keep] at hk
            simp [KeepH] at hkh
            obtain rfl : i = 0 := by omega
            repeat' first
              | (with_reducible refine gw_bool (fun _ => ?_) (fun _ => ?_))
              | (with_reducible refine condw_bool (fun _ => ?_) (fun _ => ?_))
              | simp [*, By.cs, lksE, lkE, Lk.cs]
      · cases wy : withinF y.bus 0 (IntKind.i64.wrap (nb - 1))
        · skip
          refine pcall_cx C2_ok mixed (fun _ => none) Try.func85 rfl Try.ntmps85 Try.results85 (by simp) (by kernel_rfl) ?_
          repeat' first
            | (with_reducible refine gw_bool (fun _ => ?_) (fun _ => ?_))
            | (with_reducible refine condw_bool (fun _ => ?_) (fun _ => ?_))
            | simp [*, By.cs, lksE, lkE, Lk.cs]
          refine lp_go (D := (fun _ => none)) C2_ok mixed (by kernel_rfl) [0, 3, 27, 28] [3, 7] (α := Nat) (fun i e h => i ≤ 1 ∧ e 29 = .int .i64 i) (fun i => 2 - i) 0 ?_ ?_
          · exact ⟨by omega, rfl⟩
          · rintro i e h hk hkh ⟨hi, g⟩
            simp [Keep] at hk
            simp [KeepH] at hkh
            rcases (show i = 0 ∨ i = 1 by omega) with rfl | rfl
            · skip
              repeat' first
                | (with_reducible refine gw_bool (fun _ => ?_) (fun _ => ?_))
                | (with_reducible refine condw_bool (fun _ => ?_) (fun _ => ?_))
                | simp [*, By.cs, lksE, lkE, Lk.cs]
              refine nxt_go 1 ((View.forget _ _ 7)) (by omega) (by simp [*, Keep, St.forget, scr, scrC]) (by simp [*, KeepH, St.forget, scr, scrC]) ?_
              refine ⟨by omega, ?_⟩; simp [*, St.forget, scr, scrC]
            · skip
              repeat' first
                | (with_reducible refine gw_bool (fun _ => ?_) (fun _ => ?_))
                | (with_reducible refine condw_bool (fun _ => ?_) (fun _ => ?_))
                | simp [*, By.cs, lksE, lkE, Lk.cs]
        · cases py1 : ieq y.pos 1
          · cases py0 : ieq y.pos 0
            · skip
              refine pcall_cx C2_ok mixed (fun _ => none) Try.func85 rfl Try.ntmps85 Try.results85 (by simp) (by kernel_rfl) ?_
              repeat' first
                | (with_reducible refine gw_bool (fun _ => ?_) (fun _ => ?_))
                | (with_reducible refine condw_bool (fun _ => ?_) (fun _ => ?_))
                | simp [*, By.cs, lksE, lkE, Lk.cs]
              refine lp_go (D := (fun _ => none)) C2_ok mixed (by kernel_rfl) [0, 3, 27, 28] [3, 7] (α := Nat) (fun i e h => i ≤ 1 ∧ e 29 = .int .i64 i) (fun i => 2 - i) 0 ?_ ?_
              · exact ⟨by omega, rfl⟩
              · rintro i e h hk hkh ⟨hi, g⟩
                simp [Keep] at hk
                simp [KeepH] at hkh
                rcases (show i = 0 ∨ i = 1 by omega) with rfl | rfl
                · skip
                  repeat' first
                    | (with_reducible refine gw_bool (fun _ => ?_) (fun _ => ?_))
                    | (with_reducible refine condw_bool (fun _ => ?_) (fun _ => ?_))
                    | simp [*, By.cs, lksE, lkE, Lk.cs]
                  refine nxt_go 1 ((View.forget _ _ 7)) (by omega) (by simp [*, Keep, St.forget, scr, scrC]) (by simp [*, KeepH, St.forget, scr, scrC]) ?_
                  refine ⟨by omega, ?_⟩; simp [*, St.forget, scr, scrC]
                · skip
                  repeat' first
                    | (with_reducible refine gw_bool (fun _ => ?_) (fun _ => ?_))
                    | (with_reducible refine condw_bool (fun _ => ?_) (fun _ => ?_))
                    | simp [*, By.cs, lksE, lkE, Lk.cs]
            · skip
              refine pcall_cx C2_ok mixed (fun _ => none) Try.func85 rfl Try.ntmps85 Try.results85 (by simp) (by kernel_rfl) ?_
              repeat' first
                | (with_reducible refine gw_bool (fun _ => ?_) (fun _ => ?_))
                | (with_reducible refine condw_bool (fun _ => ?_) (fun _ => ?_))
                | simp [*, By.cs, lksE, lkE, Lk.cs]
              refine lp_go (D := (fun _ => none)) C2_ok mixed (by kernel_rfl) [0, 3, 27, 28] [3, 7] (α := Nat) (fun i e h => i ≤ 1 ∧ e 29 = .int .i64 i) (fun i => 2 - i) 0 ?_ ?_
              · exact ⟨by omega, rfl⟩
              · rintro i e h hk hkh ⟨hi, g⟩
                simp [Keep] at hk
                simp [KeepH] at hkh
                rcases (show i = 0 ∨ i = 1 by omega) with rfl | rfl
                · skip
                  repeat' first
                    | (with_reducible refine gw_bool (fun _ => ?_) (fun _ => ?_))
                    | (with_reducible refine condw_bool (fun _ => ?_) (fun _ => ?_))
                    | simp [*, By.cs, lksE, lkE, Lk.cs]
                  refine nxt_go 1 ((View.forget _ _ 7)) (by omega) (by simp [*, Keep, St.forget, scr, scrC]) (by simp [*, KeepH, St.forget, scr, scrC]) ?_
                  refine ⟨by omega, ?_⟩; simp [*, St.forget, scr, scrC]
                · skip
                  repeat' first
                    | (with_reducible refine gw_bool (fun _ => ?_) (fun _ => ?_))
                    | (with_reducible refine condw_bool (fun _ => ?_) (fun _ => ?_))
                    | simp [*, By.cs, lksE, lkE, Lk.cs]
          · cases ee : ieq x.bus y.bus
            · skip
              refine pcall_cx C2_ok mixed (fun _ => none) Try.func85 rfl Try.ntmps85 Try.results85 (by simp) (by kernel_rfl) ?_
              repeat' first
                | (with_reducible refine gw_bool (fun _ => ?_) (fun _ => ?_))
                | (with_reducible refine condw_bool (fun _ => ?_) (fun _ => ?_))
                | simp [*, By.cs, lksE, lkE, Lk.cs]
              refine lp_go (D := (fun _ => none)) C2_ok mixed (by kernel_rfl) [0, 3, 27, 28] [3, 7] (α := Nat) (fun i e h => i ≤ 2 ∧ e 29 = .int .i64 i) (fun i => 2 - i) 0 ?_ ?_
              · exact ⟨by omega, rfl⟩
              · rintro i e h hk hkh ⟨hi, g⟩
                simp [Keep] at hk
                simp [KeepH] at hkh
                rcases (show i = 0 ∨ i = 1 ∨ i = 2 by omega) with rfl | rfl | rfl
                · skip
                  repeat' first
                    | (with_reducible refine gw_bool (fun _ => ?_) (fun _ => ?_))
                    | (with_reducible refine condw_bool (fun _ => ?_) (fun _ => ?_))
                    | simp [*, By.cs, lksE, lkE, Lk.cs]
                  refine nxt_go 1 ((View.forget _ _ 7)) (by omega) (by simp [*, Keep, St.forget, scr, scrC]) (by simp [*, KeepH, St.forget, scr, scrC]) ?_
                  refine ⟨by omega, ?_⟩; simp [*, St.forget, scr, scrC]
                · skip
                  repeat' first
                    | (with_reducible refine gw_bool (fun _ => ?_) (fun _ => ?_))
                    | (with_reducible refine condw_bool (fun _ => ?_) (fun _ => ?_))
                    | simp [*, By.cs, lksE, lkE, Lk.cs]
                  refine nxt_go 2 ((View.forget _ _ 7)) (by omega) (by simp [*, Keep, St.forget, scr, scrC]) (by simp [*, KeepH, St.forget, scr, scrC]) ?_
                  refine ⟨by omega, ?_⟩; simp [*, St.forget, scr, scrC]
                · skip
                  repeat' first
                    | (with_reducible refine gw_bool (fun _ => ?_) (fun _ => ?_))
                    | (with_reducible refine condw_bool (fun _ => ?_) (fun _ => ?_))
                    | simp [*, By.cs, lksE, lkE, Lk.cs]
            · skip
              refine pcall_cx C2_ok mixed (fun _ => none) Try.func85 rfl Try.ntmps85 Try.results85 (by simp) (by kernel_rfl) ?_
              repeat' first
                | (with_reducible refine gw_bool (fun _ => ?_) (fun _ => ?_))
                | (with_reducible refine condw_bool (fun _ => ?_) (fun _ => ?_))
                | simp [*, By.cs, lksE, lkE, Lk.cs]
              refine lp_go (D := (fun _ => none)) C2_ok mixed (by kernel_rfl) [0, 3, 27, 28] [3, 7] (α := Nat) (fun i e h => i ≤ 1 ∧ e 29 = .int .i64 i) (fun i => 2 - i) 0 ?_ ?_
              · exact ⟨by omega, rfl⟩
              · rintro i e h hk hkh ⟨hi, g⟩
                simp [Keep] at hk
                simp [KeepH] at hkh
                rcases (show i = 0 ∨ i = 1 by omega) with rfl | rfl
                · skip
                  repeat' first
                    | (with_reducible refine gw_bool (fun _ => ?_) (fun _ => ?_))
                    | (with_reducible refine condw_bool (fun _ => ?_) (fun _ => ?_))
                    | simp [*, By.cs, lksE, lkE, Lk.cs]
                  refine nxt_go 1 ((View.forget _ _ 7)) (by omega) (by simp [*, Keep, St.forget, scr, scrC]) (by simp [*, KeepH, St.forget, scr, scrC]) ?_
                  refine ⟨by omega, ?_⟩; simp [*, St.forget, scr, scrC]
                · skip
                  repeat' first
                    | (with_reducible refine gw_bool (fun _ => ?_) (fun _ => ?_))
                    | (with_reducible refine condw_bool (fun _ => ?_) (fun _ => ?_))
                    | simp [*, By.cs, lksE, lkE, Lk.cs]
def Tlinks : List V → Option V
  | [.rp [_, .list 1 bs, _, _, _, _], .agg cs] => (unBy cs).map fun b => .int .i64 (lksE bs.length b.kind b.lks)
  | _ => none
theorem links_tab : ∀ vs v, Tlinks vs = some v → PCall Try.prog 85 vs v := by
  intro vs v h; unfold Tlinks at h; split at h
  · simp only [Option.map_eq_some_iff] at h
    obtain ⟨b, hb, rfl⟩ := h
    rw [unBy_inv _ _ hb]
    exact links_ok _ _ _ _ _ _ _
  · cases h
def C3 : Tab := add 81 Tbname (add 84 Tranges (add 85 Tlinks (C2)))
theorem C3_at (f : FuncId) (vs : List V) : C3.at' f vs = if f = 81 then Tbname vs else if f = 84 then Tranges vs else if f = 85 then Tlinks vs else C2.at' f vs := rfl
theorem C3_fr (f : FuncId) : C3.fr f = if f = 81 then false else if f = 84 then false else if f = 85 then false else C2.fr f := rfl
theorem C3_gb (f : FuncId) : C3.gb f = C2.gb f := rfl
theorem C3_gv (f : FuncId) (vs : List V) : C3.gv f vs = C2.gv f vs := rfl
attribute [simp] C3_at C3_fr C3_gb C3_gv Tbname Tlinks Tranges
theorem C3_ok : TabOK Try.prog C3 := by
  refine add_ok (add_ok (add_ok (C2_ok) (by kernel_rfl) ?_) (by kernel_rfl) ?_) (by kernel_rfl) ?_
  · exact links_tab
  · exact ranges_tab
  · exact bname_tab
end Go.Proofs.Ytjhmphkdkclbjaa
end
section
namespace Go.Proofs.Ytjhmphkdkclbjaa
open Go.Pv Go.RowKit
set_option linter.unusedSimpArgs false
set_option linter.unusedVariables false
set_option maxRecDepth 100000
set_option maxHeartbeats 4000000

def s1 (s : ByteArray) : List V := [.str s]
def buC (l : List ByteArray) : List V := (l.map s1).flatten
def lnC (l : List Ln) : List V := (l.map Ln.cs).flatten
def srC (l : List Sr) : List V := (l.map Sr.cs).flatten
def byC (l : List By) : List V := (l.map By.cs).flatten
theorem buC_len (l : List ByteArray) : (buC l).length = l.length := by rw [buC, flat_len (sz := 1) (fun _ => rfl), Nat.mul_one]
theorem lnC_len (l : List Ln) : (lnC l).length = l.length * 5 := flat_len (sz := 5) (fun _ => rfl) l
theorem srC_len (l : List Sr) : (srC l).length = l.length * 6 := flat_len (sz := 6) (fun _ => rfl) l
theorem byC_len (l : List By) : (byC l).length = l.length * 12 := flat_len (sz := 12) (fun _ => rfl) l
theorem buC_pure (l : List ByteArray) : (buC l).any ownC = false := flat_pure (fun _ => rfl) l
theorem lnC_pure (l : List Ln) : (lnC l).any ownC = false := flat_pure (fun _ => rfl) l
theorem srC_pure (l : List Sr) : (srC l).any ownC = false := flat_pure (fun _ => rfl) l
theorem byC_pure (l : List By) : (byC l).any ownC = false := flat_pure (fun _ => rfl) l
theorem buC_chunks (l : List ByteArray) : chunks 1 l.length (buC l) = l.map s1 := flat_chunks (sz := 1) (fun _ => rfl) l
theorem lnC_chunks (l : List Ln) : chunks 5 l.length (lnC l) = l.map Ln.cs := flat_chunks (sz := 5) (fun _ => rfl) l
theorem srC_chunks (l : List Sr) : chunks 6 l.length (srC l) = l.map Sr.cs := flat_chunks (sz := 6) (fun _ => rfl) l
theorem byC_chunks (l : List By) : chunks 12 l.length (byC l) = l.map By.cs := flat_chunks (sz := 12) (fun _ => rfl) l
theorem buC_scr (l : List ByteArray) (k : Nat) : (buC l).map (scrC k) = buC l := scrC_cells (buC_pure l)
theorem lnC_scr (l : List Ln) (k : Nat) : (lnC l).map (scrC k) = lnC l := scrC_cells (lnC_pure l)
theorem srC_scr (l : List Sr) (k : Nat) : (srC l).map (scrC k) = srC l := scrC_cells (srC_pure l)
theorem byC_scr (l : List By) (k : Nat) : (byC l).map (scrC k) = byC l := scrC_cells (byC_pure l)
theorem str_scr (l : List ByteArray) (k : Nat) : (l.map V.str).map (scrC k) = l.map V.str := by simp [scrC]
attribute [simp] buC_len lnC_len srC_len byC_len buC_pure lnC_pure srC_pure byC_pure buC_chunks lnC_chunks srC_chunks byC_chunks buC_scr lnC_scr srC_scr byC_scr str_scr
theorem buC_snoc (l : List ByteArray) (x : ByteArray) : buC (l ++ [x]) = buC l ++ [.str x] := (flat_snoc l x).symm
theorem lnC_snoc (l : List Ln) (x : Ln) : lnC (l ++ [x]) = lnC l ++ x.cs := (flat_snoc l x).symm
theorem srC_snoc (l : List Sr) (x : Sr) : srC (l ++ [x]) = srC l ++ x.cs := (flat_snoc l x).symm
theorem byC_snoc (l : List By) (x : By) : byC (l ++ [x]) = byC l ++ x.cs := (flat_snoc l x).symm
/-- What the builder has. -/
structure BS where
  ns : List ByteArray
  bs : List ByteArray
  ls : List Ln
  ss : List Sr
  qs : List By
structure BldH (h : Nat → Option Blk) (S : BS) : Prop where
  e0 : h 1000 = some ⟨126, [.str ⟨#[]⟩, .sl 1001 0 S.bs.length 1, .sl 1002 0 S.ls.length 5, .sl 1003 0 S.ss.length 6, .sl 1004 0 S.qs.length 12, .mp 1005]⟩
  e1 : h 1001 = some ⟨9, buC S.bs⟩
  e2 : h 1002 = some ⟨92, lnC S.ls⟩
  e3 : h 1003 = some ⟨96, srC S.ss⟩
  e4 : h 1004 = some ⟨54, byC S.qs⟩
  e5 : h 1005 = some ⟨124, S.ns.map V.str⟩
  en : ∀ k, k < 1000 → h k = none
def dupF (ns : List ByteArray) (s : ByteArray) : Bool := ns.any fun b => s == b
theorem findS_dup (L : List ByteArray) (s : ByteArray) : findS (L.map .str) s = some (dupF L s) := findS_strs L s
attribute [simp] findS_dup
def Post (bb : Nat) (er : Int) (S' : BS) (u : V) (s : St) : Prop := u = .int .i64 er ∧ (er = 0 → s.env 0 = .vptr bb 1000 0 ∧ BldH s.heap S')
/-- The builder lies at bb; its memory is newer than n0. -/
def Bd (bb n0 : Nat) (ro : Nat → Prop) (S : BS) (W : World) : Prop :=
  ∃ ro' lam h, HS W ro' lam h ∧ BldH h S ∧ (∃ m, lam 1000 = some (some bb, m)) ∧ (∀ b, ownB lam b → n0 ≤ b) ∧ (∀ b, ro b → ro' b) ∧ n0 ≤ W.heap.size
def PEff (f : Nat) (v : V) (er : Int) (S S' : BS) : Prop :=
  ∀ (bb n0 : Nat) (ro : Nat → Prop) (W : World) (X : Value), Bd bb n0 ro S W → R0 W ro v X → Calls Try.prog f #[.pointer (some ⟨bb, 0, none⟩), X] W fun e W' => Below n0 W W' ∧ e = .returned (.int .i64 er) ∧ (er = 0 → Bd bb n0 ro S' W')
theorem peff_of {Γ : Tab} {n : Nat} (hΓ : TabOK Try.prog Γ) (hm : Try.prog.follows .mixedOrders = true) (D : Nat → Option Ann) {f : FuncId} {fn : Func} {c : Code} {v : V} {er : Int} {S S' : BS} {rs : Array ResultVar} (hf : Try.prog.funcs[f]? = some fn) (hb : fn.body = some c) (hn : fn.ntmps = n) (hrs : fn.results = rs)
    (hvs : 2 ≤ n) (ok : okC n D c = true) (hc : ∀ bb h, BldH h S → cx Try.prog Γ n D c (FinE Try.prog n rs.toList (Post bb er S')) ⟨ini 0 [.vptr bb 1000 0, v], h⟩) : PEff f v er S S' := by
  rintro bb n0 ro W X ⟨ro1, lam, h, hs, hB, ⟨m, hm0⟩, ho, hro, hw⟩ hX
  refine (eff_cx (vs := [.vptr bb 1000 0, v]) hΓ hm D hf hb hn hrs hvs ok (hc bb h hB) hs (args := #[.pointer (some ⟨bb, 0, none⟩), X]) rfl ?_).mono ?_
  · intro j c x hc hx
    match j with
    | 0 => simp at hc hx; subst hc; subst hx; exact .vptr 1000 0 bb m hm0
    | 1 => simp at hc hx; subst hc; subst hx; exact .pure _ _ (hX.mono (fun _ _ => rfl) hro)
    | j + 2 => simp at hc
  · rintro e W' ⟨rv, u, s', ro', lam', a', rfl, hu, ⟨rfl, hp⟩, hext, hs'⟩
    have hrv : rv = .int .i64 er := by
      have := hu W ro
      cases this; rfl
    subst hrv
    refine ⟨⟨hs'.below.os, hs'.below.tape, hs'.below.output, hs'.below.size, fun k hk => hs'.below.block k (Nat.lt_of_lt_of_le hk hw) (fun hk' => by have := ho k hk'; omega)⟩, rfl, fun he => ?_⟩
    obtain ⟨h0, hB'⟩ := hp he
    have e0 := hs'.env 0
    rw [h0] at e0
    obtain ⟨m', hm', _⟩ := e0.vptr_inv
    refine ⟨ro', lam', s'.heap, HS.of hs', hB', ⟨m', hm'⟩, fun b ⟨key, hb⟩ => ?_, fun b hb => hext.1 b (hro b hb), Nat.le_trans hw hs'.below.size⟩
    rcases (hs'.ob hb).1 with h1 | h1
    · exact ho b h1
    · exact Nat.le_trans hw h1
theorem bus_ok (S : BS) (s : ByteArray) (hl : S.bs.length ≤ 100) : PEff 48 (.str s) (nmE s (dupF S.ns s)) S { S with ns := S.ns ++ [s], bs := S.bs ++ [s] } := by
  refine peff_of C3_ok mixed (fun _ => none) Try.func48 rfl Try.ntmps48 Try.results48 (by simp) (by kernel_rfl) ?_
  rintro bb h ⟨e0, e1, e2, e3, e4, e5, en⟩
  have f5 : (S.bs.length + 1) * 16 ≤ 140737488355328 := by omega
  have f6 : S.bs.length + 1 ≤ 9223372036854775807 := by omega
  cases hd : dupF S.ns s <;> cases hn : nameF s
  all_goals
    repeat' first
      | (with_reducible refine gw_bool (fun _ => ?_) (fun _ => ?_))
      | (with_reducible refine condw_bool (fun _ => ?_) (fun _ => ?_))
      | simp [*, nmE, appendV, srcCells, St.forget, scr, scrC]
  · exact ⟨_, View.refl _ _, rfl, fun h => by cases h⟩
  · refine ⟨_, View.forget _ _ 24, rfl, fun _ => ⟨?_, ?_⟩⟩
    · simp [St.forget, scr]
    · constructor
      · simp [*, St.forget, scrC]
      · simp [*, St.forget, scrC, buC_snoc]
      · simp [*, St.forget, scrC]
      · simp [*, St.forget, scrC]
      · simp [*, St.forget, scrC]
      · simp [*, St.forget, scrC]
      · intro k hk
        have h0 := en k hk
        have k0 : k ≠ 1000 := by omega
        have k1 : k ≠ 1001 := by omega
        have k5 : k ≠ 1005 := by omega
        clear en e0 e1 e2 e3 e4 e5
        by_cases hk24 : k = 24
        · simp [hk24, St.forget]
        · simp [*, St.forget, scrC]
  · exact ⟨_, View.refl _ _, rfl, fun h => by cases h⟩
  · exact ⟨_, View.refl _ _, rfl, fun h => by cases h⟩
end Go.Proofs.Ytjhmphkdkclbjaa
end
section
namespace Go.Proofs.Ytjhmphkdkclbjaa
open Go.Pv Go.RowKit
set_option linter.unusedSimpArgs false
set_option linter.unusedVariables false
set_option maxRecDepth 100000
set_option maxHeartbeats 4000000

def lnE (ns : List ByteArray) (l : Ln) : Int := if nameF l.nm = true then (if dupF ns l.nm = true then 8 else if impF l.r1 l.x1 && impF l.r0 l.x0 then 0 else 2) else 7
def srE (ns : List ByteArray) (l : Sr) : Int := if nameF l.nm = true then (if dupF ns l.nm = true then 8 else if withinF l.emf 1 1000000 && impF l.r1 l.x1 && impF l.r0 l.x0 then 0 else 2) else 7
theorem low_none {h h' : Nat → Option Blk} (en : ∀ k, k < 1000 → h k = none) (hh : ∀ k, k < 1000 → h k = none → h' k = none) : ∀ k, k < 1000 → h' k = none := fun k hk => hh k hk (en k hk)
theorem line_ok (S : BS) (l : Ln) (hl : S.ls.length ≤ 100) : PEff 50 (.agg l.cs) (lnE S.ns l) S { S with ns := S.ns ++ [l.nm], ls := S.ls ++ [l] } := by
  refine peff_of C3_ok mixed (fun _ => none) Try.func50 rfl Try.ntmps50 Try.results50 (by simp) (by kernel_rfl) ?_
  rintro bb h ⟨e0, e1, e2, e3, e4, e5, en⟩
  have f5 : (S.ls.length + 1) * 48 ≤ 140737488355328 := by omega
  have f6 : S.ls.length + 1 ≤ 9223372036854775807 := by omega
  cases hn : nameF l.nm
  · skip
    repeat' first
      | (with_reducible refine gw_bool (fun _ => ?_) (fun _ => ?_))
      | (with_reducible refine condw_bool (fun _ => ?_) (fun _ => ?_))
      | simp [*, nmE, lnE, Ln.cs]
    exact ⟨_, View.refl _ _, rfl, fun h => by cases h⟩
  cases hd : dupF S.ns l.nm
  case true =>
    repeat' first
      | (with_reducible refine gw_bool (fun _ => ?_) (fun _ => ?_))
      | (with_reducible refine condw_bool (fun _ => ?_) (fun _ => ?_))
      | simp [*, nmE, lnE, Ln.cs]
    exact ⟨_, View.refl _ _, rfl, fun h => by cases h⟩
  cases h1 : impF l.r1 l.x1 <;> cases h2 : impF l.r0 l.x0
  all_goals
    repeat' first
      | (with_reducible refine gw_bool (fun _ => ?_) (fun _ => ?_))
      | (with_reducible refine condw_bool (fun _ => ?_) (fun _ => ?_))
      | simp [*, nmE, lnE, Ln.cs, appendV, srcCells, St.forget, scr, scrC]
  · exact ⟨_, View.refl _ _, rfl, fun h => by cases h⟩
  · exact ⟨_, View.refl _ _, rfl, fun h => by cases h⟩
  · exact ⟨_, View.refl _ _, rfl, fun h => by cases h⟩
  · refine ⟨_, (View.forget _ _ 36).trans (View.forget _ _ 3), rfl, fun _ => ⟨?_, ?_⟩⟩
    · simp [St.forget, scr]
    · constructor
      all_goals try (simp [*, St.forget, scrC, lnC_snoc, Ln.cs]; done)
      · intro k hk
        have h0 := en k hk
        have k0 : k ≠ 1000 := by omega
        have k1 : k ≠ 1002 := by omega
        have k5 : k ≠ 1005 := by omega
        clear en e0 e1 e2 e3 e4 e5
        by_cases hk1 : k = 36
        · simp [hk1, St.forget]
        · by_cases hk2 : k = 3
          · simp [hk2, St.forget]
          · simp [*, St.forget, scrC]
theorem source_ok (S : BS) (l : Sr) (hl : S.ss.length ≤ 100) : PEff 52 (.agg l.cs) (srE S.ns l) S { S with ns := S.ns ++ [l.nm], ss := S.ss ++ [l] } := by
  refine peff_of C3_ok mixed (fun _ => none) Try.func52 rfl Try.ntmps52 Try.results52 (by simp) (by kernel_rfl) ?_
  rintro bb h ⟨e0, e1, e2, e3, e4, e5, en⟩
  have f5 : (S.ss.length + 1) * 56 ≤ 140737488355328 := by omega
  have f6 : S.ss.length + 1 ≤ 9223372036854775807 := by omega
  cases hn : nameF l.nm
  · skip
    repeat' first
      | (with_reducible refine gw_bool (fun _ => ?_) (fun _ => ?_))
      | (with_reducible refine condw_bool (fun _ => ?_) (fun _ => ?_))
      | simp [*, nmE, srE, Sr.cs]
    exact ⟨_, View.refl _ _, rfl, fun h => by cases h⟩
  cases hd : dupF S.ns l.nm
  case true =>
    repeat' first
      | (with_reducible refine gw_bool (fun _ => ?_) (fun _ => ?_))
      | (with_reducible refine condw_bool (fun _ => ?_) (fun _ => ?_))
      | simp [*, nmE, srE, Sr.cs]
    exact ⟨_, View.refl _ _, rfl, fun h => by cases h⟩
  cases h3 : withinF l.emf 1 1000000 <;> cases h1 : impF l.r1 l.x1 <;> cases h2 : impF l.r0 l.x0
  all_goals
    repeat' first
      | (with_reducible refine gw_bool (fun _ => ?_) (fun _ => ?_))
      | (with_reducible refine condw_bool (fun _ => ?_) (fun _ => ?_))
      | simp [*, nmE, srE, Sr.cs, appendV, srcCells, St.forget, scr, scrC]
  · exact ⟨_, View.refl _ _, rfl, fun h => by cases h⟩
  · exact ⟨_, View.refl _ _, rfl, fun h => by cases h⟩
  · exact ⟨_, View.refl _ _, rfl, fun h => by cases h⟩
  · exact ⟨_, View.refl _ _, rfl, fun h => by cases h⟩
  · exact ⟨_, View.refl _ _, rfl, fun h => by cases h⟩
  · exact ⟨_, View.refl _ _, rfl, fun h => by cases h⟩
  · exact ⟨_, View.refl _ _, rfl, fun h => by cases h⟩
  · refine ⟨_, (View.forget _ _ 42).trans (View.forget _ _ 3), rfl, fun _ => ⟨?_, ?_⟩⟩
    · simp [St.forget, scr]
    · constructor
      all_goals try (simp [*, St.forget, scrC, srC_snoc, Sr.cs]; done)
      · intro k hk
        have h0 := en k hk
        have k0 : k ≠ 1000 := by omega
        have k1 : k ≠ 1003 := by omega
        have k5 : k ≠ 1005 := by omega
        clear en e0 e1 e2 e3 e4 e5
        by_cases hk1 : k = 42
        · simp [hk1, St.forget]
        · by_cases hk2 : k = 3
          · simp [hk2, St.forget]
          · simp [*, St.forget, scrC]
end Go.Proofs.Ytjhmphkdkclbjaa
end
section
namespace Go.Proofs.Ytjhmphkdkclbjaa
open Go.Pv Go.RowKit
set_option linter.unusedSimpArgs false
set_option linter.unusedVariables false
set_option maxRecDepth 100000
set_option maxHeartbeats 4000000

def cflF (b y : By) : Bool := !ieq b.kind 3 && (ieq b.kind y.kind && (ieq b.ob y.ob && ieq b.en y.en))
def cntF (nl ns : Int) (k : Int) : Option Int := if ieq k 1 = true then some nl else if ieq k 2 = true then some ns else if ieq k 3 = true then some 1 else none
/-- The error of a bay without its name, before its links. -/
def byE0 (nl ns : Int) (qs : List By) (b : By) : Int := match cntF nl ns b.kind with
  | none => 10
  | some c => if withinF b.ob 0 (IntKind.i64.wrap (c - 1)) = true then (if rngF b = true then (if qs.any (cflF b) = true then 12 else 0) else 2) else 9
def byE1 (nb nl ns : Int) (qs : List By) (b : By) : Int := if ieq (byE0 nl ns qs b) 0 = true then lksE nb b.kind b.lks else byE0 nl ns qs b
def byE (S : BS) (b : By) : Int := if nameF b.nm = true then (if dupF S.ns b.nm = true then 8 else byE1 S.bs.length S.ls.length S.ss.length S.qs b) else 7
theorem unBy_mk (nm : ByteArray) (kind ob en zr zx : Int) (lks : List Lk) (cl : Bool) (ct vt sat tr : Int) : unBy [.str nm, .int .i64 kind, .int .i64 ob, .int .i64 en, .int .i64 zr, .int .i64 zx, .list 2 (lks.map Lk.cs), .bool cl, .int .i64 ct, .int .i64 vt, .int .i64 sat, .int .i64 tr] = some ⟨nm, kind, ob, en, zr, zx, lks, cl, ct, vt, sat, tr⟩ := unBy_cs ⟨nm, kind, ob, en, zr, zx, lks, cl, ct, vt, sat, tr⟩
attribute [simp] unBy_mk
theorem scr_comp (k : Nat) : scrC k ∘ V.str = V.str := rfl
attribute [simp] scr_comp length_chunks
theorem bay_ok (S : BS) (b : By) (h1 : S.bs.length ≤ 100) (h2 : S.ls.length ≤ 100) (h3 : S.ss.length ≤ 100) (hl : S.qs.length ≤ 100) : PEff 54 (.agg b.cs) (byE S b) S { S with ns := S.ns ++ [b.nm], qs := S.qs ++ [b] } := by
  refine peff_of C3_ok mixed (fun _ => none) Try.func54 rfl Try.ntmps54 Try.results54 (by simp) (by kernel_rfl) ?_
  rintro bb h ⟨e0, e1, e2, e3, e4, e5, en⟩
  have f5 : (S.qs.length + 1) * 120 ≤ 140737488355328 := by omega
  have f6 : S.qs.length + 1 ≤ 9223372036854775807 := by omega
  obtain ⟨nm, kind, ob, ed, zr, zx, lks, cl, ct, vt, sat, tr⟩ := b
  cases hn : nameF nm
  · skip
    repeat' first
      | (with_reducible refine gw_bool (fun _ => ?_) (fun _ => ?_))
      | (with_reducible refine condw_bool (fun _ => ?_) (fun _ => ?_))
      | simp [*, nmE, byE, By.cs]
    exact ⟨_, View.refl _ _, rfl, fun h => by cases h⟩
  cases hd : dupF S.ns nm
  case true =>
    repeat' first
      | (with_reducible refine gw_bool (fun _ => ?_) (fun _ => ?_))
      | (with_reducible refine condw_bool (fun _ => ?_) (fun _ => ?_))
      | simp [*, nmE, byE, By.cs]
    exact ⟨_, View.refl _ _, rfl, fun h => by cases h⟩
  obtain ⟨nb, hnb⟩ : ∃ nb, S.bs.length = nb := ⟨_, rfl⟩
  obtain ⟨nl, hnl⟩ : ∃ nl, S.ls.length = nl := ⟨_, rfl⟩
  obtain ⟨ns, hns⟩ : ∃ ns, S.ss.length = ns := ⟨_, rfl⟩
  obtain ⟨nq, hnq⟩ : ∃ nq, S.qs.length = nq := ⟨_, rfl⟩
  by_cases k1 : kind = 1
  · subst k1
    cases hw : withinF ob 0 (IntKind.i64.wrap ((nl : Int) - 1))
    · have her : byE S (⟨nm, 1, ob, ed, zr, zx, lks, cl, ct, vt, sat, tr⟩ : By) = 9 := by simp [byE, byE1, byE0, cntF, ieq_nat, hn, hd, hnb, hnl, hns, hw]
      rw [her]
      repeat' first
        | (with_reducible refine gw_bool (fun _ => ?_) (fun _ => ?_))
        | (with_reducible refine condw_bool (fun _ => ?_) (fun _ => ?_))
        | simp [*, nmE, By.cs]
      exact ⟨_, View.refl _ _, rfl, fun h => by cases h⟩
    cases hr : rngF (⟨nm, 1, ob, ed, zr, zx, lks, cl, ct, vt, sat, tr⟩ : By)
    · have her : byE S (⟨nm, 1, ob, ed, zr, zx, lks, cl, ct, vt, sat, tr⟩ : By) = 2 := by simp [byE, byE1, byE0, cntF, ieq_nat, hn, hd, hnb, hnl, hns, hw, hr]
      rw [her]
      repeat' first
        | (with_reducible refine gw_bool (fun _ => ?_) (fun _ => ?_))
        | (with_reducible refine condw_bool (fun _ => ?_) (fun _ => ?_))
        | simp [*, nmE, By.cs]
      exact ⟨_, View.refl _ _, rfl, fun h => by cases h⟩
    have hE1 : S.qs.any (cflF (⟨nm, 1, ob, ed, zr, zx, lks, cl, ct, vt, sat, tr⟩ : By)) = true → byE S (⟨nm, 1, ob, ed, zr, zx, lks, cl, ct, vt, sat, tr⟩ : By) = 12 := fun hc => by simp only [byE, byE1, byE0, cntF, hn, hd, hnb, hnl, hns, hw, hr, hc]; simp [ieq_nat, hw]
    have hE2 : S.qs.any (cflF (⟨nm, 1, ob, ed, zr, zx, lks, cl, ct, vt, sat, tr⟩ : By)) = false → byE S (⟨nm, 1, ob, ed, zr, zx, lks, cl, ct, vt, sat, tr⟩ : By) = lksE nb 1 lks := fun hc => by simp only [byE, byE1, byE0, cntF, hn, hd, hnb, hnl, hns, hw, hr, hc]; simp [ieq_nat, hw]
    obtain ⟨er, her⟩ : ∃ er, byE S (⟨nm, 1, ob, ed, zr, zx, lks, cl, ct, vt, sat, tr⟩ : By) = er := ⟨_, rfl⟩
    rw [her] at hE1 hE2 ⊢
    obtain ⟨cf, hcf⟩ : ∃ cf, cflF (⟨nm, 1, ob, ed, zr, zx, lks, cl, ct, vt, sat, tr⟩ : By) = cf := ⟨_, rfl⟩
    rw [hcf] at hE1 hE2
    obtain ⟨qs, hqs⟩ : ∃ qs, S.qs = qs := ⟨_, rfl⟩
    rw [hqs] at hnq hE1 hE2
    replace hE1 : Hid (qs.any cf = true → er = 12) := hE1
    replace hE2 : Hid (qs.any cf = false → er = lksE nb 1 lks) := hE2
    replace hcf : Hid (cflF (⟨nm, 1, ob, ed, zr, zx, lks, cl, ct, vt, sat, tr⟩ : By) = cf) := hcf
    clear her
    repeat' first
      | (with_reducible refine gw_bool (fun _ => ?_) (fun _ => ?_))
      | (with_reducible refine condw_bool (fun _ => ?_) (fun _ => ?_))
      | simp [*, nmE, By.cs]
    refine lp_go (D := (fun _ => none)) C3_ok mixed (by kernel_rfl) [0, 3, 50, 51] [3, 8, 100, 101, 1000, 1001, 1002, 1003, 1004, 1005] (α := Nat) (fun i e h => i ≤ nq ∧ e 52 = .int .i64 i ∧ Hid ((qs.take i).any cf = false) ∧ Hid (∀ k, k < 1000 → k ≠ 3 → h k = none)) (fun i => nq - i) 0 ?_ ?_
    · refine ⟨by omega, rfl, show _ = _ by simp, fun k hk hk3 => ?_⟩
      have := en k hk
      simp [*]
    · rintro i e hh hk hkh ⟨hi, g7, hinv, hlow⟩
      simp [Keep] at hk
      simp [KeepH, *] at hkh
      have hnq100 : nq ≤ 100 := by rw [← hnq, ← hqs]; exact hl
      by_cases hlt : i < nq
      · obtain ⟨y, hy, hy'⟩ := at_ex (show i < qs.length by omega)
        have f1 : ilt (i : Int) (nq : Int) = true := ilt_t (by omega)
        have w1 : IntKind.i64.wrap ((i : Int) + 1) = ((i + 1 : Nat) : Int) := wrap_succ (by omega)
        have hnext : (qs.take (i + 1)).any cf = cf y := by
          rw [List.take_add_one, hy, List.any_append, hinv.out]; simp
        have hp : ((byC qs).drop (i * 12)).take 12 = y.cs := flat_part (sz := 12) (fun _ => rfl) qs i y hy
        have hle : i * 12 + 12 ≤ nq * 12 := by omega
        cases hcy : cf y
        · have hq : Hid ((qs.take (i + 1)).any cf = false) := by rw [hcy] at hnext; exact hnext
          have hcy2 := hcy
          rw [← hcf.out, cflF] at hcy2
          replace hcy2 : Hid ((!ieq 1 3 && (ieq 1 y.kind && (ieq ob y.ob && ieq ed y.en))) = false) := hcy2
          clear hinv hnext hE1 hE2
          repeat' first
            | (with_reducible refine gw_bool (fun _ => ?_) (fun _ => ?_))
            | (with_reducible refine condw_bool (fun _ => ?_) (fun _ => ?_))
            | simp [*, By.cs]
          all_goals first
            | (exfalso; have hcy2 := hcy2.out; simp [*] at hcy2; done)
            | skip
          all_goals refine nxt_go (i + 1) ((View.forget _ _ 8)) (by omega) (by simp [*, Keep, St.forget, scr, scrC]) (by simp [*, KeepH, St.forget, scr, scrC]) ?_
          all_goals
            refine ⟨by omega, ?_, hq, fun k hk hk3 => ?_⟩
            · simp [*, St.forget, scr, scrC]
            · have h0 := hlow.out k hk hk3
              by_cases hk8 : k = 8
              · simp [hk8, St.forget]
              · simp [hk8, St.forget, h0]
        · have hall : qs.any cf = true := List.any_eq_true.2 ⟨y, List.mem_of_getElem? hy, hcy⟩
          have her : er = 12 := hE1.out hall
          have hcy2 := hcy
          rw [← hcf.out, cflF] at hcy2
          replace hcy2 : Hid ((!ieq 1 3 && (ieq 1 y.kind && (ieq ob y.ob && ieq ed y.en))) = true) := hcy2
          clear hinv hnext hE1 hE2 hall
          subst her
          repeat' first
            | (with_reducible refine gw_bool (fun _ => ?_) (fun _ => ?_))
            | (with_reducible refine condw_bool (fun _ => ?_) (fun _ => ?_))
            | simp [*, By.cs]
          all_goals first
            | (exfalso; have hcy2 := hcy2.out; simp [*] at hcy2; done)
            | skip
          all_goals (exact ⟨_, View.refl _ _, rfl, fun h => by cases h⟩)
      · have f1 : ilt (i : Int) (nq : Int) = false := ilt_f (by omega)
        have hall : qs.any cf = false := by
          have := hinv.out
          rwa [List.take_of_length_le (by omega)] at this
        have her := hE2.out hall
        have f5' : (nq + 1) * 120 ≤ 140737488355328 := by omega
        have f6' : nq + 1 ≤ 9223372036854775807 := by omega
        clear hinv hE1 hE2 hall hcf
        cases hL : ieq er 0
        · skip
          rw [her] at hL
          repeat' first
            | (with_reducible refine gw_bool (fun _ => ?_) (fun _ => ?_))
            | (with_reducible refine condw_bool (fun _ => ?_) (fun _ => ?_))
            | simp [*, By.cs]
          exact ⟨_, View.refl _ _, rfl, fun h => by rw [h] at hL; cases hL⟩
        · have hz : er = 0 := by simpa [ieq] using hL
          rw [hz] at her
          subst hz
          replace her := her.symm
          repeat' first
            | (with_reducible refine gw_bool (fun _ => ?_) (fun _ => ?_))
            | (with_reducible refine condw_bool (fun _ => ?_) (fun _ => ?_))
            | simp [*, By.cs, appendV, srcCells, St.forget, scr, scrC]
          refine ⟨_, (View.forget _ _ 100).trans (View.forget _ _ 3), rfl, fun _ => ⟨?_, ?_⟩⟩
          · simp [*, St.forget, scr]
          · constructor
            all_goals try (simp [*, St.forget, scrC, byC_snoc, By.cs]; done)
            · intro k hk
              have h0 := hlow.out k hk
              have k0 : k ≠ 1000 := by omega
              have k1 : k ≠ 1004 := by omega
              have k5 : k ≠ 1005 := by omega
              clear en e0 e1 e2 e3 e4 e5
              by_cases hk1 : k = 100
              · simp [hk1, St.forget]
              · by_cases hk2 : k = 3
                · simp [hk2, St.forget]
                · simp [*, St.forget, scrC]
  by_cases k2 : kind = 2
  · subst k2
    cases hw : withinF ob 0 (IntKind.i64.wrap ((ns : Int) - 1))
    · have her : byE S (⟨nm, 2, ob, ed, zr, zx, lks, cl, ct, vt, sat, tr⟩ : By) = 9 := by simp [byE, byE1, byE0, cntF, ieq_nat, hn, hd, hnb, hnl, hns, hw]
      rw [her]
      repeat' first
        | (with_reducible refine gw_bool (fun _ => ?_) (fun _ => ?_))
        | (with_reducible refine condw_bool (fun _ => ?_) (fun _ => ?_))
        | simp [*, nmE, By.cs]
      exact ⟨_, View.refl _ _, rfl, fun h => by cases h⟩
    cases hr : rngF (⟨nm, 2, ob, ed, zr, zx, lks, cl, ct, vt, sat, tr⟩ : By)
    · have her : byE S (⟨nm, 2, ob, ed, zr, zx, lks, cl, ct, vt, sat, tr⟩ : By) = 2 := by simp [byE, byE1, byE0, cntF, ieq_nat, hn, hd, hnb, hnl, hns, hw, hr]
      rw [her]
      repeat' first
        | (with_reducible refine gw_bool (fun _ => ?_) (fun _ => ?_))
        | (with_reducible refine condw_bool (fun _ => ?_) (fun _ => ?_))
        | simp [*, nmE, By.cs]
      exact ⟨_, View.refl _ _, rfl, fun h => by cases h⟩
    have hE1 : S.qs.any (cflF (⟨nm, 2, ob, ed, zr, zx, lks, cl, ct, vt, sat, tr⟩ : By)) = true → byE S (⟨nm, 2, ob, ed, zr, zx, lks, cl, ct, vt, sat, tr⟩ : By) = 12 := fun hc => by simp only [byE, byE1, byE0, cntF, hn, hd, hnb, hnl, hns, hw, hr, hc]; simp [ieq_nat, hw]
    have hE2 : S.qs.any (cflF (⟨nm, 2, ob, ed, zr, zx, lks, cl, ct, vt, sat, tr⟩ : By)) = false → byE S (⟨nm, 2, ob, ed, zr, zx, lks, cl, ct, vt, sat, tr⟩ : By) = lksE nb 2 lks := fun hc => by simp only [byE, byE1, byE0, cntF, hn, hd, hnb, hnl, hns, hw, hr, hc]; simp [ieq_nat, hw]
    obtain ⟨er, her⟩ : ∃ er, byE S (⟨nm, 2, ob, ed, zr, zx, lks, cl, ct, vt, sat, tr⟩ : By) = er := ⟨_, rfl⟩
    rw [her] at hE1 hE2 ⊢
    obtain ⟨cf, hcf⟩ : ∃ cf, cflF (⟨nm, 2, ob, ed, zr, zx, lks, cl, ct, vt, sat, tr⟩ : By) = cf := ⟨_, rfl⟩
    rw [hcf] at hE1 hE2
    obtain ⟨qs, hqs⟩ : ∃ qs, S.qs = qs := ⟨_, rfl⟩
    rw [hqs] at hnq hE1 hE2
    replace hE1 : Hid (qs.any cf = true → er = 12) := hE1
    replace hE2 : Hid (qs.any cf = false → er = lksE nb 2 lks) := hE2
    replace hcf : Hid (cflF (⟨nm, 2, ob, ed, zr, zx, lks, cl, ct, vt, sat, tr⟩ : By) = cf) := hcf
    clear her
    repeat' first
      | (with_reducible refine gw_bool (fun _ => ?_) (fun _ => ?_))
      | (with_reducible refine condw_bool (fun _ => ?_) (fun _ => ?_))
      | simp [*, nmE, By.cs]
    refine lp_go (D := (fun _ => none)) C3_ok mixed (by kernel_rfl) [0, 3, 50, 51] [3, 8, 100, 101, 1000, 1001, 1002, 1003, 1004, 1005] (α := Nat) (fun i e h => i ≤ nq ∧ e 52 = .int .i64 i ∧ Hid ((qs.take i).any cf = false) ∧ Hid (∀ k, k < 1000 → k ≠ 3 → h k = none)) (fun i => nq - i) 0 ?_ ?_
    · refine ⟨by omega, rfl, show _ = _ by simp, fun k hk hk3 => ?_⟩
      have := en k hk
      simp [*]
    · rintro i e hh hk hkh ⟨hi, g7, hinv, hlow⟩
      simp [Keep] at hk
      simp [KeepH, *] at hkh
      have hnq100 : nq ≤ 100 := by rw [← hnq, ← hqs]; exact hl
      by_cases hlt : i < nq
      · obtain ⟨y, hy, hy'⟩ := at_ex (show i < qs.length by omega)
        have f1 : ilt (i : Int) (nq : Int) = true := ilt_t (by omega)
        have w1 : IntKind.i64.wrap ((i : Int) + 1) = ((i + 1 : Nat) : Int) := wrap_succ (by omega)
        have hnext : (qs.take (i + 1)).any cf = cf y := by
          rw [List.take_add_one, hy, List.any_append, hinv.out]; simp
        have hp : ((byC qs).drop (i * 12)).take 12 = y.cs := flat_part (sz := 12) (fun _ => rfl) qs i y hy
        have hle : i * 12 + 12 ≤ nq * 12 := by omega
        cases hcy : cf y
        · have hq : Hid ((qs.take (i + 1)).any cf = false) := by rw [hcy] at hnext; exact hnext
          have hcy2 := hcy
          rw [← hcf.out, cflF] at hcy2
          replace hcy2 : Hid ((!ieq 2 3 && (ieq 2 y.kind && (ieq ob y.ob && ieq ed y.en))) = false) := hcy2
          clear hinv hnext hE1 hE2
          repeat' first
            | (with_reducible refine gw_bool (fun _ => ?_) (fun _ => ?_))
            | (with_reducible refine condw_bool (fun _ => ?_) (fun _ => ?_))
            | simp [*, By.cs]
          all_goals first
            | (exfalso; have hcy2 := hcy2.out; simp [*] at hcy2; done)
            | skip
          all_goals refine nxt_go (i + 1) ((View.forget _ _ 8)) (by omega) (by simp [*, Keep, St.forget, scr, scrC]) (by simp [*, KeepH, St.forget, scr, scrC]) ?_
          all_goals
            refine ⟨by omega, ?_, hq, fun k hk hk3 => ?_⟩
            · simp [*, St.forget, scr, scrC]
            · have h0 := hlow.out k hk hk3
              by_cases hk8 : k = 8
              · simp [hk8, St.forget]
              · simp [hk8, St.forget, h0]
        · have hall : qs.any cf = true := List.any_eq_true.2 ⟨y, List.mem_of_getElem? hy, hcy⟩
          have her : er = 12 := hE1.out hall
          have hcy2 := hcy
          rw [← hcf.out, cflF] at hcy2
          replace hcy2 : Hid ((!ieq 2 3 && (ieq 2 y.kind && (ieq ob y.ob && ieq ed y.en))) = true) := hcy2
          clear hinv hnext hE1 hE2 hall
          subst her
          repeat' first
            | (with_reducible refine gw_bool (fun _ => ?_) (fun _ => ?_))
            | (with_reducible refine condw_bool (fun _ => ?_) (fun _ => ?_))
            | simp [*, By.cs]
          all_goals first
            | (exfalso; have hcy2 := hcy2.out; simp [*] at hcy2; done)
            | skip
          all_goals (exact ⟨_, View.refl _ _, rfl, fun h => by cases h⟩)
      · have f1 : ilt (i : Int) (nq : Int) = false := ilt_f (by omega)
        have hall : qs.any cf = false := by
          have := hinv.out
          rwa [List.take_of_length_le (by omega)] at this
        have her := hE2.out hall
        have f5' : (nq + 1) * 120 ≤ 140737488355328 := by omega
        have f6' : nq + 1 ≤ 9223372036854775807 := by omega
        clear hinv hE1 hE2 hall hcf
        cases hL : ieq er 0
        · skip
          rw [her] at hL
          repeat' first
            | (with_reducible refine gw_bool (fun _ => ?_) (fun _ => ?_))
            | (with_reducible refine condw_bool (fun _ => ?_) (fun _ => ?_))
            | simp [*, By.cs]
          exact ⟨_, View.refl _ _, rfl, fun h => by rw [h] at hL; cases hL⟩
        · have hz : er = 0 := by simpa [ieq] using hL
          rw [hz] at her
          subst hz
          replace her := her.symm
          repeat' first
            | (with_reducible refine gw_bool (fun _ => ?_) (fun _ => ?_))
            | (with_reducible refine condw_bool (fun _ => ?_) (fun _ => ?_))
            | simp [*, By.cs, appendV, srcCells, St.forget, scr, scrC]
          refine ⟨_, (View.forget _ _ 100).trans (View.forget _ _ 3), rfl, fun _ => ⟨?_, ?_⟩⟩
          · simp [*, St.forget, scr]
          · constructor
            all_goals try (simp [*, St.forget, scrC, byC_snoc, By.cs]; done)
            · intro k hk
              have h0 := hlow.out k hk
              have k0 : k ≠ 1000 := by omega
              have k1 : k ≠ 1004 := by omega
              have k5 : k ≠ 1005 := by omega
              clear en e0 e1 e2 e3 e4 e5
              by_cases hk1 : k = 100
              · simp [hk1, St.forget]
              · by_cases hk2 : k = 3
                · simp [hk2, St.forget]
                · simp [*, St.forget, scrC]
  by_cases k3 : kind = 3
  · subst k3
    cases hw : withinF ob 0 0
    · have her : byE S (⟨nm, 3, ob, ed, zr, zx, lks, cl, ct, vt, sat, tr⟩ : By) = 9 := by simp [byE, byE1, byE0, cntF, ieq_nat, hn, hd, hnb, hnl, hns, hw]
      rw [her]
      repeat' first
        | (with_reducible refine gw_bool (fun _ => ?_) (fun _ => ?_))
        | (with_reducible refine condw_bool (fun _ => ?_) (fun _ => ?_))
        | simp [*, nmE, By.cs]
      exact ⟨_, View.refl _ _, rfl, fun h => by cases h⟩
    cases hr : rngF (⟨nm, 3, ob, ed, zr, zx, lks, cl, ct, vt, sat, tr⟩ : By)
    · have her : byE S (⟨nm, 3, ob, ed, zr, zx, lks, cl, ct, vt, sat, tr⟩ : By) = 2 := by simp [byE, byE1, byE0, cntF, ieq_nat, hn, hd, hnb, hnl, hns, hw, hr]
      rw [her]
      repeat' first
        | (with_reducible refine gw_bool (fun _ => ?_) (fun _ => ?_))
        | (with_reducible refine condw_bool (fun _ => ?_) (fun _ => ?_))
        | simp [*, nmE, By.cs]
      exact ⟨_, View.refl _ _, rfl, fun h => by cases h⟩
    have hE1 : S.qs.any (cflF (⟨nm, 3, ob, ed, zr, zx, lks, cl, ct, vt, sat, tr⟩ : By)) = true → byE S (⟨nm, 3, ob, ed, zr, zx, lks, cl, ct, vt, sat, tr⟩ : By) = 12 := fun hc => by simp only [byE, byE1, byE0, cntF, hn, hd, hnb, hnl, hns, hw, hr, hc]; simp [ieq_nat, hw]
    have hE2 : S.qs.any (cflF (⟨nm, 3, ob, ed, zr, zx, lks, cl, ct, vt, sat, tr⟩ : By)) = false → byE S (⟨nm, 3, ob, ed, zr, zx, lks, cl, ct, vt, sat, tr⟩ : By) = lksE nb 3 lks := fun hc => by simp only [byE, byE1, byE0, cntF, hn, hd, hnb, hnl, hns, hw, hr, hc]; simp [ieq_nat, hw]
    obtain ⟨er, her⟩ : ∃ er, byE S (⟨nm, 3, ob, ed, zr, zx, lks, cl, ct, vt, sat, tr⟩ : By) = er := ⟨_, rfl⟩
    rw [her] at hE1 hE2 ⊢
    obtain ⟨cf, hcf⟩ : ∃ cf, cflF (⟨nm, 3, ob, ed, zr, zx, lks, cl, ct, vt, sat, tr⟩ : By) = cf := ⟨_, rfl⟩
    rw [hcf] at hE1 hE2
    obtain ⟨qs, hqs⟩ : ∃ qs, S.qs = qs := ⟨_, rfl⟩
    rw [hqs] at hnq hE1 hE2
    replace hE1 : Hid (qs.any cf = true → er = 12) := hE1
    replace hE2 : Hid (qs.any cf = false → er = lksE nb 3 lks) := hE2
    replace hcf : Hid (cflF (⟨nm, 3, ob, ed, zr, zx, lks, cl, ct, vt, sat, tr⟩ : By) = cf) := hcf
    clear her
    repeat' first
      | (with_reducible refine gw_bool (fun _ => ?_) (fun _ => ?_))
      | (with_reducible refine condw_bool (fun _ => ?_) (fun _ => ?_))
      | simp [*, nmE, By.cs]
    refine lp_go (D := (fun _ => none)) C3_ok mixed (by kernel_rfl) [0, 3, 50, 51] [3, 8, 100, 101, 1000, 1001, 1002, 1003, 1004, 1005] (α := Nat) (fun i e h => i ≤ nq ∧ e 52 = .int .i64 i ∧ Hid ((qs.take i).any cf = false) ∧ Hid (∀ k, k < 1000 → k ≠ 3 → h k = none)) (fun i => nq - i) 0 ?_ ?_
    · refine ⟨by omega, rfl, show _ = _ by simp, fun k hk hk3 => ?_⟩
      have := en k hk
      simp [*]
    · rintro i e hh hk hkh ⟨hi, g7, hinv, hlow⟩
      simp [Keep] at hk
      simp [KeepH, *] at hkh
      have hnq100 : nq ≤ 100 := by rw [← hnq, ← hqs]; exact hl
      by_cases hlt : i < nq
      · obtain ⟨y, hy, hy'⟩ := at_ex (show i < qs.length by omega)
        have f1 : ilt (i : Int) (nq : Int) = true := ilt_t (by omega)
        have w1 : IntKind.i64.wrap ((i : Int) + 1) = ((i + 1 : Nat) : Int) := wrap_succ (by omega)
        have hnext : (qs.take (i + 1)).any cf = cf y := by
          rw [List.take_add_one, hy, List.any_append, hinv.out]; simp
        have hp : ((byC qs).drop (i * 12)).take 12 = y.cs := flat_part (sz := 12) (fun _ => rfl) qs i y hy
        have hle : i * 12 + 12 ≤ nq * 12 := by omega
        cases hcy : cf y
        · have hq : Hid ((qs.take (i + 1)).any cf = false) := by rw [hcy] at hnext; exact hnext
          have hcy2 := hcy
          rw [← hcf.out, cflF] at hcy2
          replace hcy2 : Hid ((!ieq 3 3 && (ieq 3 y.kind && (ieq ob y.ob && ieq ed y.en))) = false) := hcy2
          clear hinv hnext hE1 hE2
          repeat' first
            | (with_reducible refine gw_bool (fun _ => ?_) (fun _ => ?_))
            | (with_reducible refine condw_bool (fun _ => ?_) (fun _ => ?_))
            | simp [*, By.cs]
          all_goals first
            | (exfalso; have hcy2 := hcy2.out; simp [*] at hcy2; done)
            | skip
          all_goals refine nxt_go (i + 1) ((View.forget _ _ 8)) (by omega) (by simp [*, Keep, St.forget, scr, scrC]) (by simp [*, KeepH, St.forget, scr, scrC]) ?_
          all_goals
            refine ⟨by omega, ?_, hq, fun k hk hk3 => ?_⟩
            · simp [*, St.forget, scr, scrC]
            · have h0 := hlow.out k hk hk3
              by_cases hk8 : k = 8
              · simp [hk8, St.forget]
              · simp [hk8, St.forget, h0]
        · have hall : qs.any cf = true := List.any_eq_true.2 ⟨y, List.mem_of_getElem? hy, hcy⟩
          have her : er = 12 := hE1.out hall
          have hcy2 := hcy
          rw [← hcf.out, cflF] at hcy2
          replace hcy2 : Hid ((!ieq 3 3 && (ieq 3 y.kind && (ieq ob y.ob && ieq ed y.en))) = true) := hcy2
          clear hinv hnext hE1 hE2 hall
          subst her
          repeat' first
            | (with_reducible refine gw_bool (fun _ => ?_) (fun _ => ?_))
            | (with_reducible refine condw_bool (fun _ => ?_) (fun _ => ?_))
            | simp [*, By.cs]
          all_goals first
            | (exfalso; have hcy2 := hcy2.out; simp [*] at hcy2; done)
            | skip
          all_goals (exact ⟨_, View.refl _ _, rfl, fun h => by cases h⟩)
      · have f1 : ilt (i : Int) (nq : Int) = false := ilt_f (by omega)
        have hall : qs.any cf = false := by
          have := hinv.out
          rwa [List.take_of_length_le (by omega)] at this
        have her := hE2.out hall
        have f5' : (nq + 1) * 120 ≤ 140737488355328 := by omega
        have f6' : nq + 1 ≤ 9223372036854775807 := by omega
        clear hinv hE1 hE2 hall hcf
        cases hL : ieq er 0
        · skip
          rw [her] at hL
          repeat' first
            | (with_reducible refine gw_bool (fun _ => ?_) (fun _ => ?_))
            | (with_reducible refine condw_bool (fun _ => ?_) (fun _ => ?_))
            | simp [*, By.cs]
          exact ⟨_, View.refl _ _, rfl, fun h => by rw [h] at hL; cases hL⟩
        · have hz : er = 0 := by simpa [ieq] using hL
          rw [hz] at her
          subst hz
          replace her := her.symm
          repeat' first
            | (with_reducible refine gw_bool (fun _ => ?_) (fun _ => ?_))
            | (with_reducible refine condw_bool (fun _ => ?_) (fun _ => ?_))
            | simp [*, By.cs, appendV, srcCells, St.forget, scr, scrC]
          refine ⟨_, (View.forget _ _ 100).trans (View.forget _ _ 3), rfl, fun _ => ⟨?_, ?_⟩⟩
          · simp [*, St.forget, scr]
          · constructor
            all_goals try (simp [*, St.forget, scrC, byC_snoc, By.cs]; done)
            · intro k hk
              have h0 := hlow.out k hk
              have k0 : k ≠ 1000 := by omega
              have k1 : k ≠ 1004 := by omega
              have k5 : k ≠ 1005 := by omega
              clear en e0 e1 e2 e3 e4 e5
              by_cases hk1 : k = 100
              · simp [hk1, St.forget]
              · by_cases hk2 : k = 3
                · simp [hk2, St.forget]
                · simp [*, St.forget, scrC]
  have q1 : ieq kind 1 = false := by simpa [ieq] using k1
  have q2 : ieq kind 2 = false := by simpa [ieq] using k2
  have q3 : ieq kind 3 = false := by simpa [ieq] using k3
  have her : byE S (⟨nm, kind, ob, ed, zr, zx, lks, cl, ct, vt, sat, tr⟩ : By) = 10 := by simp [byE, byE1, byE0, cntF, ieq_nat, hn, hd, q1, q2, q3]
  rw [her]
  repeat' first
    | (with_reducible refine gw_bool (fun _ => ?_) (fun _ => ?_))
    | (with_reducible refine condw_bool (fun _ => ?_) (fun _ => ?_))
    | simp [*, nmE, By.cs]
  exact ⟨_, View.refl _ _, rfl, fun h => by cases h⟩
end Go.Proofs.Ytjhmphkdkclbjaa
end
section
namespace Go.Proofs.Ytjhmphkdkclbjaa
open Go.Pv Go.RowKit
set_option linter.unusedSimpArgs false
set_option linter.unusedVariables false
set_option maxRecDepth 100000
set_option maxHeartbeats 1000000

/-- The first error of some. -/
def firstN (errs : Nat → Int) : Nat → Int
  | 0 => 0
  | n + 1 => if firstN errs n = 0 then errs n else firstN errs n
theorem firstN_stop {errs : Nat → Int} {k : Nat} (h0 : firstN errs k = 0) (h1 : errs k ≠ 0) : ∀ {n : Nat}, k < n → firstN errs n = errs k
  | 0, h => by omega
  | n + 1, h => by
    by_cases e : k = n
    · subst e; simp [firstN, h0]
    · rw [firstN, firstN_stop h0 h1 (show k < n by omega), if_neg h1]
/-- What a method of the builder does to the elements of a list, one by one. -/
def PFst (F G : Nat) (L : V) (n : Nat) (errs : Nat → Int) (Ss : Nat → BS) : Prop :=
  ∀ (bb n0 : Nat) (ro : Nat → Prop) (W : World) (X : Value), Bd bb n0 ro (Ss 0) W → (∀ b, ro b → b < n0) → R0 W ro L X → Calls Try.prog F #[X, .func (.func G) #[.pointer (some ⟨bb, 0, none⟩)] #[]] W fun e W' => Below n0 W W' ∧ e = .returned (.int .i64 (firstN errs n)) ∧ (firstN errs n = 0 → Bd bb n0 ro (Ss n) W')
/-- A value that determines the memory that it reads. -/
def Rig (W : World) (ro : Nat → Prop) (v : V) : Prop := ∀ (w1 : World) (ro1 : Nat → Prop) (lam1 : Lam) (x : Value), (∀ b, ro b → w1.heap[b]? = W.heap[b]?) → R w1 ro1 lam1 v x → R0 w1 ro v x
theorem ownC_flat {v : V} (h : flatC v = true) : ownC v = false := by cases v <;> first | rfl | simp [flatC] at h
theorem any_flat {p q : V → Bool} (hpq : ∀ v, p v = true → q v = false) {l : List V} (h : l.all p = true) : l.any q = false := by
  rw [List.any_eq_false]
  intro x hx
  rw [hpq x (List.all_eq_true.1 h x hx)]; simp
theorem ownA_flat {v : V} (h : flatA v = true) : ownA v = false := by
  cases v with
  | agg cs => exact any_flat (fun v => ownC_flat) h
  | _ => first | rfl | simp [flatA, flatC] at h
theorem ownT_flat {v : V} (h : flatT v = true) : ownT v = false := by
  cases v with
  | tup vs => exact any_flat (fun v => ownA_flat) h
  | agg cs => exact any_flat (fun v => ownC_flat) h
  | _ => first | rfl | simp [flatT, flatA, flatC] at h
theorem rig_flat {W : World} {ro : Nat → Prop} {v : V} (h : flatT v = true) : Rig W ro v := fun w1 ro1 lam1 x hk hr => (hr.pureT (ownT_flat h)).flatT h
theorem rig_as {W : World} {ro : Nat → Prop} {x : Value} {sz : Nat} {xs : List (List V)} (h : R0 W ro (.list sz xs) x) : Rig W ro (.as x sz xs) := fun w1 ro1 lam1 y hk hr => by
  have hr := hr.pureC rfl
  cases hr
  exact .as _ _ _ (h.mono hk (fun _ h => h))
theorem rig_vrp {W : World} {ro : Nat → Prop} {a : Addr} {cs : List V} (h : R0 W ro (.vrp a cs) (.pointer (some a))) : Rig W ro (.vrp a cs) := fun w1 ro1 lam1 y hk hr => by
  cases hr with
  | pure _ _ hr => cases hr with | vrp _ _ g h1 h2 h3 => exact h.mono hk (fun _ h => h)
theorem rig_agg {W : World} {ro : Nat → Prop} {cs : List V} (h : ∀ c ∈ cs, Rig W ro c) : Rig W ro (.agg cs) := fun w1 ro1 lam1 y hk hr => by
  obtain ⟨arr, rfl, h1, h2⟩ := hr.agg_inv
  exact .agg _ _ h1 fun j c x hc hx => h c (List.mem_of_getElem? hc) w1 ro1 lam1 x hk (h2 j c x hc hx)
theorem Rig.at {W : World} {ro : Nat → Prop} {x : Value} {sz : Nat} {xs : List (List V)} (_ : Rig W ro (.as x sz xs)) (h : R0 W ro (.list sz xs) x) {w : World} (hk : ∀ b, ro b → w.heap[b]? = W.heap[b]?) : R0 w ro (.as x sz xs) x := .as _ _ _ (h.mono hk (fun _ h => h))
theorem r0_as {w : World} {ro : Nat → Prop} {x y : Value} {sz : Nat} {xs : List (List V)} (h : R0 w ro (.as x sz xs) y) : y = x := by cases h; rfl
theorem r0_val {w : World} {ro : Nat → Prop} {x y : Value} (h : R0 w ro (.val x) y) : y = x := by cases h; rfl
theorem r0_int {w : World} {ro : Nat → Prop} {k : IntKind} {i : Int} {y : Value} (h : R0 w ro (.int k i) y) : y = .int k i := by cases h; rfl
/-- What the frame keeps, by a list. -/
def envL : List (Nat × V) → Nat → V
  | [] => fun _ => .junk
  | (t, v) :: r => upd (envL r) t v
def HasE (e : Nat → V) : List (Nat × V) → Prop
  | [] => True
  | (t, v) :: r => e t = v ∧ HasE e r
def RigE (W : World) (ro : Nat → Prop) : List (Nat × V) → Prop
  | [] => True
  | (_, v) :: r => Rig W ro v ∧ RigE W ro r
/-- Between two statements of a function that holds the builder. -/
structure FG (n bb n0 : Nat) (ro : Nat → Prop) (W : World) (L : List (Nat × V)) (S : Option BS) (a : Act) (w : World) : Prop where
  dfr : a.defers = []
  size : n ≤ a.tmps.size
  env : ∀ t, R0 w ro (envL L t) (a.tmps.getD t Go.undef)
  kept : Below n0 W w
  nle : n0 ≤ w.heap.size
  got : ∀ S', S = some S' → Bd bb n0 ro S' w
section
variable {n bb n0 : Nat} {ro ro1 : Nat → Prop} {W w w1 : World} {L L' : List (Nat × V)} {S S1 : Option BS} {a a1 : Act} {lam1 : Lam} {s1 : St}
theorem Bd.size {S : BS} (h : Bd bb n0 ro S w) : n0 ≤ w.heap.size := by obtain ⟨_, _, _, _, _, _, _, _, h⟩ := h; exact h
theorem Bd.grow {S : BS} (h : Bd bb n0 ro S w) (hb : Below w.heap.size w w1) : Bd bb n0 ro S w1 := by
  obtain ⟨ro', lam, h, hs, hB, hm, ho, hr, hw⟩ := h
  have := hs.move (W' := w1) hb.size (fun b h => hb.block b (hs.rolt b h)) (fun b ⟨key, h⟩ => hb.block b (hs.ob h).2.1)
  exact ⟨ro', lam, h, this, hB, hm, ho, hr, Nat.le_trans hw hb.size⟩
theorem FG.sim (hg : FG n bb n0 ro W L S a w) (hro : ∀ b, ro b → b < n0) : Sim (.of w) n ro (fun _ => none) ⟨envL L, fun _ => none⟩ a w :=
  sim_mk hg.dfr hg.size (fun b hb => Nat.lt_of_lt_of_le (hro b hb) hg.nle) hg.env
theorem FG.start {S : BS} {args : Array Value} (hn : args.size ≤ n) (hro : ∀ b, ro b → b < n0) (hB : Bd bb n0 ro S W) (he : ∀ t, R0 W ro (envL L t) (args.getD t Go.undef)) :
    FG n bb n0 ro W L (some S) { tmps := args ++ Array.replicate (n - args.size) Go.undef, defers := [] } W := by
  refine ⟨rfl, by simp; omega, fun t => ?_, Below.refl _ _, hB.size, fun S' h => by cases h; exact hB⟩
  have h0 := he t
  have : (args ++ Array.replicate (n - args.size) Go.undef).getD t Go.undef = args.getD t Go.undef := by
    simp only [Array.getD_eq_getD_getElem?]
    by_cases ht : t < args.size
    · rw [Array.getElem?_append_left ht]
    · rw [Array.getElem?_append_right (by omega), Array.getElem?_replicate, Array.getElem?_eq_none (by omega)]
      split <;> rfl
  show R0 W ro (envL L t) ((args ++ Array.replicate (n - args.size) Go.undef).getD t Go.undef)
  rw [this]; exact h0
theorem envL_sim (hk : ∀ b, ro b → w1.heap[b]? = W.heap[b]?) {w0 : Base} (hs : Sim w0 n ro1 lam1 s1 a1 w1) : ∀ (L' : List (Nat × V)), HasE s1.env L' → RigE W ro L' → ∀ t, R0 w1 ro (envL L' t) (a1.tmps.getD t Go.undef)
  | [], _, _, t => .junk _
  | (t', v) :: r, hE, hR, t => by
    simp only [envL]
    by_cases ht : t = t'
    · subst ht
      rw [upd_same]
      have := hs.env t
      rw [hE.1] at this
      exact hR.1 w1 ro1 lam1 _ hk this
    · rw [upd_ne _ _ ht]
      exact envL_sim hk hs r hE.2 hR.2 t
theorem FG.step (hg : FG n bb n0 ro W L S a w) (hro : ∀ b, ro b → b < n0) (hs : Sim (.of w) n ro1 lam1 s1 a1 w1) (hE : HasE s1.env L') (hR : RigE W ro L') : FG n bb n0 ro W L' S a1 w1 := by
  have hb : Below w.heap.size w w1 := hs.below.below
  have hk : Below n0 W w1 := ⟨hb.os.trans hg.kept.os, hb.tape.trans hg.kept.tape, hb.output.trans hg.kept.output, Nat.le_trans hg.kept.size hb.size, fun k hk => (hb.block k (Nat.lt_of_lt_of_le hk hg.nle)).trans (hg.kept.block k hk)⟩
  exact ⟨hs.dfr, hs.size, envL_sim (fun b h => hk.block b (hro b h)) hs L' hE hR, hk, Nat.le_trans hg.nle hb.size, fun S' h => (hg.got S' h).grow hb⟩
theorem FG.next (hg : FG n bb n0 ro W L S a w) (hro : ∀ b, ro b → b < n0) {d : Nat} {v : V} {x : Value} (hd : d < n) (hb : Below n0 w w1) (hx : ∀ w' : World, (∀ b, ro b → w'.heap[b]? = W.heap[b]?) → R0 w' ro v x) (hS : ∀ S', S1 = some S' → Bd bb n0 ro S' w1) : FG n bb n0 ro W ((d, v) :: L) S1 (a.put (some d) x) w1 := by
  have hk : Below n0 W w1 := ⟨hb.os.trans hg.kept.os, hb.tape.trans hg.kept.tape, hb.output.trans hg.kept.output, Nat.le_trans hg.kept.size hb.size, fun k hk => (hb.block k hk).trans (hg.kept.block k hk)⟩
  refine ⟨hg.dfr, by simpa [Act.put] using hg.size, fun t => ?_, hk, Nat.le_trans hg.nle hb.size, hS⟩
  rw [getD_put (Nat.lt_of_lt_of_le hd hg.size)]
  simp only [envL, upd]
  split
  · exact hx w1 (fun b h => hk.block b (hro b h))
  · exact (hg.env t).mono (fun b h => hb.block b (hro b h)) (fun _ h => h)
theorem FG.drop (hg : FG n bb n0 ro W L S a w) : FG n bb n0 ro W L none a w := ⟨hg.dfr, hg.size, hg.env, hg.kept, hg.nle, fun S' h => by cases h⟩
end
theorem move_in {m : Nat} {o : Oper} {t : Nat} {a : Act} {w : World} {next : Act → World → Prop} {Q : Exit → Act → World → Prop} (ho : o.op = .move (.tmp t)) (h : next (a.put o.dst (a.tmps.getD t Go.undef)) w) : o.wpIn Fence.wide m Try.prog a w next Q := by
  refine oper_in ?_
  unfold Oper.wp execOp
  simp only [ho, Sem.run_pure, Oper.upon]
  exact h
def muF (a : Act) (_ : World) : Nat := 1001 - (match a.tmps.getD 10 Go.undef with
  | .int _ k => k.toNat
  | _ => 0)
theorem FG.mu {n bb n0 : Nat} {ro : Nat → Prop} {W w : World} {S : Option BS} {a : Act} {v1 v8 v9 : V} {k : Nat} (hg : FG n bb n0 ro W [(1, v1), (8, v8), (9, v9), (10, .int .i64 k)] S a w) : muF a w = 1001 - k := by
  have := r0_int (hg.env 10)
  simp [muF, this]
theorem res_one {fn : Func} {t : Nat} {x : Value} (h : fn.results = #[.tmp t]) {tmps : Array Value} {w : World} (hx : tmps.getD t Go.undef = x) : (results fn tmps).run Try.prog w = .ok x w := by
  have := results_run (P := Try.prog) fn tmps w (zs := [x]) (by rw [h]; simp [resS, hx])
  simpa using this
/-- A bay's cells; its links by their value. -/
def By.csA (b : By) (z : Value) : List V := [.str b.nm, .int .i64 b.kind, .int .i64 b.ob, .int .i64 b.en, .int .i64 b.zr, .int .i64 b.zx, .as z 2 (b.lks.map Lk.cs), .bool b.cl, .int .i64 b.ct, .int .i64 b.vt, .int .i64 b.sat, .int .i64 b.tr]
theorem csA_at {b : By} {z : Value} {j : Nat} {c : V} (h : (b.csA z)[j]? = some c) : ∃ d, b.cs[j]? = some d ∧ ((j ≠ 6 ∧ c = d) ∨ (j = 6 ∧ d = .list 2 (b.lks.map Lk.cs) ∧ c = .as z 2 (b.lks.map Lk.cs))) := by
  match j with
  | 0 => exact ⟨_, rfl, .inl ⟨by decide, by simpa [By.csA] using h.symm⟩⟩
  | 1 => exact ⟨_, rfl, .inl ⟨by decide, by simpa [By.csA] using h.symm⟩⟩
  | 2 => exact ⟨_, rfl, .inl ⟨by decide, by simpa [By.csA] using h.symm⟩⟩
  | 3 => exact ⟨_, rfl, .inl ⟨by decide, by simpa [By.csA] using h.symm⟩⟩
  | 4 => exact ⟨_, rfl, .inl ⟨by decide, by simpa [By.csA] using h.symm⟩⟩
  | 5 => exact ⟨_, rfl, .inl ⟨by decide, by simpa [By.csA] using h.symm⟩⟩
  | 6 => exact ⟨_, rfl, .inr ⟨rfl, rfl, by simpa [By.csA] using h.symm⟩⟩
  | 7 => exact ⟨_, rfl, .inl ⟨by decide, by simpa [By.csA] using h.symm⟩⟩
  | 8 => exact ⟨_, rfl, .inl ⟨by decide, by simpa [By.csA] using h.symm⟩⟩
  | 9 => exact ⟨_, rfl, .inl ⟨by decide, by simpa [By.csA] using h.symm⟩⟩
  | 10 => exact ⟨_, rfl, .inl ⟨by decide, by simpa [By.csA] using h.symm⟩⟩
  | 11 => exact ⟨_, rfl, .inl ⟨by decide, by simpa [By.csA] using h.symm⟩⟩
  | j + 12 => simp [By.csA] at h
theorem byRows {w : World} {ro : Nat → Prop} {xs : List By} {X : Value} (h : R0 w ro (.list 12 (xs.map By.cs)) X) : ∃ z : Nat → Value, R0 w ro (.list 12 (xs.mapIdx fun k (q : By) => q.csA (z k))) X := by
  rcases (R.pure (lam := fun _ => none) _ _ h).list_inv with ⟨h0, ad, cap, rfl⟩ | ⟨ad, cap, g, rfl, hro, hsz, hcap, hg, hr⟩
  · have hx : xs = [] := by simpa using h0
    subst hx
    exact ⟨fun _ => Go.undef, .list0 _ _ _⟩
  · refine ⟨fun k => g k 6, ?_⟩
    have hlen : (xs.map By.cs).length = (xs.mapIdx fun k (q : By) => q.csA (g k 6)).length := by simp
    rw [hlen]
    have hat : ∀ i c, (xs.mapIdx fun k (q : By) => q.csA (g k 6))[i]? = some c → ∃ q : By, xs[i]? = some q ∧ c = q.csA (g i 6) := fun i c hc => by
      simp only [List.getElem?_mapIdx, Option.map_eq_some_iff] at hc
      obtain ⟨q, hq, rfl⟩ := hc
      exact ⟨q, hq, rfl⟩
    refine .list 12 _ ad cap g hro (fun c hc => ?_) (by rw [← hlen]; exact hcap) (fun i j c y hi hj => ?_) (fun i j c y hi hj => ?_)
    · obtain ⟨i, hi, rfl⟩ := List.mem_iff_getElem.1 hc
      obtain ⟨q, _, e⟩ := hat i _ (List.getElem?_eq_getElem hi)
      rw [e]; rfl
    · obtain ⟨q, hq, rfl⟩ := hat i c hi
      obtain ⟨d, hd, _⟩ := csA_at hj
      exact hg i j q.cs d (by simp [hq]) hd
    · obtain ⟨q, hq, rfl⟩ := hat i c hi
      obtain ⟨d, hd, ⟨_, rfl⟩ | ⟨rfl, rfl, rfl⟩⟩ := csA_at hj
      · exact hr i j q.cs y (by simp [hq]) hd
      · exact .as _ _ _ (hr i 6 q.cs _ (by simp [hq]) hd)
theorem as_list {w : World} {ro : Nat → Prop} {x y : Value} {sz : Nat} {xs : List (List V)} (h : R0 w ro (.as x sz xs) y) : R0 w ro (.list sz xs) y := by cases h; assumption
theorem byRig {w : World} {ro : Nat → Prop} {xs : List By} {X : Value} {z : Nat → Value} (h : R0 w ro (.list 12 (xs.mapIdx fun k (q : By) => q.csA (z k))) X) {k : Nat} {x : By} (hx : xs[k]? = some x) : Rig w ro (.agg (x.csA (z k))) := by
  have hk : R0 w ro (.list 2 (x.lks.map Lk.cs)) (z k) := by
    rcases (R.pure (lam := fun _ => none) _ _ h).list_inv with ⟨h0, ad, cap, rfl⟩ | ⟨ad, cap, g, rfl, hro, hsz, hcap, hg, hr⟩
    · have hx0 : xs = [] := by simpa using h0
      subst hx0; simp at hx
    · have := hr k 6 (x.csA (z k)) (.as (z k) 2 (x.lks.map Lk.cs)) (by simp [hx]) rfl
      have e := r0_as this
      rw [e] at this
      exact as_list this
  refine rig_agg fun c hc => ?_
  simp only [By.csA, List.mem_cons, List.not_mem_nil, or_false] at hc
  rcases hc with rfl | rfl | rfl | rfl | rfl | rfl | rfl | rfl | rfl | rfl | rfl | rfl
  all_goals first | exact rig_flat rfl | exact rig_as hk
theorem byList {w : World} {ro : Nat → Prop} {x : By} {z y : Value} (h : R0 w ro (.agg (x.csA z)) y) : R0 w ro (.agg x.cs) y := by
  cases h with
  | agg _ arr hl hr =>
    refine .agg _ _ hl fun j c v hc hv => ?_
    have hj : j < (x.csA z).length := (List.getElem?_eq_some_iff.1 hc).1
    obtain ⟨d, hd, ⟨_, e⟩ | ⟨rfl, e1, e2⟩⟩ := csA_at (List.getElem?_eq_getElem hj)
    · rw [hc] at hd; cases hd
      have := hr j _ v (List.getElem?_eq_getElem hj) hv
      rwa [e] at this
    · rw [hc] at hd; cases hd
      have := hr 6 _ v (List.getElem?_eq_getElem hj) hv
      rw [e2] at this
      rw [e1]
      exact as_list this

theorem firstS_ok {G : FuncId} (hc : callable Try.prog G = true) (xs : List ByteArray) (hl : xs.length ≤ 1000) (errs : Nat → Int) (Ss : Nat → BS) (hm : ∀ k x, xs[k]? = some x → PEff G (.str x) (errs k) (Ss k) (Ss (k + 1))) : PFst 47 G (.list 1 (xs.map s1)) xs.length errs Ss := by
  intro bb n0 ro W X hB hro hX
  obtain ⟨Y, hY⟩ : ∃ Y : Value, Y = .func (.func G) #[.pointer (some ⟨bb, 0, none⟩)] #[] := ⟨_, rfl⟩
  rw [← hY]
  have hn0 := hB.size
  have hX' : Rig W ro (.as X 1 (xs.map s1)) := rig_as hX
  refine callsIn_wide.1 (callsIn_of_wp (n := 0) Try.func47 rfl trivial ?_ rfl)
  rw [Try.ntmps47]
  have hg0 : FG 21 bb n0 ro W [(0, (.as X 1 (xs.map s1))), (1, .val Y)] (some (Ss 0)) _ W := FG.start (S := Ss 0) (args := #[X, Y]) (n := 21) (by simp) hro hB (by
    intro t
    match t with
    | 0 => exact (.as _ _ _ hX)
    | 1 => exact (.val _)
    | t + 2 => simp [envL, upd]; exact .junk _)
  refine wpIn_seq (wpIn_mono (cw_in (CW.of_cx (D := fun _ => none) C3_ok mixed _ (fun e s => e = .normal ∧ HasE s.env [(0, (.as X 1 (xs.map s1))), (1, .val Y)]) _ (by kernel_rfl) ?_) (hg0.sim hro)) ?_)
  · skip
    repeat' first
      | (with_reducible refine gw_bool (fun _ => ?_) (fun _ => ?_))
      | (with_reducible refine condw_bool (fun _ => ?_) (fun _ => ?_))
      | simp [*, envL, HasE]
  rintro e a w ⟨q1, ro1, lam1, ⟨rfl, hE⟩, -, hs1⟩
  have hg1 := hg0.step hro hs1 hE ⟨hX', rig_flat rfl, trivial⟩
  clear hg0 hs1 hE
  refine wpIn_seq (wpIn_mono (wpIn_seq (Q := fun e a' w' => (e = .normal ∧ firstN errs xs.length = 0 ∧ FG 21 bb n0 ro W [] (some (Ss xs.length)) a' w') ∨ (e = .ret ∧ firstN errs xs.length ≠ 0 ∧ FG 21 bb n0 ro W [(4, .int .i64 (firstN errs xs.length))] none a' w')) ?_) ?_)
  rotate_left
  · rintro e a2 w2 (⟨rfl, hf2, hg2⟩ | ⟨rfl, hf2, hg2⟩)
    · refine wpIn_mono (cw_in (CW.of_cx (D := fun _ => none) C3_ok mixed _ (fun e s => e = .ret ∧ HasE s.env [(4, .int .i64 0)]) _ (by kernel_rfl) ?_) (hg2.sim hro)) ?_
      · skip
        repeat' first
          | (with_reducible refine gw_bool (fun _ => ?_) (fun _ => ?_))
          | (with_reducible refine condw_bool (fun _ => ?_) (fun _ => ?_))
          | simp [*, envL, HasE]
      rintro e a7 w7 ⟨s7, ro7, lam7, ⟨rfl, hE7⟩, -, hs7⟩
      have hg7 := hg2.step hro hs7 hE7 ⟨rig_flat rfl, trivial⟩
      refine ⟨hg7.dfr, _, res_one rfl (r0_int (hg7.env 4)), hg7.kept, by rw [hf2], fun _ => hg7.got _ rfl⟩
    · exact ⟨hg2.dfr, _, res_one rfl (r0_int (hg2.env 4)), hg2.kept, rfl, fun h => absurd h hf2⟩
  refine wpIn_region_list ?_
  refine wpListIn_plain rfl fun K hK => ?_
  refine move_in (t := 0) rfl (hK _ _ ?_)
  have hv0 : a.tmps.getD 0 Go.undef = X := r0_as (hg1.env 0)
  rw [hv0]
  have hg2 : FG 21 bb n0 ro W _ (some (Ss 0)) (a.put (some 8) X) w := hg1.next hro (d := 8) (v := (.as X 1 (xs.map s1))) (by decide) (Below.refl _ _) (fun w' hk => hX'.at hX hk) (fun S' h => hg1.got S' h)
  clear hg1 hK
  refine eg_in (rest := []) C3_ok (K := fun s => HasE s.env [(1, .val Y), (8, (.as X 1 (xs.map s1))), (9, .int .i64 xs.length), (10, .int .i64 0)]) [_, _] _ _ _ _ _ (by kernel_rfl) ?_ (hg2.sim hro) ?_
  · skip
    repeat' first
      | (with_reducible refine gw_bool (fun _ => ?_) (fun _ => ?_))
      | (with_reducible refine condw_bool (fun _ => ?_) (fun _ => ?_))
      | simp [*, envL, HasE]
  rintro s3 a3 ro3 lam3 w3 hE hs3
  have hg3 := hg2.step hro hs3 hE ⟨rig_flat rfl, hX', rig_flat rfl, rig_flat rfl, trivial⟩
  clear hg2 hs3 hE
  refine wpIn_block ?_
  · refine wpIn_loop (fun a w => ∃ k : Nat, k ≤ xs.length ∧ firstN errs k = 0 ∧ FG 21 bb n0 ro W [(1, .val Y), (8, (.as X 1 (xs.map s1))), (9, .int .i64 xs.length), (10, .int .i64 k)] (some (Ss k)) a w) muF ⟨0, by omega, rfl, hg3⟩ ?_
    clear hg3 a w a3 w3 s3 ro3 lam3 q1 ro1 lam1 hv0
    rintro a w ⟨k, hk, hf, hg⟩
    refine wpIn_seq ?_
    by_cases hlt : k < xs.length
    · obtain ⟨n, hn⟩ : ∃ n, xs.length = n := ⟨_, rfl⟩
      rw [hn] at hlt hg ⊢
      have f1 : ilt (k : Int) (n : Int) = true := ilt_t (by omega)
      have w1 : IntKind.i64.wrap ((k : Int) + 1) = ((k + 1 : Nat) : Int) := wrap_succ (by omega)
      obtain ⟨x, hx, hx'⟩ := at_ex (show k < xs.length by omega)
      refine wpIn_mono (cw_in (CW.of_cx (D := fun _ => none) C3_ok mixed _ (fun e s => e = .normal ∧ HasE s.env [(1, .val Y), (8, (.as X 1 (xs.map s1))), (9, .int .i64 n), (10, .int .i64 k), (11, .bool true)]) _ (by kernel_rfl) ?_) (hg.sim hro)) ?_
      · clear hg hm
        repeat' first
          | (with_reducible refine gw_bool (fun _ => ?_) (fun _ => ?_))
          | (with_reducible refine condw_bool (fun _ => ?_) (fun _ => ?_))
          | simp [*, envL, HasE]
      rintro e a0 w0' ⟨s0, ro0, lam0, ⟨rfl, hE⟩, -, hs0⟩
      have hg0 := hg.step hro hs0 hE ⟨rig_flat rfl, hX', rig_flat rfl, rig_flat rfl, rig_flat rfl, trivial⟩
      have hmu := hg.mu
      clear hg hs0 hE
      refine wpIn_seq ?_
      refine wpIn_mono (cw_in (CW.of_cx (D := fun _ => none) C3_ok mixed _ (fun e s => e = .normal ∧ HasE s.env [(1, .val Y), (8, (.as X 1 (xs.map s1))), (9, .int .i64 n), (10, .int .i64 k)]) _ (by kernel_rfl) ?_) (hg0.sim hro)) ?_
      · clear hg0 hm hmu
        repeat' first
          | (with_reducible refine gw_bool (fun _ => ?_) (fun _ => ?_))
          | (with_reducible refine condw_bool (fun _ => ?_) (fun _ => ?_))
          | simp [*, envL, HasE]
      rintro e a1 w1' ⟨q1, ro1, lam1, ⟨rfl, hE⟩, -, hs1⟩
      have hg1 := hg0.step hro hs1 hE ⟨rig_flat rfl, hX', rig_flat rfl, rig_flat rfl, trivial⟩
      clear hg0 hs1 hE
      refine wpIn_seq (wpIn_mono (wpIn_block (Q := fun e a' w' => (e = .normal ∧ firstN errs (k + 1) = 0 ∧ FG 21 bb n0 ro W [(1, .val Y), (8, (.as X 1 (xs.map s1))), (9, .int .i64 n), (10, .int .i64 k)] (some (Ss (k + 1))) a' w') ∨ (e = .ret ∧ firstN errs n ≠ 0 ∧ FG 21 bb n0 ro W [(4, .int .i64 (firstN errs n))] none a' w')) ?_) ?_)
      · refine wpIn_seq ?_
        refine wpIn_mono (cw_in (CW.of_cx (D := fun _ => none) C3_ok mixed _ (fun e s => e = .normal ∧ HasE s.env [(1, .val Y), (8, (.as X 1 (xs.map s1))), (9, .int .i64 n), (10, .int .i64 k), (6, (.str x))]) _ (by kernel_rfl) ?_) (hg1.sim hro)) ?_
        · clear hg1 hm hmu hf
          repeat' first
            | (with_reducible refine gw_bool (fun _ => ?_) (fun _ => ?_))
            | (with_reducible refine condw_bool (fun _ => ?_) (fun _ => ?_))
            | simp [*, envL, HasE, s1]
        rintro e a2 w2 ⟨s2, ro2, lam2, ⟨rfl, hE2⟩, -, hs2⟩
        refine wpIn_seq ?_
        refine wpIn_region_list ?_
        rw [← List.take_append_drop 2 (Array.toList _)]
        refine eg_in C3_ok (K := fun s => HasE s.env [(1, .val Y), (8, (.as X 1 (xs.map s1))), (9, .int .i64 n), (10, .int .i64 k), (14, .val Y), (15, (.str x))]) _ _ _ _ _ _ (by kernel_rfl) ?_ hs2 ?_
        · clear hg1 hm hmu hs2 hf
          obtain ⟨en, he⟩ := s2
          simp [HasE] at hE2
          repeat' first
            | (with_reducible refine gw_bool (fun _ => ?_) (fun _ => ?_))
            | (with_reducible refine condw_bool (fun _ => ?_) (fun _ => ?_))
            | simp [*, HasE, s1]
        rintro s4 a4 ro4 lam4 w4 hE4 hs4
        have hz : Rig W ro (.str x) := rig_flat rfl
        have hg4 := hg1.step hro hs4 hE4 ⟨rig_flat rfl, hX', rig_flat rfl, rig_flat rfl, rig_flat rfl, hz, trivial⟩
        clear hg1 hs4 hE4 hs2 hE2
        refine wpListIn_plain rfl fun K hK => oper_in (callv_wp (g := G) (fs := #[.pointer (some ⟨bb, 0, none⟩)]) (cs := #[]) rfl ?_ hc ?_)
        · rw [← hY]; exact r0_val (hg4.env 14)
        obtain ⟨Z, hZ⟩ : ∃ Z, a4.tmps.getD 15 Go.undef = Z := ⟨_, rfl⟩
        have hZr : R0 w4 ro (.str x) Z := by
          have := hg4.env 15
          rw [hZ] at this
          exact this
        have hargs : (#[Value.pointer (some ⟨bb, 0, none⟩)] ++ (#[Operand.tmp 15] : Array Operand).map a4.eval ++ #[]) = #[.pointer (some ⟨bb, 0, none⟩), Z] := by
          rw [← hZ]; simp [Act.eval]
        rw [hargs]
        refine (hm k x hx bb n0 ro w4 Z (hg4.got _ rfl) hZr).mono ?_
        rintro e w5 ⟨hb5, rfl, hB5⟩
        refine ⟨_, rfl, hK _ _ ?_⟩
        clear hK
        have hg5 : FG 21 bb n0 ro W _ (if errs k = 0 then some (Ss (k + 1)) else none) (a4.put (some 16) (.int .i64 (errs k))) w5 := hg4.next hro (d := 16) (v := .int .i64 (errs k)) (by decide) hb5 (fun _ _ => .int _ _) (fun S' h => by
          split at h
          · rename_i h0; cases h; exact hB5 h0
          · cases h)
        clear hg4
        refine eg_in (rest := []) C3_ok (K := fun s => HasE s.env [(1, .val Y), (8, (.as X 1 (xs.map s1))), (9, .int .i64 n), (10, .int .i64 k), (7, .int .i64 (errs k))]) [_] _ _ _ _ _ (by kernel_rfl) ?_ (hg5.sim hro) ?_
        · clear hg5 hm hmu hf
          repeat' first
            | (with_reducible refine gw_bool (fun _ => ?_) (fun _ => ?_))
            | (with_reducible refine condw_bool (fun _ => ?_) (fun _ => ?_))
            | simp [*, envL, HasE]
        rintro s6 a6 ro6 lam6 w6 hE6 hs6
        have hg6 := hg5.step hro hs6 hE6 ⟨rig_flat rfl, hX', rig_flat rfl, rig_flat rfl, rig_flat rfl, trivial⟩
        clear hg5 hs6 hE6
        cases h0 : ieq (errs k) 0
        · have hne : errs k ≠ 0 := by simpa [ieq] using h0
          have hfn : firstN errs n = errs k := firstN_stop hf hne hlt
          refine wpIn_mono (cw_in (CW.of_cx (D := fun _ => none) C3_ok mixed _ (fun e s => e = .ret ∧ HasE s.env [(4, .int .i64 (errs k))]) _ (by kernel_rfl) ?_) (hg6.sim hro)) ?_
          · clear hg6 hm hmu hf hfn hne
            repeat' first
              | (with_reducible refine gw_bool (fun _ => ?_) (fun _ => ?_))
              | (with_reducible refine condw_bool (fun _ => ?_) (fun _ => ?_))
              | simp [*, envL, HasE]
          rintro e a7 w7 ⟨s7, ro7, lam7, ⟨rfl, hE7⟩, -, hs7⟩
          have hg7 := (hg6.step hro hs7 hE7 ⟨rig_flat rfl, trivial⟩).drop
          exact .inr ⟨rfl, by rw [hfn]; exact hne, by rw [hfn]; exact hg7⟩
        · have hz0 : errs k = 0 := by simpa [ieq] using h0
          refine wpIn_mono (cw_in (CW.of_cx (D := fun _ => none) C3_ok mixed _ (fun e s => e = .normal ∧ HasE s.env [(1, .val Y), (8, (.as X 1 (xs.map s1))), (9, .int .i64 n), (10, .int .i64 k)]) _ (by kernel_rfl) ?_) (hg6.sim hro)) ?_
          · clear hg6 hm hmu hf hz0
            repeat' first
              | (with_reducible refine gw_bool (fun _ => ?_) (fun _ => ?_))
              | (with_reducible refine condw_bool (fun _ => ?_) (fun _ => ?_))
              | simp [*, envL, HasE]
          rintro e a7 w7 ⟨s7, ro7, lam7, ⟨rfl, hE7⟩, -, hs7⟩
          have hg7 := hg6.step hro hs7 hE7 ⟨rig_flat rfl, hX', rig_flat rfl, rig_flat rfl, trivial⟩
          rw [if_pos hz0] at hg7
          exact .inl ⟨rfl, by simp [firstN, hf, hz0], hg7⟩
      · rintro e a2 w2 (⟨rfl, hf2, hg2⟩ | ⟨rfl, hf2, hg2⟩)
        · refine wpIn_mono (cw_in (CW.of_cx (D := fun _ => none) C3_ok mixed _ (fun e s => e = .normal ∧ HasE s.env [(1, .val Y), (8, (.as X 1 (xs.map s1))), (9, .int .i64 n), (10, .int .i64 ((k + 1 : Nat) : Int))]) _ (by kernel_rfl) ?_) (hg2.sim hro)) ?_
          · clear hg2 hg1 hm hmu hf hf2
            repeat' first
              | (with_reducible refine gw_bool (fun _ => ?_) (fun _ => ?_))
              | (with_reducible refine condw_bool (fun _ => ?_) (fun _ => ?_))
              | simp [*, envL, HasE]
          rintro e a7 w7 ⟨s7, ro7, lam7, ⟨rfl, hE7⟩, -, hs7⟩
          have hg7 := hg2.step hro hs7 hE7 ⟨rig_flat rfl, hX', rig_flat rfl, rig_flat rfl, trivial⟩
          refine ⟨⟨k + 1, by omega, hf2, hg7⟩, ?_⟩
          rw [hmu, hg7.mu]; omega
        · exact .inr ⟨rfl, hf2, hg2⟩
    · have hkn : k = xs.length := by omega
      subst hkn
      refine wpIn_mono (cw_in (CW.of_cx (D := fun _ => none) C3_ok mixed _ (fun e s => e = .normal ∧ HasE s.env [(11, .bool false)]) _ (by kernel_rfl) ?_) (hg.sim hro)) ?_
      · clear hg hm
        repeat' first
          | (with_reducible refine gw_bool (fun _ => ?_) (fun _ => ?_))
          | (with_reducible refine condw_bool (fun _ => ?_) (fun _ => ?_))
          | simp [*, envL, HasE]
      rintro e a0 w0' ⟨s0, ro0, lam0, ⟨rfl, hE⟩, -, hs0⟩
      have hg0 := hg.step hro hs0 hE ⟨rig_flat rfl, trivial⟩
      clear hg hs0 hE
      refine wpIn_seq ?_
      refine wpIn_mono (cw_in (CW.of_cx (D := fun _ => none) C3_ok mixed _ (fun e s => e = .exit 0 ∧ HasE s.env []) _ (by kernel_rfl) ?_) (hg0.sim hro)) ?_
      · clear hg0 hm
        repeat' first
          | (with_reducible refine gw_bool (fun _ => ?_) (fun _ => ?_))
          | (with_reducible refine condw_bool (fun _ => ?_) (fun _ => ?_))
          | simp [*, envL, HasE]
      rintro e a7 w7 ⟨s7, ro7, lam7, ⟨rfl, hE7⟩, -, hs7⟩
      exact .inl ⟨rfl, hf, hg0.step hro hs7 hE7 trivial⟩

theorem firstL_ok {G : FuncId} (hc : callable Try.prog G = true) (xs : List Ln) (hl : xs.length ≤ 1000) (errs : Nat → Int) (Ss : Nat → BS) (hm : ∀ k x, xs[k]? = some x → PEff G (.agg x.cs) (errs k) (Ss k) (Ss (k + 1))) : PFst 49 G (.list 5 (xs.map Ln.cs)) xs.length errs Ss := by
  intro bb n0 ro W X hB hro hX
  obtain ⟨Y, hY⟩ : ∃ Y : Value, Y = .func (.func G) #[.pointer (some ⟨bb, 0, none⟩)] #[] := ⟨_, rfl⟩
  rw [← hY]
  have hn0 := hB.size
  have hX' : Rig W ro (.as X 5 (xs.map Ln.cs)) := rig_as hX
  refine callsIn_wide.1 (callsIn_of_wp (n := 0) Try.func49 rfl trivial ?_ rfl)
  rw [Try.ntmps49]
  have hg0 : FG 21 bb n0 ro W [(0, (.as X 5 (xs.map Ln.cs))), (1, .val Y)] (some (Ss 0)) _ W := FG.start (S := Ss 0) (args := #[X, Y]) (n := 21) (by simp) hro hB (by
    intro t
    match t with
    | 0 => exact (.as _ _ _ hX)
    | 1 => exact (.val _)
    | t + 2 => simp [envL, upd]; exact .junk _)
  refine wpIn_seq (wpIn_mono (cw_in (CW.of_cx (D := fun _ => none) C3_ok mixed _ (fun e s => e = .normal ∧ HasE s.env [(0, (.as X 5 (xs.map Ln.cs))), (1, .val Y)]) _ (by kernel_rfl) ?_) (hg0.sim hro)) ?_)
  · skip
    repeat' first
      | (with_reducible refine gw_bool (fun _ => ?_) (fun _ => ?_))
      | (with_reducible refine condw_bool (fun _ => ?_) (fun _ => ?_))
      | simp [*, envL, HasE]
  rintro e a w ⟨q1, ro1, lam1, ⟨rfl, hE⟩, -, hs1⟩
  have hg1 := hg0.step hro hs1 hE ⟨hX', rig_flat rfl, trivial⟩
  clear hg0 hs1 hE
  refine wpIn_seq (wpIn_mono (wpIn_seq (Q := fun e a' w' => (e = .normal ∧ firstN errs xs.length = 0 ∧ FG 21 bb n0 ro W [] (some (Ss xs.length)) a' w') ∨ (e = .ret ∧ firstN errs xs.length ≠ 0 ∧ FG 21 bb n0 ro W [(4, .int .i64 (firstN errs xs.length))] none a' w')) ?_) ?_)
  rotate_left
  · rintro e a2 w2 (⟨rfl, hf2, hg2⟩ | ⟨rfl, hf2, hg2⟩)
    · refine wpIn_mono (cw_in (CW.of_cx (D := fun _ => none) C3_ok mixed _ (fun e s => e = .ret ∧ HasE s.env [(4, .int .i64 0)]) _ (by kernel_rfl) ?_) (hg2.sim hro)) ?_
      · skip
        repeat' first
          | (with_reducible refine gw_bool (fun _ => ?_) (fun _ => ?_))
          | (with_reducible refine condw_bool (fun _ => ?_) (fun _ => ?_))
          | simp [*, envL, HasE]
      rintro e a7 w7 ⟨s7, ro7, lam7, ⟨rfl, hE7⟩, -, hs7⟩
      have hg7 := hg2.step hro hs7 hE7 ⟨rig_flat rfl, trivial⟩
      refine ⟨hg7.dfr, _, res_one rfl (r0_int (hg7.env 4)), hg7.kept, by rw [hf2], fun _ => hg7.got _ rfl⟩
    · exact ⟨hg2.dfr, _, res_one rfl (r0_int (hg2.env 4)), hg2.kept, rfl, fun h => absurd h hf2⟩
  refine wpIn_region_list ?_
  refine wpListIn_plain rfl fun K hK => ?_
  refine move_in (t := 0) rfl (hK _ _ ?_)
  have hv0 : a.tmps.getD 0 Go.undef = X := r0_as (hg1.env 0)
  rw [hv0]
  have hg2 : FG 21 bb n0 ro W _ (some (Ss 0)) (a.put (some 8) X) w := hg1.next hro (d := 8) (v := (.as X 5 (xs.map Ln.cs))) (by decide) (Below.refl _ _) (fun w' hk => hX'.at hX hk) (fun S' h => hg1.got S' h)
  clear hg1 hK
  refine eg_in (rest := []) C3_ok (K := fun s => HasE s.env [(1, .val Y), (8, (.as X 5 (xs.map Ln.cs))), (9, .int .i64 xs.length), (10, .int .i64 0)]) [_, _] _ _ _ _ _ (by kernel_rfl) ?_ (hg2.sim hro) ?_
  · skip
    repeat' first
      | (with_reducible refine gw_bool (fun _ => ?_) (fun _ => ?_))
      | (with_reducible refine condw_bool (fun _ => ?_) (fun _ => ?_))
      | simp [*, envL, HasE]
  rintro s3 a3 ro3 lam3 w3 hE hs3
  have hg3 := hg2.step hro hs3 hE ⟨rig_flat rfl, hX', rig_flat rfl, rig_flat rfl, trivial⟩
  clear hg2 hs3 hE
  refine wpIn_block ?_
  · refine wpIn_loop (fun a w => ∃ k : Nat, k ≤ xs.length ∧ firstN errs k = 0 ∧ FG 21 bb n0 ro W [(1, .val Y), (8, (.as X 5 (xs.map Ln.cs))), (9, .int .i64 xs.length), (10, .int .i64 k)] (some (Ss k)) a w) muF ⟨0, by omega, rfl, hg3⟩ ?_
    clear hg3 a w a3 w3 s3 ro3 lam3 q1 ro1 lam1 hv0
    rintro a w ⟨k, hk, hf, hg⟩
    refine wpIn_seq ?_
    by_cases hlt : k < xs.length
    · obtain ⟨n, hn⟩ : ∃ n, xs.length = n := ⟨_, rfl⟩
      rw [hn] at hlt hg ⊢
      have f1 : ilt (k : Int) (n : Int) = true := ilt_t (by omega)
      have w1 : IntKind.i64.wrap ((k : Int) + 1) = ((k + 1 : Nat) : Int) := wrap_succ (by omega)
      obtain ⟨x, hx, hx'⟩ := at_ex (show k < xs.length by omega)
      refine wpIn_mono (cw_in (CW.of_cx (D := fun _ => none) C3_ok mixed _ (fun e s => e = .normal ∧ HasE s.env [(1, .val Y), (8, (.as X 5 (xs.map Ln.cs))), (9, .int .i64 n), (10, .int .i64 k), (11, .bool true)]) _ (by kernel_rfl) ?_) (hg.sim hro)) ?_
      · clear hg hm
        repeat' first
          | (with_reducible refine gw_bool (fun _ => ?_) (fun _ => ?_))
          | (with_reducible refine condw_bool (fun _ => ?_) (fun _ => ?_))
          | simp [*, envL, HasE]
      rintro e a0 w0' ⟨s0, ro0, lam0, ⟨rfl, hE⟩, -, hs0⟩
      have hg0 := hg.step hro hs0 hE ⟨rig_flat rfl, hX', rig_flat rfl, rig_flat rfl, rig_flat rfl, trivial⟩
      have hmu := hg.mu
      clear hg hs0 hE
      refine wpIn_seq ?_
      refine wpIn_mono (cw_in (CW.of_cx (D := fun _ => none) C3_ok mixed _ (fun e s => e = .normal ∧ HasE s.env [(1, .val Y), (8, (.as X 5 (xs.map Ln.cs))), (9, .int .i64 n), (10, .int .i64 k)]) _ (by kernel_rfl) ?_) (hg0.sim hro)) ?_
      · clear hg0 hm hmu
        repeat' first
          | (with_reducible refine gw_bool (fun _ => ?_) (fun _ => ?_))
          | (with_reducible refine condw_bool (fun _ => ?_) (fun _ => ?_))
          | simp [*, envL, HasE]
      rintro e a1 w1' ⟨q1, ro1, lam1, ⟨rfl, hE⟩, -, hs1⟩
      have hg1 := hg0.step hro hs1 hE ⟨rig_flat rfl, hX', rig_flat rfl, rig_flat rfl, trivial⟩
      clear hg0 hs1 hE
      refine wpIn_seq (wpIn_mono (wpIn_block (Q := fun e a' w' => (e = .normal ∧ firstN errs (k + 1) = 0 ∧ FG 21 bb n0 ro W [(1, .val Y), (8, (.as X 5 (xs.map Ln.cs))), (9, .int .i64 n), (10, .int .i64 k)] (some (Ss (k + 1))) a' w') ∨ (e = .ret ∧ firstN errs n ≠ 0 ∧ FG 21 bb n0 ro W [(4, .int .i64 (firstN errs n))] none a' w')) ?_) ?_)
      · refine wpIn_seq ?_
        refine wpIn_mono (cw_in (CW.of_cx (D := fun _ => none) C3_ok mixed _ (fun e s => e = .normal ∧ HasE s.env [(1, .val Y), (8, (.as X 5 (xs.map Ln.cs))), (9, .int .i64 n), (10, .int .i64 k), (6, .ptr 6 0)] ∧ s.heap 6 = some ⟨92, x.cs⟩) _ (by kernel_rfl) ?_) (hg1.sim hro)) ?_
        · clear hg1 hm hmu hf
          repeat' first
            | (with_reducible refine gw_bool (fun _ => ?_) (fun _ => ?_))
            | (with_reducible refine condw_bool (fun _ => ?_) (fun _ => ?_))
            | simp [*, envL, HasE, Ln.cs]
        rintro e a2 w2 ⟨s2, ro2, lam2, ⟨rfl, hE2⟩, -, hs2⟩
        refine wpIn_seq ?_
        refine wpIn_region_list ?_
        rw [← List.take_append_drop 2 (Array.toList _)]
        refine eg_in C3_ok (K := fun s => HasE s.env [(1, .val Y), (8, (.as X 5 (xs.map Ln.cs))), (9, .int .i64 n), (10, .int .i64 k), (14, .val Y), (15, (.agg x.cs))]) _ _ _ _ _ _ (by kernel_rfl) ?_ hs2 ?_
        · clear hg1 hm hmu hs2 hf
          obtain ⟨en, he⟩ := s2
          simp [HasE] at hE2
          repeat' first
            | (with_reducible refine gw_bool (fun _ => ?_) (fun _ => ?_))
            | (with_reducible refine condw_bool (fun _ => ?_) (fun _ => ?_))
            | simp [*, HasE, Ln.cs]
        rintro s4 a4 ro4 lam4 w4 hE4 hs4
        have hz : Rig W ro (.agg x.cs) := rig_flat rfl
        have hg4 := hg1.step hro hs4 hE4 ⟨rig_flat rfl, hX', rig_flat rfl, rig_flat rfl, rig_flat rfl, hz, trivial⟩
        clear hg1 hs4 hE4 hs2 hE2
        refine wpListIn_plain rfl fun K hK => oper_in (callv_wp (g := G) (fs := #[.pointer (some ⟨bb, 0, none⟩)]) (cs := #[]) rfl ?_ hc ?_)
        · rw [← hY]; exact r0_val (hg4.env 14)
        obtain ⟨Z, hZ⟩ : ∃ Z, a4.tmps.getD 15 Go.undef = Z := ⟨_, rfl⟩
        have hZr : R0 w4 ro (.agg x.cs) Z := by
          have := hg4.env 15
          rw [hZ] at this
          exact this
        have hargs : (#[Value.pointer (some ⟨bb, 0, none⟩)] ++ (#[Operand.tmp 15] : Array Operand).map a4.eval ++ #[]) = #[.pointer (some ⟨bb, 0, none⟩), Z] := by
          rw [← hZ]; simp [Act.eval]
        rw [hargs]
        refine (hm k x hx bb n0 ro w4 Z (hg4.got _ rfl) hZr).mono ?_
        rintro e w5 ⟨hb5, rfl, hB5⟩
        refine ⟨_, rfl, hK _ _ ?_⟩
        clear hK
        have hg5 : FG 21 bb n0 ro W _ (if errs k = 0 then some (Ss (k + 1)) else none) (a4.put (some 16) (.int .i64 (errs k))) w5 := hg4.next hro (d := 16) (v := .int .i64 (errs k)) (by decide) hb5 (fun _ _ => .int _ _) (fun S' h => by
          split at h
          · rename_i h0; cases h; exact hB5 h0
          · cases h)
        clear hg4
        refine eg_in (rest := []) C3_ok (K := fun s => HasE s.env [(1, .val Y), (8, (.as X 5 (xs.map Ln.cs))), (9, .int .i64 n), (10, .int .i64 k), (7, .int .i64 (errs k))]) [_] _ _ _ _ _ (by kernel_rfl) ?_ (hg5.sim hro) ?_
        · clear hg5 hm hmu hf
          repeat' first
            | (with_reducible refine gw_bool (fun _ => ?_) (fun _ => ?_))
            | (with_reducible refine condw_bool (fun _ => ?_) (fun _ => ?_))
            | simp [*, envL, HasE]
        rintro s6 a6 ro6 lam6 w6 hE6 hs6
        have hg6 := hg5.step hro hs6 hE6 ⟨rig_flat rfl, hX', rig_flat rfl, rig_flat rfl, rig_flat rfl, trivial⟩
        clear hg5 hs6 hE6
        cases h0 : ieq (errs k) 0
        · have hne : errs k ≠ 0 := by simpa [ieq] using h0
          have hfn : firstN errs n = errs k := firstN_stop hf hne hlt
          refine wpIn_mono (cw_in (CW.of_cx (D := fun _ => none) C3_ok mixed _ (fun e s => e = .ret ∧ HasE s.env [(4, .int .i64 (errs k))]) _ (by kernel_rfl) ?_) (hg6.sim hro)) ?_
          · clear hg6 hm hmu hf hfn hne
            repeat' first
              | (with_reducible refine gw_bool (fun _ => ?_) (fun _ => ?_))
              | (with_reducible refine condw_bool (fun _ => ?_) (fun _ => ?_))
              | simp [*, envL, HasE]
          rintro e a7 w7 ⟨s7, ro7, lam7, ⟨rfl, hE7⟩, -, hs7⟩
          have hg7 := (hg6.step hro hs7 hE7 ⟨rig_flat rfl, trivial⟩).drop
          exact .inr ⟨rfl, by rw [hfn]; exact hne, by rw [hfn]; exact hg7⟩
        · have hz0 : errs k = 0 := by simpa [ieq] using h0
          refine wpIn_mono (cw_in (CW.of_cx (D := fun _ => none) C3_ok mixed _ (fun e s => e = .normal ∧ HasE s.env [(1, .val Y), (8, (.as X 5 (xs.map Ln.cs))), (9, .int .i64 n), (10, .int .i64 k)]) _ (by kernel_rfl) ?_) (hg6.sim hro)) ?_
          · clear hg6 hm hmu hf hz0
            repeat' first
              | (with_reducible refine gw_bool (fun _ => ?_) (fun _ => ?_))
              | (with_reducible refine condw_bool (fun _ => ?_) (fun _ => ?_))
              | simp [*, envL, HasE]
          rintro e a7 w7 ⟨s7, ro7, lam7, ⟨rfl, hE7⟩, -, hs7⟩
          have hg7 := hg6.step hro hs7 hE7 ⟨rig_flat rfl, hX', rig_flat rfl, rig_flat rfl, trivial⟩
          rw [if_pos hz0] at hg7
          exact .inl ⟨rfl, by simp [firstN, hf, hz0], hg7⟩
      · rintro e a2 w2 (⟨rfl, hf2, hg2⟩ | ⟨rfl, hf2, hg2⟩)
        · refine wpIn_mono (cw_in (CW.of_cx (D := fun _ => none) C3_ok mixed _ (fun e s => e = .normal ∧ HasE s.env [(1, .val Y), (8, (.as X 5 (xs.map Ln.cs))), (9, .int .i64 n), (10, .int .i64 ((k + 1 : Nat) : Int))]) _ (by kernel_rfl) ?_) (hg2.sim hro)) ?_
          · clear hg2 hg1 hm hmu hf hf2
            repeat' first
              | (with_reducible refine gw_bool (fun _ => ?_) (fun _ => ?_))
              | (with_reducible refine condw_bool (fun _ => ?_) (fun _ => ?_))
              | simp [*, envL, HasE]
          rintro e a7 w7 ⟨s7, ro7, lam7, ⟨rfl, hE7⟩, -, hs7⟩
          have hg7 := hg2.step hro hs7 hE7 ⟨rig_flat rfl, hX', rig_flat rfl, rig_flat rfl, trivial⟩
          refine ⟨⟨k + 1, by omega, hf2, hg7⟩, ?_⟩
          rw [hmu, hg7.mu]; omega
        · exact .inr ⟨rfl, hf2, hg2⟩
    · have hkn : k = xs.length := by omega
      subst hkn
      refine wpIn_mono (cw_in (CW.of_cx (D := fun _ => none) C3_ok mixed _ (fun e s => e = .normal ∧ HasE s.env [(11, .bool false)]) _ (by kernel_rfl) ?_) (hg.sim hro)) ?_
      · clear hg hm
        repeat' first
          | (with_reducible refine gw_bool (fun _ => ?_) (fun _ => ?_))
          | (with_reducible refine condw_bool (fun _ => ?_) (fun _ => ?_))
          | simp [*, envL, HasE]
      rintro e a0 w0' ⟨s0, ro0, lam0, ⟨rfl, hE⟩, -, hs0⟩
      have hg0 := hg.step hro hs0 hE ⟨rig_flat rfl, trivial⟩
      clear hg hs0 hE
      refine wpIn_seq ?_
      refine wpIn_mono (cw_in (CW.of_cx (D := fun _ => none) C3_ok mixed _ (fun e s => e = .exit 0 ∧ HasE s.env []) _ (by kernel_rfl) ?_) (hg0.sim hro)) ?_
      · clear hg0 hm
        repeat' first
          | (with_reducible refine gw_bool (fun _ => ?_) (fun _ => ?_))
          | (with_reducible refine condw_bool (fun _ => ?_) (fun _ => ?_))
          | simp [*, envL, HasE]
      rintro e a7 w7 ⟨s7, ro7, lam7, ⟨rfl, hE7⟩, -, hs7⟩
      exact .inl ⟨rfl, hf, hg0.step hro hs7 hE7 trivial⟩

theorem firstR_ok {G : FuncId} (hc : callable Try.prog G = true) (xs : List Sr) (hl : xs.length ≤ 1000) (errs : Nat → Int) (Ss : Nat → BS) (hm : ∀ k x, xs[k]? = some x → PEff G (.agg x.cs) (errs k) (Ss k) (Ss (k + 1))) : PFst 51 G (.list 6 (xs.map Sr.cs)) xs.length errs Ss := by
  intro bb n0 ro W X hB hro hX
  obtain ⟨Y, hY⟩ : ∃ Y : Value, Y = .func (.func G) #[.pointer (some ⟨bb, 0, none⟩)] #[] := ⟨_, rfl⟩
  rw [← hY]
  have hn0 := hB.size
  have hX' : Rig W ro (.as X 6 (xs.map Sr.cs)) := rig_as hX
  refine callsIn_wide.1 (callsIn_of_wp (n := 0) Try.func51 rfl trivial ?_ rfl)
  rw [Try.ntmps51]
  have hg0 : FG 21 bb n0 ro W [(0, (.as X 6 (xs.map Sr.cs))), (1, .val Y)] (some (Ss 0)) _ W := FG.start (S := Ss 0) (args := #[X, Y]) (n := 21) (by simp) hro hB (by
    intro t
    match t with
    | 0 => exact (.as _ _ _ hX)
    | 1 => exact (.val _)
    | t + 2 => simp [envL, upd]; exact .junk _)
  refine wpIn_seq (wpIn_mono (cw_in (CW.of_cx (D := fun _ => none) C3_ok mixed _ (fun e s => e = .normal ∧ HasE s.env [(0, (.as X 6 (xs.map Sr.cs))), (1, .val Y)]) _ (by kernel_rfl) ?_) (hg0.sim hro)) ?_)
  · skip
    repeat' first
      | (with_reducible refine gw_bool (fun _ => ?_) (fun _ => ?_))
      | (with_reducible refine condw_bool (fun _ => ?_) (fun _ => ?_))
      | simp [*, envL, HasE]
  rintro e a w ⟨q1, ro1, lam1, ⟨rfl, hE⟩, -, hs1⟩
  have hg1 := hg0.step hro hs1 hE ⟨hX', rig_flat rfl, trivial⟩
  clear hg0 hs1 hE
  refine wpIn_seq (wpIn_mono (wpIn_seq (Q := fun e a' w' => (e = .normal ∧ firstN errs xs.length = 0 ∧ FG 21 bb n0 ro W [] (some (Ss xs.length)) a' w') ∨ (e = .ret ∧ firstN errs xs.length ≠ 0 ∧ FG 21 bb n0 ro W [(4, .int .i64 (firstN errs xs.length))] none a' w')) ?_) ?_)
  rotate_left
  · rintro e a2 w2 (⟨rfl, hf2, hg2⟩ | ⟨rfl, hf2, hg2⟩)
    · refine wpIn_mono (cw_in (CW.of_cx (D := fun _ => none) C3_ok mixed _ (fun e s => e = .ret ∧ HasE s.env [(4, .int .i64 0)]) _ (by kernel_rfl) ?_) (hg2.sim hro)) ?_
      · skip
        repeat' first
          | (with_reducible refine gw_bool (fun _ => ?_) (fun _ => ?_))
          | (with_reducible refine condw_bool (fun _ => ?_) (fun _ => ?_))
          | simp [*, envL, HasE]
      rintro e a7 w7 ⟨s7, ro7, lam7, ⟨rfl, hE7⟩, -, hs7⟩
      have hg7 := hg2.step hro hs7 hE7 ⟨rig_flat rfl, trivial⟩
      refine ⟨hg7.dfr, _, res_one rfl (r0_int (hg7.env 4)), hg7.kept, by rw [hf2], fun _ => hg7.got _ rfl⟩
    · exact ⟨hg2.dfr, _, res_one rfl (r0_int (hg2.env 4)), hg2.kept, rfl, fun h => absurd h hf2⟩
  refine wpIn_region_list ?_
  refine wpListIn_plain rfl fun K hK => ?_
  refine move_in (t := 0) rfl (hK _ _ ?_)
  have hv0 : a.tmps.getD 0 Go.undef = X := r0_as (hg1.env 0)
  rw [hv0]
  have hg2 : FG 21 bb n0 ro W _ (some (Ss 0)) (a.put (some 8) X) w := hg1.next hro (d := 8) (v := (.as X 6 (xs.map Sr.cs))) (by decide) (Below.refl _ _) (fun w' hk => hX'.at hX hk) (fun S' h => hg1.got S' h)
  clear hg1 hK
  refine eg_in (rest := []) C3_ok (K := fun s => HasE s.env [(1, .val Y), (8, (.as X 6 (xs.map Sr.cs))), (9, .int .i64 xs.length), (10, .int .i64 0)]) [_, _] _ _ _ _ _ (by kernel_rfl) ?_ (hg2.sim hro) ?_
  · skip
    repeat' first
      | (with_reducible refine gw_bool (fun _ => ?_) (fun _ => ?_))
      | (with_reducible refine condw_bool (fun _ => ?_) (fun _ => ?_))
      | simp [*, envL, HasE]
  rintro s3 a3 ro3 lam3 w3 hE hs3
  have hg3 := hg2.step hro hs3 hE ⟨rig_flat rfl, hX', rig_flat rfl, rig_flat rfl, trivial⟩
  clear hg2 hs3 hE
  refine wpIn_block ?_
  · refine wpIn_loop (fun a w => ∃ k : Nat, k ≤ xs.length ∧ firstN errs k = 0 ∧ FG 21 bb n0 ro W [(1, .val Y), (8, (.as X 6 (xs.map Sr.cs))), (9, .int .i64 xs.length), (10, .int .i64 k)] (some (Ss k)) a w) muF ⟨0, by omega, rfl, hg3⟩ ?_
    clear hg3 a w a3 w3 s3 ro3 lam3 q1 ro1 lam1 hv0
    rintro a w ⟨k, hk, hf, hg⟩
    refine wpIn_seq ?_
    by_cases hlt : k < xs.length
    · obtain ⟨n, hn⟩ : ∃ n, xs.length = n := ⟨_, rfl⟩
      rw [hn] at hlt hg ⊢
      have f1 : ilt (k : Int) (n : Int) = true := ilt_t (by omega)
      have w1 : IntKind.i64.wrap ((k : Int) + 1) = ((k + 1 : Nat) : Int) := wrap_succ (by omega)
      obtain ⟨x, hx, hx'⟩ := at_ex (show k < xs.length by omega)
      refine wpIn_mono (cw_in (CW.of_cx (D := fun _ => none) C3_ok mixed _ (fun e s => e = .normal ∧ HasE s.env [(1, .val Y), (8, (.as X 6 (xs.map Sr.cs))), (9, .int .i64 n), (10, .int .i64 k), (11, .bool true)]) _ (by kernel_rfl) ?_) (hg.sim hro)) ?_
      · clear hg hm
        repeat' first
          | (with_reducible refine gw_bool (fun _ => ?_) (fun _ => ?_))
          | (with_reducible refine condw_bool (fun _ => ?_) (fun _ => ?_))
          | simp [*, envL, HasE]
      rintro e a0 w0' ⟨s0, ro0, lam0, ⟨rfl, hE⟩, -, hs0⟩
      have hg0 := hg.step hro hs0 hE ⟨rig_flat rfl, hX', rig_flat rfl, rig_flat rfl, rig_flat rfl, trivial⟩
      have hmu := hg.mu
      clear hg hs0 hE
      refine wpIn_seq ?_
      refine wpIn_mono (cw_in (CW.of_cx (D := fun _ => none) C3_ok mixed _ (fun e s => e = .normal ∧ HasE s.env [(1, .val Y), (8, (.as X 6 (xs.map Sr.cs))), (9, .int .i64 n), (10, .int .i64 k)]) _ (by kernel_rfl) ?_) (hg0.sim hro)) ?_
      · clear hg0 hm hmu
        repeat' first
          | (with_reducible refine gw_bool (fun _ => ?_) (fun _ => ?_))
          | (with_reducible refine condw_bool (fun _ => ?_) (fun _ => ?_))
          | simp [*, envL, HasE]
      rintro e a1 w1' ⟨q1, ro1, lam1, ⟨rfl, hE⟩, -, hs1⟩
      have hg1 := hg0.step hro hs1 hE ⟨rig_flat rfl, hX', rig_flat rfl, rig_flat rfl, trivial⟩
      clear hg0 hs1 hE
      refine wpIn_seq (wpIn_mono (wpIn_block (Q := fun e a' w' => (e = .normal ∧ firstN errs (k + 1) = 0 ∧ FG 21 bb n0 ro W [(1, .val Y), (8, (.as X 6 (xs.map Sr.cs))), (9, .int .i64 n), (10, .int .i64 k)] (some (Ss (k + 1))) a' w') ∨ (e = .ret ∧ firstN errs n ≠ 0 ∧ FG 21 bb n0 ro W [(4, .int .i64 (firstN errs n))] none a' w')) ?_) ?_)
      · refine wpIn_seq ?_
        refine wpIn_mono (cw_in (CW.of_cx (D := fun _ => none) C3_ok mixed _ (fun e s => e = .normal ∧ HasE s.env [(1, .val Y), (8, (.as X 6 (xs.map Sr.cs))), (9, .int .i64 n), (10, .int .i64 k), (6, .ptr 6 0)] ∧ s.heap 6 = some ⟨96, x.cs⟩) _ (by kernel_rfl) ?_) (hg1.sim hro)) ?_
        · clear hg1 hm hmu hf
          repeat' first
            | (with_reducible refine gw_bool (fun _ => ?_) (fun _ => ?_))
            | (with_reducible refine condw_bool (fun _ => ?_) (fun _ => ?_))
            | simp [*, envL, HasE, Sr.cs]
        rintro e a2 w2 ⟨s2, ro2, lam2, ⟨rfl, hE2⟩, -, hs2⟩
        refine wpIn_seq ?_
        refine wpIn_region_list ?_
        rw [← List.take_append_drop 2 (Array.toList _)]
        refine eg_in C3_ok (K := fun s => HasE s.env [(1, .val Y), (8, (.as X 6 (xs.map Sr.cs))), (9, .int .i64 n), (10, .int .i64 k), (14, .val Y), (15, (.agg x.cs))]) _ _ _ _ _ _ (by kernel_rfl) ?_ hs2 ?_
        · clear hg1 hm hmu hs2 hf
          obtain ⟨en, he⟩ := s2
          simp [HasE] at hE2
          repeat' first
            | (with_reducible refine gw_bool (fun _ => ?_) (fun _ => ?_))
            | (with_reducible refine condw_bool (fun _ => ?_) (fun _ => ?_))
            | simp [*, HasE, Sr.cs]
        rintro s4 a4 ro4 lam4 w4 hE4 hs4
        have hz : Rig W ro (.agg x.cs) := rig_flat rfl
        have hg4 := hg1.step hro hs4 hE4 ⟨rig_flat rfl, hX', rig_flat rfl, rig_flat rfl, rig_flat rfl, hz, trivial⟩
        clear hg1 hs4 hE4 hs2 hE2
        refine wpListIn_plain rfl fun K hK => oper_in (callv_wp (g := G) (fs := #[.pointer (some ⟨bb, 0, none⟩)]) (cs := #[]) rfl ?_ hc ?_)
        · rw [← hY]; exact r0_val (hg4.env 14)
        obtain ⟨Z, hZ⟩ : ∃ Z, a4.tmps.getD 15 Go.undef = Z := ⟨_, rfl⟩
        have hZr : R0 w4 ro (.agg x.cs) Z := by
          have := hg4.env 15
          rw [hZ] at this
          exact this
        have hargs : (#[Value.pointer (some ⟨bb, 0, none⟩)] ++ (#[Operand.tmp 15] : Array Operand).map a4.eval ++ #[]) = #[.pointer (some ⟨bb, 0, none⟩), Z] := by
          rw [← hZ]; simp [Act.eval]
        rw [hargs]
        refine (hm k x hx bb n0 ro w4 Z (hg4.got _ rfl) hZr).mono ?_
        rintro e w5 ⟨hb5, rfl, hB5⟩
        refine ⟨_, rfl, hK _ _ ?_⟩
        clear hK
        have hg5 : FG 21 bb n0 ro W _ (if errs k = 0 then some (Ss (k + 1)) else none) (a4.put (some 16) (.int .i64 (errs k))) w5 := hg4.next hro (d := 16) (v := .int .i64 (errs k)) (by decide) hb5 (fun _ _ => .int _ _) (fun S' h => by
          split at h
          · rename_i h0; cases h; exact hB5 h0
          · cases h)
        clear hg4
        refine eg_in (rest := []) C3_ok (K := fun s => HasE s.env [(1, .val Y), (8, (.as X 6 (xs.map Sr.cs))), (9, .int .i64 n), (10, .int .i64 k), (7, .int .i64 (errs k))]) [_] _ _ _ _ _ (by kernel_rfl) ?_ (hg5.sim hro) ?_
        · clear hg5 hm hmu hf
          repeat' first
            | (with_reducible refine gw_bool (fun _ => ?_) (fun _ => ?_))
            | (with_reducible refine condw_bool (fun _ => ?_) (fun _ => ?_))
            | simp [*, envL, HasE]
        rintro s6 a6 ro6 lam6 w6 hE6 hs6
        have hg6 := hg5.step hro hs6 hE6 ⟨rig_flat rfl, hX', rig_flat rfl, rig_flat rfl, rig_flat rfl, trivial⟩
        clear hg5 hs6 hE6
        cases h0 : ieq (errs k) 0
        · have hne : errs k ≠ 0 := by simpa [ieq] using h0
          have hfn : firstN errs n = errs k := firstN_stop hf hne hlt
          refine wpIn_mono (cw_in (CW.of_cx (D := fun _ => none) C3_ok mixed _ (fun e s => e = .ret ∧ HasE s.env [(4, .int .i64 (errs k))]) _ (by kernel_rfl) ?_) (hg6.sim hro)) ?_
          · clear hg6 hm hmu hf hfn hne
            repeat' first
              | (with_reducible refine gw_bool (fun _ => ?_) (fun _ => ?_))
              | (with_reducible refine condw_bool (fun _ => ?_) (fun _ => ?_))
              | simp [*, envL, HasE]
          rintro e a7 w7 ⟨s7, ro7, lam7, ⟨rfl, hE7⟩, -, hs7⟩
          have hg7 := (hg6.step hro hs7 hE7 ⟨rig_flat rfl, trivial⟩).drop
          exact .inr ⟨rfl, by rw [hfn]; exact hne, by rw [hfn]; exact hg7⟩
        · have hz0 : errs k = 0 := by simpa [ieq] using h0
          refine wpIn_mono (cw_in (CW.of_cx (D := fun _ => none) C3_ok mixed _ (fun e s => e = .normal ∧ HasE s.env [(1, .val Y), (8, (.as X 6 (xs.map Sr.cs))), (9, .int .i64 n), (10, .int .i64 k)]) _ (by kernel_rfl) ?_) (hg6.sim hro)) ?_
          · clear hg6 hm hmu hf hz0
            repeat' first
              | (with_reducible refine gw_bool (fun _ => ?_) (fun _ => ?_))
              | (with_reducible refine condw_bool (fun _ => ?_) (fun _ => ?_))
              | simp [*, envL, HasE]
          rintro e a7 w7 ⟨s7, ro7, lam7, ⟨rfl, hE7⟩, -, hs7⟩
          have hg7 := hg6.step hro hs7 hE7 ⟨rig_flat rfl, hX', rig_flat rfl, rig_flat rfl, trivial⟩
          rw [if_pos hz0] at hg7
          exact .inl ⟨rfl, by simp [firstN, hf, hz0], hg7⟩
      · rintro e a2 w2 (⟨rfl, hf2, hg2⟩ | ⟨rfl, hf2, hg2⟩)
        · refine wpIn_mono (cw_in (CW.of_cx (D := fun _ => none) C3_ok mixed _ (fun e s => e = .normal ∧ HasE s.env [(1, .val Y), (8, (.as X 6 (xs.map Sr.cs))), (9, .int .i64 n), (10, .int .i64 ((k + 1 : Nat) : Int))]) _ (by kernel_rfl) ?_) (hg2.sim hro)) ?_
          · clear hg2 hg1 hm hmu hf hf2
            repeat' first
              | (with_reducible refine gw_bool (fun _ => ?_) (fun _ => ?_))
              | (with_reducible refine condw_bool (fun _ => ?_) (fun _ => ?_))
              | simp [*, envL, HasE]
          rintro e a7 w7 ⟨s7, ro7, lam7, ⟨rfl, hE7⟩, -, hs7⟩
          have hg7 := hg2.step hro hs7 hE7 ⟨rig_flat rfl, hX', rig_flat rfl, rig_flat rfl, trivial⟩
          refine ⟨⟨k + 1, by omega, hf2, hg7⟩, ?_⟩
          rw [hmu, hg7.mu]; omega
        · exact .inr ⟨rfl, hf2, hg2⟩
    · have hkn : k = xs.length := by omega
      subst hkn
      refine wpIn_mono (cw_in (CW.of_cx (D := fun _ => none) C3_ok mixed _ (fun e s => e = .normal ∧ HasE s.env [(11, .bool false)]) _ (by kernel_rfl) ?_) (hg.sim hro)) ?_
      · clear hg hm
        repeat' first
          | (with_reducible refine gw_bool (fun _ => ?_) (fun _ => ?_))
          | (with_reducible refine condw_bool (fun _ => ?_) (fun _ => ?_))
          | simp [*, envL, HasE]
      rintro e a0 w0' ⟨s0, ro0, lam0, ⟨rfl, hE⟩, -, hs0⟩
      have hg0 := hg.step hro hs0 hE ⟨rig_flat rfl, trivial⟩
      clear hg hs0 hE
      refine wpIn_seq ?_
      refine wpIn_mono (cw_in (CW.of_cx (D := fun _ => none) C3_ok mixed _ (fun e s => e = .exit 0 ∧ HasE s.env []) _ (by kernel_rfl) ?_) (hg0.sim hro)) ?_
      · clear hg0 hm
        repeat' first
          | (with_reducible refine gw_bool (fun _ => ?_) (fun _ => ?_))
          | (with_reducible refine condw_bool (fun _ => ?_) (fun _ => ?_))
          | simp [*, envL, HasE]
      rintro e a7 w7 ⟨s7, ro7, lam7, ⟨rfl, hE7⟩, -, hs7⟩
      exact .inl ⟨rfl, hf, hg0.step hro hs7 hE7 trivial⟩

theorem firstB_ok {G : FuncId} (hc : callable Try.prog G = true) (xs : List By) (hl : xs.length ≤ 1000) (errs : Nat → Int) (Ss : Nat → BS) (hm : ∀ k x, xs[k]? = some x → PEff G (.agg x.cs) (errs k) (Ss k) (Ss (k + 1))) : PFst 53 G (.list 12 (xs.map By.cs)) xs.length errs Ss := by
  intro bb n0 ro W X hB hro hX
  obtain ⟨z, hX⟩ := byRows hX
  obtain ⟨Y, hY⟩ : ∃ Y : Value, Y = .func (.func G) #[.pointer (some ⟨bb, 0, none⟩)] #[] := ⟨_, rfl⟩
  rw [← hY]
  have hn0 := hB.size
  have hX' : Rig W ro (.as X 12 (xs.mapIdx fun k (q : By) => q.csA (z k))) := rig_as hX
  refine callsIn_wide.1 (callsIn_of_wp (n := 0) Try.func53 rfl trivial ?_ rfl)
  rw [Try.ntmps53]
  have hg0 : FG 21 bb n0 ro W [(0, (.as X 12 (xs.mapIdx fun k (q : By) => q.csA (z k)))), (1, .val Y)] (some (Ss 0)) _ W := FG.start (S := Ss 0) (args := #[X, Y]) (n := 21) (by simp) hro hB (by
    intro t
    match t with
    | 0 => exact (.as _ _ _ hX)
    | 1 => exact (.val _)
    | t + 2 => simp [envL, upd]; exact .junk _)
  refine wpIn_seq (wpIn_mono (cw_in (CW.of_cx (D := fun _ => none) C3_ok mixed _ (fun e s => e = .normal ∧ HasE s.env [(0, (.as X 12 (xs.mapIdx fun k (q : By) => q.csA (z k)))), (1, .val Y)]) _ (by kernel_rfl) ?_) (hg0.sim hro)) ?_)
  · skip
    repeat' first
      | (with_reducible refine gw_bool (fun _ => ?_) (fun _ => ?_))
      | (with_reducible refine condw_bool (fun _ => ?_) (fun _ => ?_))
      | simp [*, envL, HasE]
  rintro e a w ⟨q1, ro1, lam1, ⟨rfl, hE⟩, -, hs1⟩
  have hg1 := hg0.step hro hs1 hE ⟨hX', rig_flat rfl, trivial⟩
  clear hg0 hs1 hE
  refine wpIn_seq (wpIn_mono (wpIn_seq (Q := fun e a' w' => (e = .normal ∧ firstN errs xs.length = 0 ∧ FG 21 bb n0 ro W [] (some (Ss xs.length)) a' w') ∨ (e = .ret ∧ firstN errs xs.length ≠ 0 ∧ FG 21 bb n0 ro W [(4, .int .i64 (firstN errs xs.length))] none a' w')) ?_) ?_)
  rotate_left
  · rintro e a2 w2 (⟨rfl, hf2, hg2⟩ | ⟨rfl, hf2, hg2⟩)
    · refine wpIn_mono (cw_in (CW.of_cx (D := fun _ => none) C3_ok mixed _ (fun e s => e = .ret ∧ HasE s.env [(4, .int .i64 0)]) _ (by kernel_rfl) ?_) (hg2.sim hro)) ?_
      · skip
        repeat' first
          | (with_reducible refine gw_bool (fun _ => ?_) (fun _ => ?_))
          | (with_reducible refine condw_bool (fun _ => ?_) (fun _ => ?_))
          | simp [*, envL, HasE]
      rintro e a7 w7 ⟨s7, ro7, lam7, ⟨rfl, hE7⟩, -, hs7⟩
      have hg7 := hg2.step hro hs7 hE7 ⟨rig_flat rfl, trivial⟩
      refine ⟨hg7.dfr, _, res_one rfl (r0_int (hg7.env 4)), hg7.kept, by rw [hf2], fun _ => hg7.got _ rfl⟩
    · exact ⟨hg2.dfr, _, res_one rfl (r0_int (hg2.env 4)), hg2.kept, rfl, fun h => absurd h hf2⟩
  refine wpIn_region_list ?_
  refine wpListIn_plain rfl fun K hK => ?_
  refine move_in (t := 0) rfl (hK _ _ ?_)
  have hv0 : a.tmps.getD 0 Go.undef = X := r0_as (hg1.env 0)
  rw [hv0]
  have hg2 : FG 21 bb n0 ro W _ (some (Ss 0)) (a.put (some 8) X) w := hg1.next hro (d := 8) (v := (.as X 12 (xs.mapIdx fun k (q : By) => q.csA (z k)))) (by decide) (Below.refl _ _) (fun w' hk => hX'.at hX hk) (fun S' h => hg1.got S' h)
  clear hg1 hK
  refine eg_in (rest := []) C3_ok (K := fun s => HasE s.env [(1, .val Y), (8, (.as X 12 (xs.mapIdx fun k (q : By) => q.csA (z k)))), (9, .int .i64 xs.length), (10, .int .i64 0)]) [_, _] _ _ _ _ _ (by kernel_rfl) ?_ (hg2.sim hro) ?_
  · skip
    repeat' first
      | (with_reducible refine gw_bool (fun _ => ?_) (fun _ => ?_))
      | (with_reducible refine condw_bool (fun _ => ?_) (fun _ => ?_))
      | simp [*, envL, HasE, List.length_mapIdx]
  rintro s3 a3 ro3 lam3 w3 hE hs3
  have hg3 := hg2.step hro hs3 hE ⟨rig_flat rfl, hX', rig_flat rfl, rig_flat rfl, trivial⟩
  clear hg2 hs3 hE
  refine wpIn_block ?_
  · refine wpIn_loop (fun a w => ∃ k : Nat, k ≤ xs.length ∧ firstN errs k = 0 ∧ FG 21 bb n0 ro W [(1, .val Y), (8, (.as X 12 (xs.mapIdx fun k (q : By) => q.csA (z k)))), (9, .int .i64 xs.length), (10, .int .i64 k)] (some (Ss k)) a w) muF ⟨0, by omega, rfl, hg3⟩ ?_
    clear hg3 a w a3 w3 s3 ro3 lam3 q1 ro1 lam1 hv0
    rintro a w ⟨k, hk, hf, hg⟩
    refine wpIn_seq ?_
    by_cases hlt : k < xs.length
    · obtain ⟨n, hn⟩ : ∃ n, xs.length = n := ⟨_, rfl⟩
      rw [hn] at hlt hg ⊢
      have f1 : ilt (k : Int) (n : Int) = true := ilt_t (by omega)
      have w1 : IntKind.i64.wrap ((k : Int) + 1) = ((k + 1 : Nat) : Int) := wrap_succ (by omega)
      obtain ⟨x, hx, hx'⟩ := at_ex (show k < xs.length by omega)
      refine wpIn_mono (cw_in (CW.of_cx (D := fun _ => none) C3_ok mixed _ (fun e s => e = .normal ∧ HasE s.env [(1, .val Y), (8, (.as X 12 (xs.mapIdx fun k (q : By) => q.csA (z k)))), (9, .int .i64 n), (10, .int .i64 k), (11, .bool true)]) _ (by kernel_rfl) ?_) (hg.sim hro)) ?_
      · clear hg hm
        repeat' first
          | (with_reducible refine gw_bool (fun _ => ?_) (fun _ => ?_))
          | (with_reducible refine condw_bool (fun _ => ?_) (fun _ => ?_))
          | simp [*, envL, HasE]
      rintro e a0 w0' ⟨s0, ro0, lam0, ⟨rfl, hE⟩, -, hs0⟩
      have hg0 := hg.step hro hs0 hE ⟨rig_flat rfl, hX', rig_flat rfl, rig_flat rfl, rig_flat rfl, trivial⟩
      have hmu := hg.mu
      clear hg hs0 hE
      refine wpIn_seq ?_
      refine wpIn_mono (cw_in (CW.of_cx (D := fun _ => none) C3_ok mixed _ (fun e s => e = .normal ∧ HasE s.env [(1, .val Y), (8, (.as X 12 (xs.mapIdx fun k (q : By) => q.csA (z k)))), (9, .int .i64 n), (10, .int .i64 k)]) _ (by kernel_rfl) ?_) (hg0.sim hro)) ?_
      · clear hg0 hm hmu
        repeat' first
          | (with_reducible refine gw_bool (fun _ => ?_) (fun _ => ?_))
          | (with_reducible refine condw_bool (fun _ => ?_) (fun _ => ?_))
          | simp [*, envL, HasE]
      rintro e a1 w1' ⟨q1, ro1, lam1, ⟨rfl, hE⟩, -, hs1⟩
      have hg1 := hg0.step hro hs1 hE ⟨rig_flat rfl, hX', rig_flat rfl, rig_flat rfl, trivial⟩
      clear hg0 hs1 hE
      refine wpIn_seq (wpIn_mono (wpIn_block (Q := fun e a' w' => (e = .normal ∧ firstN errs (k + 1) = 0 ∧ FG 21 bb n0 ro W [(1, .val Y), (8, (.as X 12 (xs.mapIdx fun k (q : By) => q.csA (z k)))), (9, .int .i64 n), (10, .int .i64 k)] (some (Ss (k + 1))) a' w') ∨ (e = .ret ∧ firstN errs n ≠ 0 ∧ FG 21 bb n0 ro W [(4, .int .i64 (firstN errs n))] none a' w')) ?_) ?_)
      · refine wpIn_seq ?_
        refine wpIn_mono (cw_in (CW.of_cx (D := fun _ => none) C3_ok mixed _ (fun e s => e = .normal ∧ HasE s.env [(1, .val Y), (8, (.as X 12 (xs.mapIdx fun k (q : By) => q.csA (z k)))), (9, .int .i64 n), (10, .int .i64 k), (6, .ptr 6 0)] ∧ s.heap 6 = some ⟨54, x.csA (z k)⟩) _ (by kernel_rfl) ?_) (hg1.sim hro)) ?_
        · clear hg1 hm hmu hf
          repeat' first
            | (with_reducible refine gw_bool (fun _ => ?_) (fun _ => ?_))
            | (with_reducible refine condw_bool (fun _ => ?_) (fun _ => ?_))
            | simp [*, envL, HasE, By.csA, By.cs]
        rintro e a2 w2 ⟨s2, ro2, lam2, ⟨rfl, hE2⟩, -, hs2⟩
        refine wpIn_seq ?_
        refine wpIn_region_list ?_
        rw [← List.take_append_drop 2 (Array.toList _)]
        refine eg_in C3_ok (K := fun s => HasE s.env [(1, .val Y), (8, (.as X 12 (xs.mapIdx fun k (q : By) => q.csA (z k)))), (9, .int .i64 n), (10, .int .i64 k), (14, .val Y), (15, (.agg (x.csA (z k))))]) _ _ _ _ _ _ (by kernel_rfl) ?_ hs2 ?_
        · clear hg1 hm hmu hs2 hf
          obtain ⟨en, he⟩ := s2
          simp [HasE] at hE2
          repeat' first
            | (with_reducible refine gw_bool (fun _ => ?_) (fun _ => ?_))
            | (with_reducible refine condw_bool (fun _ => ?_) (fun _ => ?_))
            | simp [*, HasE, By.csA, By.cs]
        rintro s4 a4 ro4 lam4 w4 hE4 hs4
        have hz : Rig W ro (.agg (x.csA (z k))) := byRig hX hx
        have hg4 := hg1.step hro hs4 hE4 ⟨rig_flat rfl, hX', rig_flat rfl, rig_flat rfl, rig_flat rfl, hz, trivial⟩
        clear hg1 hs4 hE4 hs2 hE2
        refine wpListIn_plain rfl fun K hK => oper_in (callv_wp (g := G) (fs := #[.pointer (some ⟨bb, 0, none⟩)]) (cs := #[]) rfl ?_ hc ?_)
        · rw [← hY]; exact r0_val (hg4.env 14)
        obtain ⟨Z, hZ⟩ : ∃ Z, a4.tmps.getD 15 Go.undef = Z := ⟨_, rfl⟩
        have hZr : R0 w4 ro (.agg x.cs) Z := by
          have := hg4.env 15
          rw [hZ] at this
          exact byList this
        have hargs : (#[Value.pointer (some ⟨bb, 0, none⟩)] ++ (#[Operand.tmp 15] : Array Operand).map a4.eval ++ #[]) = #[.pointer (some ⟨bb, 0, none⟩), Z] := by
          rw [← hZ]; simp [Act.eval]
        rw [hargs]
        refine (hm k x hx bb n0 ro w4 Z (hg4.got _ rfl) hZr).mono ?_
        rintro e w5 ⟨hb5, rfl, hB5⟩
        refine ⟨_, rfl, hK _ _ ?_⟩
        clear hK
        have hg5 : FG 21 bb n0 ro W _ (if errs k = 0 then some (Ss (k + 1)) else none) (a4.put (some 16) (.int .i64 (errs k))) w5 := hg4.next hro (d := 16) (v := .int .i64 (errs k)) (by decide) hb5 (fun _ _ => .int _ _) (fun S' h => by
          split at h
          · rename_i h0; cases h; exact hB5 h0
          · cases h)
        clear hg4
        refine eg_in (rest := []) C3_ok (K := fun s => HasE s.env [(1, .val Y), (8, (.as X 12 (xs.mapIdx fun k (q : By) => q.csA (z k)))), (9, .int .i64 n), (10, .int .i64 k), (7, .int .i64 (errs k))]) [_] _ _ _ _ _ (by kernel_rfl) ?_ (hg5.sim hro) ?_
        · clear hg5 hm hmu hf
          repeat' first
            | (with_reducible refine gw_bool (fun _ => ?_) (fun _ => ?_))
            | (with_reducible refine condw_bool (fun _ => ?_) (fun _ => ?_))
            | simp [*, envL, HasE]
        rintro s6 a6 ro6 lam6 w6 hE6 hs6
        have hg6 := hg5.step hro hs6 hE6 ⟨rig_flat rfl, hX', rig_flat rfl, rig_flat rfl, rig_flat rfl, trivial⟩
        clear hg5 hs6 hE6
        cases h0 : ieq (errs k) 0
        · have hne : errs k ≠ 0 := by simpa [ieq] using h0
          have hfn : firstN errs n = errs k := firstN_stop hf hne hlt
          refine wpIn_mono (cw_in (CW.of_cx (D := fun _ => none) C3_ok mixed _ (fun e s => e = .ret ∧ HasE s.env [(4, .int .i64 (errs k))]) _ (by kernel_rfl) ?_) (hg6.sim hro)) ?_
          · clear hg6 hm hmu hf hfn hne
            repeat' first
              | (with_reducible refine gw_bool (fun _ => ?_) (fun _ => ?_))
              | (with_reducible refine condw_bool (fun _ => ?_) (fun _ => ?_))
              | simp [*, envL, HasE]
          rintro e a7 w7 ⟨s7, ro7, lam7, ⟨rfl, hE7⟩, -, hs7⟩
          have hg7 := (hg6.step hro hs7 hE7 ⟨rig_flat rfl, trivial⟩).drop
          exact .inr ⟨rfl, by rw [hfn]; exact hne, by rw [hfn]; exact hg7⟩
        · have hz0 : errs k = 0 := by simpa [ieq] using h0
          refine wpIn_mono (cw_in (CW.of_cx (D := fun _ => none) C3_ok mixed _ (fun e s => e = .normal ∧ HasE s.env [(1, .val Y), (8, (.as X 12 (xs.mapIdx fun k (q : By) => q.csA (z k)))), (9, .int .i64 n), (10, .int .i64 k)]) _ (by kernel_rfl) ?_) (hg6.sim hro)) ?_
          · clear hg6 hm hmu hf hz0
            repeat' first
              | (with_reducible refine gw_bool (fun _ => ?_) (fun _ => ?_))
              | (with_reducible refine condw_bool (fun _ => ?_) (fun _ => ?_))
              | simp [*, envL, HasE]
          rintro e a7 w7 ⟨s7, ro7, lam7, ⟨rfl, hE7⟩, -, hs7⟩
          have hg7 := hg6.step hro hs7 hE7 ⟨rig_flat rfl, hX', rig_flat rfl, rig_flat rfl, trivial⟩
          rw [if_pos hz0] at hg7
          exact .inl ⟨rfl, by simp [firstN, hf, hz0], hg7⟩
      · rintro e a2 w2 (⟨rfl, hf2, hg2⟩ | ⟨rfl, hf2, hg2⟩)
        · refine wpIn_mono (cw_in (CW.of_cx (D := fun _ => none) C3_ok mixed _ (fun e s => e = .normal ∧ HasE s.env [(1, .val Y), (8, (.as X 12 (xs.mapIdx fun k (q : By) => q.csA (z k)))), (9, .int .i64 n), (10, .int .i64 ((k + 1 : Nat) : Int))]) _ (by kernel_rfl) ?_) (hg2.sim hro)) ?_
          · clear hg2 hg1 hm hmu hf hf2
            repeat' first
              | (with_reducible refine gw_bool (fun _ => ?_) (fun _ => ?_))
              | (with_reducible refine condw_bool (fun _ => ?_) (fun _ => ?_))
              | simp [*, envL, HasE]
          rintro e a7 w7 ⟨s7, ro7, lam7, ⟨rfl, hE7⟩, -, hs7⟩
          have hg7 := hg2.step hro hs7 hE7 ⟨rig_flat rfl, hX', rig_flat rfl, rig_flat rfl, trivial⟩
          refine ⟨⟨k + 1, by omega, hf2, hg7⟩, ?_⟩
          rw [hmu, hg7.mu]; omega
        · exact .inr ⟨rfl, hf2, hg2⟩
    · have hkn : k = xs.length := by omega
      subst hkn
      refine wpIn_mono (cw_in (CW.of_cx (D := fun _ => none) C3_ok mixed _ (fun e s => e = .normal ∧ HasE s.env [(11, .bool false)]) _ (by kernel_rfl) ?_) (hg.sim hro)) ?_
      · clear hg hm
        repeat' first
          | (with_reducible refine gw_bool (fun _ => ?_) (fun _ => ?_))
          | (with_reducible refine condw_bool (fun _ => ?_) (fun _ => ?_))
          | simp [*, envL, HasE]
      rintro e a0 w0' ⟨s0, ro0, lam0, ⟨rfl, hE⟩, -, hs0⟩
      have hg0 := hg.step hro hs0 hE ⟨rig_flat rfl, trivial⟩
      clear hg hs0 hE
      refine wpIn_seq ?_
      refine wpIn_mono (cw_in (CW.of_cx (D := fun _ => none) C3_ok mixed _ (fun e s => e = .exit 0 ∧ HasE s.env []) _ (by kernel_rfl) ?_) (hg0.sim hro)) ?_
      · clear hg0 hm
        repeat' first
          | (with_reducible refine gw_bool (fun _ => ?_) (fun _ => ?_))
          | (with_reducible refine condw_bool (fun _ => ?_) (fun _ => ?_))
          | simp [*, envL, HasE]
      rintro e a7 w7 ⟨s7, ro7, lam7, ⟨rfl, hE7⟩, -, hs7⟩
      exact .inl ⟨rfl, hf, hg0.step hro hs7 hE7 trivial⟩

end Go.Proofs.Ytjhmphkdkclbjaa
end
section
namespace Go.Proofs.Ytjhmphkdkclbjaa
open Go.Pv Go.RowKit
set_option linter.unusedSimpArgs false
set_option linter.unusedVariables false
set_option maxRecDepth 100000
set_option maxHeartbeats 1000000

def BS0 : BS := ⟨[], [], [], [], []⟩
def nbLam (lam : Lam) : Lam := fun k => if k = 1000 then lam 3 else if k = 1005 then lam 1 else if k = 1001 then some (none, 0) else if k = 1002 then some (none, 0) else if k = 1003 then some (none, 0) else if k = 1004 then some (none, 0) else none
def nbHeap : Nat → Option Blk := fun k => if k = 1000 then some ⟨126, [.str ⟨#[]⟩, .sl 1001 0 0 1, .sl 1002 0 0 5, .sl 1003 0 0 6, .sl 1004 0 0 12, .mp 1005]⟩ else if k = 1005 then some ⟨124, []⟩ else if k = 1001 then some ⟨9, []⟩ else if k = 1002 then some ⟨92, []⟩ else if k = 1003 then some ⟨96, []⟩ else if k = 1004 then some ⟨54, []⟩ else none
theorem nbLam_own {lam : Lam} {k b m : Nat} (h : nbLam lam k = some (some b, m)) (h1 : ∀ b m, lam 1 ≠ some (some b, m)) : k = 1000 ∧ lam 3 = some (some b, m) := by
  unfold nbLam at h
  split at h
  · rename_i e; exact ⟨e, h⟩
  · split at h
    · exact (h1 _ _ h).elim
    · split at h
      · cases h
      · split at h
        · cases h
        · split at h
          · cases h
          · split at h <;> cases h
theorem nbLam_map {lam : Lam} {k b : Nat} (h : nbLam lam k = some (none, b + 1)) (h3 : ∀ y, lam 3 ≠ some (none, y)) : k = 1005 ∧ lam 1 = some (none, b + 1) := by
  unfold nbLam at h
  split at h
  · exact (h3 _ h).elim
  · split at h
    · rename_i e; exact ⟨e, h⟩
    · split at h
      · cases h
      · split at h
        · cases h
        · split at h
          · cases h
          · split at h <;> cases h
theorem nb_hs {w0 : Base} {n : Nat} {ro : Nat → Prop} {lam : Lam} {st : St} {a : Act} {w : World} (hs : Sim w0 n ro lam st a w) (h3 : st.heap 3 = some ⟨126, [.str ⟨#[]⟩, .nils, .nils, .nils, .nils, .mp 1]⟩) (h1 : st.heap 1 = some ⟨124, []⟩)
    (hl3 : ∃ b m, lam 3 = some (some b, m)) (hl1 : ∃ b, lam 1 = some (none, b + 1)) : HS w ro (nbLam lam) nbHeap := by
  obtain ⟨b3, m3, hl3⟩ := hl3
  obtain ⟨b1, hl1⟩ := hl1
  have n1 : ∀ b m, lam 1 ≠ some (some b, m) := fun b m h => by rw [hl1] at h; cases h
  have n3 : ∀ y, lam 3 ≠ some (none, y) := fun y h => by rw [hl3] at h; cases h
  refine ⟨Base.Keeps.refl _ _ _, rfl, Nat.zero_le _, hs.rolt, fun t => .pure _ _ (.junk _), fun key blk hk => ?_, fun key hk => ?_, fun key b m hl => ?_, fun k1 k2 b m1 m2 e1 e2 => ?_, fun key b hl => ?_⟩
  · have hk : nbHeap key = some blk := hk
    unfold nbHeap at hk
    split at hk
    · rename_i e; subst e; cases hk
      rcases hs.heap 3 _ h3 with ⟨hv, _⟩ | ⟨b, o, hl, _⟩ | ⟨b, m, arr, hl, hw, hsz, hle, hr⟩
      · rw [hl3] at hv; cases hv
      · rw [hl3] at hl; cases hl
      · refine .inr (.inr ⟨b, m, arr, hl, hw, hsz, hle, fun j c x hc hx => ?_⟩)
        match j with
        | 0 => simp at hc; subst hc; exact .pure _ _ ((hr 0 _ x rfl hx).pureC rfl)
        | 1 => simp at hc; subst hc; have := (hr 1 _ x rfl hx).nils_inv; subst this; exact .slv 1001 1 rfl
        | 2 => simp at hc; subst hc; have := (hr 2 _ x rfl hx).nils_inv; subst this; exact .slv 1002 5 rfl
        | 3 => simp at hc; subst hc; have := (hr 3 _ x rfl hx).nils_inv; subst this; exact .slv 1003 6 rfl
        | 4 => simp at hc; subst hc; have := (hr 4 _ x rfl hx).nils_inv; subst this; exact .slv 1004 12 rfl
        | 5 =>
          simp at hc; subst hc
          obtain ⟨b, hb, rfl⟩ := (hr 5 _ x rfl hx).mp_inv
          exact .mp 1005 b hb
        | j + 6 => simp at hc
    · split at hk
      · rename_i e; subst e; cases hk
        rcases hs.heap 1 _ h1 with ⟨hv, _⟩ | ⟨b, o, hl, hw, hso⟩ | ⟨b, m, arr, hl, _⟩
        · rw [hl1] at hv; cases hv
        · exact .inr (.inl ⟨b, o, hl, hw, hso⟩)
        · rw [hl1] at hl; cases hl
      · split at hk
        · rename_i e; subst e; cases hk; exact .inl ⟨rfl, rfl⟩
        · split at hk
          · rename_i e; subst e; cases hk; exact .inl ⟨rfl, rfl⟩
          · split at hk
            · rename_i e; subst e; cases hk; exact .inl ⟨rfl, rfl⟩
            · split at hk
              · rename_i e; subst e; cases hk; exact .inl ⟨rfl, rfl⟩
              · cases hk
  · have hk : nbHeap key = none := hk
    unfold nbHeap at hk
    unfold nbLam
    split at hk
    · cases hk
    · split at hk
      · cases hk
      · split at hk
        · cases hk
        · split at hk
          · cases hk
          · split at hk
            · cases hk
            · split at hk
              · cases hk
              · rename_i k1 k2 k3 k4 k5 k6
                simp [k1, k2, k3, k4, k5, k6]
  · obtain ⟨rfl, h⟩ := nbLam_own hl n1
    exact ⟨.inl ⟨1000, .inl ⟨m, hl⟩⟩, (hs.own 3 b m h).2⟩
  · obtain ⟨rfl, _⟩ := nbLam_own e1 n1
    obtain ⟨rfl, _⟩ := nbLam_own e2 n1
    rfl
  · obtain ⟨rfl, h⟩ := nbLam_map hl n3
    exact ⟨⟨.inl ⟨1005, .inr hl⟩, (hs.maps 1 b h).1.2⟩, fun k' h' => (nbLam_map h' n3).1⟩
theorem newb_ok (W : World) (ro : Nat → Prop) (hro : ∀ b, ro b → b < W.heap.size) : Calls Try.prog 46 #[] W fun e W' => ∃ bb, e = .returned (.pointer (some ⟨bb, 0, none⟩)) ∧ Below W.heap.size W W' ∧ Bd bb W.heap.size ro BS0 W' := by
  refine calls_of_wp Try.func46 rfl ?_
  rw [Try.ntmps46]
  have hs0 := sim_ini (n := 4) (w := W) (ro := ro) (args := #[]) (vs := []) hro rfl (by simp) (by simp)
  refine wp_mono (CW.of_cx (D := fun _ => none) noTab_ok mixed _ (fun e s => e = .ret ∧ s.env 0 = .ptr 3 0 ∧ s.heap 3 = some ⟨126, [.str ⟨#[]⟩, .nils, .nils, .nils, .nils, .mp 1]⟩ ∧ s.heap 1 = some ⟨124, []⟩) _ (by kernel_rfl) ?_ _ _ _ _ _ hs0) ?_
  · skip
    repeat' first
      | (with_reducible refine gw_bool (fun _ => ?_) (fun _ => ?_))
      | (with_reducible refine condw_bool (fun _ => ?_) (fun _ => ?_))
      | simp [*]
  rintro e a w ⟨s1, ro1, lam1, ⟨rfl, e0, h3, h1⟩, hext, hs1⟩
  have hp := hs1.env 0
  rw [e0] at hp
  obtain ⟨bb, m, hl3, hv⟩ := hp.ptr_inv
  have hl1 : ∃ b, lam1 1 = some (none, b + 1) := by
    rcases hs1.heap 3 _ h3 with ⟨hv, _⟩ | ⟨b, o, hl, _⟩ | ⟨b, m, arr, hl, hw, hsz, hle, hr⟩
    · rw [hl3] at hv; cases hv
    · rw [hl3] at hl; cases hl
    · have h5 : 5 < arr.size := by rw [hsz]; exact hle
      obtain ⟨b, hb, _⟩ := (hr 5 (.mp 1) _ rfl (Array.getElem?_eq_getElem h5)).mp_inv
      exact ⟨b, hb⟩
  have hh := nb_hs hs1 h3 h1 ⟨bb, m, hl3⟩ hl1
  refine ⟨hs1.dfr, _, res_one rfl hv, bb, rfl, hs1.below.below, ro1, nbLam lam1, nbHeap, hh, ⟨rfl, rfl, rfl, rfl, rfl, rfl, ?_⟩, ⟨m, hl3⟩, fun b ⟨key, hb⟩ => ?_, hext.1, hs1.below.size⟩
  · intro k hk
    unfold nbHeap
    simp [show k ≠ 1000 by omega, show k ≠ 1001 by omega, show k ≠ 1002 by omega, show k ≠ 1003 by omega, show k ≠ 1004 by omega, show k ≠ 1005 by omega]
  · obtain ⟨b1, hl1⟩ := hl1
    rcases hb with ⟨m', h⟩ | h
    · obtain ⟨_, h'⟩ := nbLam_own h (fun b m h => by rw [hl1] at h; cases h)
      exact (hs1.own 3 b m' h').1.resolve_left (fun h => h)
    · obtain ⟨_, h'⟩ := nbLam_map h (fun y h => by rw [hl3] at h; cases h)
      exact (hs1.maps 1 b h').1.1.resolve_left (fun h => h)
theorem Bd.weaken {bb n0 n1 : Nat} {ro : Nat → Prop} {S : BS} {w : World} (h : Bd bb n0 ro S w) (hn : n1 ≤ n0) : Bd bb n1 ro S w := by
  obtain ⟨ro', lam, h, hs, hB, hm, ho, hr, hw⟩ := h
  exact ⟨ro', lam, h, hs, hB, hm, fun b hb => Nat.le_trans hn (ho b hb), hr, Nat.le_trans hn hw⟩

/-- A diagram. -/
structure Stn where
  nm : ByteArray
  bs : List ByteArray
  ls : List Ln
  ss : List Sr
  qs : List By
def Stn.cs (s : Stn) : List V := [.str s.nm, .list 1 (s.bs.map s1), .list 5 (s.ls.map Ln.cs), .list 6 (s.ss.map Sr.cs), .list 12 (s.qs.map By.cs)]
def Stn.csA (s : Stn) (x1 x2 x3 x4 : Value) : List V := [.str s.nm, .as x1 1 (s.bs.map s1), .as x2 5 (s.ls.map Ln.cs), .as x3 6 (s.ss.map Sr.cs), .as x4 12 (s.qs.map By.cs)]
def SB (s : Stn) (k : Nat) : BS := ⟨s.bs.take k, s.bs.take k, [], [], []⟩
def SL (s : Stn) (k : Nat) : BS := ⟨s.bs ++ (s.ls.take k).map Ln.nm, s.bs, s.ls.take k, [], []⟩
def SR (s : Stn) (k : Nat) : BS := ⟨s.bs ++ s.ls.map Ln.nm ++ (s.ss.take k).map Sr.nm, s.bs, s.ls, s.ss.take k, []⟩
def SQ (s : Stn) (k : Nat) : BS := ⟨s.bs ++ s.ls.map Ln.nm ++ s.ss.map Sr.nm ++ (s.qs.take k).map By.nm, s.bs, s.ls, s.ss, s.qs.take k⟩
def eB (s : Stn) (k : Nat) : Int := match s.bs[k]? with
  | some x => nmE x (dupF (SB s k).ns x)
  | none => 0
def eL (s : Stn) (k : Nat) : Int := match s.ls[k]? with
  | some x => lnE (SL s k).ns x
  | none => 0
def eR (s : Stn) (k : Nat) : Int := match s.ss[k]? with
  | some x => srE (SR s k).ns x
  | none => 0
def eQ (s : Stn) (k : Nat) : Int := match s.qs[k]? with
  | some x => byE (SQ s k) x
  | none => 0
theorem SB0 (s : Stn) : SB s 0 = BS0 := rfl
theorem SB_end (s : Stn) : SB s s.bs.length = SL s 0 := by simp [SB, SL]
theorem SL_end (s : Stn) : SL s s.ls.length = SR s 0 := by simp [SL, SR]
theorem SR_end (s : Stn) : SR s s.ss.length = SQ s 0 := by simp [SR, SQ]
theorem take_snoc {α : Type} {l : List α} {k : Nat} {x : α} (h : l[k]? = some x) : l.take (k + 1) = l.take k ++ [x] := by rw [List.take_add_one, h]; rfl
theorem stepB (s : Stn) (h1 : s.bs.length ≤ 100) : ∀ k x, s.bs[k]? = some x → PEff 48 (.str x) (eB s k) (SB s k) (SB s (k + 1)) := by
  intro k x hx
  have := bus_ok (SB s k) x (by simp [SB]; omega)
  have e : eB s k = nmE x (dupF (SB s k).ns x) := by simp [eB, hx]
  rw [e, show SB s (k + 1) = { SB s k with ns := (SB s k).ns ++ [x], bs := (SB s k).bs ++ [x] } by simp [SB, take_snoc hx]]
  exact this
theorem stepL (s : Stn) (h1 : s.ls.length ≤ 100) : ∀ k x, s.ls[k]? = some x → PEff 50 (.agg x.cs) (eL s k) (SL s k) (SL s (k + 1)) := by
  intro k x hx
  have := line_ok (SL s k) x (by simp [SL]; omega)
  have e : eL s k = lnE (SL s k).ns x := by simp [eL, hx]
  rw [e, show SL s (k + 1) = { SL s k with ns := (SL s k).ns ++ [x.nm], ls := (SL s k).ls ++ [x] } by simp [SL, take_snoc hx]]
  exact this
theorem stepR (s : Stn) (h1 : s.ss.length ≤ 100) : ∀ k x, s.ss[k]? = some x → PEff 52 (.agg x.cs) (eR s k) (SR s k) (SR s (k + 1)) := by
  intro k x hx
  have := source_ok (SR s k) x (by simp [SR]; omega)
  have e : eR s k = srE (SR s k).ns x := by simp [eR, hx]
  rw [e, show SR s (k + 1) = { SR s k with ns := (SR s k).ns ++ [x.nm], ss := (SR s k).ss ++ [x] } by simp [SR, take_snoc hx]]
  exact this
theorem stepQ (s : Stn) (h1 : s.bs.length ≤ 100) (h2 : s.ls.length ≤ 100) (h3 : s.ss.length ≤ 100) (h4 : s.qs.length ≤ 100) : ∀ k x, s.qs[k]? = some x → PEff 54 (.agg x.cs) (eQ s k) (SQ s k) (SQ s (k + 1)) := by
  intro k x hx
  have := bay_ok (SQ s k) x h1 h2 h3 (by simp [SQ]; omega)
  have e : eQ s k = byE (SQ s k) x := by simp [eQ, hx]
  rw [e, show SQ s (k + 1) = { SQ s k with ns := (SQ s k).ns ++ [x.nm], qs := (SQ s k).qs ++ [x] } by simp [SQ, take_snoc hx]]
  exact this
def nxE (e : Int) (f : Int) : Int := if e = 0 then f else e
def cntBad (s : Stn) : Bool := ieq (s.bs.length : Int) 0 || (ilt 4 (s.bs.length : Int) || (ilt 6 (s.ls.length : Int) || (ilt 4 (s.ss.length : Int) || ilt 16 (s.qs.length : Int))))
def erB (s : Stn) : Int := firstN (eB s) s.bs.length
def erL (s : Stn) : Int := nxE (erB s) (firstN (eL s) s.ls.length)
def erR (s : Stn) : Int := nxE (erL s) (firstN (eR s) s.ss.length)
def erQ (s : Stn) : Int := nxE (erR s) (firstN (eQ s) s.qs.length)
def chkF (s : Stn) : Int := if nameF s.nm = true then (if cntBad s = true then 3 else erQ s) else 7
theorem stnA {w : World} {ro : Nat → Prop} {s : Stn} {x : Value} (h : R0 w ro (.rp s.cs) x) : ∃ ad x1 x2 x3 x4, x = .pointer (some ad) ∧ R0 w ro (.vrp ad (s.csA x1 x2 x3 x4)) x ∧ R0 w ro (.list 1 (s.bs.map s1)) x1 ∧ R0 w ro (.list 5 (s.ls.map Ln.cs)) x2 ∧ R0 w ro (.list 6 (s.ss.map Sr.cs)) x3 ∧ R0 w ro (.list 12 (s.qs.map By.cs)) x4 := by
  obtain ⟨ad, g, rfl, h1, h2, h3⟩ := (R.pure (lam := fun _ => none) _ _ h).rp_inv
  refine ⟨ad, g 1, g 2, g 3, g 4, rfl, .vrp _ _ g h1 (fun j c hc => ?_) (fun j c hc => ?_), h3 1 _ rfl, h3 2 _ rfl, h3 3 _ rfl, h3 4 _ rfl⟩
  · match j with
    | 0 => exact h2 0 _ rfl
    | 1 => exact h2 1 _ rfl
    | 2 => exact h2 2 _ rfl
    | 3 => exact h2 3 _ rfl
    | 4 => exact h2 4 _ rfl
    | j + 5 => simp [Stn.csA] at hc
  · match j with
    | 0 => simp [Stn.csA] at hc; subst hc; exact h3 0 _ rfl
    | 1 => simp [Stn.csA] at hc; subst hc; exact .as _ _ _ (h3 1 _ rfl)
    | 2 => simp [Stn.csA] at hc; subst hc; exact .as _ _ _ (h3 2 _ rfl)
    | 3 => simp [Stn.csA] at hc; subst hc; exact .as _ _ _ (h3 3 _ rfl)
    | 4 => simp [Stn.csA] at hc; subst hc; exact .as _ _ _ (h3 4 _ rfl)
    | j + 5 => simp [Stn.csA] at hc
theorem check_ok (s : Stn) : PCall Try.prog 15 [.agg s.cs] (.int .i64 (chkF s)) := by
  cases hn : nameF s.nm
  · have hc : chkF s = 7 := by simp [chkF, hn]
    rw [hc]
    refine pcall_cx C3_ok mixed (fun _ => none) Try.func15 rfl Try.ntmps15 Try.results15 (by simp) (by kernel_rfl) ?_
    repeat' first
      | (with_reducible refine gw_bool (fun _ => ?_) (fun _ => ?_))
      | (with_reducible refine condw_bool (fun _ => ?_) (fun _ => ?_))
      | simp [*, Stn.cs]
  cases hb : cntBad s
  case true =>
    have hc : chkF s = 3 := by simp [chkF, hn, hb]
    rw [hc]
    simp only [cntBad] at hb
    obtain ⟨n1, q1⟩ : ∃ n, s.bs.length = n := ⟨_, rfl⟩
    obtain ⟨n2, q2⟩ : ∃ n, s.ls.length = n := ⟨_, rfl⟩
    obtain ⟨n3, q3⟩ : ∃ n, s.ss.length = n := ⟨_, rfl⟩
    obtain ⟨n4, q4⟩ : ∃ n, s.qs.length = n := ⟨_, rfl⟩
    rw [q1, q2, q3, q4] at hb
    cases c1 : ieq (n1 : Int) 0 <;> cases c2 : ilt 4 (n1 : Int) <;> cases c3 : ilt 6 (n2 : Int) <;> cases c4 : ilt 4 (n3 : Int) <;> cases c5 : ilt 16 (n4 : Int)
    all_goals rw [c1, c2, c3, c4, c5] at hb
    all_goals first
      | (cases hb; done)
      | skip
    all_goals clear hb
    all_goals
      refine pcall_cx C3_ok mixed (fun _ => none) Try.func15 rfl Try.ntmps15 Try.results15 (by simp) (by kernel_rfl) ?_
    all_goals
      repeat' first
        | (with_reducible refine gw_bool (fun _ => ?_) (fun _ => ?_))
        | (with_reducible refine condw_bool (fun _ => ?_) (fun _ => ?_))
        | simp [*, Stn.cs]
  have hc : chkF s = erQ s := by simp [chkF, hn, hb]
  rw [hc]
  clear hc
  simp only [cntBad, Bool.or_eq_false_iff] at hb
  obtain ⟨c1, c2, c3, c4, c5⟩ := hb
  have l1 : s.bs.length ≤ 4 := by have := ilt_iff'.1 c2; omega
  have l2 : s.ls.length ≤ 6 := by have := ilt_iff'.1 c3; omega
  have l3 : s.ss.length ≤ 4 := by have := ilt_iff'.1 c4; omega
  have l4 : s.qs.length ≤ 16 := by have := ilt_iff'.1 c5; omega
  intro w ro args hro hsz hr
  refine callsIn_wide.1 (callsIn_of_wp (n := 0) Try.func15 rfl trivial ?_ rfl)
  rw [Try.ntmps15]
  have hs0 := sim_ini (n := 65) hro hsz (by simp) hr
  refine wpIn_seq (wpIn_mono (cw_in (CW.of_cx (D := fun _ => none) C3_ok mixed _ (fun e st => e = .normal ∧ st.env 1 = .ptr 1 0 ∧ st.heap 1 = some ⟨27, s.cs⟩) _ (by kernel_rfl) ?_) hs0) ?_)
  · skip
    repeat' first
      | (with_reducible refine gw_bool (fun _ => ?_) (fun _ => ?_))
      | (with_reducible refine condw_bool (fun _ => ?_) (fun _ => ?_))
      | simp [*, Stn.cs]
  rintro e a1 w1 ⟨st1, ro1, lam1, ⟨rfl, e1, h1⟩, hext1, hs1⟩
  obtain ⟨ro2, lam2, hext2, hs2⟩ := View.pub 65 h1 (by simp [Stn.cs]) _ _ _ _ _ hs1
  have hp := hs2.env 1
  rw [show (st1.pub 1 ⟨27, s.cs⟩).env 1 = .rp s.cs by simp [St.pub, e1, pubT, pubA, pubC]] at hp
  obtain ⟨ad, x1, x2, x3, x4, hv1, hvr, r1, r2, r3, r4⟩ := stnA (hp.pureC rfl)
  have hB1 : Below w.heap.size w w1 := hs1.below.below
  have hro2 : ∀ b, ro2 b → b < w1.heap.size := hs2.rolt
  have hvR : Rig w1 ro2 (.vrp ad (s.csA x1 x2 x3 x4)) := by rw [hv1] at hvr; exact rig_vrp hvr
  have k1 : Rig w1 ro2 (.as x1 1 (s.bs.map s1)) := rig_as r1
  have k2 : Rig w1 ro2 (.as x2 5 (s.ls.map Ln.cs)) := rig_as r2
  have k3 : Rig w1 ro2 (.as x3 6 (s.ss.map Sr.cs)) := rig_as r3
  have k4 : Rig w1 ro2 (.as x4 12 (s.qs.map By.cs)) := rig_as r4
  obtain ⟨n0, hn0⟩ : ∃ n0, w1.heap.size = n0 := ⟨_, rfl⟩
  rw [hn0] at hro2
  have hg1 : FG 65 0 n0 ro2 w1 [(1, .vrp ad (s.csA x1 x2 x3 x4))] none a1 w1 := ⟨hs1.dfr, hs1.size, fun t => by
    simp only [envL]
    by_cases ht : t = 1
    · subst ht; rw [upd_same]; exact hvr
    · rw [upd_ne _ _ ht]; exact .junk _, Below.refl _ _, by omega, fun S' h => by cases h⟩
  clear hs1 hs2 hs0 e1 h1 hp hv1 hvr
  have hkk : ∀ {L : List (Nat × V)} {bb : Nat} {S : Option BS} {a : Act} {w' : World}, FG 65 bb n0 ro2 w1 L S a w' → ∀ b, ro2 b → w'.heap[b]? = w1.heap[b]? := fun hg b hb => hg.kept.block b (hro2 b hb)
  refine wpIn_seq (wpIn_mono (cw_in (CW.of_cx (D := fun _ => none) C3_ok mixed _ (fun e st => e = .normal ∧ HasE st.env [(1, .vrp ad (s.csA x1 x2 x3 x4))]) _ (by kernel_rfl) ?_) (hg1.sim hro2)) ?_)
  · clear hg1
    repeat' first
      | (with_reducible refine gw_bool (fun _ => ?_) (fun _ => ?_))
      | (with_reducible refine condw_bool (fun _ => ?_) (fun _ => ?_))
      | simp [*, envL, HasE, Stn.csA]
  rintro e a2 w2 ⟨st2, ro3, lam3, ⟨rfl, hE2⟩, -, hs2⟩
  have hg2 := hg1.step hro2 hs2 hE2 ⟨hvR, trivial⟩
  clear hg1 hs2 hE2
  refine wpIn_seq (wpIn_mono (cw_in (CW.of_cx (D := fun _ => none) C3_ok mixed _ (fun e st => e = .normal ∧ HasE st.env [(1, .vrp ad (s.csA x1 x2 x3 x4))]) _ (by kernel_rfl) ?_) (hg2.sim hro2)) ?_)
  · clear hg2
    repeat' first
      | (with_reducible refine gw_bool (fun _ => ?_) (fun _ => ?_))
      | (with_reducible refine condw_bool (fun _ => ?_) (fun _ => ?_))
      | simp [*, envL, HasE, Stn.csA]
  rintro e a3 w3 ⟨st3, ro4, lam4, ⟨rfl, hE3⟩, -, hs3⟩
  have hg3 := hg2.step hro2 hs3 hE3 ⟨hvR, trivial⟩
  clear hg2 hs3 hE3
  refine wpIn_seq ?_
  refine wpIn_region_list ?_
  refine wpListIn_plain rfl fun K hK => oper_in (call_wp rfl (by kernel_rfl) ?_)
  rw [show (#[] : Array Operand).map a3.eval = #[] from by simp]
  refine (newb_ok w3 ro2 (fun b hb => Nat.lt_of_lt_of_le (hro2 b hb) hg3.nle)).mono ?_
  rintro e w4 ⟨bb, rfl, hb4, hB4⟩
  refine ⟨_, rfl, hK _ _ ?_⟩
  clear hK
  obtain ⟨Pb, hPb⟩ : ∃ Pb : Value, Pb = .pointer (some ⟨bb, 0, none⟩) := ⟨_, rfl⟩
  rw [← hPb]
  have hg3b : FG 65 bb n0 ro2 w1 [(1, .vrp ad (s.csA x1 x2 x3 x4))] none a3 w3 := ⟨hg3.dfr, hg3.size, hg3.env, hg3.kept, hg3.nle, fun S' h => by cases h⟩
  have hg4 : FG 65 bb n0 ro2 w1 _ (some (SB s 0)) (a3.put (some 37) Pb) w4 := hg3b.next hro2 (d := 37) (v := .val Pb) (by decide) (hb4.mono hg3.nle) (fun _ _ => .val _) (fun S' h => by cases h; exact hB4.weaken hg3.nle)
  clear hg3 hg3b hB4
  refine eg_in (rest := []) C3_ok (K := fun st => HasE st.env [(1, .vrp ad (s.csA x1 x2 x3 x4)), (3, .val Pb)]) [_] _ _ _ _ _ (by kernel_rfl) ?_ (hg4.sim hro2) ?_
  · clear hg4
    repeat' first
      | (with_reducible refine gw_bool (fun _ => ?_) (fun _ => ?_))
      | (with_reducible refine condw_bool (fun _ => ?_) (fun _ => ?_))
      | simp [*, envL, HasE]
  rintro st5 a5 ro5 lam5 w5 hE5 hs5
  have hg5 := hg4.step hro2 hs5 hE5 ⟨hvR, rig_flat rfl, trivial⟩
  clear hg4 hs5 hE5
  refine wpIn_seq ?_
  refine wpIn_region_list ?_
  rw [← List.take_append_drop 4 (Array.toList _)]
  obtain ⟨Yf, hYf⟩ : ∃ Yf : Value, Yf = .func (.func 48) #[Pb] #[] := ⟨_, rfl⟩
  refine eg_in C3_ok (K := fun st => HasE st.env [(1, .vrp ad (s.csA x1 x2 x3 x4)), (3, .val Pb), (39, .as x1 1 (s.bs.map s1)), (41, .val Yf)]) _ _ _ _ _ _ (by kernel_rfl) ?_ (hg5.sim hro2) ?_
  · clear hg5
    repeat' first
      | (with_reducible refine gw_bool (fun _ => ?_) (fun _ => ?_))
      | (with_reducible refine condw_bool (fun _ => ?_) (fun _ => ?_))
      | simp [*, envL, HasE, Stn.csA]
  rintro st6 a6 ro6 lam6 w6 hE6 hs6
  have hg6 := hg5.step hro2 hs6 hE6 ⟨hvR, rig_flat rfl, k1, rig_flat rfl, trivial⟩
  clear hg5 hs6 hE6
  refine wpListIn_plain rfl fun K hK => oper_in (call_wp rfl (by kernel_rfl) ?_)
  have hargs6 : (#[Operand.tmp 39, Operand.tmp 41] : Array Operand).map a6.eval = #[x1, .func (.func 48) #[.pointer (some ⟨bb, 0, none⟩)] #[]] := by
    have e1 : a6.tmps.getD 39 Go.undef = x1 := r0_as (hg6.env 39)
    have e2 : a6.tmps.getD 41 Go.undef = Yf := r0_val (hg6.env 41)
    rw [hYf, hPb] at e2
    simp only [List.map_toArray, List.map_cons, List.map_nil, Act.eval, e1, e2]
  rw [hargs6]
  refine (firstS_ok (by kernel_rfl) s.bs (by omega) _ _ (stepB s (by omega)) bb n0 ro2 w6 x1 (hg6.got _ rfl) hro2 (r1.mono (hkk hg6) (fun _ h => h))).mono ?_
  rintro e wc6 ⟨hb6, rfl, hB6⟩
  refine ⟨_, rfl, hK _ _ ?_⟩
  clear hK
  have hgc6 : FG 65 bb n0 ro2 w1 _ (if (firstN (eB s) s.bs.length) = 0 then some (SB s s.bs.length) else none) (a6.put (some 42) (.int .i64 (firstN (eB s) s.bs.length))) wc6 := hg6.next hro2 (d := 42) (v := .int .i64 (firstN (eB s) s.bs.length)) (by decide) hb6 (fun _ _ => .int _ _) (fun S' h => by
    split at h
    · rename_i h0; cases h; exact hB6 h0
    · cases h)
  clear hg6
  refine eg_in (rest := []) C3_ok (K := fun st => HasE st.env [(1, .vrp ad (s.csA x1 x2 x3 x4)), (3, .val Pb), (4, .int .i64 (firstN (eB s) s.bs.length))]) [_] _ _ _ _ _ (by kernel_rfl) ?_ (hgc6.sim hro2) ?_
  · clear hgc6
    repeat' first
      | (with_reducible refine gw_bool (fun _ => ?_) (fun _ => ?_))
      | (with_reducible refine condw_bool (fun _ => ?_) (fun _ => ?_))
      | simp [*, envL, HasE]
  rintro st6b a6b ro6b lam6b w6b hE6b hs6b
  have hg6b := hgc6.step hro2 hs6b hE6b ⟨hvR, rig_flat rfl, rig_flat rfl, trivial⟩
  clear hgc6 hs6b hE6b
  have hg7 : FG 65 bb n0 ro2 w1 [(1, .vrp ad (s.csA x1 x2 x3 x4)), (3, .val Pb), (4, .int .i64 (erB s))] (if erB s = 0 then some (SL s 0) else none) a6b w6b := by rw [← SB_end]; exact hg6b
  clear hg6b
  refine wpIn_seq (wpIn_mono (wpIn_seq (Q := fun e a' w' => e = .normal ∧ FG 65 bb n0 ro2 w1 [(1, .vrp ad (s.csA x1 x2 x3 x4)), (3, .val Pb), (4, .int .i64 (erL s))] (if erL s = 0 then some (SR s 0) else none) a' w') ?_) ?_)
  · refine wpIn_mono (cw_in (CW.of_cx (D := fun _ => none) C3_ok mixed _ (fun e st => e = .normal ∧ HasE st.env [(1, .vrp ad (s.csA x1 x2 x3 x4)), (3, .val Pb), (4, .int .i64 (erB s)), (44, .bool (ieq (erB s) 0))]) _ (by kernel_rfl) ?_) (hg7.sim hro2)) ?_
    · clear hg7
      repeat' first
        | (with_reducible refine gw_bool (fun _ => ?_) (fun _ => ?_))
        | (with_reducible refine condw_bool (fun _ => ?_) (fun _ => ?_))
        | simp [*, envL, HasE]
    rintro e aq wq ⟨stq, roq, lamq, ⟨rfl, hEq⟩, -, hsq⟩
    have hgq := hg7.step hro2 hsq hEq ⟨hvR, rig_flat rfl, rig_flat rfl, rig_flat rfl, trivial⟩
    clear hg7 hsq hEq
    have hcq : aq.eval (.tmp 44) = .bool (ieq (erB s) 0) := by
      have := hgq.env 44
      cases hx : ieq (erB s) 0
      · rw [hx] at this
        generalize hv : aq.tmps.getD 44 Go.undef = vv at this
        cases this; exact hv
      · rw [hx] at this
        generalize hv : aq.tmps.getD 44 Go.undef = vv at this
        cases this; exact hv
    refine wpIn_cond_split hcq (fun ht => ?_) (fun hf => ?_)
    · have hz : erB s = 0 := by simpa [ieq] using ht
      rw [hz, if_pos rfl] at hgq
      refine wpIn_region_list ?_
      rw [← List.take_append_drop 4 (Array.toList _)]
      obtain ⟨Yf, hYf⟩ : ∃ Yf : Value, Yf = .func (.func 50) #[Pb] #[] := ⟨_, rfl⟩
      refine eg_in C3_ok (K := fun st => HasE st.env [(1, .vrp ad (s.csA x1 x2 x3 x4)), (3, .val Pb), (46, .as x2 5 (s.ls.map Ln.cs)), (48, .val Yf)]) _ _ _ _ _ _ (by kernel_rfl) ?_ (hgq.sim hro2) ?_
      · clear hgq
        repeat' first
          | (with_reducible refine gw_bool (fun _ => ?_) (fun _ => ?_))
          | (with_reducible refine condw_bool (fun _ => ?_) (fun _ => ?_))
          | simp [*, envL, HasE, Stn.csA]
      rintro st8 a8 ro8 lam8 w8 hE8 hs8
      have hg8 := hgq.step hro2 hs8 hE8 ⟨hvR, rig_flat rfl, k2, rig_flat rfl, trivial⟩
      clear hgq hs8 hE8
      refine wpListIn_plain rfl fun K hK => oper_in (call_wp rfl (by kernel_rfl) ?_)
      have hargs8 : (#[Operand.tmp 46, Operand.tmp 48] : Array Operand).map a8.eval = #[x2, .func (.func 50) #[.pointer (some ⟨bb, 0, none⟩)] #[]] := by
        have e1 : a8.tmps.getD 46 Go.undef = x2 := r0_as (hg8.env 46)
        have e2 : a8.tmps.getD 48 Go.undef = Yf := r0_val (hg8.env 48)
        rw [hYf, hPb] at e2
        simp only [List.map_toArray, List.map_cons, List.map_nil, Act.eval, e1, e2]
      rw [hargs8]
      refine (firstL_ok (by kernel_rfl) s.ls (by omega) _ _ (stepL s (by omega)) bb n0 ro2 w8 x2 (hg8.got _ rfl) hro2 (r2.mono (hkk hg8) (fun _ h => h))).mono ?_
      rintro e wc8 ⟨hb8, rfl, hB8⟩
      refine ⟨_, rfl, hK _ _ ?_⟩
      clear hK
      have hgc8 : FG 65 bb n0 ro2 w1 _ (if (firstN (eL s) s.ls.length) = 0 then some (SL s s.ls.length) else none) (a8.put (some 49) (.int .i64 (firstN (eL s) s.ls.length))) wc8 := hg8.next hro2 (d := 49) (v := .int .i64 (firstN (eL s) s.ls.length)) (by decide) hb8 (fun _ _ => .int _ _) (fun S' h => by
        split at h
        · rename_i h0; cases h; exact hB8 h0
        · cases h)
      clear hg8
      refine eg_in (rest := []) C3_ok (K := fun st => HasE st.env [(1, .vrp ad (s.csA x1 x2 x3 x4)), (3, .val Pb), (4, .int .i64 (firstN (eL s) s.ls.length))]) [_] _ _ _ _ _ (by kernel_rfl) ?_ (hgc8.sim hro2) ?_
      · clear hgc8
        repeat' first
          | (with_reducible refine gw_bool (fun _ => ?_) (fun _ => ?_))
          | (with_reducible refine condw_bool (fun _ => ?_) (fun _ => ?_))
          | simp [*, envL, HasE]
      rintro st8b a8b ro8b lam8b w8b hE8b hs8b
      have hg8b := hgc8.step hro2 hs8b hE8b ⟨hvR, rig_flat rfl, rig_flat rfl, trivial⟩
      clear hgc8 hs8b hE8b
      have e : erL s = (firstN (eL s) s.ls.length) := by simp [erL, nxE, hz]
      refine ⟨rfl, ?_⟩
      rw [e]
      first | exact hg8b | (rw [← SL_end]; exact hg8b)
    · have hz : erB s ≠ 0 := by simpa [ieq] using hf
      have e : erL s = erB s := by simp [erL, nxE, hz]
      rw [if_neg hz] at hgq
      refine wpIn_mono (cw_in (CW.of_cx (D := fun _ => none) C3_ok mixed _ (fun e st => e = .normal ∧ HasE st.env [(1, .vrp ad (s.csA x1 x2 x3 x4)), (3, .val Pb), (4, .int .i64 (erB s))]) _ (by kernel_rfl) ?_) (hgq.sim hro2)) ?_
      · clear hgq
        repeat' first
          | (with_reducible refine gw_bool (fun _ => ?_) (fun _ => ?_))
          | (with_reducible refine condw_bool (fun _ => ?_) (fun _ => ?_))
          | simp [*, envL, HasE]
      rintro e2 aq2 wq2 ⟨stq2, roq2, lamq2, ⟨rfl, hEq2⟩, -, hsq2⟩
      refine ⟨rfl, ?_⟩
      rw [e, if_neg hz]
      exact hgq.step hro2 hsq2 hEq2 ⟨hvR, rig_flat rfl, rig_flat rfl, trivial⟩
  rintro e a8c w8c ⟨rfl, hg8c⟩
  refine wpIn_seq (wpIn_mono (wpIn_seq (Q := fun e a' w' => e = .normal ∧ FG 65 bb n0 ro2 w1 [(1, .vrp ad (s.csA x1 x2 x3 x4)), (3, .val Pb), (4, .int .i64 (erR s))] (if erR s = 0 then some (SQ s 0) else none) a' w') ?_) ?_)
  · refine wpIn_mono (cw_in (CW.of_cx (D := fun _ => none) C3_ok mixed _ (fun e st => e = .normal ∧ HasE st.env [(1, .vrp ad (s.csA x1 x2 x3 x4)), (3, .val Pb), (4, .int .i64 (erL s)), (51, .bool (ieq (erL s) 0))]) _ (by kernel_rfl) ?_) (hg8c.sim hro2)) ?_
    · clear hg8c
      repeat' first
        | (with_reducible refine gw_bool (fun _ => ?_) (fun _ => ?_))
        | (with_reducible refine condw_bool (fun _ => ?_) (fun _ => ?_))
        | simp [*, envL, HasE]
    rintro e aq wq ⟨stq, roq, lamq, ⟨rfl, hEq⟩, -, hsq⟩
    have hgq := hg8c.step hro2 hsq hEq ⟨hvR, rig_flat rfl, rig_flat rfl, rig_flat rfl, trivial⟩
    clear hg8c hsq hEq
    have hcq : aq.eval (.tmp 51) = .bool (ieq (erL s) 0) := by
      have := hgq.env 51
      cases hx : ieq (erL s) 0
      · rw [hx] at this
        generalize hv : aq.tmps.getD 51 Go.undef = vv at this
        cases this; exact hv
      · rw [hx] at this
        generalize hv : aq.tmps.getD 51 Go.undef = vv at this
        cases this; exact hv
    refine wpIn_cond_split hcq (fun ht => ?_) (fun hf => ?_)
    · have hz : erL s = 0 := by simpa [ieq] using ht
      rw [hz, if_pos rfl] at hgq
      refine wpIn_region_list ?_
      rw [← List.take_append_drop 4 (Array.toList _)]
      obtain ⟨Yf, hYf⟩ : ∃ Yf : Value, Yf = .func (.func 52) #[Pb] #[] := ⟨_, rfl⟩
      refine eg_in C3_ok (K := fun st => HasE st.env [(1, .vrp ad (s.csA x1 x2 x3 x4)), (3, .val Pb), (53, .as x3 6 (s.ss.map Sr.cs)), (55, .val Yf)]) _ _ _ _ _ _ (by kernel_rfl) ?_ (hgq.sim hro2) ?_
      · clear hgq
        repeat' first
          | (with_reducible refine gw_bool (fun _ => ?_) (fun _ => ?_))
          | (with_reducible refine condw_bool (fun _ => ?_) (fun _ => ?_))
          | simp [*, envL, HasE, Stn.csA]
      rintro st9 a9 ro9 lam9 w9 hE9 hs9
      have hg9 := hgq.step hro2 hs9 hE9 ⟨hvR, rig_flat rfl, k3, rig_flat rfl, trivial⟩
      clear hgq hs9 hE9
      refine wpListIn_plain rfl fun K hK => oper_in (call_wp rfl (by kernel_rfl) ?_)
      have hargs9 : (#[Operand.tmp 53, Operand.tmp 55] : Array Operand).map a9.eval = #[x3, .func (.func 52) #[.pointer (some ⟨bb, 0, none⟩)] #[]] := by
        have e1 : a9.tmps.getD 53 Go.undef = x3 := r0_as (hg9.env 53)
        have e2 : a9.tmps.getD 55 Go.undef = Yf := r0_val (hg9.env 55)
        rw [hYf, hPb] at e2
        simp only [List.map_toArray, List.map_cons, List.map_nil, Act.eval, e1, e2]
      rw [hargs9]
      refine (firstR_ok (by kernel_rfl) s.ss (by omega) _ _ (stepR s (by omega)) bb n0 ro2 w9 x3 (hg9.got _ rfl) hro2 (r3.mono (hkk hg9) (fun _ h => h))).mono ?_
      rintro e wc9 ⟨hb9, rfl, hB9⟩
      refine ⟨_, rfl, hK _ _ ?_⟩
      clear hK
      have hgc9 : FG 65 bb n0 ro2 w1 _ (if (firstN (eR s) s.ss.length) = 0 then some (SR s s.ss.length) else none) (a9.put (some 56) (.int .i64 (firstN (eR s) s.ss.length))) wc9 := hg9.next hro2 (d := 56) (v := .int .i64 (firstN (eR s) s.ss.length)) (by decide) hb9 (fun _ _ => .int _ _) (fun S' h => by
        split at h
        · rename_i h0; cases h; exact hB9 h0
        · cases h)
      clear hg9
      refine eg_in (rest := []) C3_ok (K := fun st => HasE st.env [(1, .vrp ad (s.csA x1 x2 x3 x4)), (3, .val Pb), (4, .int .i64 (firstN (eR s) s.ss.length))]) [_] _ _ _ _ _ (by kernel_rfl) ?_ (hgc9.sim hro2) ?_
      · clear hgc9
        repeat' first
          | (with_reducible refine gw_bool (fun _ => ?_) (fun _ => ?_))
          | (with_reducible refine condw_bool (fun _ => ?_) (fun _ => ?_))
          | simp [*, envL, HasE]
      rintro st9b a9b ro9b lam9b w9b hE9b hs9b
      have hg9b := hgc9.step hro2 hs9b hE9b ⟨hvR, rig_flat rfl, rig_flat rfl, trivial⟩
      clear hgc9 hs9b hE9b
      have e : erR s = (firstN (eR s) s.ss.length) := by simp [erR, nxE, hz]
      refine ⟨rfl, ?_⟩
      rw [e]
      first | exact hg9b | (rw [← SR_end]; exact hg9b)
    · have hz : erL s ≠ 0 := by simpa [ieq] using hf
      have e : erR s = erL s := by simp [erR, nxE, hz]
      rw [if_neg hz] at hgq
      refine wpIn_mono (cw_in (CW.of_cx (D := fun _ => none) C3_ok mixed _ (fun e st => e = .normal ∧ HasE st.env [(1, .vrp ad (s.csA x1 x2 x3 x4)), (3, .val Pb), (4, .int .i64 (erL s))]) _ (by kernel_rfl) ?_) (hgq.sim hro2)) ?_
      · clear hgq
        repeat' first
          | (with_reducible refine gw_bool (fun _ => ?_) (fun _ => ?_))
          | (with_reducible refine condw_bool (fun _ => ?_) (fun _ => ?_))
          | simp [*, envL, HasE]
      rintro e2 aq2 wq2 ⟨stq2, roq2, lamq2, ⟨rfl, hEq2⟩, -, hsq2⟩
      refine ⟨rfl, ?_⟩
      rw [e, if_neg hz]
      exact hgq.step hro2 hsq2 hEq2 ⟨hvR, rig_flat rfl, rig_flat rfl, trivial⟩
  rintro e a9c w9c ⟨rfl, hg9c⟩
  refine wpIn_seq (wpIn_mono (wpIn_seq (Q := fun e a' w' => e = .normal ∧ FG 65 bb n0 ro2 w1 [(1, .vrp ad (s.csA x1 x2 x3 x4)), (3, .val Pb), (4, .int .i64 (erQ s))] (if erQ s = 0 then some (SQ s s.qs.length) else none) a' w') ?_) ?_)
  · refine wpIn_mono (cw_in (CW.of_cx (D := fun _ => none) C3_ok mixed _ (fun e st => e = .normal ∧ HasE st.env [(1, .vrp ad (s.csA x1 x2 x3 x4)), (3, .val Pb), (4, .int .i64 (erR s)), (58, .bool (ieq (erR s) 0))]) _ (by kernel_rfl) ?_) (hg9c.sim hro2)) ?_
    · clear hg9c
      repeat' first
        | (with_reducible refine gw_bool (fun _ => ?_) (fun _ => ?_))
        | (with_reducible refine condw_bool (fun _ => ?_) (fun _ => ?_))
        | simp [*, envL, HasE]
    rintro e aq wq ⟨stq, roq, lamq, ⟨rfl, hEq⟩, -, hsq⟩
    have hgq := hg9c.step hro2 hsq hEq ⟨hvR, rig_flat rfl, rig_flat rfl, rig_flat rfl, trivial⟩
    clear hg9c hsq hEq
    have hcq : aq.eval (.tmp 58) = .bool (ieq (erR s) 0) := by
      have := hgq.env 58
      cases hx : ieq (erR s) 0
      · rw [hx] at this
        generalize hv : aq.tmps.getD 58 Go.undef = vv at this
        cases this; exact hv
      · rw [hx] at this
        generalize hv : aq.tmps.getD 58 Go.undef = vv at this
        cases this; exact hv
    refine wpIn_cond_split hcq (fun ht => ?_) (fun hf => ?_)
    · have hz : erR s = 0 := by simpa [ieq] using ht
      rw [hz, if_pos rfl] at hgq
      refine wpIn_region_list ?_
      rw [← List.take_append_drop 4 (Array.toList _)]
      obtain ⟨Yf, hYf⟩ : ∃ Yf : Value, Yf = .func (.func 54) #[Pb] #[] := ⟨_, rfl⟩
      refine eg_in C3_ok (K := fun st => HasE st.env [(1, .vrp ad (s.csA x1 x2 x3 x4)), (3, .val Pb), (60, .as x4 12 (s.qs.map By.cs)), (62, .val Yf)]) _ _ _ _ _ _ (by kernel_rfl) ?_ (hgq.sim hro2) ?_
      · clear hgq
        repeat' first
          | (with_reducible refine gw_bool (fun _ => ?_) (fun _ => ?_))
          | (with_reducible refine condw_bool (fun _ => ?_) (fun _ => ?_))
          | simp [*, envL, HasE, Stn.csA]
      rintro st10 a10 ro10 lam10 w10 hE10 hs10
      have hg10 := hgq.step hro2 hs10 hE10 ⟨hvR, rig_flat rfl, k4, rig_flat rfl, trivial⟩
      clear hgq hs10 hE10
      refine wpListIn_plain rfl fun K hK => oper_in (call_wp rfl (by kernel_rfl) ?_)
      have hargs10 : (#[Operand.tmp 60, Operand.tmp 62] : Array Operand).map a10.eval = #[x4, .func (.func 54) #[.pointer (some ⟨bb, 0, none⟩)] #[]] := by
        have e1 : a10.tmps.getD 60 Go.undef = x4 := r0_as (hg10.env 60)
        have e2 : a10.tmps.getD 62 Go.undef = Yf := r0_val (hg10.env 62)
        rw [hYf, hPb] at e2
        simp only [List.map_toArray, List.map_cons, List.map_nil, Act.eval, e1, e2]
      rw [hargs10]
      refine (firstB_ok (by kernel_rfl) s.qs (by omega) _ _ (stepQ s (by omega) (by omega) (by omega) (by omega)) bb n0 ro2 w10 x4 (hg10.got _ rfl) hro2 (r4.mono (hkk hg10) (fun _ h => h))).mono ?_
      rintro e wc10 ⟨hb10, rfl, hB10⟩
      refine ⟨_, rfl, hK _ _ ?_⟩
      clear hK
      have hgc10 : FG 65 bb n0 ro2 w1 _ (if (firstN (eQ s) s.qs.length) = 0 then some (SQ s s.qs.length) else none) (a10.put (some 63) (.int .i64 (firstN (eQ s) s.qs.length))) wc10 := hg10.next hro2 (d := 63) (v := .int .i64 (firstN (eQ s) s.qs.length)) (by decide) hb10 (fun _ _ => .int _ _) (fun S' h => by
        split at h
        · rename_i h0; cases h; exact hB10 h0
        · cases h)
      clear hg10
      refine eg_in (rest := []) C3_ok (K := fun st => HasE st.env [(1, .vrp ad (s.csA x1 x2 x3 x4)), (3, .val Pb), (4, .int .i64 (firstN (eQ s) s.qs.length))]) [_] _ _ _ _ _ (by kernel_rfl) ?_ (hgc10.sim hro2) ?_
      · clear hgc10
        repeat' first
          | (with_reducible refine gw_bool (fun _ => ?_) (fun _ => ?_))
          | (with_reducible refine condw_bool (fun _ => ?_) (fun _ => ?_))
          | simp [*, envL, HasE]
      rintro st10b a10b ro10b lam10b w10b hE10b hs10b
      have hg10b := hgc10.step hro2 hs10b hE10b ⟨hvR, rig_flat rfl, rig_flat rfl, trivial⟩
      clear hgc10 hs10b hE10b
      have e : erQ s = (firstN (eQ s) s.qs.length) := by simp [erQ, nxE, hz]
      refine ⟨rfl, ?_⟩
      rw [e]
      first | exact hg10b | (rw [← SR_end]; exact hg10b)
    · have hz : erR s ≠ 0 := by simpa [ieq] using hf
      have e : erQ s = erR s := by simp [erQ, nxE, hz]
      rw [if_neg hz] at hgq
      refine wpIn_mono (cw_in (CW.of_cx (D := fun _ => none) C3_ok mixed _ (fun e st => e = .normal ∧ HasE st.env [(1, .vrp ad (s.csA x1 x2 x3 x4)), (3, .val Pb), (4, .int .i64 (erR s))]) _ (by kernel_rfl) ?_) (hgq.sim hro2)) ?_
      · clear hgq
        repeat' first
          | (with_reducible refine gw_bool (fun _ => ?_) (fun _ => ?_))
          | (with_reducible refine condw_bool (fun _ => ?_) (fun _ => ?_))
          | simp [*, envL, HasE]
      rintro e2 aq2 wq2 ⟨stq2, roq2, lamq2, ⟨rfl, hEq2⟩, -, hsq2⟩
      refine ⟨rfl, ?_⟩
      rw [e, if_neg hz]
      exact hgq.step hro2 hsq2 hEq2 ⟨hvR, rig_flat rfl, rig_flat rfl, trivial⟩
  rintro e a10c w10c ⟨rfl, hg10c⟩
  refine wpIn_mono (cw_in (CW.of_cx (D := fun _ => none) C3_ok mixed _ (fun e st => e = .ret ∧ HasE st.env [(2, .int .i64 (erQ s))]) _ (by kernel_rfl) ?_) (hg10c.sim hro2)) ?_
  · clear hg10c
    repeat' first
      | (with_reducible refine gw_bool (fun _ => ?_) (fun _ => ?_))
      | (with_reducible refine condw_bool (fun _ => ?_) (fun _ => ?_))
      | simp [*, envL, HasE]
  rintro e ae we ⟨ste, roe, lame, ⟨rfl, hEe⟩, -, hse⟩
  have hge := hg10c.step hro2 hse hEe ⟨rig_flat rfl, trivial⟩
  have hk := hge.kept
  have hBe : Below w.heap.size w we := hB1.trans (hk.mono (by have := hB1.size; rw [hn0] at this; exact this))
  exact ⟨hge.dfr, _, res_one rfl (r0_int (hge.env 2)), _, ro, rfl, hBe, fun _ h => h, fun _ h => .inl h, fun b hb => Nat.lt_of_lt_of_le (hro b hb) hBe.size, .int _ _⟩
end Go.Proofs.Ytjhmphkdkclbjaa
end
section
namespace Go.Proofs.Ytjhmphkdkclbjaa
open Go.Pv Go.RowKit
set_option linter.unusedSimpArgs false
set_option linter.unusedVariables false
set_option maxRecDepth 100000
set_option maxHeartbeats 2000000

/-! ### reading a diagram and a position -/
def unS1 : List V → Option ByteArray
  | [.str s] => some s
  | _ => none
theorem unS1_cs (s : ByteArray) : unS1 (s1 s) = some s := rfl
theorem unS1_inv : ∀ c a, unS1 c = some a → c = s1 a := by
  intro c a h; unfold unS1 at h; split at h
  · cases h; rfl
  · cases h
def unLn : List V → Option Ln
  | [.str nm, .int .i64 a, .int .i64 b, .int .i64 c, .int .i64 d] => some ⟨nm, a, b, c, d⟩
  | _ => none
theorem unLn_cs (s : Ln) : unLn s.cs = some s := rfl
theorem unLn_inv : ∀ c a, unLn c = some a → c = Ln.cs a := by
  intro c a h; unfold unLn at h; split at h
  · cases h; rfl
  · cases h
def unSr : List V → Option Sr
  | [.str nm, .int .i64 e, .int .i64 a, .int .i64 b, .int .i64 c, .int .i64 d] => some ⟨nm, e, a, b, c, d⟩
  | _ => none
theorem unSr_cs (s : Sr) : unSr s.cs = some s := rfl
theorem unSr_inv : ∀ c a, unSr c = some a → c = Sr.cs a := by
  intro c a h; unfold unSr at h; split at h
  · cases h; rfl
  · cases h
def unStn : List V → Option Stn
  | [.str nm, .list 1 bs, .list 5 ls, .list 6 ss, .list 12 qs] => (match decL unS1 bs, decL unLn ls, decL unSr ss, decL unBy qs with
    | some bs, some ls, some ss, some qs => some ⟨nm, bs, ls, ss, qs⟩
    | _, _, _, _ => none)
  | _ => none
theorem unStn_cs (s : Stn) : unStn s.cs = some s := by simp [unStn, Stn.cs, decL_map unS1_cs, decL_map unLn_cs, decL_map unSr_cs, decL_map unBy_cs]
theorem unStn_inv : ∀ c a, unStn c = some a → c = Stn.cs a := by
  intro c a h; unfold unStn at h; split at h
  · split at h
    · rename_i h1 h2 h3 h4
      cases h
      rw [decL_inv unS1_inv _ _ h1, decL_inv unLn_inv _ _ h2, decL_inv unSr_inv _ _ h3, decL_inv unBy_inv _ _ h4]; rfl
    · cases h
  · cases h
def b1 (b : Bool) : List V := [.bool b]
def unB1 : List V → Option Bool
  | [.bool b] => some b
  | _ => none
theorem unB1_cs (b : Bool) : unB1 (b1 b) = some b := rfl
theorem unB1_inv : ∀ c a, unB1 c = some a → c = b1 a := by
  intro c a h; unfold unB1 at h; split at h
  · cases h; rfl
  · cases h
def i1 (n : Int) : List V := [.int .i64 n]
def unI1 : List V → Option Int
  | [.int .i64 b] => some b
  | _ => none
theorem unI1_cs (b : Int) : unI1 (i1 b) = some b := rfl
theorem unI1_inv : ∀ c a, unI1 c = some a → c = i1 a := by
  intro c a h; unfold unI1 at h; split at h
  · cases h; rfl
  · cases h
def r1 (l : List Int) : List V := [.list 1 (l.map i1)]
def unR1 : List V → Option (List Int)
  | [.list 1 xs] => decL unI1 xs
  | _ => none
theorem unR1_cs (l : List Int) : unR1 (r1 l) = some l := by simp [unR1, r1, decL_map unI1_cs]
theorem unR1_inv : ∀ c a, unR1 c = some a → c = r1 a := by
  intro c a h; unfold unR1 at h; split at h
  · rw [decL_inv unI1_inv _ _ h]; rfl
  · cases h
/-- A position. -/
structure Pos where
  cl : List Bool
  lk : List (List Int)
def Pos.cs (p : Pos) : List V := [.list 1 (p.cl.map b1), .list 1 (p.lk.map r1)]
def unPos : List V → Option Pos
  | [.list 1 a, .list 1 b] => (match decL unB1 a, decL unR1 b with
    | some a, some b => some ⟨a, b⟩
    | _, _ => none)
  | _ => none
theorem unPos_cs (s : Pos) : unPos s.cs = some s := by simp [unPos, Pos.cs, decL_map unB1_cs, decL_map unR1_cs]
theorem unPos_inv : ∀ c a, unPos c = some a → c = Pos.cs a := by
  intro c a h; unfold unPos at h; split at h
  · split at h
    · rename_i h1 h2
      cases h
      rw [decL_inv unB1_inv _ _ h1, decL_inv unR1_inv _ _ h2]; rfl
    · cases h
  · cases h
def Tchk : List V → Option V
  | [.agg c] => (match unStn c with
    | some s => some (.int .i64 (chkF s))
    | none => none)
  | _ => none
theorem Tchk_at (s : Stn) : Tchk [.agg s.cs] = some (.int .i64 (chkF s)) := by simp [Tchk, unStn_cs]
theorem chk_tab : ∀ vs v, Tchk vs = some v → PCall Try.prog 15 vs v := by
  intro vs v h; unfold Tchk at h; split at h
  · split at h
    · rename_i hs; cases h; rw [unStn_inv _ _ hs]; exact check_ok _
    · cases h
  · cases h
def D1 : Tab := add 15 Tchk (C3)
theorem D1_at (f : FuncId) (vs : List V) : D1.at' f vs = if f = 15 then Tchk vs else C3.at' f vs := rfl
theorem D1_fr (f : FuncId) : D1.fr f = if f = 15 then false else C3.fr f := rfl
theorem D1_gb (f : FuncId) : D1.gb f = C3.gb f := rfl
theorem D1_gv (f : FuncId) (vs : List V) : D1.gv f vs = C3.gv f vs := rfl
attribute [simp] D1_at D1_fr D1_gb D1_gv Tchk
theorem D1_ok : TabOK Try.prog D1 := by
  refine add_ok (C3_ok) (by kernel_rfl) ?_
  · exact chk_tab
attribute [-simp] Tchk
attribute [simp] Tchk_at
/-! ### the check of a position -/
def okL (kind pos : Int) : Bool := ieq pos 1 || (!ieq kind 3 && (ieq pos 0 || ieq pos 2))
def lenOk (s : Stn) (p : Pos) (i : Nat) : Bool := match s.qs[i]?, p.lk[i]? with
  | some b, some l => ieq (l.length : Int) (b.lks.length : Int)
  | _, _ => true
def rowOk (s : Stn) (p : Pos) (i : Nat) : Bool := match s.qs[i]?, p.lk[i]? with
  | some b, some l => l.all (okL b.kind)
  | _, _ => true
def posE (s : Stn) (p : Pos) : Int :=
  if (!ieq (p.cl.length : Int) (s.qs.length : Int) || !ieq (p.lk.length : Int) (s.qs.length : Int)) = true then 3
  else if (List.range s.qs.length).all (lenOk s p) = false then 3
  else if (List.range s.qs.length).all (rowOk s p) = false then 16 else 0
theorem all_false {n i : Nat} {f : Nat → Bool} (hi : i < n) (h : f i = false) : (List.range n).all f = false := by
  rw [Bool.eq_false_iff]
  intro hc
  have := List.all_eq_true.1 hc i (by simpa using hi)
  rw [h] at this; cases this
theorem all_step {i : Nat} {f : Nat → Bool} (h : (List.range i).all f = true) (h1 : f i = true) : (List.range (i + 1)).all f = true := by
  rw [List.range_succ, List.all_append, h]; simp [h1]
theorem map_at {α β : Type} {l : List α} {f : α → β} {i : Nat} {c : α} (h : l[i]? = some c) : (l.map f)[i]? = some (f c) := by simp [h]
theorem pchk_ok (s : Stn) (p : Pos) (hm : s.qs.length ≤ 9223372036854775807) (hp : ∀ l ∈ p.lk, l.length ≤ 9223372036854775807) : PCall Try.prog 16 [.agg s.cs, .agg p.cs] (.int .i64 (posE s p)) := by
  obtain ⟨n, hn⟩ : ∃ n, s.qs.length = n := ⟨_, rfl⟩
  obtain ⟨n1, hn1⟩ : ∃ n, p.cl.length = n := ⟨_, rfl⟩
  obtain ⟨n2, hn2⟩ : ∃ n, p.lk.length = n := ⟨_, rfl⟩
  rw [hn] at hm
  cases c1 : ieq (n1 : Int) (n : Int)
  · have he : posE s p = 3 := by simp [posE, hn, hn1, hn2, c1]
    rw [he]
    refine pcall_cx noTab_ok mixed (fun _ => none) Try.func16 rfl Try.ntmps16 Try.results16 (by simp) (by kernel_rfl) ?_
    repeat' first
      | (with_reducible refine gw_bool (fun _ => ?_) (fun _ => ?_))
      | (with_reducible refine condw_bool (fun _ => ?_) (fun _ => ?_))
      | simp [*, Stn.cs, Pos.cs]
  cases c2 : ieq (n2 : Int) (n : Int)
  · have he : posE s p = 3 := by simp [posE, hn, hn1, hn2, c1, c2]
    rw [he]
    refine pcall_cx noTab_ok mixed (fun _ => none) Try.func16 rfl Try.ntmps16 Try.results16 (by simp) (by kernel_rfl) ?_
    repeat' first
      | (with_reducible refine gw_bool (fun _ => ?_) (fun _ => ?_))
      | (with_reducible refine condw_bool (fun _ => ?_) (fun _ => ?_))
      | simp [*, Stn.cs, Pos.cs]
  have hn12 : n2 = n := by
    have : (n2 : Int) = (n : Int) := by simpa only [ieq, beq_iff_eq] using c2
    omega
  obtain ⟨A, hA⟩ : ∃ A, (List.range n).all (lenOk s p) = A := ⟨_, rfl⟩
  obtain ⟨B, hB⟩ : ∃ B, (List.range n).all (rowOk s p) = B := ⟨_, rfl⟩
  have he : posE s p = if A = false then 3 else if B = false then 16 else 0 := by simp only [posE, hn, hn1, hn2, c1, c2, hA, hB]; simp
  rw [he]
  clear he
  replace hA : Hid ((List.range n).all (lenOk s p) = A) := hA
  replace hB : Hid ((List.range n).all (rowOk s p) = B) := hB
  refine pcall_cx noTab_ok mixed (fun _ => none) Try.func16 rfl Try.ntmps16 Try.results16 (by simp) (by kernel_rfl) ?_
  repeat' first
    | (with_reducible refine gw_bool (fun _ => ?_) (fun _ => ?_))
    | (with_reducible refine condw_bool (fun _ => ?_) (fun _ => ?_))
    | simp [*, Stn.cs, Pos.cs]
  refine lp_go (D := (fun _ => none)) noTab_ok mixed (by kernel_rfl) [2, 3, 28, 29] [2, 3, 6, 8] (α := Nat) (fun i e h => i ≤ n ∧ e 30 = .int .i64 i ∧ Hid ((List.range i).all (lenOk s p) = true)) (fun i => n - i) 0 ?_ ?_
  · exact ⟨by omega, rfl, show _ = _ by simp⟩
  · rintro i e h hk hkh ⟨hi, g7, hinv⟩
    simp [Keep] at hk
    simp [KeepH] at hkh
    by_cases hlt : i < n
    · obtain ⟨b, hb, hb'⟩ := at_ex (l := s.qs) (i := i) (by omega)
      obtain ⟨l, hl, hl'⟩ := at_ex (l := p.lk) (i := i) (by omega)
      have f1 : ilt (i : Int) (n : Int) = true := ilt_t (by omega)
      have w1 : IntKind.i64.wrap ((i : Int) + 1) = ((i + 1 : Nat) : Int) := wrap_succ (by omega)
      have hg : lenOk s p i = ieq (l.length : Int) (b.lks.length : Int) := by simp [lenOk, hb, hl]
      obtain ⟨m1, hm1⟩ : ∃ m, l.length = m := ⟨_, rfl⟩
      obtain ⟨m2, hm2⟩ : ∃ m, b.lks.length = m := ⟨_, rfl⟩
      rw [hm1, hm2] at hg
      have hlt2 : i < n2 := by omega
      cases hq : ieq (m1 : Int) (m2 : Int)
      · rw [hq] at hg
        have hall : A = false := by rw [← hA.out]; exact all_false hlt hg
        clear hinv hg hA hB
        repeat' first
          | (with_reducible refine gw_bool (fun _ => ?_) (fun _ => ?_))
          | (with_reducible refine condw_bool (fun _ => ?_) (fun _ => ?_))
          | simp [*, By.cs, r1]
      · rw [hq] at hg
        have hq' : Hid ((List.range (i + 1)).all (lenOk s p) = true) := all_step hinv.out hg
        clear hinv hg
        repeat' first
          | (with_reducible refine gw_bool (fun _ => ?_) (fun _ => ?_))
          | (with_reducible refine condw_bool (fun _ => ?_) (fun _ => ?_))
          | simp [*, By.cs, r1]
        refine nxt_go (i + 1) ((View.forget _ _ 6)) (by omega) (by simp [*, Keep, St.forget, scr, scrC]) (by simp [*, KeepH, St.forget, scr, scrC]) ?_
        refine ⟨by omega, ?_, hq'⟩; simp [*, St.forget, scr, scrC]
    · have f1 : ilt (i : Int) (n : Int) = false := ilt_f (by omega)
      have e1 : i = n := by omega
      have hLen : Hid ((List.range n).all (lenOk s p) = true) := by
        have := hinv.out
        rwa [e1] at this
      have hAt : A = true := by rw [← hA.out]; exact hLen.out
      clear hinv hA
      repeat' first
        | (with_reducible refine gw_bool (fun _ => ?_) (fun _ => ?_))
        | (with_reducible refine condw_bool (fun _ => ?_) (fun _ => ?_))
        | simp [*]
      refine lp_go (D := (fun _ => none)) noTab_ok mixed (by kernel_rfl) [3, 47, 48] [2, 3, 6, 8] (α := Nat) (fun i e h => i ≤ n ∧ e 49 = .int .i64 i ∧ Hid ((List.range i).all (rowOk s p) = true)) (fun i => n - i) 0 ?_ ?_
      · exact ⟨by omega, by simp, show _ = _ by simp⟩
      · have hk0 := hk
        have hkh0 := hkh
        clear hk hkh g7
        rintro i e h hk hkh ⟨hi, g7, hinv⟩
        simp [Keep, hk0, hkh0] at hk
        simp [KeepH, hk0, hkh0] at hkh
        by_cases hlt : i < n
        · obtain ⟨b, hb, hb'⟩ := at_ex (l := s.qs) (i := i) (by omega)
          obtain ⟨l, hl, hl'⟩ := at_ex (l := p.lk) (i := i) (by omega)
          have f1 : ilt (i : Int) (n : Int) = true := ilt_t (by omega)
          have w1 : IntKind.i64.wrap ((i : Int) + 1) = ((i + 1 : Nat) : Int) := wrap_succ (by omega)
          have hg : rowOk s p i = l.all (okL b.kind) := by simp [rowOk, hb, hl]
          have hlm : l.length ≤ 9223372036854775807 := hp l (List.mem_of_getElem? hl)
          obtain ⟨m1, hm1⟩ : ∃ m, l.length = m := ⟨_, rfl⟩
          rw [hm1] at hlm
          have hlt2 : i < n2 := by omega
          replace hg : Hid (rowOk s p i = l.all (okL b.kind)) := hg
          repeat' first
            | (with_reducible refine gw_bool (fun _ => ?_) (fun _ => ?_))
            | (with_reducible refine condw_bool (fun _ => ?_) (fun _ => ?_))
            | simp [*, By.cs, r1]
          refine lp_go (D := (fun _ => none)) noTab_ok mixed (by kernel_rfl) [3, 7, 8, 47, 48, 49, 50, 51, 52, 53, 54, 55, 56, 57, 58, 59] [2, 3, 6, 8] (α := Nat) (fun j e h => j ≤ m1 ∧ e 60 = .int .i64 j ∧ Hid ((l.take j).all (okL b.kind) = true)) (fun j => m1 - j) 0 ?_ ?_
          · exact ⟨by omega, by simp, show _ = _ by simp⟩
          · have hk0 := hk
            have hkh0 := hkh
            have g0 := g7
            clear hk hkh g7
            rintro j e h hk hkh ⟨hj, g7, hjnv⟩
            simp [Keep, hk0, hkh0, g0] at hk
            simp [KeepH, hk0, hkh0] at hkh
            by_cases hjlt : j < m1
            · obtain ⟨x, hx, hx'⟩ := at_ex (l := l) (i := j) (by omega)
              have f2 : ilt (j : Int) (m1 : Int) = true := ilt_t (by omega)
              have w2 : IntKind.i64.wrap ((j : Int) + 1) = ((j + 1 : Nat) : Int) := wrap_succ (by omega)
              have hok : okL b.kind x = (ieq x 1 || (!ieq b.kind 3 && (ieq x 0 || ieq x 2))) := rfl
              cases ho : okL b.kind x
              · rw [ho] at hok
                have hBf : B = false := by
                  rw [← hB.out]
                  refine all_false hlt ?_
                  rw [hg.out, Bool.eq_false_iff]
                  intro hc
                  have := List.all_eq_true.1 hc x (List.mem_of_getElem? hx)
                  rw [ho] at this; cases this
                clear hg hjnv hinv hB hLen ho
                replace hok : Hid (false = (ieq x 1 || (!ieq b.kind 3 && (ieq x 0 || ieq x 2)))) := hok
                repeat' first
                  | (with_reducible refine gw_bool (fun _ => ?_) (fun _ => ?_))
                  | (with_reducible refine condw_bool (fun _ => ?_) (fun _ => ?_))
                  | simp [*, i1]
                all_goals (exfalso; have hok := hok.out; simp [*] at hok; done)
              · have hq' : Hid ((l.take (j + 1)).all (okL b.kind) = true) := by
                  show _ = _
                  rw [take_snoc hx, List.all_append, hjnv.out]; simp [ho]
                rw [ho] at hok
                clear hjnv ho
                replace hok : Hid (true = (ieq x 1 || (!ieq b.kind 3 && (ieq x 0 || ieq x 2)))) := hok
                repeat' first
                  | (with_reducible refine gw_bool (fun _ => ?_) (fun _ => ?_))
                  | (with_reducible refine condw_bool (fun _ => ?_) (fun _ => ?_))
                  | simp [*, i1]
                all_goals first
                  | (exfalso; have hok := hok.out; simp [*] at hok; done)
                  | skip
                all_goals refine nxt_go (j + 1) (View.refl _ _) (by omega) (by simp [*, Keep, St.forget, scr, scrC]) (by simp [*, KeepH, St.forget, scr, scrC]) ?_
                all_goals (refine ⟨by omega, ?_, hq'⟩; simp [*])
            · have f2 : ilt (j : Int) (m1 : Int) = false := ilt_f (by omega)
              have e2 : j = m1 := by omega
              have hq' : Hid ((List.range (i + 1)).all (rowOk s p) = true) := by
                refine all_step hinv.out ?_
                rw [hg.out]
                have := hjnv.out
                rwa [e2, ← hm1, List.take_length] at this
              clear hjnv hinv hg
              repeat' first
                | (with_reducible refine gw_bool (fun _ => ?_) (fun _ => ?_))
                | (with_reducible refine condw_bool (fun _ => ?_) (fun _ => ?_))
                | simp [*]
              refine nxt_go (i + 1) ((View.forget _ _ 8)) (by omega) (by simp [*, Keep, St.forget, scr, scrC]) (by simp [*, KeepH, St.forget, scr, scrC]) ?_
              refine ⟨by omega, ?_, hq'⟩; simp [*, St.forget, scr, scrC]
        · have f1 : ilt (i : Int) (n : Int) = false := ilt_f (by omega)
          have e1 : i = n := by omega
          have hBt : B = true := by
            have := hinv.out
            rw [e1] at this
            rw [← hB.out]; exact this
          clear hinv hB hLen
          repeat' first
            | (with_reducible refine gw_bool (fun _ => ?_) (fun _ => ?_))
            | (with_reducible refine condw_bool (fun _ => ?_) (fun _ => ?_))
            | simp [*]
end Go.Proofs.Ytjhmphkdkclbjaa
end
section
namespace Go.Proofs.Ytjhmphkdkclbjaa
open Go.Pv Go.RowKit
set_option linter.unusedSimpArgs false
set_option linter.unusedVariables false
set_option maxRecDepth 100000
set_option maxHeartbeats 2000000

theorem View.nilAt (n : Nat) {st : St} {t o key key' i : Nat} {blk : Blk} (sz : Nat) (ty' : TypeId) (ht : st.env t = .ptr key o) (hk : st.heap key = some blk) (hi : blk.cells[i]? = some .nils) (hk' : st.heap key' = none) :
    View n st ⟨st.env, upd (upd st.heap key (some ⟨blk.ty, blk.cells.set i (.sl key' 0 0 sz)⟩)) key' (some ⟨ty', []⟩)⟩ := fun w0 ro lam a w hs => ⟨ro, _, Ext.refl _ _, hs.nilCellAt sz (by
      have := hs.env t
      rw [ht] at this
      obtain ⟨b, m, hl, _⟩ := this.ptr_inv
      exact ⟨b, m, hl⟩) hk hi hk'⟩
theorem flat_i1 (l : List Int) : (l.map i1).flatten = l.map (V.int .i64) := by
  induction l with
  | nil => rfl
  | cons a l ih => simp [i1, ih]
theorem flat_b1 (l : List Bool) : (l.map b1).flatten = l.map V.bool := by
  induction l with
  | nil => rfl
  | cons a l ih => simp [b1, ih]
theorem chunks_i1 (l : List Int) : chunks 1 l.length (l.map (V.int .i64)) = l.map i1 := by rw [← flat_i1]; exact flat_chunks (sz := 1) (fun _ => rfl) l
theorem chunks_b1 (l : List Bool) : chunks 1 l.length (l.map V.bool) = l.map b1 := by rw [← flat_b1]; exact flat_chunks (sz := 1) (fun _ => rfl) l
theorem pure_i1 (l : List Int) : (l.map (V.int .i64)).any ownC = false := by rw [← flat_i1]; exact flat_pure (fun _ => rfl) l
theorem pure_b1 (l : List Bool) : (l.map V.bool).any ownC = false := by rw [← flat_b1]; exact flat_pure (fun _ => rfl) l
theorem scr_i1 (l : List Int) (k : Nat) : (l.map (V.int .i64)).map (scrC k) = l.map (V.int .i64) := scrC_cells (pure_i1 l)
theorem scr_b1 (l : List Bool) (k : Nat) : (l.map V.bool).map (scrC k) = l.map V.bool := scrC_cells (pure_b1 l)
theorem scrI_comp (k : Nat) : scrC k ∘ V.int .i64 = V.int .i64 := rfl
theorem scrB_comp (k : Nat) : scrC k ∘ V.bool = V.bool := rfl
theorem emp_list {w : World} {ro : Nat → Prop} {sz : Nat} {x : Value} (h : R0 w ro (.list sz []) x) : ∃ a c, x = .slice a 0 c := by
  cases h
  · exact ⟨_, _, rfl⟩
  · exact ⟨_, _, rfl⟩
theorem arg1 {args : Array Value} (h : args.size = 1) : ∃ x, args = #[x] := by
  match args, h with
  | ⟨[x]⟩, _ => exact ⟨x, rfl⟩
theorem HS.none {w : World} {ro : Nat → Prop} {lam : Lam} {h : Nat → Option Blk} (hs : HS w ro lam h) : HS w ro (lamK [] lam) (blkOf []) := HS.keep hs (bl := []) trivial rfl
theorem lamK_nil {lam : Lam} : lamK [] lam = fun _ => none := by funext k; simp [lamK, blkOf]
/-! ### copies of rows of numbers -/
theorem cloneI1 (x : Int) (l : List Int) (hl : l.length ≤ 1000) : PGive Try.prog 71 [.list 1 ((x :: l).map i1)] (.sl 5 0 (l.length + 1) 1) [(5, ⟨3, (x :: l).map (V.int .i64)⟩)] := by
  have f5 : (l.length + 1) * 8 ≤ 140737488355328 := by omega
  have f6 : l.length + 1 ≤ 9223372036854775807 := by omega
  refine pgive_cx noTab_ok mixed (fun _ => none) Try.func71 rfl Try.ntmps71 Try.results71 (by simp) (by kernel_rfl) ?_
  have f7 : l.length * 8 ≤ 140737488355320 := by omega
  repeat' first
    | (with_reducible refine gw_bool (fun _ => ?_) (fun _ => ?_))
    | (with_reducible refine condw_bool (fun _ => ?_) (fun _ => ?_))
    | simp [*, appendV, srcCells, flat_i1, i1, scrC, scrI_comp, List.map_map, Function.comp_def, ownC, KeepBl, closedB, inT, inA, inC, blkOf]
theorem cloneI0 (c : Nat) : PGive Try.prog 71 [.val (.slice none 0 c)] .nils [] := by
  refine pgive_cx noTab_ok mixed (fun _ => none) Try.func71 rfl Try.ntmps71 Try.results71 (by simp) (by kernel_rfl) ?_
  repeat' first
    | (with_reducible refine gw_bool (fun _ => ?_) (fun _ => ?_))
    | (with_reducible refine condw_bool (fun _ => ?_) (fun _ => ?_))
    | simp [*, appendV, srcCells, KeepBl, closedB, inT, inA, inC, blkOf]
theorem cloneI2 (a : Addr) (c : Nat) : PGive Try.prog 71 [.val (.slice (some a) 0 c)] (.sl 5 0 0 1) [(5, ⟨3, []⟩)] := by
  refine pgive_cx noTab_ok mixed (fun _ => none) Try.func71 rfl Try.ntmps71 Try.results71 (by simp) (by kernel_rfl) ?_
  repeat' first
    | (with_reducible refine gw_bool (fun _ => ?_) (fun _ => ?_))
    | (with_reducible refine condw_bool (fun _ => ?_) (fun _ => ?_))
    | simp [*, appendV, srcCells, KeepBl, closedB, inT, inA, inC, blkOf]
theorem cloneIe : PGive Try.prog 71 [.list 1 []] (.list 1 []) [] := by
  intro w ro args hro hsz hr
  obtain ⟨x, rfl⟩ := arg1 hsz
  obtain ⟨a, c, rfl⟩ := emp_list (hr 0 _ x rfl rfl)
  have hr' : ∀ (j : Nat) (cc : V) (y : Value), [V.val (.slice a 0 c)][j]? = some cc → (#[Value.slice a 0 c] : Array Value)[j]? = some y → R0 w ro cc y := by
    intro j cc y h1 h2
    match j with
    | 0 => simp at h1 h2; subst h1; subst h2; exact .val _
    | j + 1 => simp at h1
  cases a with
  | none =>
    refine (cloneI0 c w ro _ hro rfl hr').mono ?_
    rintro e w' ⟨rv, ro', lam', rfl, h1, h2, h3, h4, h5, h6⟩
    have := h6.nils_inv; subst this
    exact ⟨_, ro', lam', rfl, h1, h2, h3, h4, h5, .pure _ _ (.list0 _ _ _)⟩
  | some a =>
    refine (cloneI2 a c w ro _ hro rfl hr').mono ?_
    rintro e w' ⟨rv, ro', lam', rfl, h1, h2, h3, h4, h5, h6⟩
    refine ⟨rv, ro', lamK [] lam', rfl, h1, h2, h3, HS.none h4, fun b ⟨key, hb⟩ => ?_, ?_⟩
    · rw [lamK_nil] at hb
      rcases hb with ⟨m, hb⟩ | hb <;> cases hb
    · generalize hv : V.sl 5 0 0 1 = v at h6
      cases h6
      · subst hv; rename_i hh; cases hh
      all_goals cases hv
      all_goals exact .pure _ _ (.list0 _ _ _)
/-! ### copies of rows of yes and no -/
theorem cloneB1 (x : Bool) (l : List Bool) (hl : l.length ≤ 1000) : PCall Try.prog 70 [.list 1 ((x :: l).map b1)] (.list 1 ((x :: l).map b1)) := by
  have f5 : (l.length + 1) * 1 ≤ 140737488355328 := by omega
  have f6 : l.length + 1 ≤ 9223372036854775807 := by omega
  have hc := chunks_b1 (x :: l)
  have hp := pure_b1 (x :: l)
  simp only [List.length_cons, List.map_cons, b1] at hc hp
  refine pcall_cx noTab_ok mixed (fun _ => none) Try.func70 rfl Try.ntmps70 Try.results70 (by simp) (by kernel_rfl) ?_
  have f7 : l.length ≤ 140737488355327 := by omega
  have hs := chunks_b1 l
  repeat' first
    | (with_reducible refine gw_bool (fun _ => ?_) (fun _ => ?_))
    | (with_reducible refine condw_bool (fun _ => ?_) (fun _ => ?_))
    | simp [*, appendV, srcCells, flat_b1, b1, scrC, scrB_comp, List.map_map, Function.comp_def, ownC]
theorem cloneB0 (c : Nat) : PCall Try.prog 70 [.val (.slice none 0 c)] .nils := by
  refine pcall_cx noTab_ok mixed (fun _ => none) Try.func70 rfl Try.ntmps70 Try.results70 (by simp) (by kernel_rfl) ?_
  repeat' first
    | (with_reducible refine gw_bool (fun _ => ?_) (fun _ => ?_))
    | (with_reducible refine condw_bool (fun _ => ?_) (fun _ => ?_))
    | simp [*, appendV, srcCells]
theorem cloneB2 (a : Addr) (c : Nat) : PCall Try.prog 70 [.val (.slice (some a) 0 c)] (.list 1 []) := by
  refine pcall_cx noTab_ok mixed (fun _ => none) Try.func70 rfl Try.ntmps70 Try.results70 (by simp) (by kernel_rfl) ?_
  repeat' first
    | (with_reducible refine gw_bool (fun _ => ?_) (fun _ => ?_))
    | (with_reducible refine condw_bool (fun _ => ?_) (fun _ => ?_))
    | simp [*, appendV, srcCells, chunks]
theorem cloneB_ok (l : List Bool) (hl : l.length ≤ 1000) : PCall Try.prog 70 [.list 1 (l.map b1)] (.list 1 (l.map b1)) := by
  cases l with
  | cons x l => exact cloneB1 x l (by simp at hl; omega)
  | nil =>
    intro w ro args hro hsz hr
    obtain ⟨x, rfl⟩ := arg1 hsz
    obtain ⟨a, c, rfl⟩ := emp_list (hr 0 _ x rfl rfl)
    have hr' : ∀ (j : Nat) (cc : V) (y : Value), [V.val (.slice a 0 c)][j]? = some cc → (#[Value.slice a 0 c] : Array Value)[j]? = some y → R0 w ro cc y := by
      intro j cc y h1 h2
      match j with
      | 0 => simp at h1 h2; subst h1; subst h2; exact .val _
      | j + 1 => simp at h1
    cases a with
    | none =>
      refine (cloneB0 c w ro _ hro rfl hr').mono ?_
      rintro e w' ⟨rv, ro', rfl, h1, h2, h3, h4, h5⟩
      cases h5
      exact ⟨_, ro', rfl, h1, h2, h3, h4, .list0 _ _ _⟩
    | some a => exact cloneB2 a c w ro _ hro rfl hr'
end Go.Proofs.Ytjhmphkdkclbjaa
end
