/-
  The types of this seat's program, as far as its functions use them: size, bytes, zero, fields.
-/
import Derived.Test.YtnilibgafkakpaaPv16
import Derived.Test.YtnilibgafkakpaaProg
import Derived.KernelRfl
namespace Go.Proofs.Ytnilibgafkakpaa
open Go.Pv
theorem mixed : Try.prog.follows .mixedOrders = true := by kernel_rfl
theorem td3 : td Try.prog 3 = some { size := 1, bytes := 8, agg := false, strct := false, zero := some [.int .i64 0], fields := [], arr := none, slc := none, int := some .i64, isBool := false, isStr := false, eqg := false } := by kernel_rfl
theorem td4 : td Try.prog 4 = some { size := 1, bytes := 1, agg := false, strct := false, zero := some [.bool false], fields := [], arr := none, slc := none, int := none, isBool := true, isStr := false, eqg := false } := by kernel_rfl
theorem td9 : td Try.prog 9 = some { size := 1, bytes := 16, agg := false, strct := false, zero := some [.str ⟨#[]⟩], fields := [], arr := none, slc := none, int := none, isBool := false, isStr := true, eqg := false } := by kernel_rfl
theorem td19 : td Try.prog 19 = some { size := 1, bytes := 8, agg := true, strct := true, zero := some [.junk], fields := [some (0, 1, false)], arr := none, slc := none, int := none, isBool := false, isStr := false, eqg := false } := by kernel_rfl
theorem td22 : td Try.prog 22 = some { size := 4, bytes := 32, agg := true, strct := false, zero := some [.int .i64 0, .int .i64 0, .int .i64 0, .int .i64 0], fields := [], arr := some (4, 1, false), slc := none, int := none, isBool := false, isStr := false, eqg := false } := by kernel_rfl
theorem td25 : td Try.prog 25 = some { size := 1, bytes := 8, agg := false, strct := false, zero := some [.int .i64 0], fields := [], arr := none, slc := none, int := some .i64, isBool := false, isStr := false, eqg := false } := by kernel_rfl
theorem td35 : td Try.prog 35 = some { size := 1, bytes := 24, agg := false, strct := false, zero := some [.nils], fields := [], arr := none, slc := some (3, 1), int := none, isBool := false, isStr := false, eqg := false } := by kernel_rfl
attribute [simp] td3 td4 td9 td19 td22 td25 td35 
theorem eq22 (x0 y0 : Int) (x1 y1 : Int) (x2 y2 : Int) (x3 y3 : Int) : eqV Try.prog 6 22 (.agg [.int .i64 x0, .int .i64 x1, .int .i64 x2, .int .i64 x3]) (.agg [.int .i64 y0, .int .i64 y1, .int .i64 y2, .int .i64 y3]) = some (ieq x0 y0 && (ieq x1 y1 && (ieq x2 y2 && (ieq x3 y3 && true)))) := by kernel_rfl
attribute [simp] eq22
end Go.Proofs.Ytnilibgafkakpaa
