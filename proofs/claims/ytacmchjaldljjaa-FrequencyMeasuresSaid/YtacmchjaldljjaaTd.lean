/-
  The types of this seat's program, as far as its functions use them: size, bytes, zero, fields.
-/
import Derived.Test.YtacmchjaldljjaaPv16
import Derived.Test.YtacmchjaldljjaaProg
import Derived.KernelRfl
namespace Go.Proofs.Ytacmchjaldljjaa
open Go.Pv
theorem mixed : Try.prog.follows .mixedOrders = true := by kernel_rfl
theorem td3 : td Try.prog 3 = some { size := 1, bytes := 8, agg := false, strct := false, zero := some [.int .i64 0], fields := [], arr := none, slc := none, int := some .i64, isBool := false, isStr := false, eqg := false } := by kernel_rfl
theorem td4 : td Try.prog 4 = some { size := 1, bytes := 1, agg := false, strct := false, zero := some [.bool false], fields := [], arr := none, slc := none, int := none, isBool := true, isStr := false, eqg := false } := by kernel_rfl
theorem td9 : td Try.prog 9 = some { size := 1, bytes := 16, agg := false, strct := false, zero := some [.str ⟨#[]⟩], fields := [], arr := none, slc := none, int := none, isBool := false, isStr := true, eqg := false } := by kernel_rfl
theorem td19 : td Try.prog 19 = some { size := 1, bytes := 8, agg := true, strct := true, zero := some [.junk], fields := [some (0, 1, false)], arr := none, slc := none, int := none, isBool := false, isStr := false, eqg := false } := by kernel_rfl
theorem td22 : td Try.prog 22 = some { size := 1, bytes := 24, agg := false, strct := false, zero := some [.nils], fields := [], arr := none, slc := some (3, 1), int := none, isBool := false, isStr := false, eqg := false } := by kernel_rfl
theorem td25 : td Try.prog 25 = some { size := 1, bytes := 24, agg := false, strct := false, zero := some [.nils], fields := [], arr := none, slc := some (30, 3), int := none, isBool := false, isStr := false, eqg := false } := by kernel_rfl
theorem td26 : td Try.prog 26 = some { size := 1, bytes := 8, agg := false, strct := false, zero := some [.int .i64 0], fields := [], arr := none, slc := none, int := some .i64, isBool := false, isStr := false, eqg := false } := by kernel_rfl
theorem td30 : td Try.prog 30 = some { size := 3, bytes := 24, agg := true, strct := true, zero := some [.int .i64 0, .int .i64 0, .int .i64 0], fields := [some (0, 1, false), some (1, 1, false), some (2, 1, false)], arr := none, slc := none, int := none, isBool := false, isStr := false, eqg := false } := by kernel_rfl
theorem td38 : td Try.prog 38 = some { size := 1, bytes := 24, agg := false, strct := false, zero := some [.nils], fields := [], arr := none, slc := some (41, 3), int := none, isBool := false, isStr := false, eqg := false } := by kernel_rfl
theorem td41 : td Try.prog 41 = some { size := 3, bytes := 24, agg := true, strct := true, zero := some [.int .i64 0, .int .i64 0, .int .i64 0], fields := [some (0, 1, false), some (1, 1, false), some (2, 1, false)], arr := none, slc := none, int := none, isBool := false, isStr := false, eqg := false } := by kernel_rfl
theorem td50 : td Try.prog 50 = some { size := 1, bytes := 24, agg := false, strct := false, zero := some [.nils], fields := [], arr := none, slc := some (66, 1), int := none, isBool := false, isStr := false, eqg := false } := by kernel_rfl
theorem td52 : td Try.prog 52 = some { size := 2, bytes := 32, agg := true, strct := true, zero := some [.bool false, .nils], fields := [some (0, 1, false), some (1, 1, false)], arr := none, slc := none, int := none, isBool := false, isStr := false, eqg := false } := by kernel_rfl
theorem td65 : td Try.prog 65 = some { size := 1, bytes := 8, agg := false, strct := false, zero := some [.int .u64 0], fields := [], arr := none, slc := none, int := some .u64, isBool := false, isStr := false, eqg := false } := by kernel_rfl
theorem td66 : td Try.prog 66 = some { size := 1, bytes := 4, agg := false, strct := false, zero := some [.int .u32 0], fields := [], arr := none, slc := none, int := some .u32, isBool := false, isStr := false, eqg := false } := by kernel_rfl
attribute [simp] td3 td4 td9 td19 td22 td25 td26 td30 td38 td41 td50 td52 td65 td66 
theorem eq30 (x0 y0 : Int) (x1 y1 : Int) (x2 y2 : Int) : eqV Try.prog 6 30 (.agg [.int .i64 x0, .int .i64 x1, .int .i64 x2]) (.agg [.int .i64 y0, .int .i64 y1, .int .i64 y2]) = some (ieq x0 y0 && (ieq x1 y1 && (ieq x2 y2 && true))) := by kernel_rfl
theorem eq41 (x0 y0 : Int) (x1 y1 : Int) (x2 y2 : Int) : eqV Try.prog 6 41 (.agg [.int .i64 x0, .int .i64 x1, .int .i64 x2]) (.agg [.int .i64 y0, .int .i64 y1, .int .i64 y2]) = some (ieq x0 y0 && (ieq x1 y1 && (ieq x2 y2 && true))) := by kernel_rfl
attribute [simp] eq30 eq41
end Go.Proofs.Ytacmchjaldljjaa
