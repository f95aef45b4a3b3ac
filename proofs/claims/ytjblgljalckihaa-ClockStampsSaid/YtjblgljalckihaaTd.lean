/-
  The types of this seat's program, as far as its functions use them: size, bytes, zero, fields.
-/
import Derived.Test.YtjblgljalckihaaPv16
import Derived.Test.YtjblgljalckihaaProg
import Derived.KernelRfl
namespace Go.Proofs.Ytjblgljalckihaa
open Go.Pv
theorem mixed : Try.prog.follows .mixedOrders = true := by kernel_rfl
theorem td3 : td Try.prog 3 = some { size := 1, bytes := 8, agg := false, strct := false, zero := some [.int .i64 0], fields := [], arr := none, slc := none, int := some .i64, isBool := false, isStr := false, eqg := false } := by kernel_rfl
theorem td4 : td Try.prog 4 = some { size := 1, bytes := 1, agg := false, strct := false, zero := some [.bool false], fields := [], arr := none, slc := none, int := none, isBool := true, isStr := false, eqg := false } := by kernel_rfl
theorem td9 : td Try.prog 9 = some { size := 1, bytes := 16, agg := false, strct := false, zero := some [.str ⟨#[]⟩], fields := [], arr := none, slc := none, int := none, isBool := false, isStr := true, eqg := false } := by kernel_rfl
theorem td19 : td Try.prog 19 = some { size := 1, bytes := 8, agg := true, strct := true, zero := some [.junk], fields := [some (0, 1, false)], arr := none, slc := none, int := none, isBool := false, isStr := false, eqg := false } := by kernel_rfl
theorem td25 : td Try.prog 25 = some { size := 5, bytes := 40, agg := true, strct := true, zero := some [.int .i64 0, .int .i64 0, .bool false, .int .i64 0, .int .i64 0], fields := [some (0, 1, false), some (1, 1, false), some (2, 1, false), some (3, 1, false), some (4, 1, false)], arr := none, slc := none, int := none, isBool := false, isStr := false, eqg := false } := by kernel_rfl
theorem td29 : td Try.prog 29 = some { size := 1, bytes := 24, agg := false, strct := false, zero := some [.nils], fields := [], arr := none, slc := some (31, 3), int := none, isBool := false, isStr := false, eqg := false } := by kernel_rfl
theorem td31 : td Try.prog 31 = some { size := 3, bytes := 24, agg := true, strct := true, zero := some [.int .i64 0, .int .i64 0, .bool false], fields := [some (0, 1, false), some (1, 1, false), some (2, 1, false)], arr := none, slc := none, int := none, isBool := false, isStr := false, eqg := false } := by kernel_rfl
theorem td32 : td Try.prog 32 = some { size := 1, bytes := 8, agg := false, strct := false, zero := some [.int .i64 0], fields := [], arr := none, slc := none, int := some .i64, isBool := false, isStr := false, eqg := false } := by kernel_rfl
theorem td41 : td Try.prog 41 = some { size := 3, bytes := 24, agg := true, strct := true, zero := some [.int .i64 0, .int .i64 0, .int .i64 0], fields := [some (0, 1, false), some (1, 1, false), some (2, 1, false)], arr := none, slc := none, int := none, isBool := false, isStr := false, eqg := false } := by kernel_rfl
theorem td44 : td Try.prog 44 = some { size := 5, bytes := 40, agg := true, strct := true, zero := some [.int .i64 0, .int .i64 0, .bool false, .int .i64 0, .int .i64 0], fields := [some (0, 1, false), some (1, 1, false), some (2, 1, false), some (3, 1, false), some (4, 1, false)], arr := none, slc := none, int := none, isBool := false, isStr := false, eqg := false } := by kernel_rfl
theorem td55 : td Try.prog 55 = some { size := 1, bytes := 24, agg := false, strct := false, zero := some [.nils], fields := [], arr := none, slc := some (3, 1), int := none, isBool := false, isStr := false, eqg := false } := by kernel_rfl
theorem td56 : td Try.prog 56 = some { size := 1, bytes := 8, agg := false, strct := false, zero := some [.int .u64 0], fields := [], arr := none, slc := none, int := some .u64, isBool := false, isStr := false, eqg := false } := by kernel_rfl
attribute [simp] td3 td4 td9 td19 td25 td29 td31 td32 td41 td44 td55 td56 
theorem eq25 (x0 y0 : Int) (x1 y1 : Int) (x2 y2 : Bool) (x3 y3 : Int) (x4 y4 : Int) : eqV Try.prog 6 25 (.agg [.int .i64 x0, .int .i64 x1, .bool x2, .int .i64 x3, .int .i64 x4]) (.agg [.int .i64 y0, .int .i64 y1, .bool y2, .int .i64 y3, .int .i64 y4]) = some (ieq x0 y0 && (ieq x1 y1 && ((x2 == y2) && (ieq x3 y3 && (ieq x4 y4 && true))))) := by kernel_rfl
theorem eq31 (x0 y0 : Int) (x1 y1 : Int) (x2 y2 : Bool) : eqV Try.prog 6 31 (.agg [.int .i64 x0, .int .i64 x1, .bool x2]) (.agg [.int .i64 y0, .int .i64 y1, .bool y2]) = some (ieq x0 y0 && (ieq x1 y1 && ((x2 == y2) && true))) := by kernel_rfl
theorem eq41 (x0 y0 : Int) (x1 y1 : Int) (x2 y2 : Int) : eqV Try.prog 6 41 (.agg [.int .i64 x0, .int .i64 x1, .int .i64 x2]) (.agg [.int .i64 y0, .int .i64 y1, .int .i64 y2]) = some (ieq x0 y0 && (ieq x1 y1 && (ieq x2 y2 && true))) := by kernel_rfl
theorem eq44 (x0 y0 : Int) (x1 y1 : Int) (x2 y2 : Bool) (x3 y3 : Int) (x4 y4 : Int) : eqV Try.prog 6 44 (.agg [.int .i64 x0, .int .i64 x1, .bool x2, .int .i64 x3, .int .i64 x4]) (.agg [.int .i64 y0, .int .i64 y1, .bool y2, .int .i64 y3, .int .i64 y4]) = some (ieq x0 y0 && (ieq x1 y1 && ((x2 == y2) && (ieq x3 y3 && (ieq x4 y4 && true))))) := by kernel_rfl
attribute [simp] eq25 eq31 eq41 eq44
end Go.Proofs.Ytjblgljalckihaa
