/-
  The types of this seat's program, as far as its functions use them: size, bytes, zero, fields.
-/
import Derived.Test.YtlebbpgffjcgjaaPv16
import Derived.Test.YtlebbpgffjcgjaaProg
import Derived.KernelRfl
namespace Go.Proofs.Ytlebbpgffjcgjaa
open Go.Pv
theorem mixed : Try.prog.follows .mixedOrders = true := by kernel_rfl
theorem td3 : td Try.prog 3 = some { size := 1, bytes := 8, agg := false, strct := false, zero := some [.int .i64 0], fields := [], arr := none, slc := none, int := some .i64, isBool := false, isStr := false, eqg := false } := by kernel_rfl
theorem td4 : td Try.prog 4 = some { size := 1, bytes := 1, agg := false, strct := false, zero := some [.bool false], fields := [], arr := none, slc := none, int := none, isBool := true, isStr := false, eqg := false } := by kernel_rfl
theorem td9 : td Try.prog 9 = some { size := 1, bytes := 16, agg := false, strct := false, zero := some [.str ⟨#[]⟩], fields := [], arr := none, slc := none, int := none, isBool := false, isStr := true, eqg := false } := by kernel_rfl
theorem td19 : td Try.prog 19 = some { size := 1, bytes := 8, agg := true, strct := true, zero := some [.junk], fields := [some (0, 1, false)], arr := none, slc := none, int := none, isBool := false, isStr := false, eqg := false } := by kernel_rfl
theorem td23 : td Try.prog 23 = some { size := 3, bytes := 24, agg := true, strct := true, zero := some [.bool false, .int .i64 0, .int .i64 0], fields := [some (0, 1, false), some (1, 1, false), some (2, 1, false)], arr := none, slc := none, int := none, isBool := false, isStr := false, eqg := false } := by kernel_rfl
theorem td25 : td Try.prog 25 = some { size := 2, bytes := 2, agg := true, strct := true, zero := some [.bool false, .bool false], fields := [some (0, 1, false), some (1, 1, false)], arr := none, slc := none, int := none, isBool := false, isStr := false, eqg := false } := by kernel_rfl
theorem td31 : td Try.prog 31 = some { size := 1, bytes := 24, agg := false, strct := false, zero := some [.nils], fields := [], arr := none, slc := some (4, 1), int := none, isBool := false, isStr := false, eqg := false } := by kernel_rfl
theorem td33 : td Try.prog 33 = some { size := 1, bytes := 24, agg := false, strct := false, zero := some [.nils], fields := [], arr := none, slc := some (36, 4), int := none, isBool := false, isStr := false, eqg := false } := by kernel_rfl
theorem td36 : td Try.prog 36 = some { size := 4, bytes := 24, agg := true, strct := true, zero := some [.bool false, .bool false, .int .i64 0, .bool false], fields := [some (0, 1, false), some (1, 1, false), some (2, 1, false), some (3, 1, false)], arr := none, slc := none, int := none, isBool := false, isStr := false, eqg := false } := by kernel_rfl
theorem td41 : td Try.prog 41 = some { size := 3, bytes := 3, agg := true, strct := true, zero := some [.bool false, .bool false, .bool false], fields := [some (0, 1, false), some (1, 1, false), some (2, 1, false)], arr := none, slc := none, int := none, isBool := false, isStr := false, eqg := false } := by kernel_rfl
theorem td44 : td Try.prog 44 = some { size := 5, bytes := 72, agg := true, strct := true, zero := some [.bool false, .int .i64 0, .bool false, .nils, .nils], fields := [some (0, 1, false), some (1, 1, false), some (2, 1, false), some (3, 1, false), some (4, 1, false)], arr := none, slc := none, int := none, isBool := false, isStr := false, eqg := false } := by kernel_rfl
theorem td47 : td Try.prog 47 = some { size := 3, bytes := 24, agg := true, strct := true, zero := some [.int .i64 0, .int .i64 0, .int .i64 0], fields := [some (0, 1, false), some (1, 1, false), some (2, 1, false)], arr := none, slc := none, int := none, isBool := false, isStr := false, eqg := false } := by kernel_rfl
attribute [simp] td3 td4 td9 td19 td23 td25 td31 td33 td36 td41 td44 td47 
theorem eq23 (x0 y0 : Bool) (x1 y1 : Int) (x2 y2 : Int) : eqV Try.prog 6 23 (.agg [.bool x0, .int .i64 x1, .int .i64 x2]) (.agg [.bool y0, .int .i64 y1, .int .i64 y2]) = some ((x0 == y0) && (ieq x1 y1 && (ieq x2 y2 && true))) := by kernel_rfl
theorem eq25 (x0 y0 : Bool) (x1 y1 : Bool) : eqV Try.prog 6 25 (.agg [.bool x0, .bool x1]) (.agg [.bool y0, .bool y1]) = some ((x0 == y0) && ((x1 == y1) && true)) := by kernel_rfl
theorem eq36 (x0 y0 : Bool) (x1 y1 : Bool) (x2 y2 : Int) (x3 y3 : Bool) : eqV Try.prog 6 36 (.agg [.bool x0, .bool x1, .int .i64 x2, .bool x3]) (.agg [.bool y0, .bool y1, .int .i64 y2, .bool y3]) = some ((x0 == y0) && ((x1 == y1) && (ieq x2 y2 && ((x3 == y3) && true)))) := by kernel_rfl
theorem eq41 (x0 y0 : Bool) (x1 y1 : Bool) (x2 y2 : Bool) : eqV Try.prog 6 41 (.agg [.bool x0, .bool x1, .bool x2]) (.agg [.bool y0, .bool y1, .bool y2]) = some ((x0 == y0) && ((x1 == y1) && ((x2 == y2) && true))) := by kernel_rfl
theorem eq47 (x0 y0 : Int) (x1 y1 : Int) (x2 y2 : Int) : eqV Try.prog 6 47 (.agg [.int .i64 x0, .int .i64 x1, .int .i64 x2]) (.agg [.int .i64 y0, .int .i64 y1, .int .i64 y2]) = some (ieq x0 y0 && (ieq x1 y1 && (ieq x2 y2 && true))) := by kernel_rfl
attribute [simp] eq23 eq25 eq36 eq41 eq47
end Go.Proofs.Ytlebbpgffjcgjaa
