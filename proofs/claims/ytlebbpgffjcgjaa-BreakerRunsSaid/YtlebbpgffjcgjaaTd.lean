/-
  The types of this seat's program, as far as its functions use them: size, bytes, zero, fields.
-/
import Derived.Test.YtlebbpgffjcgjaaPv15
import Derived.Test.YtlebbpgffjcgjaaProg
import Derived.KernelRfl
namespace Go.Proofs.Ytlebbpgffjcgjaa
open Go.Pv
theorem td3 : td Try.prog 3 = some { size := 1, bytes := 8, agg := false, strct := false, zero := some [.int .i64 0], fields := [], arr := none, slc := none, int := some .i64, isBool := false, isStr := false, eqg := false } := by kernel_rfl
theorem td4 : td Try.prog 4 = some { size := 1, bytes := 1, agg := false, strct := false, zero := some [.bool false], fields := [], arr := none, slc := none, int := none, isBool := true, isStr := false, eqg := false } := by kernel_rfl
theorem td23 : td Try.prog 23 = some { size := 3, bytes := 24, agg := true, strct := true, zero := some [.bool false, .int .i64 0, .int .i64 0], fields := [some (0, 1, false), some (1, 1, false), some (2, 1, false)], arr := none, slc := none, int := none, isBool := false, isStr := false, eqg := false } := by kernel_rfl
theorem td25 : td Try.prog 25 = some { size := 2, bytes := 2, agg := true, strct := true, zero := some [.bool false, .bool false], fields := [some (0, 1, false), some (1, 1, false)], arr := none, slc := none, int := none, isBool := false, isStr := false, eqg := false } := by kernel_rfl
theorem td31 : td Try.prog 31 = some { size := 1, bytes := 24, agg := false, strct := false, zero := some [.nils], fields := [], arr := none, slc := some (4, 1), int := none, isBool := false, isStr := false, eqg := false } := by kernel_rfl
theorem td33 : td Try.prog 33 = some { size := 1, bytes := 24, agg := false, strct := false, zero := some [.nils], fields := [], arr := none, slc := some (36, 4), int := none, isBool := false, isStr := false, eqg := false } := by kernel_rfl
theorem td36 : td Try.prog 36 = some { size := 4, bytes := 24, agg := true, strct := true, zero := some [.bool false, .bool false, .int .i64 0, .bool false], fields := [some (0, 1, false), some (1, 1, false), some (2, 1, false), some (3, 1, false)], arr := none, slc := none, int := none, isBool := false, isStr := false, eqg := false } := by kernel_rfl
theorem td41 : td Try.prog 41 = some { size := 3, bytes := 3, agg := true, strct := true, zero := some [.bool false, .bool false, .bool false], fields := [some (0, 1, false), some (1, 1, false), some (2, 1, false)], arr := none, slc := none, int := none, isBool := false, isStr := false, eqg := false } := by kernel_rfl
theorem td44 : td Try.prog 44 = some { size := 5, bytes := 72, agg := true, strct := true, zero := some [.bool false, .int .i64 0, .bool false, .nils, .nils], fields := [some (0, 1, false), some (1, 1, false), some (2, 1, false), some (3, 1, false), some (4, 1, false)], arr := none, slc := none, int := none, isBool := false, isStr := false, eqg := false } := by kernel_rfl
theorem td47 : td Try.prog 47 = some { size := 3, bytes := 24, agg := true, strct := true, zero := some [.int .i64 0, .int .i64 0, .int .i64 0], fields := [some (0, 1, false), some (1, 1, false), some (2, 1, false)], arr := none, slc := none, int := none, isBool := false, isStr := false, eqg := false } := by kernel_rfl
end Go.Proofs.Ytlebbpgffjcgjaa
