/-
  The types of this seat's program, as far as its functions use them: size, bytes, zero, fields.
-/
import Derived.Test.YtjleadlkknnioaaPv16
import Derived.Test.YtjleadlkknnioaaProg
import Derived.KernelRfl
namespace Go.Proofs.Ytjleadlkknnioaa
open Go.Pv
theorem mixed : Try.prog.follows .mixedOrders = true := by kernel_rfl
theorem td3 : td Try.prog 3 = some { size := 1, bytes := 8, agg := false, strct := false, zero := some [.int .i64 0], fields := [], arr := none, slc := none, int := some .i64, isBool := false, isStr := false, eqg := false } := by kernel_rfl
theorem td4 : td Try.prog 4 = some { size := 1, bytes := 1, agg := false, strct := false, zero := some [.bool false], fields := [], arr := none, slc := none, int := none, isBool := true, isStr := false, eqg := false } := by kernel_rfl
theorem td9 : td Try.prog 9 = some { size := 1, bytes := 16, agg := false, strct := false, zero := some [.str ⟨#[]⟩], fields := [], arr := none, slc := none, int := none, isBool := false, isStr := true, eqg := false } := by kernel_rfl
theorem td19 : td Try.prog 19 = some { size := 1, bytes := 8, agg := true, strct := true, zero := some [.junk], fields := [some (0, 1, false)], arr := none, slc := none, int := none, isBool := false, isStr := false, eqg := false } := by kernel_rfl
theorem td23 : td Try.prog 23 = some { size := 2, bytes := 16, agg := true, strct := true, zero := some [.int .i64 0, .int .i64 0], fields := [some (0, 1, false), some (1, 1, false)], arr := none, slc := none, int := none, isBool := false, isStr := false, eqg := false } := by kernel_rfl
theorem td25 : td Try.prog 25 = some { size := 2, bytes := 2, agg := true, strct := true, zero := some [.bool false, .bool false], fields := [some (0, 1, false), some (1, 1, false)], arr := none, slc := none, int := none, isBool := false, isStr := false, eqg := false } := by kernel_rfl
theorem td29 : td Try.prog 29 = some { size := 4, bytes := 4, agg := true, strct := true, zero := some [.bool false, .bool false, .bool false, .bool false], fields := [some (0, 1, false), some (1, 1, false), some (2, 1, false), some (3, 1, false)], arr := none, slc := none, int := none, isBool := false, isStr := false, eqg := false } := by kernel_rfl
theorem td33 : td Try.prog 33 = some { size := 3, bytes := 24, agg := true, strct := true, zero := some [.int .i64 0, .int .i64 0, .int .i64 0], fields := [some (0, 1, false), some (1, 1, false), some (2, 1, false)], arr := none, slc := none, int := none, isBool := false, isStr := false, eqg := false } := by kernel_rfl
theorem td37 : td Try.prog 37 = some { size := 1, bytes := 24, agg := false, strct := false, zero := some [.nils], fields := [], arr := none, slc := some (29, 4), int := none, isBool := false, isStr := false, eqg := false } := by kernel_rfl
theorem td38 : td Try.prog 38 = some { size := 2, bytes := 16, agg := true, strct := false, zero := some [.int .i64 0, .int .i64 0], fields := [], arr := some (2, 1, false), slc := none, int := none, isBool := false, isStr := false, eqg := false } := by kernel_rfl
theorem td42 : td Try.prog 42 = some { size := 4, bytes := 32, agg := true, strct := true, zero := some [.int .i64 0, .int .i64 0, .int .i64 0, .int .i64 0], fields := [some (0, 1, false), some (1, 1, false), some (2, 1, false), some (3, 1, false)], arr := none, slc := none, int := none, isBool := false, isStr := false, eqg := false } := by kernel_rfl
theorem td46 : td Try.prog 46 = some { size := 4, bytes := 32, agg := true, strct := false, zero := some [.int .i64 0, .int .i64 0, .int .i64 0, .int .i64 0], fields := [], arr := some (2, 2, true), slc := none, int := none, isBool := false, isStr := false, eqg := false } := by kernel_rfl
theorem td47 : td Try.prog 47 = some { size := 2, bytes := 2, agg := true, strct := false, zero := some [.bool false, .bool false], fields := [], arr := some (2, 1, false), slc := none, int := none, isBool := false, isStr := false, eqg := false } := by kernel_rfl
theorem td48 : td Try.prog 48 = some { size := 8, bytes := 8, agg := true, strct := false, zero := some [.bool false, .bool false, .bool false, .bool false, .bool false, .bool false, .bool false, .bool false], fields := [], arr := some (2, 4, true), slc := none, int := none, isBool := false, isStr := false, eqg := false } := by kernel_rfl
attribute [simp] td3 td4 td9 td19 td23 td25 td29 td33 td37 td38 td42 td46 td47 td48 
theorem eq23 (x0 y0 : Int) (x1 y1 : Int) : eqV Try.prog 6 23 (.agg [.int .i64 x0, .int .i64 x1]) (.agg [.int .i64 y0, .int .i64 y1]) = some (ieq x0 y0 && (ieq x1 y1 && true)) := by kernel_rfl
theorem eq25 (x0 y0 : Bool) (x1 y1 : Bool) : eqV Try.prog 6 25 (.agg [.bool x0, .bool x1]) (.agg [.bool y0, .bool y1]) = some ((x0 == y0) && ((x1 == y1) && true)) := by kernel_rfl
theorem eq29 (x0 y0 : Bool) (x1 y1 : Bool) (x2 y2 : Bool) (x3 y3 : Bool) : eqV Try.prog 6 29 (.agg [.bool x0, .bool x1, .bool x2, .bool x3]) (.agg [.bool y0, .bool y1, .bool y2, .bool y3]) = some ((x0 == y0) && ((x1 == y1) && ((x2 == y2) && ((x3 == y3) && true)))) := by kernel_rfl
theorem eq33 (x0 y0 : Int) (x1 y1 : Int) (x2 y2 : Int) : eqV Try.prog 6 33 (.agg [.int .i64 x0, .int .i64 x1, .int .i64 x2]) (.agg [.int .i64 y0, .int .i64 y1, .int .i64 y2]) = some (ieq x0 y0 && (ieq x1 y1 && (ieq x2 y2 && true))) := by kernel_rfl
theorem eq38 (x0 y0 : Int) (x1 y1 : Int) : eqV Try.prog 6 38 (.agg [.int .i64 x0, .int .i64 x1]) (.agg [.int .i64 y0, .int .i64 y1]) = some (ieq x0 y0 && (ieq x1 y1 && true)) := by kernel_rfl
theorem eq42 (x0 y0 : Int) (x1 y1 : Int) (x2 y2 : Int) (x3 y3 : Int) : eqV Try.prog 6 42 (.agg [.int .i64 x0, .int .i64 x1, .int .i64 x2, .int .i64 x3]) (.agg [.int .i64 y0, .int .i64 y1, .int .i64 y2, .int .i64 y3]) = some (ieq x0 y0 && (ieq x1 y1 && (ieq x2 y2 && (ieq x3 y3 && true)))) := by kernel_rfl
theorem eq46 (x0 y0 : Int) (x1 y1 : Int) (x2 y2 : Int) (x3 y3 : Int) : eqV Try.prog 6 46 (.agg [.int .i64 x0, .int .i64 x1, .int .i64 x2, .int .i64 x3]) (.agg [.int .i64 y0, .int .i64 y1, .int .i64 y2, .int .i64 y3]) = some ((ieq x0 y0 && (ieq x1 y1 && true)) && ((ieq x2 y2 && (ieq x3 y3 && true)) && true)) := by kernel_rfl
theorem eq47 (x0 y0 : Bool) (x1 y1 : Bool) : eqV Try.prog 6 47 (.agg [.bool x0, .bool x1]) (.agg [.bool y0, .bool y1]) = some ((x0 == y0) && ((x1 == y1) && true)) := by kernel_rfl
theorem eq48 (x0 y0 : Bool) (x1 y1 : Bool) (x2 y2 : Bool) (x3 y3 : Bool) (x4 y4 : Bool) (x5 y5 : Bool) (x6 y6 : Bool) (x7 y7 : Bool) : eqV Try.prog 6 48 (.agg [.bool x0, .bool x1, .bool x2, .bool x3, .bool x4, .bool x5, .bool x6, .bool x7]) (.agg [.bool y0, .bool y1, .bool y2, .bool y3, .bool y4, .bool y5, .bool y6, .bool y7]) = some (((x0 == y0) && ((x1 == y1) && ((x2 == y2) && ((x3 == y3) && true)))) && (((x4 == y4) && ((x5 == y5) && ((x6 == y6) && ((x7 == y7) && true)))) && true)) := by kernel_rfl
attribute [simp] eq23 eq25 eq29 eq33 eq38 eq42 eq46 eq47 eq48
end Go.Proofs.Ytjleadlkknnioaa
