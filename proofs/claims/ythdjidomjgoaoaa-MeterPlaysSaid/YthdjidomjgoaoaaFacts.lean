/- PRINTED by facts.py (this session): a type's size, fields, zero; that a function can be called. -/
import Derived.Test.YthdjidomjgoaoaaProg
import Derived.Test.YthdjidomjgoaoaaEngM
import Derived.KernelRfl
namespace Go.Proofs.Ythdjidomjgoaoaa

@[simp] theorem tyP2 : tyP Try.prog 2 = some (1, false) := by kernel_rfl
@[simp] theorem zeroP2 : zeroP Try.prog 2 = some [.int .i64 0] := by kernel_rfl
@[simp] theorem tyP3 : tyP Try.prog 3 = some (1, false) := by kernel_rfl
@[simp] theorem zeroP3 : zeroP Try.prog 3 = some [.int .i64 0] := by kernel_rfl
@[simp] theorem tyP4 : tyP Try.prog 4 = some (1, false) := by kernel_rfl
@[simp] theorem zeroP4 : zeroP Try.prog 4 = some [.bool false] := by kernel_rfl
@[simp] theorem tyP5 : tyP Try.prog 5 = some (1, false) := by kernel_rfl
@[simp] theorem zeroP5 : zeroP Try.prog 5 = some [.int .u8 0] := by kernel_rfl
@[simp] theorem tyP6 : tyP Try.prog 6 = some (1, false) := by kernel_rfl
@[simp] theorem zeroP6 : zeroP Try.prog 6 = some [.int .u8 0] := by kernel_rfl
@[simp] theorem tyP7 : tyP Try.prog 7 = some (4, true) := by kernel_rfl
@[simp] theorem fldP7_0 : fldP Try.prog 7 0 = some (0, 1, false) := by kernel_rfl
@[simp] theorem fldP7_1 : fldP Try.prog 7 1 = some (1, 1, false) := by kernel_rfl
@[simp] theorem fldP7_2 : fldP Try.prog 7 2 = some (2, 1, false) := by kernel_rfl
@[simp] theorem fldP7_3 : fldP Try.prog 7 3 = some (3, 1, false) := by kernel_rfl
@[simp] theorem fldsP7 : fldsP Try.prog 7 = true := by kernel_rfl
@[simp] theorem zeroP7 : zeroP Try.prog 7 = some [.int .i64 0, .int .i64 0, .bool false, .int .u8 0] := by kernel_rfl
@[simp] theorem tyP8 : tyP Try.prog 8 = some (4, true) := by kernel_rfl
@[simp] theorem fldP8_0 : fldP Try.prog 8 0 = some (0, 1, false) := by kernel_rfl
@[simp] theorem fldP8_1 : fldP Try.prog 8 1 = some (1, 1, false) := by kernel_rfl
@[simp] theorem fldP8_2 : fldP Try.prog 8 2 = some (2, 1, false) := by kernel_rfl
@[simp] theorem fldP8_3 : fldP Try.prog 8 3 = some (3, 1, false) := by kernel_rfl
@[simp] theorem fldsP8 : fldsP Try.prog 8 = true := by kernel_rfl
@[simp] theorem zeroP8 : zeroP Try.prog 8 = some [.int .i64 0, .int .i64 0, .bool false, .int .u8 0] := by kernel_rfl
@[simp] theorem tyP9 : tyP Try.prog 9 = some (1, false) := by kernel_rfl
@[simp] theorem zeroP9 : zeroP Try.prog 9 = some [.str []] := by kernel_rfl
@[simp] theorem tyP10 : tyP Try.prog 10 = some (1, false) := by kernel_rfl
@[simp] theorem zeroP10 : zeroP Try.prog 10 = some [.str []] := by kernel_rfl
@[simp] theorem tyP11 : tyP Try.prog 11 = some (1, false) := by kernel_rfl
@[simp] theorem zeroP11 : zeroP Try.prog 11 = some [.str []] := by kernel_rfl
@[simp] theorem tyP12 : tyP Try.prog 12 = some (1, false) := by kernel_rfl
@[simp] theorem zeroP12 : zeroP Try.prog 12 = some [.int .u64 0] := by kernel_rfl
@[simp] theorem tyP13 : tyP Try.prog 13 = some (2, true) := by kernel_rfl
@[simp] theorem fldP13_0 : fldP Try.prog 13 0 = some (0, 1, false) := by kernel_rfl
@[simp] theorem fldP13_1 : fldP Try.prog 13 1 = some (1, 1, false) := by kernel_rfl
@[simp] theorem fldsP13 : fldsP Try.prog 13 = true := by kernel_rfl
@[simp] theorem zeroP13 : zeroP Try.prog 13 = some [.str [], .int .u64 0] := by kernel_rfl
@[simp] theorem tyP14 : tyP Try.prog 14 = some (2, true) := by kernel_rfl
@[simp] theorem fldP14_0 : fldP Try.prog 14 0 = some (0, 1, false) := by kernel_rfl
@[simp] theorem fldP14_1 : fldP Try.prog 14 1 = some (1, 1, false) := by kernel_rfl
@[simp] theorem fldsP14 : fldsP Try.prog 14 = true := by kernel_rfl
@[simp] theorem zeroP14 : zeroP Try.prog 14 = some [.str [], .int .u64 0] := by kernel_rfl
@[simp] theorem tyP15 : tyP Try.prog 15 = some (1, false) := by kernel_rfl
@[simp] theorem pointee15 : Try.prog.pointee 15 = 62 := by kernel_rfl
@[simp] theorem zeroP15 : zeroP Try.prog 15 = some [.nilp] := by kernel_rfl
@[simp] theorem tyP16 : tyP Try.prog 16 = some (1, false) := by kernel_rfl
@[simp] theorem pointee16 : Try.prog.pointee 16 = 65 := by kernel_rfl
@[simp] theorem zeroP16 : zeroP Try.prog 16 = some [.nilp] := by kernel_rfl
@[simp] theorem tyP17 : tyP Try.prog 17 = some (1, false) := by kernel_rfl
@[simp] theorem pointee17 : Try.prog.pointee 17 = 74 := by kernel_rfl
@[simp] theorem zeroP17 : zeroP Try.prog 17 = some [.nilp] := by kernel_rfl
@[simp] theorem tyP18 : tyP Try.prog 18 = some (1, true) := by kernel_rfl
@[simp] theorem fldP18_0 : fldP Try.prog 18 0 = some (0, 1, false) := by kernel_rfl
@[simp] theorem fldsP18 : fldsP Try.prog 18 = true := by kernel_rfl
@[simp] theorem zeroP18 : zeroP Try.prog 18 = some [.nilp] := by kernel_rfl
@[simp] theorem tyP19 : tyP Try.prog 19 = some (1, true) := by kernel_rfl
@[simp] theorem fldP19_0 : fldP Try.prog 19 0 = some (0, 1, false) := by kernel_rfl
@[simp] theorem fldsP19 : fldsP Try.prog 19 = true := by kernel_rfl
@[simp] theorem zeroP19 : zeroP Try.prog 19 = some [.nilp] := by kernel_rfl
@[simp] theorem tyP21 : tyP Try.prog 21 = some (1, false) := by kernel_rfl
@[simp] theorem zeroP21 : zeroP Try.prog 21 = some [.int .i32 0] := by kernel_rfl
@[simp] theorem tyP22 : tyP Try.prog 22 = some (1, false) := by kernel_rfl
@[simp] theorem elmP22 : elmP Try.prog 22 = some (31, 5, 40) := by kernel_rfl
@[simp] theorem zeroP22 : zeroP Try.prog 22 = some [.list []] := by kernel_rfl
@[simp] theorem tyP24 : tyP Try.prog 24 = some (1, false) := by kernel_rfl
@[simp] theorem pointee24 : Try.prog.pointee 24 = 48 := by kernel_rfl
@[simp] theorem zeroP24 : zeroP Try.prog 24 = some [.nilp] := by kernel_rfl
@[simp] theorem tyP26 : tyP Try.prog 26 = some (2, true) := by kernel_rfl
@[simp] theorem fldP26_0 : fldP Try.prog 26 0 = some (0, 1, false) := by kernel_rfl
@[simp] theorem fldP26_1 : fldP Try.prog 26 1 = some (1, 1, false) := by kernel_rfl
@[simp] theorem fldsP26 : fldsP Try.prog 26 = true := by kernel_rfl
@[simp] theorem zeroP26 : zeroP Try.prog 26 = some [.int .i64 0, .int .i64 0] := by kernel_rfl
@[simp] theorem tyP27 : tyP Try.prog 27 = some (2, true) := by kernel_rfl
@[simp] theorem fldP27_0 : fldP Try.prog 27 0 = some (0, 1, false) := by kernel_rfl
@[simp] theorem fldP27_1 : fldP Try.prog 27 1 = some (1, 1, false) := by kernel_rfl
@[simp] theorem fldsP27 : fldsP Try.prog 27 = true := by kernel_rfl
@[simp] theorem zeroP27 : zeroP Try.prog 27 = some [.int .i64 0, .int .i64 0] := by kernel_rfl
@[simp] theorem tyP28 : tyP Try.prog 28 = some (2, true) := by kernel_rfl
@[simp] theorem fldP28_0 : fldP Try.prog 28 0 = some (0, 1, false) := by kernel_rfl
@[simp] theorem fldP28_1 : fldP Try.prog 28 1 = some (1, 1, false) := by kernel_rfl
@[simp] theorem fldsP28 : fldsP Try.prog 28 = true := by kernel_rfl
@[simp] theorem zeroP28 : zeroP Try.prog 28 = some [.int .i64 0, .int .i64 0] := by kernel_rfl
@[simp] theorem tyP29 : tyP Try.prog 29 = some (2, true) := by kernel_rfl
@[simp] theorem fldP29_0 : fldP Try.prog 29 0 = some (0, 1, false) := by kernel_rfl
@[simp] theorem fldP29_1 : fldP Try.prog 29 1 = some (1, 1, false) := by kernel_rfl
@[simp] theorem fldsP29 : fldsP Try.prog 29 = true := by kernel_rfl
@[simp] theorem zeroP29 : zeroP Try.prog 29 = some [.int .i64 0, .int .i64 0] := by kernel_rfl
@[simp] theorem tyP30 : tyP Try.prog 30 = some (5, true) := by kernel_rfl
@[simp] theorem fldP30_0 : fldP Try.prog 30 0 = some (0, 2, true) := by kernel_rfl
@[simp] theorem fldP30_1 : fldP Try.prog 30 1 = some (2, 2, true) := by kernel_rfl
@[simp] theorem fldP30_2 : fldP Try.prog 30 2 = some (4, 1, false) := by kernel_rfl
@[simp] theorem fldsP30 : fldsP Try.prog 30 = true := by kernel_rfl
@[simp] theorem zeroP30 : zeroP Try.prog 30 = some [.int .i64 0, .int .i64 0, .int .i64 0, .int .i64 0, .int .i64 0] := by kernel_rfl
@[simp] theorem tyP31 : tyP Try.prog 31 = some (5, true) := by kernel_rfl
@[simp] theorem fldP31_0 : fldP Try.prog 31 0 = some (0, 2, true) := by kernel_rfl
@[simp] theorem fldP31_1 : fldP Try.prog 31 1 = some (2, 2, true) := by kernel_rfl
@[simp] theorem fldP31_2 : fldP Try.prog 31 2 = some (4, 1, false) := by kernel_rfl
@[simp] theorem fldsP31 : fldsP Try.prog 31 = true := by kernel_rfl
@[simp] theorem zeroP31 : zeroP Try.prog 31 = some [.int .i64 0, .int .i64 0, .int .i64 0, .int .i64 0, .int .i64 0] := by kernel_rfl
@[simp] theorem tyP42 : tyP Try.prog 42 = some (0, true) := by kernel_rfl
@[simp] theorem fldsP42 : fldsP Try.prog 42 = true := by kernel_rfl
@[simp] theorem zeroP42 : zeroP Try.prog 42 = some [] := by kernel_rfl
@[simp] theorem tyP43 : tyP Try.prog 43 = some (0, true) := by kernel_rfl
@[simp] theorem fldsP43 : fldsP Try.prog 43 = true := by kernel_rfl
@[simp] theorem zeroP43 : zeroP Try.prog 43 = some [] := by kernel_rfl
@[simp] theorem tyP44 : tyP Try.prog 44 = some (0, true) := by kernel_rfl
@[simp] theorem fldsP44 : fldsP Try.prog 44 = true := by kernel_rfl
@[simp] theorem zeroP44 : zeroP Try.prog 44 = some [] := by kernel_rfl
@[simp] theorem tyP45 : tyP Try.prog 45 = some (1, true) := by kernel_rfl
@[simp] theorem fldP45_0 : fldP Try.prog 45 0 = some (0, 0, true) := by kernel_rfl
@[simp] theorem fldP45_1 : fldP Try.prog 45 1 = some (0, 0, true) := by kernel_rfl
@[simp] theorem fldP45_2 : fldP Try.prog 45 2 = some (0, 1, false) := by kernel_rfl
@[simp] theorem fldsP45 : fldsP Try.prog 45 = true := by kernel_rfl
@[simp] theorem zeroP45 : zeroP Try.prog 45 = some [.int .i64 0] := by kernel_rfl
@[simp] theorem tyP46 : tyP Try.prog 46 = some (1, true) := by kernel_rfl
@[simp] theorem fldP46_0 : fldP Try.prog 46 0 = some (0, 0, true) := by kernel_rfl
@[simp] theorem fldP46_1 : fldP Try.prog 46 1 = some (0, 0, true) := by kernel_rfl
@[simp] theorem fldP46_2 : fldP Try.prog 46 2 = some (0, 1, false) := by kernel_rfl
@[simp] theorem fldsP46 : fldsP Try.prog 46 = true := by kernel_rfl
@[simp] theorem zeroP46 : zeroP Try.prog 46 = some [.int .i64 0] := by kernel_rfl
@[simp] theorem tyP47 : tyP Try.prog 47 = some (2, true) := by kernel_rfl
@[simp] theorem fldP47_0 : fldP Try.prog 47 0 = some (0, 1, true) := by kernel_rfl
@[simp] theorem fldP47_1 : fldP Try.prog 47 1 = some (1, 1, true) := by kernel_rfl
@[simp] theorem fldsP47 : fldsP Try.prog 47 = true := by kernel_rfl
@[simp] theorem zeroP47 : zeroP Try.prog 47 = some [.int .i64 0, .int .i64 0] := by kernel_rfl
@[simp] theorem tyP48 : tyP Try.prog 48 = some (2, true) := by kernel_rfl
@[simp] theorem fldP48_0 : fldP Try.prog 48 0 = some (0, 1, true) := by kernel_rfl
@[simp] theorem fldP48_1 : fldP Try.prog 48 1 = some (1, 1, true) := by kernel_rfl
@[simp] theorem fldsP48 : fldsP Try.prog 48 = true := by kernel_rfl
@[simp] theorem zeroP48 : zeroP Try.prog 48 = some [.int .i64 0, .int .i64 0] := by kernel_rfl
@[simp] theorem tyP51 : tyP Try.prog 51 = some (1, false) := by kernel_rfl
@[simp] theorem pointee51 : Try.prog.pointee 51 = 46 := by kernel_rfl
@[simp] theorem zeroP51 : zeroP Try.prog 51 = some [.nilp] := by kernel_rfl
@[simp] theorem tyP53 : tyP Try.prog 53 = some (1, false) := by kernel_rfl
@[simp] theorem pointee53 : Try.prog.pointee 53 = 2 := by kernel_rfl
@[simp] theorem zeroP53 : zeroP Try.prog 53 = some [.nilp] := by kernel_rfl
@[simp] theorem tyP58 : tyP Try.prog 58 = some (1, false) := by kernel_rfl
@[simp] theorem elmP58 : elmP Try.prog 58 = some (3, 1, 8) := by kernel_rfl
@[simp] theorem zeroP58 : zeroP Try.prog 58 = some [.list []] := by kernel_rfl
theorem mixed : Try.prog.follows .mixedOrders = true := by kernel_rfl
end Go.Proofs.Ythdjidomjgoaoaa
