/- PRINTED by facts.py (this session): a type's size, fields, zero; that a function can be called. -/
import Derived.Test.YtgbcjpdhmjikgaaDoorProg
import Derived.Test.YtgbcjpdhmjikgaaDoorEngM
import Derived.KernelRfl
namespace Go.Proofs.YtgbcjpdhmjikgaaDoor

@[simp] theorem tyP2 : tyP Tryd.prog 2 = some (1, false) := by kernel_rfl
@[simp] theorem zeroP2 : zeroP Tryd.prog 2 = some [.int .i64 0] := by kernel_rfl
@[simp] theorem tyP3 : tyP Tryd.prog 3 = some (1, false) := by kernel_rfl
@[simp] theorem zeroP3 : zeroP Tryd.prog 3 = some [.int .i64 0] := by kernel_rfl
@[simp] theorem tyP4 : tyP Tryd.prog 4 = some (1, false) := by kernel_rfl
@[simp] theorem zeroP4 : zeroP Tryd.prog 4 = some [.bool false] := by kernel_rfl
@[simp] theorem tyP5 : tyP Tryd.prog 5 = some (1, false) := by kernel_rfl
@[simp] theorem zeroP5 : zeroP Tryd.prog 5 = some [.int .u8 0] := by kernel_rfl
@[simp] theorem tyP6 : tyP Tryd.prog 6 = some (1, false) := by kernel_rfl
@[simp] theorem zeroP6 : zeroP Tryd.prog 6 = some [.int .u8 0] := by kernel_rfl
@[simp] theorem tyP7 : tyP Tryd.prog 7 = some (4, true) := by kernel_rfl
@[simp] theorem fldP7_0 : fldP Tryd.prog 7 0 = some (0, 1, false) := by kernel_rfl
@[simp] theorem fldP7_1 : fldP Tryd.prog 7 1 = some (1, 1, false) := by kernel_rfl
@[simp] theorem fldP7_2 : fldP Tryd.prog 7 2 = some (2, 1, false) := by kernel_rfl
@[simp] theorem fldP7_3 : fldP Tryd.prog 7 3 = some (3, 1, false) := by kernel_rfl
@[simp] theorem fldsP7 : fldsP Tryd.prog 7 = true := by kernel_rfl
@[simp] theorem zeroP7 : zeroP Tryd.prog 7 = some [.int .i64 0, .int .i64 0, .bool false, .int .u8 0] := by kernel_rfl
@[simp] theorem tyP8 : tyP Tryd.prog 8 = some (4, true) := by kernel_rfl
@[simp] theorem fldP8_0 : fldP Tryd.prog 8 0 = some (0, 1, false) := by kernel_rfl
@[simp] theorem fldP8_1 : fldP Tryd.prog 8 1 = some (1, 1, false) := by kernel_rfl
@[simp] theorem fldP8_2 : fldP Tryd.prog 8 2 = some (2, 1, false) := by kernel_rfl
@[simp] theorem fldP8_3 : fldP Tryd.prog 8 3 = some (3, 1, false) := by kernel_rfl
@[simp] theorem fldsP8 : fldsP Tryd.prog 8 = true := by kernel_rfl
@[simp] theorem zeroP8 : zeroP Tryd.prog 8 = some [.int .i64 0, .int .i64 0, .bool false, .int .u8 0] := by kernel_rfl
@[simp] theorem tyP9 : tyP Tryd.prog 9 = some (1, false) := by kernel_rfl
@[simp] theorem zeroP9 : zeroP Tryd.prog 9 = some [.str []] := by kernel_rfl
@[simp] theorem tyP10 : tyP Tryd.prog 10 = some (1, false) := by kernel_rfl
@[simp] theorem zeroP10 : zeroP Tryd.prog 10 = some [.str []] := by kernel_rfl
@[simp] theorem tyP11 : tyP Tryd.prog 11 = some (1, false) := by kernel_rfl
@[simp] theorem zeroP11 : zeroP Tryd.prog 11 = some [.str []] := by kernel_rfl
@[simp] theorem tyP12 : tyP Tryd.prog 12 = some (1, false) := by kernel_rfl
@[simp] theorem zeroP12 : zeroP Tryd.prog 12 = some [.int .u64 0] := by kernel_rfl
@[simp] theorem tyP13 : tyP Tryd.prog 13 = some (2, true) := by kernel_rfl
@[simp] theorem fldP13_0 : fldP Tryd.prog 13 0 = some (0, 1, false) := by kernel_rfl
@[simp] theorem fldP13_1 : fldP Tryd.prog 13 1 = some (1, 1, false) := by kernel_rfl
@[simp] theorem fldsP13 : fldsP Tryd.prog 13 = true := by kernel_rfl
@[simp] theorem zeroP13 : zeroP Tryd.prog 13 = some [.str [], .int .u64 0] := by kernel_rfl
@[simp] theorem tyP14 : tyP Tryd.prog 14 = some (2, true) := by kernel_rfl
@[simp] theorem fldP14_0 : fldP Tryd.prog 14 0 = some (0, 1, false) := by kernel_rfl
@[simp] theorem fldP14_1 : fldP Tryd.prog 14 1 = some (1, 1, false) := by kernel_rfl
@[simp] theorem fldsP14 : fldsP Tryd.prog 14 = true := by kernel_rfl
@[simp] theorem zeroP14 : zeroP Tryd.prog 14 = some [.str [], .int .u64 0] := by kernel_rfl
@[simp] theorem tyP15 : tyP Tryd.prog 15 = some (1, false) := by kernel_rfl
@[simp] theorem pointee15 : Tryd.prog.pointee 15 = 118 := by kernel_rfl
@[simp] theorem zeroP15 : zeroP Tryd.prog 15 = some [.nilp] := by kernel_rfl
@[simp] theorem tyP16 : tyP Tryd.prog 16 = some (1, false) := by kernel_rfl
@[simp] theorem pointee16 : Tryd.prog.pointee 16 = 121 := by kernel_rfl
@[simp] theorem zeroP16 : zeroP Tryd.prog 16 = some [.nilp] := by kernel_rfl
@[simp] theorem tyP17 : tyP Tryd.prog 17 = some (1, false) := by kernel_rfl
@[simp] theorem pointee17 : Tryd.prog.pointee 17 = 129 := by kernel_rfl
@[simp] theorem zeroP17 : zeroP Tryd.prog 17 = some [.nilp] := by kernel_rfl
@[simp] theorem tyP18 : tyP Tryd.prog 18 = some (1, true) := by kernel_rfl
@[simp] theorem fldP18_0 : fldP Tryd.prog 18 0 = some (0, 1, false) := by kernel_rfl
@[simp] theorem fldsP18 : fldsP Tryd.prog 18 = true := by kernel_rfl
@[simp] theorem zeroP18 : zeroP Tryd.prog 18 = some [.nilp] := by kernel_rfl
@[simp] theorem tyP19 : tyP Tryd.prog 19 = some (1, true) := by kernel_rfl
@[simp] theorem fldP19_0 : fldP Tryd.prog 19 0 = some (0, 1, false) := by kernel_rfl
@[simp] theorem fldsP19 : fldsP Tryd.prog 19 = true := by kernel_rfl
@[simp] theorem zeroP19 : zeroP Tryd.prog 19 = some [.nilp] := by kernel_rfl
@[simp] theorem tyP21 : tyP Tryd.prog 21 = some (1, false) := by kernel_rfl
@[simp] theorem zeroP21 : zeroP Tryd.prog 21 = some [.int .i32 0] := by kernel_rfl
@[simp] theorem tyP22 : tyP Tryd.prog 22 = some (1, false) := by kernel_rfl
@[simp] theorem elmP22 : elmP Tryd.prog 22 = some (41, 2, 16) := by kernel_rfl
@[simp] theorem zeroP22 : zeroP Tryd.prog 22 = some [.list []] := by kernel_rfl
@[simp] theorem tyP24 : tyP Tryd.prog 24 = some (1, false) := by kernel_rfl
@[simp] theorem pointee24 : Tryd.prog.pointee 24 = 73 := by kernel_rfl
@[simp] theorem zeroP24 : zeroP Tryd.prog 24 = some [.nilp] := by kernel_rfl
@[simp] theorem tyP25 : tyP Tryd.prog 25 = some (1, true) := by kernel_rfl
@[simp] theorem fldP25_0 : fldP Tryd.prog 25 0 = some (0, 1, false) := by kernel_rfl
@[simp] theorem fldsP25 : fldsP Tryd.prog 25 = true := by kernel_rfl
@[simp] theorem zeroP25 : zeroP Tryd.prog 25 = some [.nilp] := by kernel_rfl
@[simp] theorem tyP26 : tyP Tryd.prog 26 = some (1, true) := by kernel_rfl
@[simp] theorem fldP26_0 : fldP Tryd.prog 26 0 = some (0, 1, false) := by kernel_rfl
@[simp] theorem fldsP26 : fldsP Tryd.prog 26 = true := by kernel_rfl
@[simp] theorem zeroP26 : zeroP Tryd.prog 26 = some [.nilp] := by kernel_rfl
@[simp] theorem tyP34 : tyP Tryd.prog 34 = some (1, false) := by kernel_rfl
@[simp] theorem elmP34 : elmP Tryd.prog 34 = some (43, 6, 48) := by kernel_rfl
@[simp] theorem zeroP34 : zeroP Tryd.prog 34 = some [.list []] := by kernel_rfl
@[simp] theorem tyP36 : tyP Tryd.prog 36 = some (1, false) := by kernel_rfl
@[simp] theorem pointee36 : Tryd.prog.pointee 36 = 81 := by kernel_rfl
@[simp] theorem zeroP36 : zeroP Tryd.prog 36 = some [.nilp] := by kernel_rfl
@[simp] theorem tyP38 : tyP Tryd.prog 38 = some (1, false) := by kernel_rfl
@[simp] theorem elmP38 : elmP Tryd.prog 38 = some (26, 1, 8) := by kernel_rfl
@[simp] theorem zeroP38 : zeroP Tryd.prog 38 = some [.list []] := by kernel_rfl
@[simp] theorem tyP39 : tyP Tryd.prog 39 = some (1, false) := by kernel_rfl
@[simp] theorem elmP39 : elmP Tryd.prog 39 = some (22, 1, 24) := by kernel_rfl
@[simp] theorem zeroP39 : zeroP Tryd.prog 39 = some [.list []] := by kernel_rfl
@[simp] theorem tyP40 : tyP Tryd.prog 40 = some (2, true) := by kernel_rfl
@[simp] theorem fldP40_0 : fldP Tryd.prog 40 0 = some (0, 1, false) := by kernel_rfl
@[simp] theorem fldP40_1 : fldP Tryd.prog 40 1 = some (1, 1, false) := by kernel_rfl
@[simp] theorem fldsP40 : fldsP Tryd.prog 40 = true := by kernel_rfl
@[simp] theorem zeroP40 : zeroP Tryd.prog 40 = some [.int .i64 0, .int .i64 0] := by kernel_rfl
@[simp] theorem tyP41 : tyP Tryd.prog 41 = some (2, true) := by kernel_rfl
@[simp] theorem fldP41_0 : fldP Tryd.prog 41 0 = some (0, 1, false) := by kernel_rfl
@[simp] theorem fldP41_1 : fldP Tryd.prog 41 1 = some (1, 1, false) := by kernel_rfl
@[simp] theorem fldsP41 : fldsP Tryd.prog 41 = true := by kernel_rfl
@[simp] theorem zeroP41 : zeroP Tryd.prog 41 = some [.int .i64 0, .int .i64 0] := by kernel_rfl
@[simp] theorem tyP42 : tyP Tryd.prog 42 = some (6, true) := by kernel_rfl
@[simp] theorem fldP42_0 : fldP Tryd.prog 42 0 = some (0, 1, false) := by kernel_rfl
@[simp] theorem fldP42_1 : fldP Tryd.prog 42 1 = some (1, 1, false) := by kernel_rfl
@[simp] theorem fldP42_2 : fldP Tryd.prog 42 2 = some (2, 1, false) := by kernel_rfl
@[simp] theorem fldP42_3 : fldP Tryd.prog 42 3 = some (3, 2, true) := by kernel_rfl
@[simp] theorem fldP42_4 : fldP Tryd.prog 42 4 = some (5, 1, false) := by kernel_rfl
@[simp] theorem fldsP42 : fldsP Tryd.prog 42 = true := by kernel_rfl
@[simp] theorem zeroP42 : zeroP Tryd.prog 42 = some [.int .u8 0, .int .u8 0, .int .u8 0, .int .i64 0, .int .i64 0, .list []] := by kernel_rfl
@[simp] theorem tyP43 : tyP Tryd.prog 43 = some (6, true) := by kernel_rfl
@[simp] theorem fldP43_0 : fldP Tryd.prog 43 0 = some (0, 1, false) := by kernel_rfl
@[simp] theorem fldP43_1 : fldP Tryd.prog 43 1 = some (1, 1, false) := by kernel_rfl
@[simp] theorem fldP43_2 : fldP Tryd.prog 43 2 = some (2, 1, false) := by kernel_rfl
@[simp] theorem fldP43_3 : fldP Tryd.prog 43 3 = some (3, 2, true) := by kernel_rfl
@[simp] theorem fldP43_4 : fldP Tryd.prog 43 4 = some (5, 1, false) := by kernel_rfl
@[simp] theorem fldsP43 : fldsP Tryd.prog 43 = true := by kernel_rfl
@[simp] theorem zeroP43 : zeroP Tryd.prog 43 = some [.int .u8 0, .int .u8 0, .int .u8 0, .int .i64 0, .int .i64 0, .list []] := by kernel_rfl
@[simp] theorem tyP59 : tyP Tryd.prog 59 = some (1, false) := by kernel_rfl
@[simp] theorem elmP59 : elmP Tryd.prog 59 = some (61, 3, 40) := by kernel_rfl
@[simp] theorem zeroP59 : zeroP Tryd.prog 59 = some [.list []] := by kernel_rfl
@[simp] theorem tyP60 : tyP Tryd.prog 60 = some (3, true) := by kernel_rfl
@[simp] theorem fldP60_0 : fldP Tryd.prog 60 0 = some (0, 2, true) := by kernel_rfl
@[simp] theorem fldP60_1 : fldP Tryd.prog 60 1 = some (2, 1, false) := by kernel_rfl
@[simp] theorem fldsP60 : fldsP Tryd.prog 60 = true := by kernel_rfl
@[simp] theorem zeroP60 : zeroP Tryd.prog 60 = some [.int .i64 0, .int .i64 0, .list []] := by kernel_rfl
@[simp] theorem tyP61 : tyP Tryd.prog 61 = some (3, true) := by kernel_rfl
@[simp] theorem fldP61_0 : fldP Tryd.prog 61 0 = some (0, 2, true) := by kernel_rfl
@[simp] theorem fldP61_1 : fldP Tryd.prog 61 1 = some (2, 1, false) := by kernel_rfl
@[simp] theorem fldsP61 : fldsP Tryd.prog 61 = true := by kernel_rfl
@[simp] theorem zeroP61 : zeroP Tryd.prog 61 = some [.int .i64 0, .int .i64 0, .list []] := by kernel_rfl
@[simp] theorem tyP72 : tyP Tryd.prog 72 = some (6, true) := by kernel_rfl
@[simp] theorem fldP72_0 : fldP Tryd.prog 72 0 = some (0, 2, true) := by kernel_rfl
@[simp] theorem fldP72_1 : fldP Tryd.prog 72 1 = some (2, 1, true) := by kernel_rfl
@[simp] theorem fldP72_2 : fldP Tryd.prog 72 2 = some (3, 1, true) := by kernel_rfl
@[simp] theorem fldP72_3 : fldP Tryd.prog 72 3 = some (4, 1, false) := by kernel_rfl
@[simp] theorem fldP72_4 : fldP Tryd.prog 72 4 = some (5, 1, false) := by kernel_rfl
@[simp] theorem fldsP72 : fldsP Tryd.prog 72 = true := by kernel_rfl
@[simp] theorem zeroP72 : zeroP Tryd.prog 72 = some [.int .i64 0, .int .i64 0, .nilp, .nilp, .int .i64 0, .int .i64 0] := by kernel_rfl
@[simp] theorem tyP73 : tyP Tryd.prog 73 = some (6, true) := by kernel_rfl
@[simp] theorem fldP73_0 : fldP Tryd.prog 73 0 = some (0, 2, true) := by kernel_rfl
@[simp] theorem fldP73_1 : fldP Tryd.prog 73 1 = some (2, 1, true) := by kernel_rfl
@[simp] theorem fldP73_2 : fldP Tryd.prog 73 2 = some (3, 1, true) := by kernel_rfl
@[simp] theorem fldP73_3 : fldP Tryd.prog 73 3 = some (4, 1, false) := by kernel_rfl
@[simp] theorem fldP73_4 : fldP Tryd.prog 73 4 = some (5, 1, false) := by kernel_rfl
@[simp] theorem fldsP73 : fldsP Tryd.prog 73 = true := by kernel_rfl
@[simp] theorem zeroP73 : zeroP Tryd.prog 73 = some [.int .i64 0, .int .i64 0, .nilp, .nilp, .int .i64 0, .int .i64 0] := by kernel_rfl
@[simp] theorem tyP75 : tyP Tryd.prog 75 = some (0, true) := by kernel_rfl
@[simp] theorem fldsP75 : fldsP Tryd.prog 75 = true := by kernel_rfl
@[simp] theorem zeroP75 : zeroP Tryd.prog 75 = some [] := by kernel_rfl
@[simp] theorem tyP76 : tyP Tryd.prog 76 = some (0, true) := by kernel_rfl
@[simp] theorem fldsP76 : fldsP Tryd.prog 76 = true := by kernel_rfl
@[simp] theorem zeroP76 : zeroP Tryd.prog 76 = some [] := by kernel_rfl
@[simp] theorem tyP77 : tyP Tryd.prog 77 = some (0, true) := by kernel_rfl
@[simp] theorem fldsP77 : fldsP Tryd.prog 77 = true := by kernel_rfl
@[simp] theorem zeroP77 : zeroP Tryd.prog 77 = some [] := by kernel_rfl
@[simp] theorem tyP78 : tyP Tryd.prog 78 = some (1, true) := by kernel_rfl
@[simp] theorem fldP78_0 : fldP Tryd.prog 78 0 = some (0, 0, true) := by kernel_rfl
@[simp] theorem fldP78_1 : fldP Tryd.prog 78 1 = some (0, 0, true) := by kernel_rfl
@[simp] theorem fldP78_2 : fldP Tryd.prog 78 2 = some (0, 1, false) := by kernel_rfl
@[simp] theorem fldsP78 : fldsP Tryd.prog 78 = true := by kernel_rfl
@[simp] theorem zeroP78 : zeroP Tryd.prog 78 = some [.int .i64 0] := by kernel_rfl
@[simp] theorem tyP79 : tyP Tryd.prog 79 = some (1, true) := by kernel_rfl
@[simp] theorem fldP79_0 : fldP Tryd.prog 79 0 = some (0, 0, true) := by kernel_rfl
@[simp] theorem fldP79_1 : fldP Tryd.prog 79 1 = some (0, 0, true) := by kernel_rfl
@[simp] theorem fldP79_2 : fldP Tryd.prog 79 2 = some (0, 1, false) := by kernel_rfl
@[simp] theorem fldsP79 : fldsP Tryd.prog 79 = true := by kernel_rfl
@[simp] theorem zeroP79 : zeroP Tryd.prog 79 = some [.int .i64 0] := by kernel_rfl
@[simp] theorem tyP80 : tyP Tryd.prog 80 = some (2, true) := by kernel_rfl
@[simp] theorem fldP80_0 : fldP Tryd.prog 80 0 = some (0, 1, true) := by kernel_rfl
@[simp] theorem fldP80_1 : fldP Tryd.prog 80 1 = some (1, 1, true) := by kernel_rfl
@[simp] theorem fldsP80 : fldsP Tryd.prog 80 = true := by kernel_rfl
@[simp] theorem zeroP80 : zeroP Tryd.prog 80 = some [.int .i64 0, .int .i64 0] := by kernel_rfl
@[simp] theorem tyP81 : tyP Tryd.prog 81 = some (2, true) := by kernel_rfl
@[simp] theorem fldP81_0 : fldP Tryd.prog 81 0 = some (0, 1, true) := by kernel_rfl
@[simp] theorem fldP81_1 : fldP Tryd.prog 81 1 = some (1, 1, true) := by kernel_rfl
@[simp] theorem fldsP81 : fldsP Tryd.prog 81 = true := by kernel_rfl
@[simp] theorem zeroP81 : zeroP Tryd.prog 81 = some [.int .i64 0, .int .i64 0] := by kernel_rfl
@[simp] theorem tyP90 : tyP Tryd.prog 90 = some (1, false) := by kernel_rfl
@[simp] theorem pointee90 : Tryd.prog.pointee 90 = 79 := by kernel_rfl
@[simp] theorem zeroP90 : zeroP Tryd.prog 90 = some [.nilp] := by kernel_rfl
@[simp] theorem tyP92 : tyP Tryd.prog 92 = some (1, false) := by kernel_rfl
@[simp] theorem pointee92 : Tryd.prog.pointee 92 = 2 := by kernel_rfl
@[simp] theorem zeroP92 : zeroP Tryd.prog 92 = some [.nilp] := by kernel_rfl
@[simp] theorem tyP99 : tyP Tryd.prog 99 = some (1, false) := by kernel_rfl
@[simp] theorem zeroP99 : zeroP Tryd.prog 99 = some [.int .u64 0] := by kernel_rfl
@[simp] theorem tyP102 : tyP Tryd.prog 102 = some (1, false) := by kernel_rfl
@[simp] theorem elmP102 : elmP Tryd.prog 102 = some (5, 1, 1) := by kernel_rfl
@[simp] theorem zeroP102 : zeroP Tryd.prog 102 = some [.list []] := by kernel_rfl
@[simp] theorem tyP105 : tyP Tryd.prog 105 = some (1, false) := by kernel_rfl
@[simp] theorem elmP105 : elmP Tryd.prog 105 = some (3, 1, 8) := by kernel_rfl
@[simp] theorem zeroP105 : zeroP Tryd.prog 105 = some [.list []] := by kernel_rfl
@[simp] theorem tyP109 : tyP Tryd.prog 109 = some (1, false) := by kernel_rfl
@[simp] theorem zeroP109 : zeroP Tryd.prog 109 = some [.int .u32 0] := by kernel_rfl
@[simp] theorem tyP112 : tyP Tryd.prog 112 = some (1, false) := by kernel_rfl
@[simp] theorem zeroP112 : zeroP Tryd.prog 112 = some [.int .u64 0] := by kernel_rfl
theorem mixed : Tryd.prog.follows .mixedOrders = true := by kernel_rfl
end Go.Proofs.YtgbcjpdhmjikgaaDoor
