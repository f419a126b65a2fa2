/- PRINTED by facts.py (this session): a type's size, fields, zero; that a function can be called. -/
import Derived.Test.YtbekdlgkoleblaaDoorProg
import Derived.Test.YtbekdlgkoleblaaDoorEngM
import Derived.KernelRfl
namespace Go.Proofs.YtbekdlgkoleblaaDoor

@[simp] theorem tyP2 : tyP Tryd.prog 2 = some (1, false) := by kernel_rfl
@[simp] theorem plainT2 : plainT Tryd.prog 2 = true := by kernel_rfl
@[simp] theorem zeroP2 : zeroP Tryd.prog 2 = some [.int .i64 0] := by kernel_rfl
@[simp] theorem tyP3 : tyP Tryd.prog 3 = some (1, false) := by kernel_rfl
@[simp] theorem plainT3 : plainT Tryd.prog 3 = true := by kernel_rfl
@[simp] theorem zeroP3 : zeroP Tryd.prog 3 = some [.int .i64 0] := by kernel_rfl
@[simp] theorem tyP4 : tyP Tryd.prog 4 = some (1, false) := by kernel_rfl
@[simp] theorem plainT4 : plainT Tryd.prog 4 = true := by kernel_rfl
@[simp] theorem zeroP4 : zeroP Tryd.prog 4 = some [.bool false] := by kernel_rfl
@[simp] theorem tyP5 : tyP Tryd.prog 5 = some (1, false) := by kernel_rfl
@[simp] theorem plainT5 : plainT Tryd.prog 5 = true := by kernel_rfl
@[simp] theorem zeroP5 : zeroP Tryd.prog 5 = some [.int .u8 0] := by kernel_rfl
@[simp] theorem tyP6 : tyP Tryd.prog 6 = some (1, false) := by kernel_rfl
@[simp] theorem plainT6 : plainT Tryd.prog 6 = true := by kernel_rfl
@[simp] theorem zeroP6 : zeroP Tryd.prog 6 = some [.int .u8 0] := by kernel_rfl
@[simp] theorem tyP7 : tyP Tryd.prog 7 = some (4, true) := by kernel_rfl
@[simp] theorem fldP7_0 : fldP Tryd.prog 7 0 = some (0, 1, false) := by kernel_rfl
@[simp] theorem fldP7_1 : fldP Tryd.prog 7 1 = some (1, 1, false) := by kernel_rfl
@[simp] theorem fldP7_2 : fldP Tryd.prog 7 2 = some (2, 1, false) := by kernel_rfl
@[simp] theorem fldP7_3 : fldP Tryd.prog 7 3 = some (3, 1, false) := by kernel_rfl
@[simp] theorem fldsP7 : fldsP Tryd.prog 7 = true := by kernel_rfl
@[simp] theorem plainT7 : plainT Tryd.prog 7 = true := by kernel_rfl
@[simp] theorem zeroP7 : zeroP Tryd.prog 7 = some [.int .i64 0, .int .i64 0, .bool false, .int .u8 0] := by kernel_rfl
@[simp] theorem tyP8 : tyP Tryd.prog 8 = some (4, true) := by kernel_rfl
@[simp] theorem fldP8_0 : fldP Tryd.prog 8 0 = some (0, 1, false) := by kernel_rfl
@[simp] theorem fldP8_1 : fldP Tryd.prog 8 1 = some (1, 1, false) := by kernel_rfl
@[simp] theorem fldP8_2 : fldP Tryd.prog 8 2 = some (2, 1, false) := by kernel_rfl
@[simp] theorem fldP8_3 : fldP Tryd.prog 8 3 = some (3, 1, false) := by kernel_rfl
@[simp] theorem fldsP8 : fldsP Tryd.prog 8 = true := by kernel_rfl
@[simp] theorem plainT8 : plainT Tryd.prog 8 = true := by kernel_rfl
@[simp] theorem zeroP8 : zeroP Tryd.prog 8 = some [.int .i64 0, .int .i64 0, .bool false, .int .u8 0] := by kernel_rfl
@[simp] theorem tyP9 : tyP Tryd.prog 9 = some (1, false) := by kernel_rfl
@[simp] theorem plainT9 : plainT Tryd.prog 9 = true := by kernel_rfl
@[simp] theorem zeroP9 : zeroP Tryd.prog 9 = some [.str []] := by kernel_rfl
@[simp] theorem tyP10 : tyP Tryd.prog 10 = some (1, false) := by kernel_rfl
@[simp] theorem plainT10 : plainT Tryd.prog 10 = true := by kernel_rfl
@[simp] theorem zeroP10 : zeroP Tryd.prog 10 = some [.str []] := by kernel_rfl
@[simp] theorem tyP11 : tyP Tryd.prog 11 = some (1, false) := by kernel_rfl
@[simp] theorem plainT11 : plainT Tryd.prog 11 = true := by kernel_rfl
@[simp] theorem zeroP11 : zeroP Tryd.prog 11 = some [.str []] := by kernel_rfl
@[simp] theorem tyP12 : tyP Tryd.prog 12 = some (1, false) := by kernel_rfl
@[simp] theorem plainT12 : plainT Tryd.prog 12 = true := by kernel_rfl
@[simp] theorem zeroP12 : zeroP Tryd.prog 12 = some [.int .u64 0] := by kernel_rfl
@[simp] theorem tyP13 : tyP Tryd.prog 13 = some (2, true) := by kernel_rfl
@[simp] theorem fldP13_0 : fldP Tryd.prog 13 0 = some (0, 1, false) := by kernel_rfl
@[simp] theorem fldP13_1 : fldP Tryd.prog 13 1 = some (1, 1, false) := by kernel_rfl
@[simp] theorem fldsP13 : fldsP Tryd.prog 13 = true := by kernel_rfl
@[simp] theorem plainT13 : plainT Tryd.prog 13 = true := by kernel_rfl
@[simp] theorem zeroP13 : zeroP Tryd.prog 13 = some [.str [], .int .u64 0] := by kernel_rfl
@[simp] theorem tyP14 : tyP Tryd.prog 14 = some (2, true) := by kernel_rfl
@[simp] theorem fldP14_0 : fldP Tryd.prog 14 0 = some (0, 1, false) := by kernel_rfl
@[simp] theorem fldP14_1 : fldP Tryd.prog 14 1 = some (1, 1, false) := by kernel_rfl
@[simp] theorem fldsP14 : fldsP Tryd.prog 14 = true := by kernel_rfl
@[simp] theorem plainT14 : plainT Tryd.prog 14 = true := by kernel_rfl
@[simp] theorem zeroP14 : zeroP Tryd.prog 14 = some [.str [], .int .u64 0] := by kernel_rfl
@[simp] theorem tyP15 : tyP Tryd.prog 15 = some (1, false) := by kernel_rfl
@[simp] theorem pointee15 : Tryd.prog.pointee 15 = 126 := by kernel_rfl
@[simp] theorem plainT15 : plainT Tryd.prog 15 = true := by kernel_rfl
@[simp] theorem zeroP15 : zeroP Tryd.prog 15 = some [.nilp] := by kernel_rfl
@[simp] theorem tyP16 : tyP Tryd.prog 16 = some (1, false) := by kernel_rfl
@[simp] theorem pointee16 : Tryd.prog.pointee 16 = 129 := by kernel_rfl
@[simp] theorem plainT16 : plainT Tryd.prog 16 = true := by kernel_rfl
@[simp] theorem zeroP16 : zeroP Tryd.prog 16 = some [.nilp] := by kernel_rfl
@[simp] theorem tyP17 : tyP Tryd.prog 17 = some (1, false) := by kernel_rfl
@[simp] theorem pointee17 : Tryd.prog.pointee 17 = 137 := by kernel_rfl
@[simp] theorem plainT17 : plainT Tryd.prog 17 = true := by kernel_rfl
@[simp] theorem zeroP17 : zeroP Tryd.prog 17 = some [.nilp] := by kernel_rfl
@[simp] theorem tyP18 : tyP Tryd.prog 18 = some (1, true) := by kernel_rfl
@[simp] theorem fldP18_0 : fldP Tryd.prog 18 0 = some (0, 1, false) := by kernel_rfl
@[simp] theorem fldsP18 : fldsP Tryd.prog 18 = true := by kernel_rfl
@[simp] theorem plainT18 : plainT Tryd.prog 18 = true := by kernel_rfl
@[simp] theorem zeroP18 : zeroP Tryd.prog 18 = some [.nilp] := by kernel_rfl
@[simp] theorem tyP19 : tyP Tryd.prog 19 = some (1, true) := by kernel_rfl
@[simp] theorem fldP19_0 : fldP Tryd.prog 19 0 = some (0, 1, false) := by kernel_rfl
@[simp] theorem fldsP19 : fldsP Tryd.prog 19 = true := by kernel_rfl
@[simp] theorem plainT19 : plainT Tryd.prog 19 = true := by kernel_rfl
@[simp] theorem zeroP19 : zeroP Tryd.prog 19 = some [.nilp] := by kernel_rfl
@[simp] theorem tyP21 : tyP Tryd.prog 21 = some (1, false) := by kernel_rfl
@[simp] theorem plainT21 : plainT Tryd.prog 21 = true := by kernel_rfl
@[simp] theorem zeroP21 : zeroP Tryd.prog 21 = some [.int .i32 0] := by kernel_rfl
@[simp] theorem tyP22 : tyP Tryd.prog 22 = some (1, false) := by kernel_rfl
@[simp] theorem elmP22 : elmP Tryd.prog 22 = some (29, 2, 16) := by kernel_rfl
@[simp] theorem plainT22 : plainT Tryd.prog 22 = true := by kernel_rfl
@[simp] theorem zeroP22 : zeroP Tryd.prog 22 = some [.list []] := by kernel_rfl
@[simp] theorem tyP23 : tyP Tryd.prog 23 = some (1, false) := by kernel_rfl
@[simp] theorem elmP23 : elmP Tryd.prog 23 = some (4, 1, 1) := by kernel_rfl
@[simp] theorem plainT23 : plainT Tryd.prog 23 = true := by kernel_rfl
@[simp] theorem zeroP23 : zeroP Tryd.prog 23 = some [.list []] := by kernel_rfl
@[simp] theorem tyP25 : tyP Tryd.prog 25 = some (1, false) := by kernel_rfl
@[simp] theorem elmP25 : elmP Tryd.prog 25 = some (26, 1, 8) := by kernel_rfl
@[simp] theorem plainT25 : plainT Tryd.prog 25 = true := by kernel_rfl
@[simp] theorem zeroP25 : zeroP Tryd.prog 25 = some [.list []] := by kernel_rfl
@[simp] theorem tyP26 : tyP Tryd.prog 26 = some (1, false) := by kernel_rfl
@[simp] theorem pointee26 : Tryd.prog.pointee 26 = 64 := by kernel_rfl
@[simp] theorem plainT26 : plainT Tryd.prog 26 = true := by kernel_rfl
@[simp] theorem zeroP26 : zeroP Tryd.prog 26 = some [.nilp] := by kernel_rfl
@[simp] theorem tyP28 : tyP Tryd.prog 28 = some (2, true) := by kernel_rfl
@[simp] theorem fldP28_0 : fldP Tryd.prog 28 0 = some (0, 1, false) := by kernel_rfl
@[simp] theorem fldP28_1 : fldP Tryd.prog 28 1 = some (1, 1, false) := by kernel_rfl
@[simp] theorem fldsP28 : fldsP Tryd.prog 28 = true := by kernel_rfl
@[simp] theorem plainT28 : plainT Tryd.prog 28 = true := by kernel_rfl
@[simp] theorem zeroP28 : zeroP Tryd.prog 28 = some [.int .i64 0, .int .i64 0] := by kernel_rfl
@[simp] theorem tyP29 : tyP Tryd.prog 29 = some (2, true) := by kernel_rfl
@[simp] theorem fldP29_0 : fldP Tryd.prog 29 0 = some (0, 1, false) := by kernel_rfl
@[simp] theorem fldP29_1 : fldP Tryd.prog 29 1 = some (1, 1, false) := by kernel_rfl
@[simp] theorem fldsP29 : fldsP Tryd.prog 29 = true := by kernel_rfl
@[simp] theorem plainT29 : plainT Tryd.prog 29 = true := by kernel_rfl
@[simp] theorem zeroP29 : zeroP Tryd.prog 29 = some [.int .i64 0, .int .i64 0] := by kernel_rfl
@[simp] theorem tyP41 : tyP Tryd.prog 41 = some (1, false) := by kernel_rfl
@[simp] theorem elmP41 : elmP Tryd.prog 41 = some (48, 5, 24) := by kernel_rfl
@[simp] theorem plainT41 : plainT Tryd.prog 41 = true := by kernel_rfl
@[simp] theorem zeroP41 : zeroP Tryd.prog 41 = some [.list []] := by kernel_rfl
@[simp] theorem tyP42 : tyP Tryd.prog 42 = some (1, false) := by kernel_rfl
@[simp] theorem pointee42 : Tryd.prog.pointee 42 = 77 := by kernel_rfl
@[simp] theorem plainT42 : plainT Tryd.prog 42 = true := by kernel_rfl
@[simp] theorem zeroP42 : zeroP Tryd.prog 42 = some [.nilp] := by kernel_rfl
@[simp] theorem tyP44 : tyP Tryd.prog 44 = some (1, false) := by kernel_rfl
@[simp] theorem elmP44 : elmP Tryd.prog 44 = some (46, 6, 80) := by kernel_rfl
@[simp] theorem plainT44 : plainT Tryd.prog 44 = true := by kernel_rfl
@[simp] theorem zeroP44 : zeroP Tryd.prog 44 = some [.list []] := by kernel_rfl
@[simp] theorem tyP45 : tyP Tryd.prog 45 = some (6, true) := by kernel_rfl
@[simp] theorem fldP45_0 : fldP Tryd.prog 45 0 = some (0, 1, false) := by kernel_rfl
@[simp] theorem fldP45_1 : fldP Tryd.prog 45 1 = some (1, 2, true) := by kernel_rfl
@[simp] theorem fldP45_2 : fldP Tryd.prog 45 2 = some (3, 1, false) := by kernel_rfl
@[simp] theorem fldP45_3 : fldP Tryd.prog 45 3 = some (4, 1, false) := by kernel_rfl
@[simp] theorem fldP45_4 : fldP Tryd.prog 45 4 = some (5, 1, false) := by kernel_rfl
@[simp] theorem fldsP45 : fldsP Tryd.prog 45 = true := by kernel_rfl
@[simp] theorem plainT45 : plainT Tryd.prog 45 = true := by kernel_rfl
@[simp] theorem zeroP45 : zeroP Tryd.prog 45 = some [.int .i64 0, .int .i64 0, .int .i64 0, .list [], .list [], .int .i64 0] := by kernel_rfl
@[simp] theorem tyP46 : tyP Tryd.prog 46 = some (6, true) := by kernel_rfl
@[simp] theorem fldP46_0 : fldP Tryd.prog 46 0 = some (0, 1, false) := by kernel_rfl
@[simp] theorem fldP46_1 : fldP Tryd.prog 46 1 = some (1, 2, true) := by kernel_rfl
@[simp] theorem fldP46_2 : fldP Tryd.prog 46 2 = some (3, 1, false) := by kernel_rfl
@[simp] theorem fldP46_3 : fldP Tryd.prog 46 3 = some (4, 1, false) := by kernel_rfl
@[simp] theorem fldP46_4 : fldP Tryd.prog 46 4 = some (5, 1, false) := by kernel_rfl
@[simp] theorem fldsP46 : fldsP Tryd.prog 46 = true := by kernel_rfl
@[simp] theorem plainT46 : plainT Tryd.prog 46 = true := by kernel_rfl
@[simp] theorem zeroP46 : zeroP Tryd.prog 46 = some [.int .i64 0, .int .i64 0, .int .i64 0, .list [], .list [], .int .i64 0] := by kernel_rfl
@[simp] theorem tyP47 : tyP Tryd.prog 47 = some (5, true) := by kernel_rfl
@[simp] theorem fldP47_0 : fldP Tryd.prog 47 0 = some (0, 1, false) := by kernel_rfl
@[simp] theorem fldP47_1 : fldP Tryd.prog 47 1 = some (1, 1, false) := by kernel_rfl
@[simp] theorem fldP47_2 : fldP Tryd.prog 47 2 = some (2, 1, false) := by kernel_rfl
@[simp] theorem fldP47_3 : fldP Tryd.prog 47 3 = some (3, 2, true) := by kernel_rfl
@[simp] theorem fldsP47 : fldsP Tryd.prog 47 = true := by kernel_rfl
@[simp] theorem plainT47 : plainT Tryd.prog 47 = true := by kernel_rfl
@[simp] theorem zeroP47 : zeroP Tryd.prog 47 = some [.int .u8 0, .int .u8 0, .int .u8 0, .int .i64 0, .int .i64 0] := by kernel_rfl
@[simp] theorem tyP48 : tyP Tryd.prog 48 = some (5, true) := by kernel_rfl
@[simp] theorem fldP48_0 : fldP Tryd.prog 48 0 = some (0, 1, false) := by kernel_rfl
@[simp] theorem fldP48_1 : fldP Tryd.prog 48 1 = some (1, 1, false) := by kernel_rfl
@[simp] theorem fldP48_2 : fldP Tryd.prog 48 2 = some (2, 1, false) := by kernel_rfl
@[simp] theorem fldP48_3 : fldP Tryd.prog 48 3 = some (3, 2, true) := by kernel_rfl
@[simp] theorem fldsP48 : fldsP Tryd.prog 48 = true := by kernel_rfl
@[simp] theorem plainT48 : plainT Tryd.prog 48 = true := by kernel_rfl
@[simp] theorem zeroP48 : zeroP Tryd.prog 48 = some [.int .u8 0, .int .u8 0, .int .u8 0, .int .i64 0, .int .i64 0] := by kernel_rfl
@[simp] theorem tyP63 : tyP Tryd.prog 63 = some (6, true) := by kernel_rfl
@[simp] theorem fldP63_0 : fldP Tryd.prog 63 0 = some (0, 1, false) := by kernel_rfl
@[simp] theorem fldP63_1 : fldP Tryd.prog 63 1 = some (1, 2, true) := by kernel_rfl
@[simp] theorem fldP63_2 : fldP Tryd.prog 63 2 = some (3, 1, false) := by kernel_rfl
@[simp] theorem fldP63_3 : fldP Tryd.prog 63 3 = some (4, 1, false) := by kernel_rfl
@[simp] theorem fldP63_4 : fldP Tryd.prog 63 4 = some (5, 1, false) := by kernel_rfl
@[simp] theorem fldsP63 : fldsP Tryd.prog 63 = true := by kernel_rfl
@[simp] theorem plainT63 : plainT Tryd.prog 63 = true := by kernel_rfl
@[simp] theorem zeroP63 : zeroP Tryd.prog 63 = some [.int .i64 0, .int .i64 0, .int .i64 0, .list [], .list [], .int .i64 0] := by kernel_rfl
@[simp] theorem tyP64 : tyP Tryd.prog 64 = some (6, true) := by kernel_rfl
@[simp] theorem fldP64_0 : fldP Tryd.prog 64 0 = some (0, 1, false) := by kernel_rfl
@[simp] theorem fldP64_1 : fldP Tryd.prog 64 1 = some (1, 2, true) := by kernel_rfl
@[simp] theorem fldP64_2 : fldP Tryd.prog 64 2 = some (3, 1, false) := by kernel_rfl
@[simp] theorem fldP64_3 : fldP Tryd.prog 64 3 = some (4, 1, false) := by kernel_rfl
@[simp] theorem fldP64_4 : fldP Tryd.prog 64 4 = some (5, 1, false) := by kernel_rfl
@[simp] theorem fldsP64 : fldsP Tryd.prog 64 = true := by kernel_rfl
@[simp] theorem plainT64 : plainT Tryd.prog 64 = true := by kernel_rfl
@[simp] theorem zeroP64 : zeroP Tryd.prog 64 = some [.int .i64 0, .int .i64 0, .int .i64 0, .list [], .list [], .int .i64 0] := by kernel_rfl
@[simp] theorem tyP71 : tyP Tryd.prog 71 = some (0, true) := by kernel_rfl
@[simp] theorem fldsP71 : fldsP Tryd.prog 71 = true := by kernel_rfl
@[simp] theorem plainT71 : plainT Tryd.prog 71 = true := by kernel_rfl
@[simp] theorem zeroP71 : zeroP Tryd.prog 71 = some [] := by kernel_rfl
@[simp] theorem tyP72 : tyP Tryd.prog 72 = some (0, true) := by kernel_rfl
@[simp] theorem fldsP72 : fldsP Tryd.prog 72 = true := by kernel_rfl
@[simp] theorem plainT72 : plainT Tryd.prog 72 = true := by kernel_rfl
@[simp] theorem zeroP72 : zeroP Tryd.prog 72 = some [] := by kernel_rfl
@[simp] theorem tyP73 : tyP Tryd.prog 73 = some (0, true) := by kernel_rfl
@[simp] theorem fldsP73 : fldsP Tryd.prog 73 = true := by kernel_rfl
@[simp] theorem plainT73 : plainT Tryd.prog 73 = true := by kernel_rfl
@[simp] theorem zeroP73 : zeroP Tryd.prog 73 = some [] := by kernel_rfl
@[simp] theorem tyP74 : tyP Tryd.prog 74 = some (1, true) := by kernel_rfl
@[simp] theorem fldP74_0 : fldP Tryd.prog 74 0 = some (0, 0, true) := by kernel_rfl
@[simp] theorem fldP74_1 : fldP Tryd.prog 74 1 = some (0, 0, true) := by kernel_rfl
@[simp] theorem fldP74_2 : fldP Tryd.prog 74 2 = some (0, 1, false) := by kernel_rfl
@[simp] theorem fldsP74 : fldsP Tryd.prog 74 = true := by kernel_rfl
@[simp] theorem plainT74 : plainT Tryd.prog 74 = true := by kernel_rfl
@[simp] theorem zeroP74 : zeroP Tryd.prog 74 = some [.int .i64 0] := by kernel_rfl
@[simp] theorem tyP75 : tyP Tryd.prog 75 = some (1, true) := by kernel_rfl
@[simp] theorem fldP75_0 : fldP Tryd.prog 75 0 = some (0, 0, true) := by kernel_rfl
@[simp] theorem fldP75_1 : fldP Tryd.prog 75 1 = some (0, 0, true) := by kernel_rfl
@[simp] theorem fldP75_2 : fldP Tryd.prog 75 2 = some (0, 1, false) := by kernel_rfl
@[simp] theorem fldsP75 : fldsP Tryd.prog 75 = true := by kernel_rfl
@[simp] theorem plainT75 : plainT Tryd.prog 75 = true := by kernel_rfl
@[simp] theorem zeroP75 : zeroP Tryd.prog 75 = some [.int .i64 0] := by kernel_rfl
@[simp] theorem tyP76 : tyP Tryd.prog 76 = some (2, true) := by kernel_rfl
@[simp] theorem fldP76_0 : fldP Tryd.prog 76 0 = some (0, 1, true) := by kernel_rfl
@[simp] theorem fldP76_1 : fldP Tryd.prog 76 1 = some (1, 1, true) := by kernel_rfl
@[simp] theorem fldsP76 : fldsP Tryd.prog 76 = true := by kernel_rfl
@[simp] theorem plainT76 : plainT Tryd.prog 76 = true := by kernel_rfl
@[simp] theorem zeroP76 : zeroP Tryd.prog 76 = some [.int .i64 0, .int .i64 0] := by kernel_rfl
@[simp] theorem tyP77 : tyP Tryd.prog 77 = some (2, true) := by kernel_rfl
@[simp] theorem fldP77_0 : fldP Tryd.prog 77 0 = some (0, 1, true) := by kernel_rfl
@[simp] theorem fldP77_1 : fldP Tryd.prog 77 1 = some (1, 1, true) := by kernel_rfl
@[simp] theorem fldsP77 : fldsP Tryd.prog 77 = true := by kernel_rfl
@[simp] theorem plainT77 : plainT Tryd.prog 77 = true := by kernel_rfl
@[simp] theorem zeroP77 : zeroP Tryd.prog 77 = some [.int .i64 0, .int .i64 0] := by kernel_rfl
@[simp] theorem tyP80 : tyP Tryd.prog 80 = some (1, false) := by kernel_rfl
@[simp] theorem pointee80 : Tryd.prog.pointee 80 = 83 := by kernel_rfl
@[simp] theorem plainT80 : plainT Tryd.prog 80 = true := by kernel_rfl
@[simp] theorem zeroP80 : zeroP Tryd.prog 80 = some [.nilp] := by kernel_rfl
@[simp] theorem tyP81 : tyP Tryd.prog 81 = some (1, false) := by kernel_rfl
@[simp] theorem elmP81 : elmP Tryd.prog 81 = some (5, 1, 1) := by kernel_rfl
@[simp] theorem plainT81 : plainT Tryd.prog 81 = true := by kernel_rfl
@[simp] theorem zeroP81 : zeroP Tryd.prog 81 = some [.list []] := by kernel_rfl
@[simp] theorem tyP82 : tyP Tryd.prog 82 = some (2, true) := by kernel_rfl
@[simp] theorem fldP82_0 : fldP Tryd.prog 82 0 = some (0, 1, false) := by kernel_rfl
@[simp] theorem fldP82_1 : fldP Tryd.prog 82 1 = some (1, 1, false) := by kernel_rfl
@[simp] theorem fldsP82 : fldsP Tryd.prog 82 = true := by kernel_rfl
@[simp] theorem plainT82 : plainT Tryd.prog 82 = true := by kernel_rfl
@[simp] theorem zeroP82 : zeroP Tryd.prog 82 = some [.nilp, .list []] := by kernel_rfl
@[simp] theorem tyP83 : tyP Tryd.prog 83 = some (2, true) := by kernel_rfl
@[simp] theorem fldP83_0 : fldP Tryd.prog 83 0 = some (0, 1, false) := by kernel_rfl
@[simp] theorem fldP83_1 : fldP Tryd.prog 83 1 = some (1, 1, false) := by kernel_rfl
@[simp] theorem fldsP83 : fldsP Tryd.prog 83 = true := by kernel_rfl
@[simp] theorem plainT83 : plainT Tryd.prog 83 = true := by kernel_rfl
@[simp] theorem zeroP83 : zeroP Tryd.prog 83 = some [.nilp, .list []] := by kernel_rfl
@[simp] theorem tyP96 : tyP Tryd.prog 96 = some (1, false) := by kernel_rfl
@[simp] theorem pointee96 : Tryd.prog.pointee 96 = 5 := by kernel_rfl
@[simp] theorem plainT96 : plainT Tryd.prog 96 = true := by kernel_rfl
@[simp] theorem zeroP96 : zeroP Tryd.prog 96 = some [.nilp] := by kernel_rfl
@[simp] theorem tyP97 : tyP Tryd.prog 97 = some (1, false) := by kernel_rfl
@[simp] theorem pointee97 : Tryd.prog.pointee 97 = 75 := by kernel_rfl
@[simp] theorem plainT97 : plainT Tryd.prog 97 = true := by kernel_rfl
@[simp] theorem zeroP97 : zeroP Tryd.prog 97 = some [.nilp] := by kernel_rfl
@[simp] theorem tyP99 : tyP Tryd.prog 99 = some (1, false) := by kernel_rfl
@[simp] theorem pointee99 : Tryd.prog.pointee 99 = 2 := by kernel_rfl
@[simp] theorem plainT99 : plainT Tryd.prog 99 = true := by kernel_rfl
@[simp] theorem zeroP99 : zeroP Tryd.prog 99 = some [.nilp] := by kernel_rfl
@[simp] theorem tyP105 : tyP Tryd.prog 105 = some (1, false) := by kernel_rfl
@[simp] theorem elmP105 : elmP Tryd.prog 105 = some (3, 1, 8) := by kernel_rfl
@[simp] theorem plainT105 : plainT Tryd.prog 105 = true := by kernel_rfl
@[simp] theorem zeroP105 : zeroP Tryd.prog 105 = some [.list []] := by kernel_rfl
@[simp] theorem tyP109 : tyP Tryd.prog 109 = some (1, false) := by kernel_rfl
@[simp] theorem plainT109 : plainT Tryd.prog 109 = true := by kernel_rfl
@[simp] theorem zeroP109 : zeroP Tryd.prog 109 = some [.int .u64 0] := by kernel_rfl
@[simp] theorem tyP117 : tyP Tryd.prog 117 = some (1, false) := by kernel_rfl
@[simp] theorem plainT117 : plainT Tryd.prog 117 = true := by kernel_rfl
@[simp] theorem zeroP117 : zeroP Tryd.prog 117 = some [.int .u32 0] := by kernel_rfl
@[simp] theorem tyP120 : tyP Tryd.prog 120 = some (1, false) := by kernel_rfl
@[simp] theorem plainT120 : plainT Tryd.prog 120 = true := by kernel_rfl
@[simp] theorem zeroP120 : zeroP Tryd.prog 120 = some [.int .u64 0] := by kernel_rfl
@[simp] theorem tyP125 : tyP Tryd.prog 125 = some (4, true) := by kernel_rfl
@[simp] theorem fldP125_0 : fldP Tryd.prog 125 0 = some (0, 1, false) := by kernel_rfl
@[simp] theorem fldP125_1 : fldP Tryd.prog 125 1 = some (1, 1, false) := by kernel_rfl
@[simp] theorem fldP125_2 : fldP Tryd.prog 125 2 = some (2, 1, false) := by kernel_rfl
@[simp] theorem fldP125_3 : fldP Tryd.prog 125 3 = some (3, 1, false) := by kernel_rfl
@[simp] theorem fldsP125 : fldsP Tryd.prog 125 = true := by kernel_rfl
@[simp] theorem plainT125 : plainT Tryd.prog 125 = true := by kernel_rfl
@[simp] theorem zeroP125 : zeroP Tryd.prog 125 = some [.nilp, .nilp, .nilp, .str []] := by kernel_rfl
@[simp] theorem methP8_Error : methP Tryd.prog 8 "Error" = some 74 := by kernel_rfl
@[simp] theorem methP8_RuntimeError : methP Tryd.prog 8 "RuntimeError" = some 75 := by kernel_rfl
@[simp] theorem methP10_Error : methP Tryd.prog 10 "Error" = some 76 := by kernel_rfl
@[simp] theorem methP10_RuntimeError : methP Tryd.prog 10 "RuntimeError" = some 77 := by kernel_rfl
@[simp] theorem methP11_Error : methP Tryd.prog 11 "Error" = some 78 := by kernel_rfl
@[simp] theorem methP11_RuntimeError : methP Tryd.prog 11 "RuntimeError" = some 79 := by kernel_rfl
@[simp] theorem methP14_Error : methP Tryd.prog 14 "Error" = some 80 := by kernel_rfl
@[simp] theorem methP14_RuntimeError : methP Tryd.prog 14 "RuntimeError" = some 81 := by kernel_rfl
@[simp] theorem methP19_Error : methP Tryd.prog 19 "Error" = some 88 := by kernel_rfl
@[simp] theorem methP19_RuntimeError : methP Tryd.prog 19 "RuntimeError" = some 89 := by kernel_rfl
@[simp] theorem methP29_Key : methP Tryd.prog 29 "Key" = some 90 := by kernel_rfl
theorem mixed : Tryd.prog.follows .mixedOrders = true := by kernel_rfl
end Go.Proofs.YtbekdlgkoleblaaDoor
