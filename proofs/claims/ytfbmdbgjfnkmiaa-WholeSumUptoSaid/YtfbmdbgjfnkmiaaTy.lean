/- The types of the program, as rewriting rules. -/
import Derived.Test.YtfbmdbgjfnkmiaaProg
import Derived.Test.YtfbmdbgjfnkmiaaRules4
import Derived.KernelRfl
set_option maxRecDepth 100000
namespace Go.Proofs.Ytfbmdbgjfnkmiaa
theorem T3_agg : aggT Try.prog 3 = false := by kernel_rfl
theorem T3_one : oneT Try.prog 3 = true := by kernel_rfl
theorem T3_elem : elemT Try.prog 3 = none := by kernel_rfl
theorem T3_str : strT Try.prog 3 = false := by kernel_rfl
theorem T3_bool : boolT Try.prog 3 = false := by kernel_rfl
theorem T3_kind : kindT Try.prog 3 = some .i64 := by kernel_rfl
theorem T3_zero : zeroT Try.prog 3 = some [.int .i64 0] := by kernel_rfl
theorem T3_size : sizeT Try.prog 3 = some 1 := by kernel_rfl
theorem T3_bytes : bytesT Try.prog 3 = some 8 := by kernel_rfl
theorem T4_agg : aggT Try.prog 4 = false := by kernel_rfl
theorem T4_one : oneT Try.prog 4 = true := by kernel_rfl
theorem T4_elem : elemT Try.prog 4 = none := by kernel_rfl
theorem T4_str : strT Try.prog 4 = false := by kernel_rfl
theorem T4_bool : boolT Try.prog 4 = true := by kernel_rfl
theorem T4_kind : kindT Try.prog 4 = none := by kernel_rfl
theorem T4_zero : zeroT Try.prog 4 = some [.bool false] := by kernel_rfl
theorem T4_size : sizeT Try.prog 4 = some 1 := by kernel_rfl
theorem T4_bytes : bytesT Try.prog 4 = some 1 := by kernel_rfl
theorem T5_agg : aggT Try.prog 5 = false := by kernel_rfl
theorem T5_one : oneT Try.prog 5 = true := by kernel_rfl
theorem T5_elem : elemT Try.prog 5 = none := by kernel_rfl
theorem T5_str : strT Try.prog 5 = false := by kernel_rfl
theorem T5_bool : boolT Try.prog 5 = false := by kernel_rfl
theorem T5_kind : kindT Try.prog 5 = some .u8 := by kernel_rfl
theorem T5_zero : zeroT Try.prog 5 = some [.int .u8 0] := by kernel_rfl
theorem T5_size : sizeT Try.prog 5 = some 1 := by kernel_rfl
theorem T5_bytes : bytesT Try.prog 5 = some 1 := by kernel_rfl
theorem T9_agg : aggT Try.prog 9 = false := by kernel_rfl
theorem T9_one : oneT Try.prog 9 = true := by kernel_rfl
theorem T9_elem : elemT Try.prog 9 = none := by kernel_rfl
theorem T9_str : strT Try.prog 9 = true := by kernel_rfl
theorem T9_bool : boolT Try.prog 9 = false := by kernel_rfl
theorem T9_kind : kindT Try.prog 9 = none := by kernel_rfl
theorem T9_zero : zeroT Try.prog 9 = some [.string ⟨#[]⟩] := by kernel_rfl
theorem T9_size : sizeT Try.prog 9 = some 1 := by kernel_rfl
theorem T9_bytes : bytesT Try.prog 9 = some 16 := by kernel_rfl
theorem T21_agg : aggT Try.prog 21 = false := by kernel_rfl
theorem T21_one : oneT Try.prog 21 = true := by kernel_rfl
theorem T21_elem : elemT Try.prog 21 = none := by kernel_rfl
theorem T21_str : strT Try.prog 21 = false := by kernel_rfl
theorem T21_bool : boolT Try.prog 21 = false := by kernel_rfl
theorem T21_kind : kindT Try.prog 21 = some .i32 := by kernel_rfl
theorem T21_zero : zeroT Try.prog 21 = some [.int .i32 0] := by kernel_rfl
theorem T21_size : sizeT Try.prog 21 = some 1 := by kernel_rfl
theorem T21_bytes : bytesT Try.prog 21 = some 4 := by kernel_rfl
theorem T22_agg : aggT Try.prog 22 = false := by kernel_rfl
theorem T22_one : oneT Try.prog 22 = true := by kernel_rfl
theorem T22_elem : elemT Try.prog 22 = some 28 := by kernel_rfl
theorem T22_str : strT Try.prog 22 = false := by kernel_rfl
theorem T22_bool : boolT Try.prog 22 = false := by kernel_rfl
theorem T22_kind : kindT Try.prog 22 = none := by kernel_rfl
theorem T22_zero : zeroT Try.prog 22 = some [.slice none 0 0] := by kernel_rfl
theorem T22_size : sizeT Try.prog 22 = some 1 := by kernel_rfl
theorem T22_bytes : bytesT Try.prog 22 = some 24 := by kernel_rfl
theorem T26_agg : aggT Try.prog 26 = false := by kernel_rfl
theorem T26_one : oneT Try.prog 26 = true := by kernel_rfl
theorem T26_elem : elemT Try.prog 26 = some 54 := by kernel_rfl
theorem T26_str : strT Try.prog 26 = false := by kernel_rfl
theorem T26_bool : boolT Try.prog 26 = false := by kernel_rfl
theorem T26_kind : kindT Try.prog 26 = none := by kernel_rfl
theorem T26_zero : zeroT Try.prog 26 = some [.slice none 0 0] := by kernel_rfl
theorem T26_size : sizeT Try.prog 26 = some 1 := by kernel_rfl
theorem T26_bytes : bytesT Try.prog 26 = some 24 := by kernel_rfl
theorem T28_agg : aggT Try.prog 28 = true := by kernel_rfl
theorem T28_one : oneT Try.prog 28 = false := by kernel_rfl
theorem T28_elem : elemT Try.prog 28 = none := by kernel_rfl
theorem T28_str : strT Try.prog 28 = false := by kernel_rfl
theorem T28_bool : boolT Try.prog 28 = false := by kernel_rfl
theorem T28_kind : kindT Try.prog 28 = none := by kernel_rfl
theorem T28_sized : sizedT Try.prog 28 = true := by kernel_rfl
theorem T28_f0 : fieldT Try.prog 28 0 = some (0, 4) := by kernel_rfl
theorem T28_f1 : fieldT Try.prog 28 1 = some (1, 26) := by kernel_rfl
theorem T28_zero : zeroT Try.prog 28 = some [.bool false, .slice none 0 0] := by kernel_rfl
theorem T28_size : sizeT Try.prog 28 = some 2 := by kernel_rfl
theorem T28_bytes : bytesT Try.prog 28 = some 32 := by kernel_rfl
theorem T30_agg : aggT Try.prog 30 = false := by kernel_rfl
theorem T30_one : oneT Try.prog 30 = true := by kernel_rfl
theorem T30_elem : elemT Try.prog 30 = none := by kernel_rfl
theorem T30_str : strT Try.prog 30 = false := by kernel_rfl
theorem T30_bool : boolT Try.prog 30 = false := by kernel_rfl
theorem T30_kind : kindT Try.prog 30 = none := by kernel_rfl
theorem T30_zero : zeroT Try.prog 30 = some [.pointer none] := by kernel_rfl
theorem T30_size : sizeT Try.prog 30 = some 1 := by kernel_rfl
theorem T30_bytes : bytesT Try.prog 30 = some 8 := by kernel_rfl
theorem T31_agg : aggT Try.prog 31 = false := by kernel_rfl
theorem T31_one : oneT Try.prog 31 = true := by kernel_rfl
theorem T31_elem : elemT Try.prog 31 = some 26 := by kernel_rfl
theorem T31_str : strT Try.prog 31 = false := by kernel_rfl
theorem T31_bool : boolT Try.prog 31 = false := by kernel_rfl
theorem T31_kind : kindT Try.prog 31 = none := by kernel_rfl
theorem T31_zero : zeroT Try.prog 31 = some [.slice none 0 0] := by kernel_rfl
theorem T31_size : sizeT Try.prog 31 = some 1 := by kernel_rfl
theorem T31_bytes : bytesT Try.prog 31 = some 24 := by kernel_rfl
theorem T33_agg : aggT Try.prog 33 = true := by kernel_rfl
theorem T33_one : oneT Try.prog 33 = false := by kernel_rfl
theorem T33_elem : elemT Try.prog 33 = none := by kernel_rfl
theorem T33_str : strT Try.prog 33 = false := by kernel_rfl
theorem T33_bool : boolT Try.prog 33 = false := by kernel_rfl
theorem T33_kind : kindT Try.prog 33 = none := by kernel_rfl
theorem T33_sized : sizedT Try.prog 33 = true := by kernel_rfl
theorem T33_f0 : fieldT Try.prog 33 0 = some (0, 31) := by kernel_rfl
theorem T33_f1 : fieldT Try.prog 33 1 = some (1, 26) := by kernel_rfl
theorem T33_zero : zeroT Try.prog 33 = some [.slice none 0 0, .slice none 0 0] := by kernel_rfl
theorem T33_size : sizeT Try.prog 33 = some 2 := by kernel_rfl
theorem T33_bytes : bytesT Try.prog 33 = some 48 := by kernel_rfl
theorem T46_agg : aggT Try.prog 46 = true := by kernel_rfl
theorem T46_one : oneT Try.prog 46 = false := by kernel_rfl
theorem T46_elem : elemT Try.prog 46 = none := by kernel_rfl
theorem T46_str : strT Try.prog 46 = false := by kernel_rfl
theorem T46_bool : boolT Try.prog 46 = false := by kernel_rfl
theorem T46_kind : kindT Try.prog 46 = none := by kernel_rfl
theorem T46_sized : sizedT Try.prog 46 = true := by kernel_rfl
theorem T46_f0 : fieldT Try.prog 46 0 = some (0, 26) := by kernel_rfl
theorem T46_f1 : fieldT Try.prog 46 1 = some (1, 3) := by kernel_rfl
theorem T46_zero : zeroT Try.prog 46 = some [.slice none 0 0, .int .i64 0] := by kernel_rfl
theorem T46_size : sizeT Try.prog 46 = some 2 := by kernel_rfl
theorem T46_bytes : bytesT Try.prog 46 = some 32 := by kernel_rfl
theorem T54_agg : aggT Try.prog 54 = false := by kernel_rfl
theorem T54_one : oneT Try.prog 54 = true := by kernel_rfl
theorem T54_elem : elemT Try.prog 54 = none := by kernel_rfl
theorem T54_str : strT Try.prog 54 = false := by kernel_rfl
theorem T54_bool : boolT Try.prog 54 = false := by kernel_rfl
theorem T54_kind : kindT Try.prog 54 = some .u32 := by kernel_rfl
theorem T54_zero : zeroT Try.prog 54 = some [.int .u32 0] := by kernel_rfl
theorem T54_size : sizeT Try.prog 54 = some 1 := by kernel_rfl
theorem T54_bytes : bytesT Try.prog 54 = some 4 := by kernel_rfl
theorem T56_agg : aggT Try.prog 56 = false := by kernel_rfl
theorem T56_one : oneT Try.prog 56 = true := by kernel_rfl
theorem T56_elem : elemT Try.prog 56 = none := by kernel_rfl
theorem T56_str : strT Try.prog 56 = false := by kernel_rfl
theorem T56_bool : boolT Try.prog 56 = false := by kernel_rfl
theorem T56_kind : kindT Try.prog 56 = some .i64 := by kernel_rfl
theorem T56_zero : zeroT Try.prog 56 = some [.int .i64 0] := by kernel_rfl
theorem T56_size : sizeT Try.prog 56 = some 1 := by kernel_rfl
theorem T56_bytes : bytesT Try.prog 56 = some 8 := by kernel_rfl
theorem T65_agg : aggT Try.prog 65 = false := by kernel_rfl
theorem T65_one : oneT Try.prog 65 = true := by kernel_rfl
theorem T65_elem : elemT Try.prog 65 = some 3 := by kernel_rfl
theorem T65_str : strT Try.prog 65 = false := by kernel_rfl
theorem T65_bool : boolT Try.prog 65 = false := by kernel_rfl
theorem T65_kind : kindT Try.prog 65 = none := by kernel_rfl
theorem T65_zero : zeroT Try.prog 65 = some [.slice none 0 0] := by kernel_rfl
theorem T65_size : sizeT Try.prog 65 = some 1 := by kernel_rfl
theorem T65_bytes : bytesT Try.prog 65 = some 24 := by kernel_rfl
theorem T67_agg : aggT Try.prog 67 = true := by kernel_rfl
theorem T67_one : oneT Try.prog 67 = false := by kernel_rfl
theorem T67_elem : elemT Try.prog 67 = none := by kernel_rfl
theorem T67_str : strT Try.prog 67 = false := by kernel_rfl
theorem T67_bool : boolT Try.prog 67 = false := by kernel_rfl
theorem T67_kind : kindT Try.prog 67 = none := by kernel_rfl
theorem T67_sized : sizedT Try.prog 67 = true := by kernel_rfl
theorem T67_f0 : fieldT Try.prog 67 0 = some (0, 4) := by kernel_rfl
theorem T67_f1 : fieldT Try.prog 67 1 = some (1, 65) := by kernel_rfl
theorem T67_zero : zeroT Try.prog 67 = some [.bool false, .slice none 0 0] := by kernel_rfl
theorem T67_size : sizeT Try.prog 67 = some 2 := by kernel_rfl
theorem T67_bytes : bytesT Try.prog 67 = some 32 := by kernel_rfl
theorem T78_agg : aggT Try.prog 78 = false := by kernel_rfl
theorem T78_one : oneT Try.prog 78 = true := by kernel_rfl
theorem T78_elem : elemT Try.prog 78 = none := by kernel_rfl
theorem T78_str : strT Try.prog 78 = false := by kernel_rfl
theorem T78_bool : boolT Try.prog 78 = false := by kernel_rfl
theorem T78_kind : kindT Try.prog 78 = some .u64 := by kernel_rfl
theorem T78_zero : zeroT Try.prog 78 = some [.int .u64 0] := by kernel_rfl
theorem T78_size : sizeT Try.prog 78 = some 1 := by kernel_rfl
theorem T78_bytes : bytesT Try.prog 78 = some 8 := by kernel_rfl
theorem T85_agg : aggT Try.prog 85 = false := by kernel_rfl
theorem T85_one : oneT Try.prog 85 = true := by kernel_rfl
theorem T85_elem : elemT Try.prog 85 = none := by kernel_rfl
theorem T85_str : strT Try.prog 85 = false := by kernel_rfl
theorem T85_bool : boolT Try.prog 85 = false := by kernel_rfl
theorem T85_kind : kindT Try.prog 85 = some .u64 := by kernel_rfl
theorem T85_zero : zeroT Try.prog 85 = some [.int .u64 0] := by kernel_rfl
theorem T85_size : sizeT Try.prog 85 = some 1 := by kernel_rfl
theorem T85_bytes : bytesT Try.prog 85 = some 8 := by kernel_rfl
theorem T107_agg : aggT Try.prog 107 = false := by kernel_rfl
theorem T107_one : oneT Try.prog 107 = true := by kernel_rfl
theorem T107_elem : elemT Try.prog 107 = some 5 := by kernel_rfl
theorem T107_str : strT Try.prog 107 = false := by kernel_rfl
theorem T107_bool : boolT Try.prog 107 = false := by kernel_rfl
theorem T107_kind : kindT Try.prog 107 = none := by kernel_rfl
theorem T107_zero : zeroT Try.prog 107 = some [.slice none 0 0] := by kernel_rfl
theorem T107_size : sizeT Try.prog 107 = some 1 := by kernel_rfl
theorem T107_bytes : bytesT Try.prog 107 = some 24 := by kernel_rfl
attribute [go_sem] T3_agg T3_one T3_elem T3_str T3_bool T3_kind T3_zero T3_size T3_bytes T4_agg T4_one T4_elem T4_str T4_bool T4_kind T4_zero T4_size T4_bytes T5_agg T5_one T5_elem T5_str T5_bool T5_kind T5_zero T5_size T5_bytes T9_agg T9_one T9_elem T9_str T9_bool T9_kind T9_zero T9_size T9_bytes T21_agg T21_one T21_elem T21_str T21_bool T21_kind T21_zero T21_size T21_bytes T22_agg T22_one T22_elem T22_str T22_bool T22_kind T22_zero T22_size T22_bytes T26_agg T26_one T26_elem T26_str T26_bool T26_kind T26_zero T26_size T26_bytes T28_agg T28_one T28_elem T28_str T28_bool T28_kind T28_sized T28_f0 T28_f1 T28_zero T28_size T28_bytes T30_agg T30_one T30_elem T30_str T30_bool T30_kind T30_zero T30_size T30_bytes T31_agg T31_one T31_elem T31_str T31_bool T31_kind T31_zero T31_size T31_bytes T33_agg T33_one T33_elem T33_str T33_bool T33_kind T33_sized T33_f0 T33_f1 T33_zero T33_size T33_bytes T46_agg T46_one T46_elem T46_str T46_bool T46_kind T46_sized T46_f0 T46_f1 T46_zero T46_size T46_bytes T54_agg T54_one T54_elem T54_str T54_bool T54_kind T54_zero T54_size T54_bytes T56_agg T56_one T56_elem T56_str T56_bool T56_kind T56_zero T56_size T56_bytes T65_agg T65_one T65_elem T65_str T65_bool T65_kind T65_zero T65_size T65_bytes T67_agg T67_one T67_elem T67_str T67_bool T67_kind T67_sized T67_f0 T67_f1 T67_zero T67_size T67_bytes T78_agg T78_one T78_elem T78_str T78_bool T78_kind T78_zero T78_size T78_bytes T85_agg T85_one T85_elem T85_str T85_bool T85_kind T85_zero T85_size T85_bytes T107_agg T107_one T107_elem T107_str T107_bool T107_kind T107_zero T107_size T107_bytes
theorem mixed : Try.prog.follows .mixedOrders = true := by kernel_rfl
end Go.Proofs.Ytfbmdbgjfnkmiaa
