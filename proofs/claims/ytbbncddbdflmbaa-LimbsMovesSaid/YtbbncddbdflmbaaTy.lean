/- The types of the program, as rewriting rules. -/
import Derived.Test.YtbbncddbdflmbaaProg
import Derived.Test.YtbbncddbdflmbaaRules4
import Derived.KernelRfl
set_option maxRecDepth 100000
namespace Go.Proofs.Ytbbncddbdflmbaa
theorem T3_agg : aggT Try.prog 3 = false := by kernel_rfl
theorem T3_one : oneT Try.prog 3 = true := by kernel_rfl
theorem T3_elem : elemT Try.prog 3 = none := by kernel_rfl
theorem T3_str : strT Try.prog 3 = false := by kernel_rfl
theorem T3_bool : boolT Try.prog 3 = false := by kernel_rfl
theorem T3_kind : kindT Try.prog 3 = some .i64 := by kernel_rfl
theorem T3_zero : zeroT Try.prog 3 = some [.int .i64 0] := by kernel_rfl
theorem T3_size : sizeT Try.prog 3 = some 1 := by kernel_rfl
theorem T3_bytes : bytesT Try.prog 3 = some 8 := by kernel_rfl
theorem T4_agg : aggT Try.prog 4 = false := by kernel_rfl
theorem T4_one : oneT Try.prog 4 = true := by kernel_rfl
theorem T4_elem : elemT Try.prog 4 = none := by kernel_rfl
theorem T4_str : strT Try.prog 4 = false := by kernel_rfl
theorem T4_bool : boolT Try.prog 4 = true := by kernel_rfl
theorem T4_kind : kindT Try.prog 4 = none := by kernel_rfl
theorem T4_zero : zeroT Try.prog 4 = some [.bool false] := by kernel_rfl
theorem T4_size : sizeT Try.prog 4 = some 1 := by kernel_rfl
theorem T4_bytes : bytesT Try.prog 4 = some 1 := by kernel_rfl
theorem T5_agg : aggT Try.prog 5 = false := by kernel_rfl
theorem T5_one : oneT Try.prog 5 = true := by kernel_rfl
theorem T5_elem : elemT Try.prog 5 = none := by kernel_rfl
theorem T5_str : strT Try.prog 5 = false := by kernel_rfl
theorem T5_bool : boolT Try.prog 5 = false := by kernel_rfl
theorem T5_kind : kindT Try.prog 5 = some .u8 := by kernel_rfl
theorem T5_zero : zeroT Try.prog 5 = some [.int .u8 0] := by kernel_rfl
theorem T5_size : sizeT Try.prog 5 = some 1 := by kernel_rfl
theorem T5_bytes : bytesT Try.prog 5 = some 1 := by kernel_rfl
theorem T9_agg : aggT Try.prog 9 = false := by kernel_rfl
theorem T9_one : oneT Try.prog 9 = true := by kernel_rfl
theorem T9_elem : elemT Try.prog 9 = none := by kernel_rfl
theorem T9_str : strT Try.prog 9 = true := by kernel_rfl
theorem T9_bool : boolT Try.prog 9 = false := by kernel_rfl
theorem T9_kind : kindT Try.prog 9 = none := by kernel_rfl
theorem T9_zero : zeroT Try.prog 9 = some [.string ⟨#[]⟩] := by kernel_rfl
theorem T9_size : sizeT Try.prog 9 = some 1 := by kernel_rfl
theorem T9_bytes : bytesT Try.prog 9 = some 16 := by kernel_rfl
theorem T21_agg : aggT Try.prog 21 = false := by kernel_rfl
theorem T21_one : oneT Try.prog 21 = true := by kernel_rfl
theorem T21_elem : elemT Try.prog 21 = none := by kernel_rfl
theorem T21_str : strT Try.prog 21 = false := by kernel_rfl
theorem T21_bool : boolT Try.prog 21 = false := by kernel_rfl
theorem T21_kind : kindT Try.prog 21 = some .i32 := by kernel_rfl
theorem T21_zero : zeroT Try.prog 21 = some [.int .i32 0] := by kernel_rfl
theorem T21_size : sizeT Try.prog 21 = some 1 := by kernel_rfl
theorem T21_bytes : bytesT Try.prog 21 = some 4 := by kernel_rfl
theorem T22_agg : aggT Try.prog 22 = false := by kernel_rfl
theorem T22_one : oneT Try.prog 22 = true := by kernel_rfl
theorem T22_elem : elemT Try.prog 22 = some 53 := by kernel_rfl
theorem T22_str : strT Try.prog 22 = false := by kernel_rfl
theorem T22_bool : boolT Try.prog 22 = false := by kernel_rfl
theorem T22_kind : kindT Try.prog 22 = none := by kernel_rfl
theorem T22_zero : zeroT Try.prog 22 = some [.slice none 0 0] := by kernel_rfl
theorem T22_size : sizeT Try.prog 22 = some 1 := by kernel_rfl
theorem T22_bytes : bytesT Try.prog 22 = some 24 := by kernel_rfl
theorem T24_agg : aggT Try.prog 24 = true := by kernel_rfl
theorem T24_one : oneT Try.prog 24 = false := by kernel_rfl
theorem T24_elem : elemT Try.prog 24 = none := by kernel_rfl
theorem T24_str : strT Try.prog 24 = false := by kernel_rfl
theorem T24_bool : boolT Try.prog 24 = false := by kernel_rfl
theorem T24_kind : kindT Try.prog 24 = none := by kernel_rfl
theorem T24_sized : sizedT Try.prog 24 = true := by kernel_rfl
theorem T24_f0 : fieldT Try.prog 24 0 = some (0, 22) := by kernel_rfl
theorem T24_f1 : fieldT Try.prog 24 1 = some (1, 3) := by kernel_rfl
theorem T24_zero : zeroT Try.prog 24 = some [.slice none 0 0, .int .i64 0] := by kernel_rfl
theorem T24_size : sizeT Try.prog 24 = some 2 := by kernel_rfl
theorem T24_bytes : bytesT Try.prog 24 = some 32 := by kernel_rfl
theorem T25_agg : aggT Try.prog 25 = true := by kernel_rfl
theorem T25_one : oneT Try.prog 25 = false := by kernel_rfl
theorem T25_elem : elemT Try.prog 25 = none := by kernel_rfl
theorem T25_str : strT Try.prog 25 = false := by kernel_rfl
theorem T25_bool : boolT Try.prog 25 = false := by kernel_rfl
theorem T25_kind : kindT Try.prog 25 = none := by kernel_rfl
theorem T25_sized : sizedT Try.prog 25 = true := by kernel_rfl
theorem T25_f0 : fieldT Try.prog 25 0 = some (0, 22) := by kernel_rfl
theorem T25_f1 : fieldT Try.prog 25 1 = some (1, 3) := by kernel_rfl
theorem T25_zero : zeroT Try.prog 25 = some [.slice none 0 0, .int .i64 0] := by kernel_rfl
theorem T25_size : sizeT Try.prog 25 = some 2 := by kernel_rfl
theorem T25_bytes : bytesT Try.prog 25 = some 32 := by kernel_rfl
theorem T31_agg : aggT Try.prog 31 = false := by kernel_rfl
theorem T31_one : oneT Try.prog 31 = true := by kernel_rfl
theorem T31_elem : elemT Try.prog 31 = none := by kernel_rfl
theorem T31_str : strT Try.prog 31 = false := by kernel_rfl
theorem T31_bool : boolT Try.prog 31 = false := by kernel_rfl
theorem T31_kind : kindT Try.prog 31 = some .i64 := by kernel_rfl
theorem T31_zero : zeroT Try.prog 31 = some [.int .i64 0] := by kernel_rfl
theorem T31_size : sizeT Try.prog 31 = some 1 := by kernel_rfl
theorem T31_bytes : bytesT Try.prog 31 = some 8 := by kernel_rfl
theorem T37_agg : aggT Try.prog 37 = false := by kernel_rfl
theorem T37_one : oneT Try.prog 37 = true := by kernel_rfl
theorem T37_elem : elemT Try.prog 37 = some 22 := by kernel_rfl
theorem T37_str : strT Try.prog 37 = false := by kernel_rfl
theorem T37_bool : boolT Try.prog 37 = false := by kernel_rfl
theorem T37_kind : kindT Try.prog 37 = none := by kernel_rfl
theorem T37_zero : zeroT Try.prog 37 = some [.slice none 0 0] := by kernel_rfl
theorem T37_size : sizeT Try.prog 37 = some 1 := by kernel_rfl
theorem T37_bytes : bytesT Try.prog 37 = some 24 := by kernel_rfl
theorem T38_agg : aggT Try.prog 38 = true := by kernel_rfl
theorem T38_one : oneT Try.prog 38 = false := by kernel_rfl
theorem T38_elem : elemT Try.prog 38 = none := by kernel_rfl
theorem T38_str : strT Try.prog 38 = false := by kernel_rfl
theorem T38_bool : boolT Try.prog 38 = false := by kernel_rfl
theorem T38_kind : kindT Try.prog 38 = none := by kernel_rfl
theorem T38_sized : sizedT Try.prog 38 = true := by kernel_rfl
theorem T38_f0 : fieldT Try.prog 38 0 = some (0, 37) := by kernel_rfl
theorem T38_f1 : fieldT Try.prog 38 1 = some (1, 22) := by kernel_rfl
theorem T38_zero : zeroT Try.prog 38 = some [.slice none 0 0, .slice none 0 0] := by kernel_rfl
theorem T38_size : sizeT Try.prog 38 = some 2 := by kernel_rfl
theorem T38_bytes : bytesT Try.prog 38 = some 48 := by kernel_rfl
theorem T39_agg : aggT Try.prog 39 = true := by kernel_rfl
theorem T39_one : oneT Try.prog 39 = false := by kernel_rfl
theorem T39_elem : elemT Try.prog 39 = none := by kernel_rfl
theorem T39_str : strT Try.prog 39 = false := by kernel_rfl
theorem T39_bool : boolT Try.prog 39 = false := by kernel_rfl
theorem T39_kind : kindT Try.prog 39 = none := by kernel_rfl
theorem T39_sized : sizedT Try.prog 39 = true := by kernel_rfl
theorem T39_f0 : fieldT Try.prog 39 0 = some (0, 37) := by kernel_rfl
theorem T39_f1 : fieldT Try.prog 39 1 = some (1, 22) := by kernel_rfl
theorem T39_zero : zeroT Try.prog 39 = some [.slice none 0 0, .slice none 0 0] := by kernel_rfl
theorem T39_size : sizeT Try.prog 39 = some 2 := by kernel_rfl
theorem T39_bytes : bytesT Try.prog 39 = some 48 := by kernel_rfl
theorem T42_agg : aggT Try.prog 42 = false := by kernel_rfl
theorem T42_one : oneT Try.prog 42 = true := by kernel_rfl
theorem T42_elem : elemT Try.prog 42 = none := by kernel_rfl
theorem T42_str : strT Try.prog 42 = false := by kernel_rfl
theorem T42_bool : boolT Try.prog 42 = false := by kernel_rfl
theorem T42_kind : kindT Try.prog 42 = some .u64 := by kernel_rfl
theorem T42_zero : zeroT Try.prog 42 = some [.int .u64 0] := by kernel_rfl
theorem T42_size : sizeT Try.prog 42 = some 1 := by kernel_rfl
theorem T42_bytes : bytesT Try.prog 42 = some 8 := by kernel_rfl
theorem T53_agg : aggT Try.prog 53 = false := by kernel_rfl
theorem T53_one : oneT Try.prog 53 = true := by kernel_rfl
theorem T53_elem : elemT Try.prog 53 = none := by kernel_rfl
theorem T53_str : strT Try.prog 53 = false := by kernel_rfl
theorem T53_bool : boolT Try.prog 53 = false := by kernel_rfl
theorem T53_kind : kindT Try.prog 53 = some .u32 := by kernel_rfl
theorem T53_zero : zeroT Try.prog 53 = some [.int .u32 0] := by kernel_rfl
theorem T53_size : sizeT Try.prog 53 = some 1 := by kernel_rfl
theorem T53_bytes : bytesT Try.prog 53 = some 4 := by kernel_rfl
theorem T57_agg : aggT Try.prog 57 = false := by kernel_rfl
theorem T57_one : oneT Try.prog 57 = true := by kernel_rfl
theorem T57_elem : elemT Try.prog 57 = none := by kernel_rfl
theorem T57_str : strT Try.prog 57 = false := by kernel_rfl
theorem T57_bool : boolT Try.prog 57 = false := by kernel_rfl
theorem T57_kind : kindT Try.prog 57 = some .u64 := by kernel_rfl
theorem T57_zero : zeroT Try.prog 57 = some [.int .u64 0] := by kernel_rfl
theorem T57_size : sizeT Try.prog 57 = some 1 := by kernel_rfl
theorem T57_bytes : bytesT Try.prog 57 = some 8 := by kernel_rfl
theorem T62_agg : aggT Try.prog 62 = false := by kernel_rfl
theorem T62_one : oneT Try.prog 62 = true := by kernel_rfl
theorem T62_elem : elemT Try.prog 62 = some 3 := by kernel_rfl
theorem T62_str : strT Try.prog 62 = false := by kernel_rfl
theorem T62_bool : boolT Try.prog 62 = false := by kernel_rfl
theorem T62_kind : kindT Try.prog 62 = none := by kernel_rfl
theorem T62_zero : zeroT Try.prog 62 = some [.slice none 0 0] := by kernel_rfl
theorem T62_size : sizeT Try.prog 62 = some 1 := by kernel_rfl
theorem T62_bytes : bytesT Try.prog 62 = some 24 := by kernel_rfl
theorem T63_agg : aggT Try.prog 63 = true := by kernel_rfl
theorem T63_one : oneT Try.prog 63 = false := by kernel_rfl
theorem T63_elem : elemT Try.prog 63 = none := by kernel_rfl
theorem T63_str : strT Try.prog 63 = false := by kernel_rfl
theorem T63_bool : boolT Try.prog 63 = false := by kernel_rfl
theorem T63_kind : kindT Try.prog 63 = none := by kernel_rfl
theorem T63_sized : sizedT Try.prog 63 = true := by kernel_rfl
theorem T63_f0 : fieldT Try.prog 63 0 = some (0, 4) := by kernel_rfl
theorem T63_f1 : fieldT Try.prog 63 1 = some (1, 62) := by kernel_rfl
theorem T63_zero : zeroT Try.prog 63 = some [.bool false, .slice none 0 0] := by kernel_rfl
theorem T63_size : sizeT Try.prog 63 = some 2 := by kernel_rfl
theorem T63_bytes : bytesT Try.prog 63 = some 32 := by kernel_rfl
theorem T64_agg : aggT Try.prog 64 = true := by kernel_rfl
theorem T64_one : oneT Try.prog 64 = false := by kernel_rfl
theorem T64_elem : elemT Try.prog 64 = none := by kernel_rfl
theorem T64_str : strT Try.prog 64 = false := by kernel_rfl
theorem T64_bool : boolT Try.prog 64 = false := by kernel_rfl
theorem T64_kind : kindT Try.prog 64 = none := by kernel_rfl
theorem T64_sized : sizedT Try.prog 64 = true := by kernel_rfl
theorem T64_f0 : fieldT Try.prog 64 0 = some (0, 4) := by kernel_rfl
theorem T64_f1 : fieldT Try.prog 64 1 = some (1, 62) := by kernel_rfl
theorem T64_zero : zeroT Try.prog 64 = some [.bool false, .slice none 0 0] := by kernel_rfl
theorem T64_size : sizeT Try.prog 64 = some 2 := by kernel_rfl
theorem T64_bytes : bytesT Try.prog 64 = some 32 := by kernel_rfl
theorem T73_agg : aggT Try.prog 73 = false := by kernel_rfl
theorem T73_one : oneT Try.prog 73 = true := by kernel_rfl
theorem T73_elem : elemT Try.prog 73 = some 5 := by kernel_rfl
theorem T73_str : strT Try.prog 73 = false := by kernel_rfl
theorem T73_bool : boolT Try.prog 73 = false := by kernel_rfl
theorem T73_kind : kindT Try.prog 73 = none := by kernel_rfl
theorem T73_zero : zeroT Try.prog 73 = some [.slice none 0 0] := by kernel_rfl
theorem T73_size : sizeT Try.prog 73 = some 1 := by kernel_rfl
theorem T73_bytes : bytesT Try.prog 73 = some 24 := by kernel_rfl
attribute [go_sem] T3_agg T3_one T3_elem T3_str T3_bool T3_kind T3_zero T3_size T3_bytes T4_agg T4_one T4_elem T4_str T4_bool T4_kind T4_zero T4_size T4_bytes T5_agg T5_one T5_elem T5_str T5_bool T5_kind T5_zero T5_size T5_bytes T9_agg T9_one T9_elem T9_str T9_bool T9_kind T9_zero T9_size T9_bytes T21_agg T21_one T21_elem T21_str T21_bool T21_kind T21_zero T21_size T21_bytes T22_agg T22_one T22_elem T22_str T22_bool T22_kind T22_zero T22_size T22_bytes T24_agg T24_one T24_elem T24_str T24_bool T24_kind T24_sized T24_f0 T24_f1 T24_zero T24_size T24_bytes T25_agg T25_one T25_elem T25_str T25_bool T25_kind T25_sized T25_f0 T25_f1 T25_zero T25_size T25_bytes T31_agg T31_one T31_elem T31_str T31_bool T31_kind T31_zero T31_size T31_bytes T37_agg T37_one T37_elem T37_str T37_bool T37_kind T37_zero T37_size T37_bytes T38_agg T38_one T38_elem T38_str T38_bool T38_kind T38_sized T38_f0 T38_f1 T38_zero T38_size T38_bytes T39_agg T39_one T39_elem T39_str T39_bool T39_kind T39_sized T39_f0 T39_f1 T39_zero T39_size T39_bytes T42_agg T42_one T42_elem T42_str T42_bool T42_kind T42_zero T42_size T42_bytes T53_agg T53_one T53_elem T53_str T53_bool T53_kind T53_zero T53_size T53_bytes T57_agg T57_one T57_elem T57_str T57_bool T57_kind T57_zero T57_size T57_bytes T62_agg T62_one T62_elem T62_str T62_bool T62_kind T62_zero T62_size T62_bytes T63_agg T63_one T63_elem T63_str T63_bool T63_kind T63_sized T63_f0 T63_f1 T63_zero T63_size T63_bytes T64_agg T64_one T64_elem T64_str T64_bool T64_kind T64_sized T64_f0 T64_f1 T64_zero T64_size T64_bytes T73_agg T73_one T73_elem T73_str T73_bool T73_kind T73_zero T73_size T73_bytes
theorem mixed : Try.prog.follows .mixedOrders = true := by kernel_rfl
end Go.Proofs.Ytbbncddbdflmbaa
