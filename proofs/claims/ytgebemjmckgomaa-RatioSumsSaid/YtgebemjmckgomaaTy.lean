/- The types of the program, as rewriting rules. -/
import Derived.Test.YtgebemjmckgomaaProg
import Derived.Test.YtgebemjmckgomaaRules4
import Derived.KernelRfl
set_option maxRecDepth 100000
namespace Go.Proofs.Ytgebemjmckgomaa
theorem T3_agg : aggT Try.prog 3 = false := by kernel_rfl
theorem T3_one : oneT Try.prog 3 = true := by kernel_rfl
theorem T3_elem : elemT Try.prog 3 = none := by kernel_rfl
theorem T3_str : strT Try.prog 3 = false := by kernel_rfl
theorem T3_bool : boolT Try.prog 3 = false := by kernel_rfl
theorem T3_kind : kindT Try.prog 3 = some .i64 := by kernel_rfl
theorem T3_zero : zeroT Try.prog 3 = some [.int .i64 0] := by kernel_rfl
theorem T3_size : sizeT Try.prog 3 = some 1 := by kernel_rfl
theorem T3_bytes : bytesT Try.prog 3 = some 8 := by kernel_rfl
theorem T4_agg : aggT Try.prog 4 = false := by kernel_rfl
theorem T4_one : oneT Try.prog 4 = true := by kernel_rfl
theorem T4_elem : elemT Try.prog 4 = none := by kernel_rfl
theorem T4_str : strT Try.prog 4 = false := by kernel_rfl
theorem T4_bool : boolT Try.prog 4 = true := by kernel_rfl
theorem T4_kind : kindT Try.prog 4 = none := by kernel_rfl
theorem T4_zero : zeroT Try.prog 4 = some [.bool false] := by kernel_rfl
theorem T4_size : sizeT Try.prog 4 = some 1 := by kernel_rfl
theorem T4_bytes : bytesT Try.prog 4 = some 1 := by kernel_rfl
theorem T5_agg : aggT Try.prog 5 = false := by kernel_rfl
theorem T5_one : oneT Try.prog 5 = true := by kernel_rfl
theorem T5_elem : elemT Try.prog 5 = none := by kernel_rfl
theorem T5_str : strT Try.prog 5 = false := by kernel_rfl
theorem T5_bool : boolT Try.prog 5 = false := by kernel_rfl
theorem T5_kind : kindT Try.prog 5 = some .u8 := by kernel_rfl
theorem T5_zero : zeroT Try.prog 5 = some [.int .u8 0] := by kernel_rfl
theorem T5_size : sizeT Try.prog 5 = some 1 := by kernel_rfl
theorem T5_bytes : bytesT Try.prog 5 = some 1 := by kernel_rfl
theorem T9_agg : aggT Try.prog 9 = false := by kernel_rfl
theorem T9_one : oneT Try.prog 9 = true := by kernel_rfl
theorem T9_elem : elemT Try.prog 9 = none := by kernel_rfl
theorem T9_str : strT Try.prog 9 = true := by kernel_rfl
theorem T9_bool : boolT Try.prog 9 = false := by kernel_rfl
theorem T9_kind : kindT Try.prog 9 = none := by kernel_rfl
theorem T9_zero : zeroT Try.prog 9 = some [.string ⟨#[]⟩] := by kernel_rfl
theorem T9_size : sizeT Try.prog 9 = some 1 := by kernel_rfl
theorem T9_bytes : bytesT Try.prog 9 = some 16 := by kernel_rfl
theorem T21_agg : aggT Try.prog 21 = false := by kernel_rfl
theorem T21_one : oneT Try.prog 21 = true := by kernel_rfl
theorem T21_elem : elemT Try.prog 21 = none := by kernel_rfl
theorem T21_str : strT Try.prog 21 = false := by kernel_rfl
theorem T21_bool : boolT Try.prog 21 = false := by kernel_rfl
theorem T21_kind : kindT Try.prog 21 = some .i32 := by kernel_rfl
theorem T21_zero : zeroT Try.prog 21 = some [.int .i32 0] := by kernel_rfl
theorem T21_size : sizeT Try.prog 21 = some 1 := by kernel_rfl
theorem T21_bytes : bytesT Try.prog 21 = some 4 := by kernel_rfl
theorem T22_agg : aggT Try.prog 22 = false := by kernel_rfl
theorem T22_one : oneT Try.prog 22 = true := by kernel_rfl
theorem T22_elem : elemT Try.prog 22 = some 39 := by kernel_rfl
theorem T22_str : strT Try.prog 22 = false := by kernel_rfl
theorem T22_bool : boolT Try.prog 22 = false := by kernel_rfl
theorem T22_kind : kindT Try.prog 22 = none := by kernel_rfl
theorem T22_zero : zeroT Try.prog 22 = some [.slice none 0 0] := by kernel_rfl
theorem T22_size : sizeT Try.prog 22 = some 1 := by kernel_rfl
theorem T22_bytes : bytesT Try.prog 22 = some 24 := by kernel_rfl
theorem T24_agg : aggT Try.prog 24 = true := by kernel_rfl
theorem T24_one : oneT Try.prog 24 = false := by kernel_rfl
theorem T24_elem : elemT Try.prog 24 = none := by kernel_rfl
theorem T24_str : strT Try.prog 24 = false := by kernel_rfl
theorem T24_bool : boolT Try.prog 24 = false := by kernel_rfl
theorem T24_kind : kindT Try.prog 24 = none := by kernel_rfl
theorem T24_sized : sizedT Try.prog 24 = true := by kernel_rfl
theorem T24_f0 : fieldT Try.prog 24 0 = some (0, 4) := by kernel_rfl
theorem T24_f1 : fieldT Try.prog 24 1 = some (1, 22) := by kernel_rfl
theorem T24_zero : zeroT Try.prog 24 = some [.bool false, .slice none 0 0] := by kernel_rfl
theorem T24_size : sizeT Try.prog 24 = some 2 := by kernel_rfl
theorem T24_bytes : bytesT Try.prog 24 = some 32 := by kernel_rfl
theorem T28_agg : aggT Try.prog 28 = true := by kernel_rfl
theorem T28_one : oneT Try.prog 28 = false := by kernel_rfl
theorem T28_elem : elemT Try.prog 28 = none := by kernel_rfl
theorem T28_str : strT Try.prog 28 = false := by kernel_rfl
theorem T28_bool : boolT Try.prog 28 = false := by kernel_rfl
theorem T28_kind : kindT Try.prog 28 = none := by kernel_rfl
theorem T28_sized : sizedT Try.prog 28 = true := by kernel_rfl
theorem T28_f0 : fieldT Try.prog 28 0 = some (0, 24) := by kernel_rfl
theorem T28_f1 : fieldT Try.prog 28 1 = some (2, 22) := by kernel_rfl
theorem T28_zero : zeroT Try.prog 28 = some [.bool false, .slice none 0 0, .slice none 0 0] := by kernel_rfl
theorem T28_size : sizeT Try.prog 28 = some 3 := by kernel_rfl
theorem T28_bytes : bytesT Try.prog 28 = some 56 := by kernel_rfl
theorem T29_agg : aggT Try.prog 29 = false := by kernel_rfl
theorem T29_one : oneT Try.prog 29 = true := by kernel_rfl
theorem T29_elem : elemT Try.prog 29 = none := by kernel_rfl
theorem T29_str : strT Try.prog 29 = false := by kernel_rfl
theorem T29_bool : boolT Try.prog 29 = false := by kernel_rfl
theorem T29_kind : kindT Try.prog 29 = some .i64 := by kernel_rfl
theorem T29_zero : zeroT Try.prog 29 = some [.int .i64 0] := by kernel_rfl
theorem T29_size : sizeT Try.prog 29 = some 1 := by kernel_rfl
theorem T29_bytes : bytesT Try.prog 29 = some 8 := by kernel_rfl
theorem T39_agg : aggT Try.prog 39 = false := by kernel_rfl
theorem T39_one : oneT Try.prog 39 = true := by kernel_rfl
theorem T39_elem : elemT Try.prog 39 = none := by kernel_rfl
theorem T39_str : strT Try.prog 39 = false := by kernel_rfl
theorem T39_bool : boolT Try.prog 39 = false := by kernel_rfl
theorem T39_kind : kindT Try.prog 39 = some .u32 := by kernel_rfl
theorem T39_zero : zeroT Try.prog 39 = some [.int .u32 0] := by kernel_rfl
theorem T39_size : sizeT Try.prog 39 = some 1 := by kernel_rfl
theorem T39_bytes : bytesT Try.prog 39 = some 4 := by kernel_rfl
theorem T52_agg : aggT Try.prog 52 = true := by kernel_rfl
theorem T52_one : oneT Try.prog 52 = false := by kernel_rfl
theorem T52_elem : elemT Try.prog 52 = none := by kernel_rfl
theorem T52_str : strT Try.prog 52 = false := by kernel_rfl
theorem T52_bool : boolT Try.prog 52 = false := by kernel_rfl
theorem T52_kind : kindT Try.prog 52 = none := by kernel_rfl
theorem T52_sized : sizedT Try.prog 52 = true := by kernel_rfl
theorem T52_f0 : fieldT Try.prog 52 0 = some (0, 22) := by kernel_rfl
theorem T52_f1 : fieldT Try.prog 52 1 = some (1, 3) := by kernel_rfl
theorem T52_zero : zeroT Try.prog 52 = some [.slice none 0 0, .int .i64 0] := by kernel_rfl
theorem T52_size : sizeT Try.prog 52 = some 2 := by kernel_rfl
theorem T52_bytes : bytesT Try.prog 52 = some 32 := by kernel_rfl
theorem T54_agg : aggT Try.prog 54 = false := by kernel_rfl
theorem T54_one : oneT Try.prog 54 = true := by kernel_rfl
theorem T54_elem : elemT Try.prog 54 = none := by kernel_rfl
theorem T54_str : strT Try.prog 54 = false := by kernel_rfl
theorem T54_bool : boolT Try.prog 54 = false := by kernel_rfl
theorem T54_kind : kindT Try.prog 54 = none := by kernel_rfl
theorem T54_zero : zeroT Try.prog 54 = some [.pointer none] := by kernel_rfl
theorem T54_size : sizeT Try.prog 54 = some 1 := by kernel_rfl
theorem T54_bytes : bytesT Try.prog 54 = some 8 := by kernel_rfl
theorem T59_agg : aggT Try.prog 59 = false := by kernel_rfl
theorem T59_one : oneT Try.prog 59 = true := by kernel_rfl
theorem T59_elem : elemT Try.prog 59 = none := by kernel_rfl
theorem T59_str : strT Try.prog 59 = false := by kernel_rfl
theorem T59_bool : boolT Try.prog 59 = false := by kernel_rfl
theorem T59_kind : kindT Try.prog 59 = none := by kernel_rfl
theorem T59_zero : zeroT Try.prog 59 = some [.pointer none] := by kernel_rfl
theorem T59_size : sizeT Try.prog 59 = some 1 := by kernel_rfl
theorem T59_bytes : bytesT Try.prog 59 = some 8 := by kernel_rfl
theorem T60_agg : aggT Try.prog 60 = false := by kernel_rfl
theorem T60_one : oneT Try.prog 60 = true := by kernel_rfl
theorem T60_elem : elemT Try.prog 60 = some 22 := by kernel_rfl
theorem T60_str : strT Try.prog 60 = false := by kernel_rfl
theorem T60_bool : boolT Try.prog 60 = false := by kernel_rfl
theorem T60_kind : kindT Try.prog 60 = none := by kernel_rfl
theorem T60_zero : zeroT Try.prog 60 = some [.slice none 0 0] := by kernel_rfl
theorem T60_size : sizeT Try.prog 60 = some 1 := by kernel_rfl
theorem T60_bytes : bytesT Try.prog 60 = some 24 := by kernel_rfl
theorem T62_agg : aggT Try.prog 62 = true := by kernel_rfl
theorem T62_one : oneT Try.prog 62 = false := by kernel_rfl
theorem T62_elem : elemT Try.prog 62 = none := by kernel_rfl
theorem T62_str : strT Try.prog 62 = false := by kernel_rfl
theorem T62_bool : boolT Try.prog 62 = false := by kernel_rfl
theorem T62_kind : kindT Try.prog 62 = none := by kernel_rfl
theorem T62_sized : sizedT Try.prog 62 = true := by kernel_rfl
theorem T62_f0 : fieldT Try.prog 62 0 = some (0, 60) := by kernel_rfl
theorem T62_f1 : fieldT Try.prog 62 1 = some (1, 22) := by kernel_rfl
theorem T62_zero : zeroT Try.prog 62 = some [.slice none 0 0, .slice none 0 0] := by kernel_rfl
theorem T62_size : sizeT Try.prog 62 = some 2 := by kernel_rfl
theorem T62_bytes : bytesT Try.prog 62 = some 48 := by kernel_rfl
theorem T73_agg : aggT Try.prog 73 = false := by kernel_rfl
theorem T73_one : oneT Try.prog 73 = true := by kernel_rfl
theorem T73_elem : elemT Try.prog 73 = some 3 := by kernel_rfl
theorem T73_str : strT Try.prog 73 = false := by kernel_rfl
theorem T73_bool : boolT Try.prog 73 = false := by kernel_rfl
theorem T73_kind : kindT Try.prog 73 = none := by kernel_rfl
theorem T73_zero : zeroT Try.prog 73 = some [.slice none 0 0] := by kernel_rfl
theorem T73_size : sizeT Try.prog 73 = some 1 := by kernel_rfl
theorem T73_bytes : bytesT Try.prog 73 = some 24 := by kernel_rfl
theorem T75_agg : aggT Try.prog 75 = true := by kernel_rfl
theorem T75_one : oneT Try.prog 75 = false := by kernel_rfl
theorem T75_elem : elemT Try.prog 75 = none := by kernel_rfl
theorem T75_str : strT Try.prog 75 = false := by kernel_rfl
theorem T75_bool : boolT Try.prog 75 = false := by kernel_rfl
theorem T75_kind : kindT Try.prog 75 = none := by kernel_rfl
theorem T75_sized : sizedT Try.prog 75 = true := by kernel_rfl
theorem T75_f0 : fieldT Try.prog 75 0 = some (0, 4) := by kernel_rfl
theorem T75_f1 : fieldT Try.prog 75 1 = some (1, 73) := by kernel_rfl
theorem T75_zero : zeroT Try.prog 75 = some [.bool false, .slice none 0 0] := by kernel_rfl
theorem T75_size : sizeT Try.prog 75 = some 2 := by kernel_rfl
theorem T75_bytes : bytesT Try.prog 75 = some 32 := by kernel_rfl
theorem T80_agg : aggT Try.prog 80 = true := by kernel_rfl
theorem T80_one : oneT Try.prog 80 = false := by kernel_rfl
theorem T80_elem : elemT Try.prog 80 = none := by kernel_rfl
theorem T80_str : strT Try.prog 80 = false := by kernel_rfl
theorem T80_bool : boolT Try.prog 80 = false := by kernel_rfl
theorem T80_kind : kindT Try.prog 80 = none := by kernel_rfl
theorem T80_sized : sizedT Try.prog 80 = true := by kernel_rfl
theorem T80_f0 : fieldT Try.prog 80 0 = some (0, 75) := by kernel_rfl
theorem T80_f1 : fieldT Try.prog 80 1 = some (2, 75) := by kernel_rfl
theorem T80_zero : zeroT Try.prog 80 = some [.bool false, .slice none 0 0, .bool false, .slice none 0 0] := by kernel_rfl
theorem T80_size : sizeT Try.prog 80 = some 4 := by kernel_rfl
theorem T80_bytes : bytesT Try.prog 80 = some 64 := by kernel_rfl
theorem T85_agg : aggT Try.prog 85 = false := by kernel_rfl
theorem T85_one : oneT Try.prog 85 = true := by kernel_rfl
theorem T85_elem : elemT Try.prog 85 = none := by kernel_rfl
theorem T85_str : strT Try.prog 85 = false := by kernel_rfl
theorem T85_bool : boolT Try.prog 85 = false := by kernel_rfl
theorem T85_kind : kindT Try.prog 85 = some .u64 := by kernel_rfl
theorem T85_zero : zeroT Try.prog 85 = some [.int .u64 0] := by kernel_rfl
theorem T85_size : sizeT Try.prog 85 = some 1 := by kernel_rfl
theorem T85_bytes : bytesT Try.prog 85 = some 8 := by kernel_rfl
theorem T119_agg : aggT Try.prog 119 = false := by kernel_rfl
theorem T119_one : oneT Try.prog 119 = true := by kernel_rfl
theorem T119_elem : elemT Try.prog 119 = none := by kernel_rfl
theorem T119_str : strT Try.prog 119 = false := by kernel_rfl
theorem T119_bool : boolT Try.prog 119 = false := by kernel_rfl
theorem T119_kind : kindT Try.prog 119 = some .u64 := by kernel_rfl
theorem T119_zero : zeroT Try.prog 119 = some [.int .u64 0] := by kernel_rfl
theorem T119_size : sizeT Try.prog 119 = some 1 := by kernel_rfl
theorem T119_bytes : bytesT Try.prog 119 = some 8 := by kernel_rfl
theorem T134_agg : aggT Try.prog 134 = false := by kernel_rfl
theorem T134_one : oneT Try.prog 134 = true := by kernel_rfl
theorem T134_elem : elemT Try.prog 134 = some 5 := by kernel_rfl
theorem T134_str : strT Try.prog 134 = false := by kernel_rfl
theorem T134_bool : boolT Try.prog 134 = false := by kernel_rfl
theorem T134_kind : kindT Try.prog 134 = none := by kernel_rfl
theorem T134_zero : zeroT Try.prog 134 = some [.slice none 0 0] := by kernel_rfl
theorem T134_size : sizeT Try.prog 134 = some 1 := by kernel_rfl
theorem T134_bytes : bytesT Try.prog 134 = some 24 := by kernel_rfl
attribute [go_sem] T3_agg T3_one T3_elem T3_str T3_bool T3_kind T3_zero T3_size T3_bytes T4_agg T4_one T4_elem T4_str T4_bool T4_kind T4_zero T4_size T4_bytes T5_agg T5_one T5_elem T5_str T5_bool T5_kind T5_zero T5_size T5_bytes T9_agg T9_one T9_elem T9_str T9_bool T9_kind T9_zero T9_size T9_bytes T21_agg T21_one T21_elem T21_str T21_bool T21_kind T21_zero T21_size T21_bytes T22_agg T22_one T22_elem T22_str T22_bool T22_kind T22_zero T22_size T22_bytes T24_agg T24_one T24_elem T24_str T24_bool T24_kind T24_sized T24_f0 T24_f1 T24_zero T24_size T24_bytes T28_agg T28_one T28_elem T28_str T28_bool T28_kind T28_sized T28_f0 T28_f1 T28_zero T28_size T28_bytes T29_agg T29_one T29_elem T29_str T29_bool T29_kind T29_zero T29_size T29_bytes T39_agg T39_one T39_elem T39_str T39_bool T39_kind T39_zero T39_size T39_bytes T52_agg T52_one T52_elem T52_str T52_bool T52_kind T52_sized T52_f0 T52_f1 T52_zero T52_size T52_bytes T54_agg T54_one T54_elem T54_str T54_bool T54_kind T54_zero T54_size T54_bytes T59_agg T59_one T59_elem T59_str T59_bool T59_kind T59_zero T59_size T59_bytes T60_agg T60_one T60_elem T60_str T60_bool T60_kind T60_zero T60_size T60_bytes T62_agg T62_one T62_elem T62_str T62_bool T62_kind T62_sized T62_f0 T62_f1 T62_zero T62_size T62_bytes T73_agg T73_one T73_elem T73_str T73_bool T73_kind T73_zero T73_size T73_bytes T75_agg T75_one T75_elem T75_str T75_bool T75_kind T75_sized T75_f0 T75_f1 T75_zero T75_size T75_bytes T80_agg T80_one T80_elem T80_str T80_bool T80_kind T80_sized T80_f0 T80_f1 T80_zero T80_size T80_bytes T85_agg T85_one T85_elem T85_str T85_bool T85_kind T85_zero T85_size T85_bytes T119_agg T119_one T119_elem T119_str T119_bool T119_kind T119_zero T119_size T119_bytes T134_agg T134_one T134_elem T134_str T134_bool T134_kind T134_zero T134_size T134_bytes
theorem mixed : Try.prog.follows .mixedOrders = true := by kernel_rfl
end Go.Proofs.Ytgebemjmckgomaa
