/- Part 19 of the way to the statement: the walk and what it needs. -/
import Derived.Test.YtfjdfnlkobeehaaKDeF18
import Derived.Test.YtfjdfnlkobeehaaProg
import Derived.KernelRfl
section
set_option maxRecDepth 100000
namespace Go.Proofs.Ytfjdfnlkobeehaa
theorem T3_agg : aggT Try.prog 3 = false := by kernel_rfl
theorem T3_one : oneT Try.prog 3 = true := by kernel_rfl
theorem T3_elem : elemT Try.prog 3 = none := by kernel_rfl
theorem T3_str : strT Try.prog 3 = false := by kernel_rfl
theorem T3_bool : boolT Try.prog 3 = false := by kernel_rfl
theorem T3_kind : kindT Try.prog 3 = some .i64 := by kernel_rfl
theorem T3_zero : zeroT Try.prog 3 = some [.int .i64 0] := by kernel_rfl
theorem T3_size : sizeT Try.prog 3 = some 1 := by kernel_rfl
theorem T3_bytes : bytesT Try.prog 3 = some 8 := by kernel_rfl
theorem T4_agg : aggT Try.prog 4 = false := by kernel_rfl
theorem T4_one : oneT Try.prog 4 = true := by kernel_rfl
theorem T4_elem : elemT Try.prog 4 = none := by kernel_rfl
theorem T4_str : strT Try.prog 4 = false := by kernel_rfl
theorem T4_bool : boolT Try.prog 4 = true := by kernel_rfl
theorem T4_kind : kindT Try.prog 4 = none := by kernel_rfl
theorem T4_zero : zeroT Try.prog 4 = some [.bool false] := by kernel_rfl
theorem T4_size : sizeT Try.prog 4 = some 1 := by kernel_rfl
theorem T4_bytes : bytesT Try.prog 4 = some 1 := by kernel_rfl
theorem T5_agg : aggT Try.prog 5 = false := by kernel_rfl
theorem T5_one : oneT Try.prog 5 = true := by kernel_rfl
theorem T5_elem : elemT Try.prog 5 = none := by kernel_rfl
theorem T5_str : strT Try.prog 5 = false := by kernel_rfl
theorem T5_bool : boolT Try.prog 5 = false := by kernel_rfl
theorem T5_kind : kindT Try.prog 5 = some .u8 := by kernel_rfl
theorem T5_zero : zeroT Try.prog 5 = some [.int .u8 0] := by kernel_rfl
theorem T5_size : sizeT Try.prog 5 = some 1 := by kernel_rfl
theorem T5_bytes : bytesT Try.prog 5 = some 1 := by kernel_rfl
theorem T9_agg : aggT Try.prog 9 = false := by kernel_rfl
theorem T9_one : oneT Try.prog 9 = true := by kernel_rfl
theorem T9_elem : elemT Try.prog 9 = none := by kernel_rfl
theorem T9_str : strT Try.prog 9 = true := by kernel_rfl
theorem T9_bool : boolT Try.prog 9 = false := by kernel_rfl
theorem T9_kind : kindT Try.prog 9 = none := by kernel_rfl
theorem T9_zero : zeroT Try.prog 9 = some [.string ⟨#[]⟩] := by kernel_rfl
theorem T9_size : sizeT Try.prog 9 = some 1 := by kernel_rfl
theorem T9_bytes : bytesT Try.prog 9 = some 16 := by kernel_rfl
theorem T22_agg : aggT Try.prog 22 = false := by kernel_rfl
theorem T22_one : oneT Try.prog 22 = true := by kernel_rfl
theorem T22_elem : elemT Try.prog 22 = some 27 := by kernel_rfl
theorem T22_str : strT Try.prog 22 = false := by kernel_rfl
theorem T22_bool : boolT Try.prog 22 = false := by kernel_rfl
theorem T22_kind : kindT Try.prog 22 = none := by kernel_rfl
theorem T22_zero : zeroT Try.prog 22 = some [.slice none 0 0] := by kernel_rfl
theorem T22_size : sizeT Try.prog 22 = some 1 := by kernel_rfl
theorem T22_bytes : bytesT Try.prog 22 = some 24 := by kernel_rfl
theorem T23_agg : aggT Try.prog 23 = false := by kernel_rfl
theorem T23_one : oneT Try.prog 23 = true := by kernel_rfl
theorem T23_elem : elemT Try.prog 23 = some 3 := by kernel_rfl
theorem T23_str : strT Try.prog 23 = false := by kernel_rfl
theorem T23_bool : boolT Try.prog 23 = false := by kernel_rfl
theorem T23_kind : kindT Try.prog 23 = none := by kernel_rfl
theorem T23_zero : zeroT Try.prog 23 = some [.slice none 0 0] := by kernel_rfl
theorem T23_size : sizeT Try.prog 23 = some 1 := by kernel_rfl
theorem T23_bytes : bytesT Try.prog 23 = some 24 := by kernel_rfl
theorem T27_agg : aggT Try.prog 27 = false := by kernel_rfl
theorem T27_one : oneT Try.prog 27 = true := by kernel_rfl
theorem T27_elem : elemT Try.prog 27 = some 30 := by kernel_rfl
theorem T27_str : strT Try.prog 27 = false := by kernel_rfl
theorem T27_bool : boolT Try.prog 27 = false := by kernel_rfl
theorem T27_kind : kindT Try.prog 27 = none := by kernel_rfl
theorem T27_zero : zeroT Try.prog 27 = some [.slice none 0 0] := by kernel_rfl
theorem T27_size : sizeT Try.prog 27 = some 1 := by kernel_rfl
theorem T27_bytes : bytesT Try.prog 27 = some 24 := by kernel_rfl
theorem T28_agg : aggT Try.prog 28 = false := by kernel_rfl
theorem T28_one : oneT Try.prog 28 = true := by kernel_rfl
theorem T28_elem : elemT Try.prog 28 = some 93 := by kernel_rfl
theorem T28_str : strT Try.prog 28 = false := by kernel_rfl
theorem T28_bool : boolT Try.prog 28 = false := by kernel_rfl
theorem T28_kind : kindT Try.prog 28 = none := by kernel_rfl
theorem T28_zero : zeroT Try.prog 28 = some [.slice none 0 0] := by kernel_rfl
theorem T28_size : sizeT Try.prog 28 = some 1 := by kernel_rfl
theorem T28_bytes : bytesT Try.prog 28 = some 24 := by kernel_rfl
theorem T30_agg : aggT Try.prog 30 = true := by kernel_rfl
theorem T30_one : oneT Try.prog 30 = false := by kernel_rfl
theorem T30_elem : elemT Try.prog 30 = none := by kernel_rfl
theorem T30_str : strT Try.prog 30 = false := by kernel_rfl
theorem T30_bool : boolT Try.prog 30 = false := by kernel_rfl
theorem T30_kind : kindT Try.prog 30 = none := by kernel_rfl
theorem T30_sized : sizedT Try.prog 30 = true := by kernel_rfl
theorem T30_f0 : fieldT Try.prog 30 0 = some (0, 4) := by kernel_rfl
theorem T30_f1 : fieldT Try.prog 30 1 = some (1, 28) := by kernel_rfl
theorem T30_zero : zeroT Try.prog 30 = some [.bool false, .slice none 0 0] := by kernel_rfl
theorem T30_size : sizeT Try.prog 30 = some 2 := by kernel_rfl
theorem T30_bytes : bytesT Try.prog 30 = some 32 := by kernel_rfl
theorem T33_agg : aggT Try.prog 33 = false := by kernel_rfl
theorem T33_one : oneT Try.prog 33 = true := by kernel_rfl
theorem T33_elem : elemT Try.prog 33 = none := by kernel_rfl
theorem T33_str : strT Try.prog 33 = false := by kernel_rfl
theorem T33_bool : boolT Try.prog 33 = false := by kernel_rfl
theorem T33_kind : kindT Try.prog 33 = some .i64 := by kernel_rfl
theorem T33_zero : zeroT Try.prog 33 = some [.int .i64 0] := by kernel_rfl
theorem T33_size : sizeT Try.prog 33 = some 1 := by kernel_rfl
theorem T33_bytes : bytesT Try.prog 33 = some 8 := by kernel_rfl
theorem T38_agg : aggT Try.prog 38 = false := by kernel_rfl
theorem T38_one : oneT Try.prog 38 = true := by kernel_rfl
theorem T38_elem : elemT Try.prog 38 = none := by kernel_rfl
theorem T38_str : strT Try.prog 38 = false := by kernel_rfl
theorem T38_bool : boolT Try.prog 38 = false := by kernel_rfl
theorem T38_kind : kindT Try.prog 38 = none := by kernel_rfl
theorem T38_zero : zeroT Try.prog 38 = some [.pointer none] := by kernel_rfl
theorem T38_size : sizeT Try.prog 38 = some 1 := by kernel_rfl
theorem T38_bytes : bytesT Try.prog 38 = some 8 := by kernel_rfl
theorem T39_agg : aggT Try.prog 39 = false := by kernel_rfl
theorem T39_one : oneT Try.prog 39 = true := by kernel_rfl
theorem T39_elem : elemT Try.prog 39 = some 28 := by kernel_rfl
theorem T39_str : strT Try.prog 39 = false := by kernel_rfl
theorem T39_bool : boolT Try.prog 39 = false := by kernel_rfl
theorem T39_kind : kindT Try.prog 39 = none := by kernel_rfl
theorem T39_zero : zeroT Try.prog 39 = some [.slice none 0 0] := by kernel_rfl
theorem T39_size : sizeT Try.prog 39 = some 1 := by kernel_rfl
theorem T39_bytes : bytesT Try.prog 39 = some 24 := by kernel_rfl
theorem T41_agg : aggT Try.prog 41 = true := by kernel_rfl
theorem T41_one : oneT Try.prog 41 = false := by kernel_rfl
theorem T41_elem : elemT Try.prog 41 = none := by kernel_rfl
theorem T41_str : strT Try.prog 41 = false := by kernel_rfl
theorem T41_bool : boolT Try.prog 41 = false := by kernel_rfl
theorem T41_kind : kindT Try.prog 41 = none := by kernel_rfl
theorem T41_sized : sizedT Try.prog 41 = true := by kernel_rfl
theorem T41_f0 : fieldT Try.prog 41 0 = some (0, 39) := by kernel_rfl
theorem T41_f1 : fieldT Try.prog 41 1 = some (1, 28) := by kernel_rfl
theorem T41_zero : zeroT Try.prog 41 = some [.slice none 0 0, .slice none 0 0] := by kernel_rfl
theorem T41_size : sizeT Try.prog 41 = some 2 := by kernel_rfl
theorem T41_bytes : bytesT Try.prog 41 = some 48 := by kernel_rfl
theorem T54_agg : aggT Try.prog 54 = false := by kernel_rfl
theorem T54_one : oneT Try.prog 54 = true := by kernel_rfl
theorem T54_elem : elemT Try.prog 54 = none := by kernel_rfl
theorem T54_str : strT Try.prog 54 = false := by kernel_rfl
theorem T54_bool : boolT Try.prog 54 = false := by kernel_rfl
theorem T54_kind : kindT Try.prog 54 = none := by kernel_rfl
theorem T54_zero : zeroT Try.prog 54 = some [.nilFunc] := by kernel_rfl
theorem T54_size : sizeT Try.prog 54 = some 1 := by kernel_rfl
theorem T54_bytes : bytesT Try.prog 54 = some 8 := by kernel_rfl
theorem T64_agg : aggT Try.prog 64 = false := by kernel_rfl
theorem T64_one : oneT Try.prog 64 = true := by kernel_rfl
theorem T64_elem : elemT Try.prog 64 = none := by kernel_rfl
theorem T64_str : strT Try.prog 64 = false := by kernel_rfl
theorem T64_bool : boolT Try.prog 64 = false := by kernel_rfl
theorem T64_kind : kindT Try.prog 64 = none := by kernel_rfl
theorem T64_zero : zeroT Try.prog 64 = some [.nilFunc] := by kernel_rfl
theorem T64_size : sizeT Try.prog 64 = some 1 := by kernel_rfl
theorem T64_bytes : bytesT Try.prog 64 = some 8 := by kernel_rfl
theorem T67_agg : aggT Try.prog 67 = false := by kernel_rfl
theorem T67_one : oneT Try.prog 67 = true := by kernel_rfl
theorem T67_elem : elemT Try.prog 67 = some 71 := by kernel_rfl
theorem T67_str : strT Try.prog 67 = false := by kernel_rfl
theorem T67_bool : boolT Try.prog 67 = false := by kernel_rfl
theorem T67_kind : kindT Try.prog 67 = none := by kernel_rfl
theorem T67_zero : zeroT Try.prog 67 = some [.slice none 0 0] := by kernel_rfl
theorem T67_size : sizeT Try.prog 67 = some 1 := by kernel_rfl
theorem T67_bytes : bytesT Try.prog 67 = some 24 := by kernel_rfl
theorem T71_agg : aggT Try.prog 71 = true := by kernel_rfl
theorem T71_one : oneT Try.prog 71 = false := by kernel_rfl
theorem T71_elem : elemT Try.prog 71 = none := by kernel_rfl
theorem T71_str : strT Try.prog 71 = false := by kernel_rfl
theorem T71_bool : boolT Try.prog 71 = false := by kernel_rfl
theorem T71_kind : kindT Try.prog 71 = none := by kernel_rfl
theorem T71_sized : sizedT Try.prog 71 = true := by kernel_rfl
theorem T71_f0 : fieldT Try.prog 71 0 = some (0, 30) := by kernel_rfl
theorem T71_f1 : fieldT Try.prog 71 1 = some (2, 28) := by kernel_rfl
theorem T71_zero : zeroT Try.prog 71 = some [.bool false, .slice none 0 0, .slice none 0 0] := by kernel_rfl
theorem T71_size : sizeT Try.prog 71 = some 3 := by kernel_rfl
theorem T71_bytes : bytesT Try.prog 71 = some 56 := by kernel_rfl
theorem T80_agg : aggT Try.prog 80 = false := by kernel_rfl
theorem T80_one : oneT Try.prog 80 = true := by kernel_rfl
theorem T80_elem : elemT Try.prog 80 = none := by kernel_rfl
theorem T80_str : strT Try.prog 80 = false := by kernel_rfl
theorem T80_bool : boolT Try.prog 80 = false := by kernel_rfl
theorem T80_kind : kindT Try.prog 80 = some .u64 := by kernel_rfl
theorem T80_zero : zeroT Try.prog 80 = some [.int .u64 0] := by kernel_rfl
theorem T80_size : sizeT Try.prog 80 = some 1 := by kernel_rfl
theorem T80_bytes : bytesT Try.prog 80 = some 8 := by kernel_rfl
theorem T87_agg : aggT Try.prog 87 = false := by kernel_rfl
theorem T87_one : oneT Try.prog 87 = true := by kernel_rfl
theorem T87_elem : elemT Try.prog 87 = some 96 := by kernel_rfl
theorem T87_str : strT Try.prog 87 = false := by kernel_rfl
theorem T87_bool : boolT Try.prog 87 = false := by kernel_rfl
theorem T87_kind : kindT Try.prog 87 = none := by kernel_rfl
theorem T87_zero : zeroT Try.prog 87 = some [.slice none 0 0] := by kernel_rfl
theorem T87_size : sizeT Try.prog 87 = some 1 := by kernel_rfl
theorem T87_bytes : bytesT Try.prog 87 = some 24 := by kernel_rfl
theorem T93_agg : aggT Try.prog 93 = false := by kernel_rfl
theorem T93_one : oneT Try.prog 93 = true := by kernel_rfl
theorem T93_elem : elemT Try.prog 93 = none := by kernel_rfl
theorem T93_str : strT Try.prog 93 = false := by kernel_rfl
theorem T93_bool : boolT Try.prog 93 = false := by kernel_rfl
theorem T93_kind : kindT Try.prog 93 = some .u32 := by kernel_rfl
theorem T93_zero : zeroT Try.prog 93 = some [.int .u32 0] := by kernel_rfl
theorem T93_size : sizeT Try.prog 93 = some 1 := by kernel_rfl
theorem T93_bytes : bytesT Try.prog 93 = some 4 := by kernel_rfl
theorem T96_agg : aggT Try.prog 96 = false := by kernel_rfl
theorem T96_one : oneT Try.prog 96 = true := by kernel_rfl
theorem T96_elem : elemT Try.prog 96 = some 103 := by kernel_rfl
theorem T96_str : strT Try.prog 96 = false := by kernel_rfl
theorem T96_bool : boolT Try.prog 96 = false := by kernel_rfl
theorem T96_kind : kindT Try.prog 96 = none := by kernel_rfl
theorem T96_zero : zeroT Try.prog 96 = some [.slice none 0 0] := by kernel_rfl
theorem T96_size : sizeT Try.prog 96 = some 1 := by kernel_rfl
theorem T96_bytes : bytesT Try.prog 96 = some 24 := by kernel_rfl
theorem T103_agg : aggT Try.prog 103 = true := by kernel_rfl
theorem T103_one : oneT Try.prog 103 = false := by kernel_rfl
theorem T103_elem : elemT Try.prog 103 = none := by kernel_rfl
theorem T103_str : strT Try.prog 103 = false := by kernel_rfl
theorem T103_bool : boolT Try.prog 103 = false := by kernel_rfl
theorem T103_kind : kindT Try.prog 103 = none := by kernel_rfl
theorem T103_sized : sizedT Try.prog 103 = true := by kernel_rfl
theorem T103_f0 : fieldT Try.prog 103 0 = some (0, 4) := by kernel_rfl
theorem T103_f1 : fieldT Try.prog 103 1 = some (1, 23) := by kernel_rfl
theorem T103_zero : zeroT Try.prog 103 = some [.bool false, .slice none 0 0] := by kernel_rfl
theorem T103_size : sizeT Try.prog 103 = some 2 := by kernel_rfl
theorem T103_bytes : bytesT Try.prog 103 = some 32 := by kernel_rfl
theorem T118_agg : aggT Try.prog 118 = false := by kernel_rfl
theorem T118_one : oneT Try.prog 118 = true := by kernel_rfl
theorem T118_elem : elemT Try.prog 118 = none := by kernel_rfl
theorem T118_str : strT Try.prog 118 = false := by kernel_rfl
theorem T118_bool : boolT Try.prog 118 = false := by kernel_rfl
theorem T118_kind : kindT Try.prog 118 = some .u64 := by kernel_rfl
theorem T118_zero : zeroT Try.prog 118 = some [.int .u64 0] := by kernel_rfl
theorem T118_size : sizeT Try.prog 118 = some 1 := by kernel_rfl
theorem T118_bytes : bytesT Try.prog 118 = some 8 := by kernel_rfl
theorem T136_agg : aggT Try.prog 136 = false := by kernel_rfl
theorem T136_one : oneT Try.prog 136 = true := by kernel_rfl
theorem T136_elem : elemT Try.prog 136 = some 137 := by kernel_rfl
theorem T136_str : strT Try.prog 136 = false := by kernel_rfl
theorem T136_bool : boolT Try.prog 136 = false := by kernel_rfl
theorem T136_kind : kindT Try.prog 136 = none := by kernel_rfl
theorem T136_zero : zeroT Try.prog 136 = some [.slice none 0 0] := by kernel_rfl
theorem T136_size : sizeT Try.prog 136 = some 1 := by kernel_rfl
theorem T136_bytes : bytesT Try.prog 136 = some 24 := by kernel_rfl
theorem T137_agg : aggT Try.prog 137 = false := by kernel_rfl
theorem T137_one : oneT Try.prog 137 = true := by kernel_rfl
theorem T137_elem : elemT Try.prog 137 = some 139 := by kernel_rfl
theorem T137_str : strT Try.prog 137 = false := by kernel_rfl
theorem T137_bool : boolT Try.prog 137 = false := by kernel_rfl
theorem T137_kind : kindT Try.prog 137 = none := by kernel_rfl
theorem T137_zero : zeroT Try.prog 137 = some [.slice none 0 0] := by kernel_rfl
theorem T137_size : sizeT Try.prog 137 = some 1 := by kernel_rfl
theorem T137_bytes : bytesT Try.prog 137 = some 24 := by kernel_rfl
theorem T139_agg : aggT Try.prog 139 = true := by kernel_rfl
theorem T139_one : oneT Try.prog 139 = false := by kernel_rfl
theorem T139_elem : elemT Try.prog 139 = none := by kernel_rfl
theorem T139_str : strT Try.prog 139 = false := by kernel_rfl
theorem T139_bool : boolT Try.prog 139 = false := by kernel_rfl
theorem T139_kind : kindT Try.prog 139 = none := by kernel_rfl
theorem T139_sized : sizedT Try.prog 139 = true := by kernel_rfl
theorem T139_f0 : fieldT Try.prog 139 0 = some (0, 103) := by kernel_rfl
theorem T139_f1 : fieldT Try.prog 139 1 = some (2, 103) := by kernel_rfl
theorem T139_zero : zeroT Try.prog 139 = some [.bool false, .slice none 0 0, .bool false, .slice none 0 0] := by kernel_rfl
theorem T139_size : sizeT Try.prog 139 = some 4 := by kernel_rfl
theorem T139_bytes : bytesT Try.prog 139 = some 64 := by kernel_rfl
attribute [go_sem] T3_agg T3_one T3_elem T3_str T3_bool T3_kind T3_zero T3_size T3_bytes T4_agg T4_one T4_elem T4_str T4_bool T4_kind T4_zero T4_size T4_bytes T5_agg T5_one T5_elem T5_str T5_bool T5_kind T5_zero T5_size T5_bytes T9_agg T9_one T9_elem T9_str T9_bool T9_kind T9_zero T9_size T9_bytes T22_agg T22_one T22_elem T22_str T22_bool T22_kind T22_zero T22_size T22_bytes T23_agg T23_one T23_elem T23_str T23_bool T23_kind T23_zero T23_size T23_bytes T27_agg T27_one T27_elem T27_str T27_bool T27_kind T27_zero T27_size T27_bytes T28_agg T28_one T28_elem T28_str T28_bool T28_kind T28_zero T28_size T28_bytes T30_agg T30_one T30_elem T30_str T30_bool T30_kind T30_sized T30_f0 T30_f1 T30_zero T30_size T30_bytes T33_agg T33_one T33_elem T33_str T33_bool T33_kind T33_zero T33_size T33_bytes T38_agg T38_one T38_elem T38_str T38_bool T38_kind T38_zero T38_size T38_bytes T39_agg T39_one T39_elem T39_str T39_bool T39_kind T39_zero T39_size T39_bytes T41_agg T41_one T41_elem T41_str T41_bool T41_kind T41_sized T41_f0 T41_f1 T41_zero T41_size T41_bytes T54_agg T54_one T54_elem T54_str T54_bool T54_kind T54_zero T54_size T54_bytes T64_agg T64_one T64_elem T64_str T64_bool T64_kind T64_zero T64_size T64_bytes T67_agg T67_one T67_elem T67_str T67_bool T67_kind T67_zero T67_size T67_bytes T71_agg T71_one T71_elem T71_str T71_bool T71_kind T71_sized T71_f0 T71_f1 T71_zero T71_size T71_bytes T80_agg T80_one T80_elem T80_str T80_bool T80_kind T80_zero T80_size T80_bytes T87_agg T87_one T87_elem T87_str T87_bool T87_kind T87_zero T87_size T87_bytes T93_agg T93_one T93_elem T93_str T93_bool T93_kind T93_zero T93_size T93_bytes T96_agg T96_one T96_elem T96_str T96_bool T96_kind T96_zero T96_size T96_bytes T103_agg T103_one T103_elem T103_str T103_bool T103_kind T103_sized T103_f0 T103_f1 T103_zero T103_size T103_bytes T118_agg T118_one T118_elem T118_str T118_bool T118_kind T118_zero T118_size T118_bytes T136_agg T136_one T136_elem T136_str T136_bool T136_kind T136_zero T136_size T136_bytes T137_agg T137_one T137_elem T137_str T137_bool T137_kind T137_zero T137_size T137_bytes T139_agg T139_one T139_elem T139_str T139_bool T139_kind T139_sized T139_f0 T139_f1 T139_zero T139_size T139_bytes
end Go.Proofs.Ytfjdfnlkobeehaa
end
