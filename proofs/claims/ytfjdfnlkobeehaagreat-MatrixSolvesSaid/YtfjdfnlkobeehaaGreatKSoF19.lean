/- Part 19 of the way to the statement: the walk and what it needs. -/
import Derived.Test.YtfjdfnlkobeehaaGreatKSoF18
import Derived.Test.YtfjdfnlkobeehaaGreatProg
import Derived.KernelRfl
section
set_option maxRecDepth 100000
namespace Go.Proofs.YtfjdfnlkobeehaaGreat
theorem T3_agg : aggT Tryz.prog 3 = false := by kernel_rfl
theorem T3_one : oneT Tryz.prog 3 = true := by kernel_rfl
theorem T3_elem : elemT Tryz.prog 3 = none := by kernel_rfl
theorem T3_str : strT Tryz.prog 3 = false := by kernel_rfl
theorem T3_bool : boolT Tryz.prog 3 = false := by kernel_rfl
theorem T3_kind : kindT Tryz.prog 3 = some .i64 := by kernel_rfl
theorem T3_zero : zeroT Tryz.prog 3 = some [.int .i64 0] := by kernel_rfl
theorem T3_size : sizeT Tryz.prog 3 = some 1 := by kernel_rfl
theorem T3_bytes : bytesT Tryz.prog 3 = some 8 := by kernel_rfl
theorem T4_agg : aggT Tryz.prog 4 = false := by kernel_rfl
theorem T4_one : oneT Tryz.prog 4 = true := by kernel_rfl
theorem T4_elem : elemT Tryz.prog 4 = none := by kernel_rfl
theorem T4_str : strT Tryz.prog 4 = false := by kernel_rfl
theorem T4_bool : boolT Tryz.prog 4 = true := by kernel_rfl
theorem T4_kind : kindT Tryz.prog 4 = none := by kernel_rfl
theorem T4_zero : zeroT Tryz.prog 4 = some [.bool false] := by kernel_rfl
theorem T4_size : sizeT Tryz.prog 4 = some 1 := by kernel_rfl
theorem T4_bytes : bytesT Tryz.prog 4 = some 1 := by kernel_rfl
theorem T5_agg : aggT Tryz.prog 5 = false := by kernel_rfl
theorem T5_one : oneT Tryz.prog 5 = true := by kernel_rfl
theorem T5_elem : elemT Tryz.prog 5 = none := by kernel_rfl
theorem T5_str : strT Tryz.prog 5 = false := by kernel_rfl
theorem T5_bool : boolT Tryz.prog 5 = false := by kernel_rfl
theorem T5_kind : kindT Tryz.prog 5 = some .u8 := by kernel_rfl
theorem T5_zero : zeroT Tryz.prog 5 = some [.int .u8 0] := by kernel_rfl
theorem T5_size : sizeT Tryz.prog 5 = some 1 := by kernel_rfl
theorem T5_bytes : bytesT Tryz.prog 5 = some 1 := by kernel_rfl
theorem T9_agg : aggT Tryz.prog 9 = false := by kernel_rfl
theorem T9_one : oneT Tryz.prog 9 = true := by kernel_rfl
theorem T9_elem : elemT Tryz.prog 9 = none := by kernel_rfl
theorem T9_str : strT Tryz.prog 9 = true := by kernel_rfl
theorem T9_bool : boolT Tryz.prog 9 = false := by kernel_rfl
theorem T9_kind : kindT Tryz.prog 9 = none := by kernel_rfl
theorem T9_zero : zeroT Tryz.prog 9 = some [.string ⟨#[]⟩] := by kernel_rfl
theorem T9_size : sizeT Tryz.prog 9 = some 1 := by kernel_rfl
theorem T9_bytes : bytesT Tryz.prog 9 = some 16 := by kernel_rfl
theorem T22_agg : aggT Tryz.prog 22 = false := by kernel_rfl
theorem T22_one : oneT Tryz.prog 22 = true := by kernel_rfl
theorem T22_elem : elemT Tryz.prog 22 = some 40 := by kernel_rfl
theorem T22_str : strT Tryz.prog 22 = false := by kernel_rfl
theorem T22_bool : boolT Tryz.prog 22 = false := by kernel_rfl
theorem T22_kind : kindT Tryz.prog 22 = none := by kernel_rfl
theorem T22_zero : zeroT Tryz.prog 22 = some [.slice none 0 0] := by kernel_rfl
theorem T22_size : sizeT Tryz.prog 22 = some 1 := by kernel_rfl
theorem T22_bytes : bytesT Tryz.prog 22 = some 24 := by kernel_rfl
theorem T25_agg : aggT Tryz.prog 25 = false := by kernel_rfl
theorem T25_one : oneT Tryz.prog 25 = true := by kernel_rfl
theorem T25_elem : elemT Tryz.prog 25 = none := by kernel_rfl
theorem T25_str : strT Tryz.prog 25 = false := by kernel_rfl
theorem T25_bool : boolT Tryz.prog 25 = false := by kernel_rfl
theorem T25_kind : kindT Tryz.prog 25 = none := by kernel_rfl
theorem T25_zero : zeroT Tryz.prog 25 = some [.pointer none] := by kernel_rfl
theorem T25_size : sizeT Tryz.prog 25 = some 1 := by kernel_rfl
theorem T25_bytes : bytesT Tryz.prog 25 = some 8 := by kernel_rfl
theorem T26_agg : aggT Tryz.prog 26 = false := by kernel_rfl
theorem T26_one : oneT Tryz.prog 26 = true := by kernel_rfl
theorem T26_elem : elemT Tryz.prog 26 = some 27 := by kernel_rfl
theorem T26_str : strT Tryz.prog 26 = false := by kernel_rfl
theorem T26_bool : boolT Tryz.prog 26 = false := by kernel_rfl
theorem T26_kind : kindT Tryz.prog 26 = none := by kernel_rfl
theorem T26_zero : zeroT Tryz.prog 26 = some [.slice none 0 0] := by kernel_rfl
theorem T26_size : sizeT Tryz.prog 26 = some 1 := by kernel_rfl
theorem T26_bytes : bytesT Tryz.prog 26 = some 24 := by kernel_rfl
theorem T27_agg : aggT Tryz.prog 27 = false := by kernel_rfl
theorem T27_one : oneT Tryz.prog 27 = true := by kernel_rfl
theorem T27_elem : elemT Tryz.prog 27 = some 67 := by kernel_rfl
theorem T27_str : strT Tryz.prog 27 = false := by kernel_rfl
theorem T27_bool : boolT Tryz.prog 27 = false := by kernel_rfl
theorem T27_kind : kindT Tryz.prog 27 = none := by kernel_rfl
theorem T27_zero : zeroT Tryz.prog 27 = some [.slice none 0 0] := by kernel_rfl
theorem T27_size : sizeT Tryz.prog 27 = some 1 := by kernel_rfl
theorem T27_bytes : bytesT Tryz.prog 27 = some 24 := by kernel_rfl
theorem T29_agg : aggT Tryz.prog 29 = true := by kernel_rfl
theorem T29_one : oneT Tryz.prog 29 = false := by kernel_rfl
theorem T29_elem : elemT Tryz.prog 29 = none := by kernel_rfl
theorem T29_str : strT Tryz.prog 29 = false := by kernel_rfl
theorem T29_bool : boolT Tryz.prog 29 = false := by kernel_rfl
theorem T29_kind : kindT Tryz.prog 29 = none := by kernel_rfl
theorem T29_sized : sizedT Tryz.prog 29 = true := by kernel_rfl
theorem T29_f0 : fieldT Tryz.prog 29 0 = some (0, 26) := by kernel_rfl
theorem T29_f1 : fieldT Tryz.prog 29 1 = some (1, 27) := by kernel_rfl
theorem T29_zero : zeroT Tryz.prog 29 = some [.slice none 0 0, .slice none 0 0] := by kernel_rfl
theorem T29_size : sizeT Tryz.prog 29 = some 2 := by kernel_rfl
theorem T29_bytes : bytesT Tryz.prog 29 = some 48 := by kernel_rfl
theorem T33_agg : aggT Tryz.prog 33 = false := by kernel_rfl
theorem T33_one : oneT Tryz.prog 33 = true := by kernel_rfl
theorem T33_elem : elemT Tryz.prog 33 = none := by kernel_rfl
theorem T33_str : strT Tryz.prog 33 = false := by kernel_rfl
theorem T33_bool : boolT Tryz.prog 33 = false := by kernel_rfl
theorem T33_kind : kindT Tryz.prog 33 = some .i64 := by kernel_rfl
theorem T33_zero : zeroT Tryz.prog 33 = some [.int .i64 0] := by kernel_rfl
theorem T33_size : sizeT Tryz.prog 33 = some 1 := by kernel_rfl
theorem T33_bytes : bytesT Tryz.prog 33 = some 8 := by kernel_rfl
theorem T40_agg : aggT Tryz.prog 40 = false := by kernel_rfl
theorem T40_one : oneT Tryz.prog 40 = true := by kernel_rfl
theorem T40_elem : elemT Tryz.prog 40 = some 50 := by kernel_rfl
theorem T40_str : strT Tryz.prog 40 = false := by kernel_rfl
theorem T40_bool : boolT Tryz.prog 40 = false := by kernel_rfl
theorem T40_kind : kindT Tryz.prog 40 = none := by kernel_rfl
theorem T40_zero : zeroT Tryz.prog 40 = some [.slice none 0 0] := by kernel_rfl
theorem T40_size : sizeT Tryz.prog 40 = some 1 := by kernel_rfl
theorem T40_bytes : bytesT Tryz.prog 40 = some 24 := by kernel_rfl
theorem T42_agg : aggT Tryz.prog 42 = false := by kernel_rfl
theorem T42_one : oneT Tryz.prog 42 = true := by kernel_rfl
theorem T42_elem : elemT Tryz.prog 42 = none := by kernel_rfl
theorem T42_str : strT Tryz.prog 42 = false := by kernel_rfl
theorem T42_bool : boolT Tryz.prog 42 = false := by kernel_rfl
theorem T42_kind : kindT Tryz.prog 42 = none := by kernel_rfl
theorem T42_zero : zeroT Tryz.prog 42 = some [.nilFunc] := by kernel_rfl
theorem T42_size : sizeT Tryz.prog 42 = some 1 := by kernel_rfl
theorem T42_bytes : bytesT Tryz.prog 42 = some 8 := by kernel_rfl
theorem T43_agg : aggT Tryz.prog 43 = false := by kernel_rfl
theorem T43_one : oneT Tryz.prog 43 = true := by kernel_rfl
theorem T43_elem : elemT Tryz.prog 43 = some 52 := by kernel_rfl
theorem T43_str : strT Tryz.prog 43 = false := by kernel_rfl
theorem T43_bool : boolT Tryz.prog 43 = false := by kernel_rfl
theorem T43_kind : kindT Tryz.prog 43 = none := by kernel_rfl
theorem T43_zero : zeroT Tryz.prog 43 = some [.slice none 0 0] := by kernel_rfl
theorem T43_size : sizeT Tryz.prog 43 = some 1 := by kernel_rfl
theorem T43_bytes : bytesT Tryz.prog 43 = some 24 := by kernel_rfl
theorem T50_agg : aggT Tryz.prog 50 = true := by kernel_rfl
theorem T50_one : oneT Tryz.prog 50 = false := by kernel_rfl
theorem T50_elem : elemT Tryz.prog 50 = none := by kernel_rfl
theorem T50_str : strT Tryz.prog 50 = false := by kernel_rfl
theorem T50_bool : boolT Tryz.prog 50 = false := by kernel_rfl
theorem T50_kind : kindT Tryz.prog 50 = none := by kernel_rfl
theorem T50_sized : sizedT Tryz.prog 50 = true := by kernel_rfl
theorem T50_f0 : fieldT Tryz.prog 50 0 = some (0, 4) := by kernel_rfl
theorem T50_f1 : fieldT Tryz.prog 50 1 = some (1, 27) := by kernel_rfl
theorem T50_zero : zeroT Tryz.prog 50 = some [.bool false, .slice none 0 0] := by kernel_rfl
theorem T50_size : sizeT Tryz.prog 50 = some 2 := by kernel_rfl
theorem T50_bytes : bytesT Tryz.prog 50 = some 32 := by kernel_rfl
theorem T52_agg : aggT Tryz.prog 52 = true := by kernel_rfl
theorem T52_one : oneT Tryz.prog 52 = false := by kernel_rfl
theorem T52_elem : elemT Tryz.prog 52 = none := by kernel_rfl
theorem T52_str : strT Tryz.prog 52 = false := by kernel_rfl
theorem T52_bool : boolT Tryz.prog 52 = false := by kernel_rfl
theorem T52_kind : kindT Tryz.prog 52 = none := by kernel_rfl
theorem T52_sized : sizedT Tryz.prog 52 = true := by kernel_rfl
theorem T52_f0 : fieldT Tryz.prog 52 0 = some (0, 50) := by kernel_rfl
theorem T52_f1 : fieldT Tryz.prog 52 1 = some (2, 27) := by kernel_rfl
theorem T52_zero : zeroT Tryz.prog 52 = some [.bool false, .slice none 0 0, .slice none 0 0] := by kernel_rfl
theorem T52_size : sizeT Tryz.prog 52 = some 3 := by kernel_rfl
theorem T52_bytes : bytesT Tryz.prog 52 = some 56 := by kernel_rfl
theorem T58_agg : aggT Tryz.prog 58 = false := by kernel_rfl
theorem T58_one : oneT Tryz.prog 58 = true := by kernel_rfl
theorem T58_elem : elemT Tryz.prog 58 = some 77 := by kernel_rfl
theorem T58_str : strT Tryz.prog 58 = false := by kernel_rfl
theorem T58_bool : boolT Tryz.prog 58 = false := by kernel_rfl
theorem T58_kind : kindT Tryz.prog 58 = none := by kernel_rfl
theorem T58_zero : zeroT Tryz.prog 58 = some [.slice none 0 0] := by kernel_rfl
theorem T58_size : sizeT Tryz.prog 58 = some 1 := by kernel_rfl
theorem T58_bytes : bytesT Tryz.prog 58 = some 24 := by kernel_rfl
theorem T61_agg : aggT Tryz.prog 61 = false := by kernel_rfl
theorem T61_one : oneT Tryz.prog 61 = true := by kernel_rfl
theorem T61_elem : elemT Tryz.prog 61 = some 3 := by kernel_rfl
theorem T61_str : strT Tryz.prog 61 = false := by kernel_rfl
theorem T61_bool : boolT Tryz.prog 61 = false := by kernel_rfl
theorem T61_kind : kindT Tryz.prog 61 = none := by kernel_rfl
theorem T61_zero : zeroT Tryz.prog 61 = some [.slice none 0 0] := by kernel_rfl
theorem T61_size : sizeT Tryz.prog 61 = some 1 := by kernel_rfl
theorem T61_bytes : bytesT Tryz.prog 61 = some 24 := by kernel_rfl
theorem T67_agg : aggT Tryz.prog 67 = false := by kernel_rfl
theorem T67_one : oneT Tryz.prog 67 = true := by kernel_rfl
theorem T67_elem : elemT Tryz.prog 67 = none := by kernel_rfl
theorem T67_str : strT Tryz.prog 67 = false := by kernel_rfl
theorem T67_bool : boolT Tryz.prog 67 = false := by kernel_rfl
theorem T67_kind : kindT Tryz.prog 67 = some .u32 := by kernel_rfl
theorem T67_zero : zeroT Tryz.prog 67 = some [.int .u32 0] := by kernel_rfl
theorem T67_size : sizeT Tryz.prog 67 = some 1 := by kernel_rfl
theorem T67_bytes : bytesT Tryz.prog 67 = some 4 := by kernel_rfl
theorem T69_agg : aggT Tryz.prog 69 = false := by kernel_rfl
theorem T69_one : oneT Tryz.prog 69 = true := by kernel_rfl
theorem T69_elem : elemT Tryz.prog 69 = none := by kernel_rfl
theorem T69_str : strT Tryz.prog 69 = false := by kernel_rfl
theorem T69_bool : boolT Tryz.prog 69 = false := by kernel_rfl
theorem T69_kind : kindT Tryz.prog 69 = none := by kernel_rfl
theorem T69_zero : zeroT Tryz.prog 69 = some [.nilFunc] := by kernel_rfl
theorem T69_size : sizeT Tryz.prog 69 = some 1 := by kernel_rfl
theorem T69_bytes : bytesT Tryz.prog 69 = some 8 := by kernel_rfl
theorem T74_agg : aggT Tryz.prog 74 = false := by kernel_rfl
theorem T74_one : oneT Tryz.prog 74 = true := by kernel_rfl
theorem T74_elem : elemT Tryz.prog 74 = some 83 := by kernel_rfl
theorem T74_str : strT Tryz.prog 74 = false := by kernel_rfl
theorem T74_bool : boolT Tryz.prog 74 = false := by kernel_rfl
theorem T74_kind : kindT Tryz.prog 74 = none := by kernel_rfl
theorem T74_zero : zeroT Tryz.prog 74 = some [.slice none 0 0] := by kernel_rfl
theorem T74_size : sizeT Tryz.prog 74 = some 1 := by kernel_rfl
theorem T74_bytes : bytesT Tryz.prog 74 = some 24 := by kernel_rfl
theorem T77_agg : aggT Tryz.prog 77 = false := by kernel_rfl
theorem T77_one : oneT Tryz.prog 77 = true := by kernel_rfl
theorem T77_elem : elemT Tryz.prog 77 = some 81 := by kernel_rfl
theorem T77_str : strT Tryz.prog 77 = false := by kernel_rfl
theorem T77_bool : boolT Tryz.prog 77 = false := by kernel_rfl
theorem T77_kind : kindT Tryz.prog 77 = none := by kernel_rfl
theorem T77_zero : zeroT Tryz.prog 77 = some [.slice none 0 0] := by kernel_rfl
theorem T77_size : sizeT Tryz.prog 77 = some 1 := by kernel_rfl
theorem T77_bytes : bytesT Tryz.prog 77 = some 24 := by kernel_rfl
theorem T81_agg : aggT Tryz.prog 81 = true := by kernel_rfl
theorem T81_one : oneT Tryz.prog 81 = false := by kernel_rfl
theorem T81_elem : elemT Tryz.prog 81 = none := by kernel_rfl
theorem T81_str : strT Tryz.prog 81 = false := by kernel_rfl
theorem T81_bool : boolT Tryz.prog 81 = false := by kernel_rfl
theorem T81_kind : kindT Tryz.prog 81 = none := by kernel_rfl
theorem T81_sized : sizedT Tryz.prog 81 = true := by kernel_rfl
theorem T81_f0 : fieldT Tryz.prog 81 0 = some (0, 4) := by kernel_rfl
theorem T81_f1 : fieldT Tryz.prog 81 1 = some (1, 61) := by kernel_rfl
theorem T81_zero : zeroT Tryz.prog 81 = some [.bool false, .slice none 0 0] := by kernel_rfl
theorem T81_size : sizeT Tryz.prog 81 = some 2 := by kernel_rfl
theorem T81_bytes : bytesT Tryz.prog 81 = some 32 := by kernel_rfl
theorem T83_agg : aggT Tryz.prog 83 = true := by kernel_rfl
theorem T83_one : oneT Tryz.prog 83 = false := by kernel_rfl
theorem T83_elem : elemT Tryz.prog 83 = none := by kernel_rfl
theorem T83_str : strT Tryz.prog 83 = false := by kernel_rfl
theorem T83_bool : boolT Tryz.prog 83 = false := by kernel_rfl
theorem T83_kind : kindT Tryz.prog 83 = none := by kernel_rfl
theorem T83_sized : sizedT Tryz.prog 83 = true := by kernel_rfl
theorem T83_f0 : fieldT Tryz.prog 83 0 = some (0, 81) := by kernel_rfl
theorem T83_f1 : fieldT Tryz.prog 83 1 = some (2, 81) := by kernel_rfl
theorem T83_zero : zeroT Tryz.prog 83 = some [.bool false, .slice none 0 0, .bool false, .slice none 0 0] := by kernel_rfl
theorem T83_size : sizeT Tryz.prog 83 = some 4 := by kernel_rfl
theorem T83_bytes : bytesT Tryz.prog 83 = some 64 := by kernel_rfl
theorem T112_agg : aggT Tryz.prog 112 = false := by kernel_rfl
theorem T112_one : oneT Tryz.prog 112 = true := by kernel_rfl
theorem T112_elem : elemT Tryz.prog 112 = none := by kernel_rfl
theorem T112_str : strT Tryz.prog 112 = false := by kernel_rfl
theorem T112_bool : boolT Tryz.prog 112 = false := by kernel_rfl
theorem T112_kind : kindT Tryz.prog 112 = some .u64 := by kernel_rfl
theorem T112_zero : zeroT Tryz.prog 112 = some [.int .u64 0] := by kernel_rfl
theorem T112_size : sizeT Tryz.prog 112 = some 1 := by kernel_rfl
theorem T112_bytes : bytesT Tryz.prog 112 = some 8 := by kernel_rfl
theorem T113_agg : aggT Tryz.prog 113 = false := by kernel_rfl
theorem T113_one : oneT Tryz.prog 113 = true := by kernel_rfl
theorem T113_elem : elemT Tryz.prog 113 = none := by kernel_rfl
theorem T113_str : strT Tryz.prog 113 = false := by kernel_rfl
theorem T113_bool : boolT Tryz.prog 113 = false := by kernel_rfl
theorem T113_kind : kindT Tryz.prog 113 = some .u64 := by kernel_rfl
theorem T113_zero : zeroT Tryz.prog 113 = some [.int .u64 0] := by kernel_rfl
theorem T113_size : sizeT Tryz.prog 113 = some 1 := by kernel_rfl
theorem T113_bytes : bytesT Tryz.prog 113 = some 8 := by kernel_rfl
attribute [go_sem] T3_agg T3_one T3_elem T3_str T3_bool T3_kind T3_zero T3_size T3_bytes T4_agg T4_one T4_elem T4_str T4_bool T4_kind T4_zero T4_size T4_bytes T5_agg T5_one T5_elem T5_str T5_bool T5_kind T5_zero T5_size T5_bytes T9_agg T9_one T9_elem T9_str T9_bool T9_kind T9_zero T9_size T9_bytes T22_agg T22_one T22_elem T22_str T22_bool T22_kind T22_zero T22_size T22_bytes T25_agg T25_one T25_elem T25_str T25_bool T25_kind T25_zero T25_size T25_bytes T26_agg T26_one T26_elem T26_str T26_bool T26_kind T26_zero T26_size T26_bytes T27_agg T27_one T27_elem T27_str T27_bool T27_kind T27_zero T27_size T27_bytes T29_agg T29_one T29_elem T29_str T29_bool T29_kind T29_sized T29_f0 T29_f1 T29_zero T29_size T29_bytes T33_agg T33_one T33_elem T33_str T33_bool T33_kind T33_zero T33_size T33_bytes T40_agg T40_one T40_elem T40_str T40_bool T40_kind T40_zero T40_size T40_bytes T42_agg T42_one T42_elem T42_str T42_bool T42_kind T42_zero T42_size T42_bytes T43_agg T43_one T43_elem T43_str T43_bool T43_kind T43_zero T43_size T43_bytes T50_agg T50_one T50_elem T50_str T50_bool T50_kind T50_sized T50_f0 T50_f1 T50_zero T50_size T50_bytes T52_agg T52_one T52_elem T52_str T52_bool T52_kind T52_sized T52_f0 T52_f1 T52_zero T52_size T52_bytes T58_agg T58_one T58_elem T58_str T58_bool T58_kind T58_zero T58_size T58_bytes T61_agg T61_one T61_elem T61_str T61_bool T61_kind T61_zero T61_size T61_bytes T67_agg T67_one T67_elem T67_str T67_bool T67_kind T67_zero T67_size T67_bytes T69_agg T69_one T69_elem T69_str T69_bool T69_kind T69_zero T69_size T69_bytes T74_agg T74_one T74_elem T74_str T74_bool T74_kind T74_zero T74_size T74_bytes T77_agg T77_one T77_elem T77_str T77_bool T77_kind T77_zero T77_size T77_bytes T81_agg T81_one T81_elem T81_str T81_bool T81_kind T81_sized T81_f0 T81_f1 T81_zero T81_size T81_bytes T83_agg T83_one T83_elem T83_str T83_bool T83_kind T83_sized T83_f0 T83_f1 T83_zero T83_size T83_bytes T112_agg T112_one T112_elem T112_str T112_bool T112_kind T112_zero T112_size T112_bytes T113_agg T113_one T113_elem T113_str T113_bool T113_kind T113_zero T113_size T113_bytes
end Go.Proofs.YtfjdfnlkobeehaaGreat
end
