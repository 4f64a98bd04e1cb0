/- Part 3 of the way to the statement: the walk and what it needs. -/
import Derived.Test.YtfjdfnlkobeehaaKIns2
section
set_option maxRecDepth 100000
namespace Go.Proofs.Ytfjdfnlkobeehaa
theorem T3_agg : aggT Try.prog 3 = false := by kernel_rfl
theorem T3_one : oneT Try.prog 3 = true := by kernel_rfl
theorem T3_elem : elemT Try.prog 3 = none := by kernel_rfl
theorem T3_str : strT Try.prog 3 = false := by kernel_rfl
theorem T3_bool : boolT Try.prog 3 = false := by kernel_rfl
theorem T3_kind : kindT Try.prog 3 = some .i64 := by kernel_rfl
theorem T3_zero : zeroT Try.prog 3 = some [.int .i64 0] := by kernel_rfl
theorem T3_size : sizeT Try.prog 3 = some 1 := by kernel_rfl
theorem T3_bytes : bytesT Try.prog 3 = some 8 := by kernel_rfl
theorem T4_agg : aggT Try.prog 4 = false := by kernel_rfl
theorem T4_one : oneT Try.prog 4 = true := by kernel_rfl
theorem T4_elem : elemT Try.prog 4 = none := by kernel_rfl
theorem T4_str : strT Try.prog 4 = false := by kernel_rfl
theorem T4_bool : boolT Try.prog 4 = true := by kernel_rfl
theorem T4_kind : kindT Try.prog 4 = none := by kernel_rfl
theorem T4_zero : zeroT Try.prog 4 = some [.bool false] := by kernel_rfl
theorem T4_size : sizeT Try.prog 4 = some 1 := by kernel_rfl
theorem T4_bytes : bytesT Try.prog 4 = some 1 := by kernel_rfl
theorem T5_agg : aggT Try.prog 5 = false := by kernel_rfl
theorem T5_one : oneT Try.prog 5 = true := by kernel_rfl
theorem T5_elem : elemT Try.prog 5 = none := by kernel_rfl
theorem T5_str : strT Try.prog 5 = false := by kernel_rfl
theorem T5_bool : boolT Try.prog 5 = false := by kernel_rfl
theorem T5_kind : kindT Try.prog 5 = some .u8 := by kernel_rfl
theorem T5_zero : zeroT Try.prog 5 = some [.int .u8 0] := by kernel_rfl
theorem T5_size : sizeT Try.prog 5 = some 1 := by kernel_rfl
theorem T5_bytes : bytesT Try.prog 5 = some 1 := by kernel_rfl
theorem T9_agg : aggT Try.prog 9 = false := by kernel_rfl
theorem T9_one : oneT Try.prog 9 = true := by kernel_rfl
theorem T9_elem : elemT Try.prog 9 = none := by kernel_rfl
theorem T9_str : strT Try.prog 9 = true := by kernel_rfl
theorem T9_bool : boolT Try.prog 9 = false := by kernel_rfl
theorem T9_kind : kindT Try.prog 9 = none := by kernel_rfl
theorem T9_zero : zeroT Try.prog 9 = some [.string ⟨#[]⟩] := by kernel_rfl
theorem T9_size : sizeT Try.prog 9 = some 1 := by kernel_rfl
theorem T9_bytes : bytesT Try.prog 9 = some 16 := by kernel_rfl
theorem T22_agg : aggT Try.prog 22 = false := by kernel_rfl
theorem T22_one : oneT Try.prog 22 = true := by kernel_rfl
theorem T22_elem : elemT Try.prog 22 = some 27 := by kernel_rfl
theorem T22_str : strT Try.prog 22 = false := by kernel_rfl
theorem T22_bool : boolT Try.prog 22 = false := by kernel_rfl
theorem T22_kind : kindT Try.prog 22 = none := by kernel_rfl
theorem T22_zero : zeroT Try.prog 22 = some [.slice none 0 0] := by kernel_rfl
theorem T22_size : sizeT Try.prog 22 = some 1 := by kernel_rfl
theorem T22_bytes : bytesT Try.prog 22 = some 24 := by kernel_rfl
theorem T23_agg : aggT Try.prog 23 = false := by kernel_rfl
theorem T23_one : oneT Try.prog 23 = true := by kernel_rfl
theorem T23_elem : elemT Try.prog 23 = some 3 := by kernel_rfl
theorem T23_str : strT Try.prog 23 = false := by kernel_rfl
theorem T23_bool : boolT Try.prog 23 = false := by kernel_rfl
theorem T23_kind : kindT Try.prog 23 = none := by kernel_rfl
theorem T23_zero : zeroT Try.prog 23 = some [.slice none 0 0] := by kernel_rfl
theorem T23_size : sizeT Try.prog 23 = some 1 := by kernel_rfl
theorem T23_bytes : bytesT Try.prog 23 = some 24 := by kernel_rfl
theorem T27_agg : aggT Try.prog 27 = false := by kernel_rfl
theorem T27_one : oneT Try.prog 27 = true := by kernel_rfl
theorem T27_elem : elemT Try.prog 27 = some 30 := by kernel_rfl
theorem T27_str : strT Try.prog 27 = false := by kernel_rfl
theorem T27_bool : boolT Try.prog 27 = false := by kernel_rfl
theorem T27_kind : kindT Try.prog 27 = none := by kernel_rfl
theorem T27_zero : zeroT Try.prog 27 = some [.slice none 0 0] := by kernel_rfl
theorem T27_size : sizeT Try.prog 27 = some 1 := by kernel_rfl
theorem T27_bytes : bytesT Try.prog 27 = some 24 := by kernel_rfl
theorem T28_agg : aggT Try.prog 28 = false := by kernel_rfl
theorem T28_one : oneT Try.prog 28 = true := by kernel_rfl
theorem T28_elem : elemT Try.prog 28 = some 93 := by kernel_rfl
theorem T28_str : strT Try.prog 28 = false := by kernel_rfl
theorem T28_bool : boolT Try.prog 28 = false := by kernel_rfl
theorem T28_kind : kindT Try.prog 28 = none := by kernel_rfl
theorem T28_zero : zeroT Try.prog 28 = some [.slice none 0 0] := by kernel_rfl
theorem T28_size : sizeT Try.prog 28 = some 1 := by kernel_rfl
theorem T28_bytes : bytesT Try.prog 28 = some 24 := by kernel_rfl
theorem T30_agg : aggT Try.prog 30 = true := by kernel_rfl
theorem T30_one : oneT Try.prog 30 = false := by kernel_rfl
theorem T30_elem : elemT Try.prog 30 = none := by kernel_rfl
theorem T30_str : strT Try.prog 30 = false := by kernel_rfl
theorem T30_bool : boolT Try.prog 30 = false := by kernel_rfl
theorem T30_kind : kindT Try.prog 30 = none := by kernel_rfl
theorem T30_sized : sizedT Try.prog 30 = true := by kernel_rfl
theorem T30_f0 : fieldT Try.prog 30 0 = some (0, 4) := by kernel_rfl
theorem T30_f1 : fieldT Try.prog 30 1 = some (1, 28) := by kernel_rfl
theorem T30_zero : zeroT Try.prog 30 = some [.bool false, .slice none 0 0] := by kernel_rfl
theorem T30_size : sizeT Try.prog 30 = some 2 := by kernel_rfl
theorem T30_bytes : bytesT Try.prog 30 = some 32 := by kernel_rfl
theorem T33_agg : aggT Try.prog 33 = false := by kernel_rfl
theorem T33_one : oneT Try.prog 33 = true := by kernel_rfl
theorem T33_elem : elemT Try.prog 33 = none := by kernel_rfl
theorem T33_str : strT Try.prog 33 = false := by kernel_rfl
theorem T33_bool : boolT Try.prog 33 = false := by kernel_rfl
theorem T33_kind : kindT Try.prog 33 = some .i64 := by kernel_rfl
theorem T33_zero : zeroT Try.prog 33 = some [.int .i64 0] := by kernel_rfl
theorem T33_size : sizeT Try.prog 33 = some 1 := by kernel_rfl
theorem T33_bytes : bytesT Try.prog 33 = some 8 := by kernel_rfl
theorem T38_agg : aggT Try.prog 38 = false := by kernel_rfl
theorem T38_one : oneT Try.prog 38 = true := by kernel_rfl
theorem T38_elem : elemT Try.prog 38 = none := by kernel_rfl
theorem T38_str : strT Try.prog 38 = false := by kernel_rfl
theorem T38_bool : boolT Try.prog 38 = false := by kernel_rfl
theorem T38_kind : kindT Try.prog 38 = none := by kernel_rfl
theorem T38_zero : zeroT Try.prog 38 = some [.pointer none] := by kernel_rfl
theorem T38_size : sizeT Try.prog 38 = some 1 := by kernel_rfl
theorem T38_bytes : bytesT Try.prog 38 = some 8 := by kernel_rfl
theorem T39_agg : aggT Try.prog 39 = false := by kernel_rfl
theorem T39_one : oneT Try.prog 39 = true := by kernel_rfl
theorem T39_elem : elemT Try.prog 39 = some 28 := by kernel_rfl
theorem T39_str : strT Try.prog 39 = false := by kernel_rfl
theorem T39_bool : boolT Try.prog 39 = false := by kernel_rfl
theorem T39_kind : kindT Try.prog 39 = none := by kernel_rfl
theorem T39_zero : zeroT Try.prog 39 = some [.slice none 0 0] := by kernel_rfl
theorem T39_size : sizeT Try.prog 39 = some 1 := by kernel_rfl
theorem T39_bytes : bytesT Try.prog 39 = some 24 := by kernel_rfl
theorem T41_agg : aggT Try.prog 41 = true := by kernel_rfl
theorem T41_one : oneT Try.prog 41 = false := by kernel_rfl
theorem T41_elem : elemT Try.prog 41 = none := by kernel_rfl
theorem T41_str : strT Try.prog 41 = false := by kernel_rfl
theorem T41_bool : boolT Try.prog 41 = false := by kernel_rfl
theorem T41_kind : kindT Try.prog 41 = none := by kernel_rfl
theorem T41_sized : sizedT Try.prog 41 = true := by kernel_rfl
theorem T41_f0 : fieldT Try.prog 41 0 = some (0, 39) := by kernel_rfl
theorem T41_f1 : fieldT Try.prog 41 1 = some (1, 28) := by kernel_rfl
theorem T41_zero : zeroT Try.prog 41 = some [.slice none 0 0, .slice none 0 0] := by kernel_rfl
theorem T41_size : sizeT Try.prog 41 = some 2 := by kernel_rfl
theorem T41_bytes : bytesT Try.prog 41 = some 48 := by kernel_rfl
theorem T54_agg : aggT Try.prog 54 = false := by kernel_rfl
theorem T54_one : oneT Try.prog 54 = true := by kernel_rfl
theorem T54_elem : elemT Try.prog 54 = none := by kernel_rfl
theorem T54_str : strT Try.prog 54 = false := by kernel_rfl
theorem T54_bool : boolT Try.prog 54 = false := by kernel_rfl
theorem T54_kind : kindT Try.prog 54 = none := by kernel_rfl
theorem T54_zero : zeroT Try.prog 54 = some [.nilFunc] := by kernel_rfl
theorem T54_size : sizeT Try.prog 54 = some 1 := by kernel_rfl
theorem T54_bytes : bytesT Try.prog 54 = some 8 := by kernel_rfl
theorem T64_agg : aggT Try.prog 64 = false := by kernel_rfl
theorem T64_one : oneT Try.prog 64 = true := by kernel_rfl
theorem T64_elem : elemT Try.prog 64 = none := by kernel_rfl
theorem T64_str : strT Try.prog 64 = false := by kernel_rfl
theorem T64_bool : boolT Try.prog 64 = false := by kernel_rfl
theorem T64_kind : kindT Try.prog 64 = none := by kernel_rfl
theorem T64_zero : zeroT Try.prog 64 = some [.nilFunc] := by kernel_rfl
theorem T64_size : sizeT Try.prog 64 = some 1 := by kernel_rfl
theorem T64_bytes : bytesT Try.prog 64 = some 8 := by kernel_rfl
theorem T67_agg : aggT Try.prog 67 = false := by kernel_rfl
theorem T67_one : oneT Try.prog 67 = true := by kernel_rfl
theorem T67_elem : elemT Try.prog 67 = some 71 := by kernel_rfl
theorem T67_str : strT Try.prog 67 = false := by kernel_rfl
theorem T67_bool : boolT Try.prog 67 = false := by kernel_rfl
theorem T67_kind : kindT Try.prog 67 = none := by kernel_rfl
theorem T67_zero : zeroT Try.prog 67 = some [.slice none 0 0] := by kernel_rfl
theorem T67_size : sizeT Try.prog 67 = some 1 := by kernel_rfl
theorem T67_bytes : bytesT Try.prog 67 = some 24 := by kernel_rfl
theorem T71_agg : aggT Try.prog 71 = true := by kernel_rfl
theorem T71_one : oneT Try.prog 71 = false := by kernel_rfl
theorem T71_elem : elemT Try.prog 71 = none := by kernel_rfl
theorem T71_str : strT Try.prog 71 = false := by kernel_rfl
theorem T71_bool : boolT Try.prog 71 = false := by kernel_rfl
theorem T71_kind : kindT Try.prog 71 = none := by kernel_rfl
theorem T71_sized : sizedT Try.prog 71 = true := by kernel_rfl
theorem T71_f0 : fieldT Try.prog 71 0 = some (0, 30) := by kernel_rfl
theorem T71_f1 : fieldT Try.prog 71 1 = some (2, 28) := by kernel_rfl
theorem T71_zero : zeroT Try.prog 71 = some [.bool false, .slice none 0 0, .slice none 0 0] := by kernel_rfl
theorem T71_size : sizeT Try.prog 71 = some 3 := by kernel_rfl
theorem T71_bytes : bytesT Try.prog 71 = some 56 := by kernel_rfl
theorem T80_agg : aggT Try.prog 80 = false := by kernel_rfl
theorem T80_one : oneT Try.prog 80 = true := by kernel_rfl
theorem T80_elem : elemT Try.prog 80 = none := by kernel_rfl
theorem T80_str : strT Try.prog 80 = false := by kernel_rfl
theorem T80_bool : boolT Try.prog 80 = false := by kernel_rfl
theorem T80_kind : kindT Try.prog 80 = some .u64 := by kernel_rfl
theorem T80_zero : zeroT Try.prog 80 = some [.int .u64 0] := by kernel_rfl
theorem T80_size : sizeT Try.prog 80 = some 1 := by kernel_rfl
theorem T80_bytes : bytesT Try.prog 80 = some 8 := by kernel_rfl
theorem T87_agg : aggT Try.prog 87 = false := by kernel_rfl
theorem T87_one : oneT Try.prog 87 = true := by kernel_rfl
theorem T87_elem : elemT Try.prog 87 = some 96 := by kernel_rfl
theorem T87_str : strT Try.prog 87 = false := by kernel_rfl
theorem T87_bool : boolT Try.prog 87 = false := by kernel_rfl
theorem T87_kind : kindT Try.prog 87 = none := by kernel_rfl
theorem T87_zero : zeroT Try.prog 87 = some [.slice none 0 0] := by kernel_rfl
theorem T87_size : sizeT Try.prog 87 = some 1 := by kernel_rfl
theorem T87_bytes : bytesT Try.prog 87 = some 24 := by kernel_rfl
theorem T93_agg : aggT Try.prog 93 = false := by kernel_rfl
theorem T93_one : oneT Try.prog 93 = true := by kernel_rfl
theorem T93_elem : elemT Try.prog 93 = none := by kernel_rfl
theorem T93_str : strT Try.prog 93 = false := by kernel_rfl
theorem T93_bool : boolT Try.prog 93 = false := by kernel_rfl
theorem T93_kind : kindT Try.prog 93 = some .u32 := by kernel_rfl
theorem T93_zero : zeroT Try.prog 93 = some [.int .u32 0] := by kernel_rfl
theorem T93_size : sizeT Try.prog 93 = some 1 := by kernel_rfl
theorem T93_bytes : bytesT Try.prog 93 = some 4 := by kernel_rfl
theorem T96_agg : aggT Try.prog 96 = false := by kernel_rfl
theorem T96_one : oneT Try.prog 96 = true := by kernel_rfl
theorem T96_elem : elemT Try.prog 96 = some 103 := by kernel_rfl
theorem T96_str : strT Try.prog 96 = false := by kernel_rfl
theorem T96_bool : boolT Try.prog 96 = false := by kernel_rfl
theorem T96_kind : kindT Try.prog 96 = none := by kernel_rfl
theorem T96_zero : zeroT Try.prog 96 = some [.slice none 0 0] := by kernel_rfl
theorem T96_size : sizeT Try.prog 96 = some 1 := by kernel_rfl
theorem T96_bytes : bytesT Try.prog 96 = some 24 := by kernel_rfl
theorem T103_agg : aggT Try.prog 103 = true := by kernel_rfl
theorem T103_one : oneT Try.prog 103 = false := by kernel_rfl
theorem T103_elem : elemT Try.prog 103 = none := by kernel_rfl
theorem T103_str : strT Try.prog 103 = false := by kernel_rfl
theorem T103_bool : boolT Try.prog 103 = false := by kernel_rfl
theorem T103_kind : kindT Try.prog 103 = none := by kernel_rfl
theorem T103_sized : sizedT Try.prog 103 = true := by kernel_rfl
theorem T103_f0 : fieldT Try.prog 103 0 = some (0, 4) := by kernel_rfl
theorem T103_f1 : fieldT Try.prog 103 1 = some (1, 23) := by kernel_rfl
theorem T103_zero : zeroT Try.prog 103 = some [.bool false, .slice none 0 0] := by kernel_rfl
theorem T103_size : sizeT Try.prog 103 = some 2 := by kernel_rfl
theorem T103_bytes : bytesT Try.prog 103 = some 32 := by kernel_rfl
theorem T118_agg : aggT Try.prog 118 = false := by kernel_rfl
theorem T118_one : oneT Try.prog 118 = true := by kernel_rfl
theorem T118_elem : elemT Try.prog 118 = none := by kernel_rfl
theorem T118_str : strT Try.prog 118 = false := by kernel_rfl
theorem T118_bool : boolT Try.prog 118 = false := by kernel_rfl
theorem T118_kind : kindT Try.prog 118 = some .u64 := by kernel_rfl
theorem T118_zero : zeroT Try.prog 118 = some [.int .u64 0] := by kernel_rfl
theorem T118_size : sizeT Try.prog 118 = some 1 := by kernel_rfl
theorem T118_bytes : bytesT Try.prog 118 = some 8 := by kernel_rfl
theorem T136_agg : aggT Try.prog 136 = false := by kernel_rfl
theorem T136_one : oneT Try.prog 136 = true := by kernel_rfl
theorem T136_elem : elemT Try.prog 136 = some 137 := by kernel_rfl
theorem T136_str : strT Try.prog 136 = false := by kernel_rfl
theorem T136_bool : boolT Try.prog 136 = false := by kernel_rfl
theorem T136_kind : kindT Try.prog 136 = none := by kernel_rfl
theorem T136_zero : zeroT Try.prog 136 = some [.slice none 0 0] := by kernel_rfl
theorem T136_size : sizeT Try.prog 136 = some 1 := by kernel_rfl
theorem T136_bytes : bytesT Try.prog 136 = some 24 := by kernel_rfl
theorem T137_agg : aggT Try.prog 137 = false := by kernel_rfl
theorem T137_one : oneT Try.prog 137 = true := by kernel_rfl
theorem T137_elem : elemT Try.prog 137 = some 139 := by kernel_rfl
theorem T137_str : strT Try.prog 137 = false := by kernel_rfl
theorem T137_bool : boolT Try.prog 137 = false := by kernel_rfl
theorem T137_kind : kindT Try.prog 137 = none := by kernel_rfl
theorem T137_zero : zeroT Try.prog 137 = some [.slice none 0 0] := by kernel_rfl
theorem T137_size : sizeT Try.prog 137 = some 1 := by kernel_rfl
theorem T137_bytes : bytesT Try.prog 137 = some 24 := by kernel_rfl
theorem T139_agg : aggT Try.prog 139 = true := by kernel_rfl
theorem T139_one : oneT Try.prog 139 = false := by kernel_rfl
theorem T139_elem : elemT Try.prog 139 = none := by kernel_rfl
theorem T139_str : strT Try.prog 139 = false := by kernel_rfl
theorem T139_bool : boolT Try.prog 139 = false := by kernel_rfl
theorem T139_kind : kindT Try.prog 139 = none := by kernel_rfl
theorem T139_sized : sizedT Try.prog 139 = true := by kernel_rfl
theorem T139_f0 : fieldT Try.prog 139 0 = some (0, 103) := by kernel_rfl
theorem T139_f1 : fieldT Try.prog 139 1 = some (2, 103) := by kernel_rfl
theorem T139_zero : zeroT Try.prog 139 = some [.bool false, .slice none 0 0, .bool false, .slice none 0 0] := by kernel_rfl
theorem T139_size : sizeT Try.prog 139 = some 4 := by kernel_rfl
theorem T139_bytes : bytesT Try.prog 139 = some 64 := by kernel_rfl
attribute [go_sem] T3_agg T3_one T3_elem T3_str T3_bool T3_kind T3_zero T3_size T3_bytes T4_agg T4_one T4_elem T4_str T4_bool T4_kind T4_zero T4_size T4_bytes T5_agg T5_one T5_elem T5_str T5_bool T5_kind T5_zero T5_size T5_bytes T9_agg T9_one T9_elem T9_str T9_bool T9_kind T9_zero T9_size T9_bytes T22_agg T22_one T22_elem T22_str T22_bool T22_kind T22_zero T22_size T22_bytes T23_agg T23_one T23_elem T23_str T23_bool T23_kind T23_zero T23_size T23_bytes T27_agg T27_one T27_elem T27_str T27_bool T27_kind T27_zero T27_size T27_bytes T28_agg T28_one T28_elem T28_str T28_bool T28_kind T28_zero T28_size T28_bytes T30_agg T30_one T30_elem T30_str T30_bool T30_kind T30_sized T30_f0 T30_f1 T30_zero T30_size T30_bytes T33_agg T33_one T33_elem T33_str T33_bool T33_kind T33_zero T33_size T33_bytes T38_agg T38_one T38_elem T38_str T38_bool T38_kind T38_zero T38_size T38_bytes T39_agg T39_one T39_elem T39_str T39_bool T39_kind T39_zero T39_size T39_bytes T41_agg T41_one T41_elem T41_str T41_bool T41_kind T41_sized T41_f0 T41_f1 T41_zero T41_size T41_bytes T54_agg T54_one T54_elem T54_str T54_bool T54_kind T54_zero T54_size T54_bytes T64_agg T64_one T64_elem T64_str T64_bool T64_kind T64_zero T64_size T64_bytes T67_agg T67_one T67_elem T67_str T67_bool T67_kind T67_zero T67_size T67_bytes T71_agg T71_one T71_elem T71_str T71_bool T71_kind T71_sized T71_f0 T71_f1 T71_zero T71_size T71_bytes T80_agg T80_one T80_elem T80_str T80_bool T80_kind T80_zero T80_size T80_bytes T87_agg T87_one T87_elem T87_str T87_bool T87_kind T87_zero T87_size T87_bytes T93_agg T93_one T93_elem T93_str T93_bool T93_kind T93_zero T93_size T93_bytes T96_agg T96_one T96_elem T96_str T96_bool T96_kind T96_zero T96_size T96_bytes T103_agg T103_one T103_elem T103_str T103_bool T103_kind T103_sized T103_f0 T103_f1 T103_zero T103_size T103_bytes T118_agg T118_one T118_elem T118_str T118_bool T118_kind T118_zero T118_size T118_bytes T136_agg T136_one T136_elem T136_str T136_bool T136_kind T136_zero T136_size T136_bytes T137_agg T137_one T137_elem T137_str T137_bool T137_kind T137_zero T137_size T137_bytes T139_agg T139_one T139_elem T139_str T139_bool T139_kind T139_sized T139_f0 T139_f1 T139_zero T139_size T139_bytes
end Go.Proofs.Ytfjdfnlkobeehaa
end

section
set_option linter.unusedVariables false
set_option linter.unusedSimpArgs false
namespace Go.Proofs.Ytfjdfnlkobeehaa

variable {P : Program}

theorem closedL_app {l m : List PV} (h : closedL l = true) (h' : closedL m = true) : closedL (l ++ m) = true := by
  induction l with
  | nil => exact h'
  | cons x l ih => simp only [closedL, Bool.and_eq_true] at h; simp only [List.cons_append, closedL, Bool.and_eq_true]; exact ⟨h.1, ih h.2⟩
theorem closedL_val (l : List Value) : closedL (l.map .val) = true := by
  induction l with
  | nil => rfl
  | cons x l ih => simp [closedL, closed, ih]
theorem flatL_val (l : List Value) : flatL (l.map .val) = true := by
  induction l with
  | nil => rfl
  | cons x l ih => simp [flatL, flat, ih]
theorem flatL_app' {l m : List PV} (h : flatL l = true) (h' : flatL m = true) : flatL (l ++ m) = true := by
  induction l with
  | nil => exact h'
  | cons x l ih => simp only [flatL, Bool.and_eq_true] at h; simp only [List.cons_append, flatL, Bool.and_eq_true]; exact ⟨h.1, ih h.2⟩

theorem mapM_up {f g : PV → Option PV} (h : ∀ x q, f x = some q → g x = some q) : ∀ {l r : List PV}, l.mapM f = some r → l.mapM g = some r
  | [], r, hm => by simpa using hm
  | x :: l, r, hm => by
    rw [List.mapM_cons] at hm ⊢
    cases h1 : f x with
    | none => simp [h1] at hm
    | some q =>
      cases h2 : l.mapM f with
      | none => simp [h1, h2] at hm
      | some qs =>
        simp [h1, h2] at hm; subst hm
        rw [h x q h1, mapM_up h h2]; rfl
theorem frz_up (D : Nat → Bool) (H : Nat → Option (List PV)) : ∀ (d : Nat) (p q : PV), frz D H d p = some q → frz D H (d + 1) p = some q
  | 0, p, q, h => by
    simp only [frz] at h
    split at h
    · rename_i hf
      rw [frz_flat D H 1 p hf]; exact h
    · simp at h
  | d + 1, p, q, h => by
    have up := fun {l r : List PV} (hm : l.mapM (frz D H d) = some r) => mapM_up (g := frz D H (d + 1)) (fun x q hx => frz_up D H d x q hx) hm
    cases p with
    | ref id off n cap sz =>
      rw [frz_ref] at h ⊢
      split at h
      · rename_i hD
        rw [if_pos hD]
        cases hc : H id with
        | none => simp [hc] at h
        | some cs =>
          simp only [hc, Option.bind_some] at h ⊢
          split at h
          · rename_i hle
            rw [if_pos hle]
            cases hm : ((cs.drop off).take (n * sz)).mapM (frz D H d) with
            | none => simp [hm] at h
            | some qs => rw [up hm]; simp [hm] at h; subst h; rfl
          · simp at h
      · simp at h
    | ptr id off =>
      simp only [frz] at h ⊢
      split at h
      · rename_i hD
        rw [if_pos hD]
        cases hc : H id with
        | none => simp [hc] at h
        | some cs =>
          simp only [hc, Option.bind_some] at h ⊢
          cases hm : (cs.drop off).mapM (frz D H d) with
          | none => simp [hm] at h
          | some qs => rw [up hm]; simp [hm] at h; subst h; rfl
      · simp at h
    | agg cs =>
      simp only [frz] at h ⊢
      cases hm : cs.mapM (frz D H d) with
      | none => simp [hm] at h
      | some qs => rw [up hm]; simp [hm] at h; subst h; rfl
    | tup cs =>
      simp only [frz] at h ⊢
      cases hm : cs.mapM (frz D H d) with
      | none => simp [hm] at h
      | some qs => rw [up hm]; simp [hm] at h; subst h; rfl
    | _ => simp only [frz] at h ⊢; exact h


def own1Q (mk : PV → PV) (cs : List PV) (r : PV) (H' : Nat → Option (List PV)) (_ : Nat) : Prop :=
  ∃ (id cap : Nat) (rest : List Value), r = mk (.ref id 0 cs.length cap 1) ∧ H' = upd (fun _ => none) id (some (cs ++ rest.map .val)) ∧ cs.length + rest.length = cap
def PO1 (P : Program) (f : FuncId) (args : List PV) (mk : PV → PV) (cs : List PV) : Prop :=
  PCalls P f args (fun _ => none) 0 (own1Q mk cs)


def own2Q (mk : PV → PV → PV) (cs ds : List PV) (r : PV) (H' : Nat → Option (List PV)) (_ : Nat) : Prop :=
  ∃ (id cap : Nat) (rest : List Value) (id2 cap2 : Nat) (rest2 : List Value), r = mk (.ref id 0 cs.length cap 1) (.ref id2 0 ds.length cap2 1) ∧ id ≠ id2 ∧
    H' = upd (upd (fun _ => none) id (some (cs ++ rest.map .val))) id2 (some (ds ++ rest2.map .val)) ∧ cs.length + rest.length = cap ∧ ds.length + rest2.length = cap2
def PO2 (P : Program) (f : FuncId) (args : List PV) (mk : PV → PV → PV) (cs ds : List PV) : Prop :=
  PCalls P f args (fun _ => none) 0 (own2Q mk cs ds)


structure Mk1 (mk : PV → PV) : Prop where
  shift : ∀ k p, shift k (mk p) = mk (Ytfjdfnlkobeehaa.shift k p)
  closed : ∀ p, closed p = true → closed (mk p) = true
  frz : ∀ D H d p q, frz D H d p = some q → Ytfjdfnlkobeehaa.frz D H (d + 1) (mk p) = some (mk q)
  flat : ∀ p, flat p = true → flat (mk p) = true
  rep : ∀ {E E' : En} {p q : PV} {v : Value}, E.le E' → (∀ u, Rep E p u → Rep E' q u) → Rep E (mk p) v → Rep E' (mk q) v

theorem joinH_none {H : Nat → Option (List PV)} {nx : Nat} (hw : ∀ i, nx ≤ i → H i = none) : joinH H nx (fun _ => none) = H := by
  funext i
  unfold joinH
  split
  · rfl
  · rename_i hi; rw [hw i (Nat.not_lt.1 hi)]; rfl
theorem joinH_upd {H G : Nat → Option (List PV)} {nx id : Nat} {cs : List PV} : joinH H nx (upd G id (some cs)) = upd (joinH H nx G) (id + nx) (some (shiftL nx cs)) := by
  funext i
  unfold joinH
  by_cases h : i = id + nx
  · subst h; rw [upd_self, if_neg (by omega), Nat.add_sub_cancel, upd_self]; rfl
  · rw [upd_ne _ _ h]
    split
    · rfl
    · rw [upd_ne _ _ (by omega)]


theorem pCall_own1 {f : FuncId} {args args' : List PV} {st : PS} {K : PV → PS → Prop} {mk : PV → PV} {cs : List PV} (hmk : Mk1 mk) (hv : args.map (view st.H) = args') (hf : flatL args' = true) (hcl : closedL cs = true) (hfl : flatL cs = true)
    (h : PO1 P f args' mk cs)
    (hk : ∀ (id cap : Nat) (rest : List Value) (n : Nat), st.nx ≤ id → id < n → cs.length + List.length rest = cap → K (mk (.ref id 0 cs.length cap 1)) (st.withH (upd st.H id (some (cs ++ rest.map .val))) n)) : pCall P f args st K := by
  refine ⟨_, _, GhA.refl _ _, .inl ⟨by rw [hv]; exact hf, ?_⟩⟩
  rw [hv]
  refine PCalls.mono h ?_
  rintro r H' n ⟨id, cap, rest, rfl, rfl, hcap⟩
  refine ⟨fun _ => ⟨hmk.closed _ rfl, fun i ds hd => ?_⟩, fun hwf hwf' => ?_⟩
  · by_cases hi : i = id
    · subst hi; rw [upd_self] at hd; simp at hd; subst hd; exact closedL_app hcl (closedL_val _)
    · rw [upd_ne _ _ hi] at hd; simp at hd
  · have hlt : id < n := by
      rcases Nat.lt_or_ge id n with h | h
      · exact h
      · have := hwf' id h; rw [upd_self] at this; simp at this
    rw [hmk.shift, joinH_upd, joinH_none hwf, shiftL_flat _ _ (flatL_app' hfl (flatL_val _))]
    exact ghK_intro (hk (id + st.nx) cap rest (st.nx + n) (by omega) (by omega) hcap)


theorem PO1.tree {f : FuncId} {args : List PV} {mk : PV → PV} {cs : List PV} (hmk : Mk1 mk) (hfl : flatL cs = true) (h : PO1 P f args mk cs) : PT P f args (isV (mk (.sl cs.length cs))) := by
  refine ⟨h.1, fun w vs ρ A0 h1 h2 h3 => (h.2 w vs ρ A0 h1 h2 h3).mono ?_⟩
  rintro e w' ⟨v, r, H', nx', ρ', he, ⟨id, cap, rest, rfl, rfl, hcap⟩, hnx, hρ, hown, hrep, hframe, hsize, hsw⟩
  let c : Cx := { F := fun b => b < w.heap.size ∧ ¬ OwnB ρ (fun _ => none) (fun _ => none) b, w0 := w', A0 := A0, ρ0 := ρ', k := 0, n := 0, tb := [] }
  let st : PS := { sl := fun _ => .any, H := upd (fun _ => none) id (some (cs ++ rest.map .val)), it := fun _ => none, nx := nx' }
  have hR : Rr c st { tmps := #[], defers := [] } w' ρ' :=
    ⟨hown, fun t => by simp [st, Rep], rfl, rfl, fun _ _ => rfl, Nat.le_refl _, Nat.zero_le _, fun _ _ => rfl, fun b hb => Nat.lt_of_lt_of_le hb.1 hsize, fun b hb => Nat.lt_of_lt_of_le (h1 b hb) hsize, Sw.refl _⟩
  have hfz : frz (fun _ => true) st.H 1 (.ref id 0 cs.length cap 1) = some (.sl cs.length cs) := by
    simp only [frz_ref, if_true, st, upd_self, Option.bind_some]
    rw [if_pos (by simp)]
    simp only [List.drop_zero, Nat.mul_one, List.take_left]
    have := frzL_flat (fun _ => true) (upd (fun _ => none) id (some (cs ++ rest.map .val))) 0 hfl
    rw [this]; rfl
  have hfz2 := hmk.frz _ _ _ _ _ hfz
  have hd := hR.drop (H' := dropH (fun _ => true) st.H) (it' := fun _ => none) (fun i => .inr rfl) (fun i => .inl rfl)
  have hr := frz_sound hR (fun _ => true) 2 _ _ v hfz2 hrep
  have hH : dropH (fun _ => true) st.H = fun _ => none := rfl
  rw [hH] at hd hr
  exact ⟨v, _, fun _ => none, nx', ρ', he, ⟨hmk.flat _ (by simpa [flat] using hfl), rfl⟩, hnx, hρ, hd.1.own, hr, hframe, hsize, hsw⟩


theorem pCall_mem {f : FuncId} {args : List PV} {st : PS} {K : PV → PS → Prop} {Q : PV → (Nat → Option (List PV)) → Nat → Prop} (h : PCalls P f args st.H st.nx Q)
    (hk : ∀ r H' nx', Q r H' nx' → st.nx ≤ nx' → K r (st.withH H' nx')) : pCall P f args st K :=
  ⟨_, _, GhA.refl _ _, .inr (PCalls.mono h fun r H' nx' hq _ _ hn => ghK_intro (hk r H' nx' hq hn))⟩


theorem end_own1 {rs : List ResultVar} {st : PS} {mk : PV → PV} {cs : List PV} {id cap n : Nat} {rest : List Value} (h : obind (resP P st rs) fun ps => tupP ps = mk (.ref id 0 n cap 1)) (hH : st.H id = some (cs ++ rest.map .val)) (hn : cs.length = n)
    (hcap : cs.length + rest.length = cap) :
    endQ P rs (own1Q mk cs) .ret st := by
  subst hn
  obtain ⟨ps, h1, h2⟩ := h
  refine ⟨ps, h1, mk (.ref id 0 cs.length cap 1), { st with H := upd (fun _ => none) id (some (cs ++ rest.map .val)), it := fun _ => none }, ?_, id, cap, rest, rfl, rfl, hcap⟩
  rw [h2]
  rintro c a w v ⟨ρ, hR, hr⟩
  have hd := hR.drop (H' := upd (fun _ => none) id (some (cs ++ rest.map .val))) (it' := fun _ => none) (fun i => by
    by_cases hi : i = id
    · subst hi; rw [upd_self]; exact .inl hH.symm
    · rw [upd_ne _ _ hi]; exact .inr rfl) (fun i => .inr rfl)
  exact ⟨ρ, hd.1, Rep.mono hd.2 _ _ hr⟩


theorem end_own_nil {rs : List ResultVar} {st : PS} {mk : PV → PV} (hmk : Mk1 mk) (h : obind (resP P st rs) fun ps => tupP ps = mk (.val (.slice none 0 0))) :
    endQ P rs (own1Q mk []) .ret st := by
  obtain ⟨ps, h1, h2⟩ := h
  refine ⟨ps, h1, mk (.ref st.nx 0 0 0 1), { st with H := upd (fun _ => none) st.nx (some []), it := fun _ => none, nx := st.nx + 1 }, ?_, st.nx, 0, [], rfl, rfl, rfl⟩
  rw [h2]
  rintro c a w v ⟨ρ, hR, hr⟩
  have hl : ∀ i, ¬ Live (upd (fun _ => none) st.nx (some ([] : List PV))) (fun _ => none) i := by
    rintro i (⟨cs, hc, hne⟩ | hi)
    · by_cases hx : i = st.nx
      · subst hx; rw [upd_self] at hc; simp at hc; exact hne hc
      · rw [upd_ne _ _ hx] at hc; simp at hc
    · exact hi rfl
  have hle : En.le (enOf c.A0 w ρ st.H st.it st.nx) (enOf c.A0 w ρ (upd (fun _ => none) st.nx (some [])) (fun _ => none) (st.nx + 1)) :=
    ⟨fun _ _ _ _ hv => hv, fun b _ _ hA _ hA' => hA (hA'.imp id fun ⟨i, hi, e⟩ => absurd hi (hl i)), Nat.le_succ _, fun _ _ => rfl⟩
  refine ⟨ρ, ⟨⟨fun i hi => ?_, fun i cs hc hne => rfl, fun i j hi => absurd hi (hl i), fun i cs hc hne => ?_, fun i s p hi => by simp at hi, fun i hi => absurd hi (hl i)⟩,
    fun t => Rep.mono hle _ _ (hR.slots t), hR.size, hR.defers, hR.frame, hR.grow, Nat.le_succ_of_le hR.ids, hR.ρk, hR.fF, hR.fA, hR.sw⟩, ?_⟩
  · by_cases hx : i = st.nx
    · exact hx ▸ Nat.lt_succ_self _
    · simp only [upd_ne _ _ hx] at hi; simp at hi
  · exact absurd (.inl ⟨cs, hc, hne⟩) (hl i)
  · refine hmk.rep hle (fun u hu => ?_) hr
    simp only [Rep] at hu
    simp only [Rep]
    exact ⟨Nat.lt_succ_self _, Nat.le_refl _, .inr ⟨trivial, trivial, hu⟩⟩

theorem mk_id : Mk1 (fun p => p) := ⟨fun _ _ => rfl, fun _ h => h, fun D H d p q h => by
    cases p with
    | any => cases d <;> simp only [frz] at h ⊢ <;> exact h
    | val v => cases d <;> simp only [frz] at h ⊢ <;> exact h
    | sl n cs => cases d <;> simp only [frz] at h ⊢ <;> exact h
    | rp cs => cases d <;> simp only [frz] at h ⊢ <;> exact h
    | fn f cs => cases d <;> simp only [frz] at h ⊢ <;> exact h
    | ref id off n cap sz => exact frz_up D H d _ _ h
    | ptr id off => exact frz_up D H d _ _ h
    | agg cs => exact frz_up D H d _ _ h
    | tup cs => exact frz_up D H d _ _ h, fun _ h => h, fun _ h hr => h _ hr⟩

theorem srcP_ref {H : Nat → Option (List PV)} {sz id off n cap z : Nat} : srcP H sz (.ref id off n cap z) = (H id).bind fun cs => if off + n * sz ≤ cs.length then some (n, (cs.drop off).take (n * sz)) else none := by
  simp only [srcP]; cases H id <;> rfl
theorem srcP_sl {H : Nat → Option (List PV)} {sz n : Nat} {cs : List PV} : srcP H sz (.sl n cs) = if cs.length = n * sz then some (n, cs) else none := rfl
theorem srcP_nil {H : Nat → Option (List PV)} {sz : Nat} : srcP H sz (.val (.slice none 0 0)) = some (0, []) := rfl


def memQ (x : PV) (H : Nat → Option (List PV)) (nx : Nat) (r : PV) (H' : Nat → Option (List PV)) (nx' : Nat) : Prop := r = x ∧ H' = H ∧ nx' = nx


theorem append_own {st : PS} {t t' e : TypeId} {b id n cap m : Nat} {z : Value} {cs ys : List PV} {rest : List Value} {y : PV} {K : PV → PS → Prop} (he : elemT P t = some e) (he' : (elemT P t').isSome = true) (hsz : sizeT P e = some 1) (hb : bytesT P e = some b)
    (hz : zeroT P e = some [z]) (hs : srcP st.H 1 y = some (m, ys)) (hone : ys.all oneP = true) (hH : st.H id = some (cs ++ rest.map .val)) (hn : cs.length = n) (hc : n + rest.length = cap) (hm : ys.length = m) (hbig : (n + m) * b ≤ 140737488355328 ∧ n + m ≤ 140737488355328)
    (hk : ∀ (id' cap' : Nat) (rest' : List Value) (H' : Nat → Option (List PV)) (nx' : Nat), H' id' = some ((cs ++ ys) ++ List.map PV.val rest') → n + m + rest'.length = cap' → (id' = id ∨ id' = st.nx) → (id' = id ∧ nx' = st.nx ∨ nx' = st.nx + 1) → (∀ j, j ≠ id → j ≠ st.nx → H' j = st.H j) → (id' ≠ id → H' id = st.H id) → K (.ref id' 0 (n + m) cap' 1) (st.withH H' nx')) :
    pAppend P st t t' (.ref id 0 n cap 1) y K := by
  refine ⟨e, he, he', 1, hsz, b, hb, [z], hz, rfl, m, ys, hs, hone, cs ++ rest.map .val, hH, by simp; omega, hbig.1, hbig.2, fun h => ⟨by simp; omega, ?_⟩, fun h cap' rest' h1 h2 h3 => ?_⟩
  · refine hk id cap (rest.drop m) (upd st.H id (some (spl (cs ++ rest.map .val) (0 + n * 1) ys))) st.nx ?_ ?_ (.inl rfl) (.inl ⟨rfl, rfl⟩) (fun j hj _ => upd_ne _ _ hj) (fun h => absurd rfl h)
    · rw [upd_self]
      have : spl (cs ++ rest.map .val) (0 + n * 1) ys = cs ++ ys ++ (rest.drop m).map .val := by
        unfold spl
        have e1 : (cs ++ List.map PV.val rest).take (0 + n * 1) = cs := by
          rw [show 0 + n * 1 = cs.length by omega, List.take_left]
        have e2 : (cs ++ List.map PV.val rest).drop (0 + n * 1 + ys.length) = (rest.drop m).map .val := by
          rw [show 0 + n * 1 + ys.length = cs.length + m by omega, List.drop_append]
          simp
        rw [e1, e2, List.append_assoc]
      rw [this]
    · simp; omega
  · refine hk st.nx cap' rest' (upd st.H st.nx (some ((((cs ++ rest.map PV.val).drop 0).take (n * 1) ++ ys) ++ rest'.map PV.val))) (st.nx + 1) ?_ (by omega) (.inr rfl) (.inr rfl) (fun j _ hj => upd_ne _ _ hj) (fun hne => upd_ne _ _ (Ne.symm hne))
    rw [upd_self]
    have : ((cs ++ List.map PV.val rest).drop 0).take (n * 1) = cs := by
      rw [List.drop_zero, show n * 1 = cs.length by omega, List.take_left]
    rw [this]


theorem append_nil {st : PS} {t t' e : TypeId} {b m : Nat} {z : Value} {ys : List PV} {y : PV} {K : PV → PS → Prop} (he : elemT P t = some e) (he' : (elemT P t').isSome = true) (hsz : sizeT P e = some 1) (hb : bytesT P e = some b)
    (hz : zeroT P e = some [z]) (hs : srcP st.H 1 y = some (m, ys)) (hone : ys.all oneP = true) (hbig : m * b ≤ 140737488355328 ∧ m ≤ 140737488355328)
    (h0 : m = 0 → K (.val (.slice none 0 0)) st) (hk : ∀ (cap' : Nat) (rest' : List Value), m + List.length rest' = cap' → 0 < m → K (.ref st.nx 0 m cap' 1) (st.withH (upd st.H st.nx (some (ys ++ List.map PV.val rest'))) (st.nx + 1))) :
    pAppend P st t t' (.val (.slice none 0 0)) y K := by
  refine ⟨e, he, he', 1, hsz, b, hb, [z], hz, rfl, m, ys, hs, hone, hbig.1, hbig.2, h0, fun h cap' rest' h1 h2 h3 => hk cap' rest' (by omega) h⟩

theorem mk_b (b : Value) : Mk1 (fun p => .tup [p, .val b]) := by
  refine ⟨fun k p => by simp [shift, shiftL], fun p h => by simp [closed, closedL, h], fun D H d p q h => ?_, fun p h => by simp [flat, flatL, h], fun {E E' p q v} hle h hr => ?_⟩
  · simp only [frz, List.mapM_cons, h, List.mapM_nil]
    have : frz D H d (.val b) = some (.val b) := frz_flat D H d _ rfl
    rw [this]; rfl
  · simp only [Rep] at hr ⊢
    obtain ⟨vs, rfl, hr⟩ := hr
    match vs, hr with
    | [u, x], hr =>
      simp only [RepL, Rep, and_true] at hr
      refine ⟨[u, x], rfl, ?_⟩
      simp only [RepL, Rep, and_true]
      exact ⟨h _ hr.1, hr.2⟩
    | [], hr => simp [RepL] at hr
    | [_], hr => simp [RepL] at hr
    | _ :: _ :: _ :: _, hr => simp [RepL] at hr

end Go.Proofs.Ytfjdfnlkobeehaa
end

section
set_option linter.unusedVariables false
set_option linter.unusedSimpArgs false
namespace Go.Proofs.Ytfjdfnlkobeehaa

theorem ofInt_nat {w a : Nat} (h : a < 2 ^ w) : (BitVec.ofInt w (a : Int)).toNat = a := by
  rw [BitVec.toNat_ofInt]
  have : ((a : Int) % ((2 ^ w : Nat) : Int)) = ((a % 2 ^ w : Nat) : Int) := by simp
  rw [this, Nat.mod_eq_of_lt h]; rfl

theorem wrap_u64_nat {a : Nat} (h : a < 18446744073709551616) : IntKind.u64.wrap (a : Int) = a := by
  simp [IntKind.wrap, IntKind.bits, IntKind.signed]; omega
theorem wrap_u32_nat {a : Nat} (h : a < 4294967296) : IntKind.u32.wrap (a : Int) = a := by
  simp [IntKind.wrap, IntKind.bits, IntKind.signed]; omega

theorem or_u64 {a b : Nat} (h : a < 18446744073709551616 ∧ b < 18446744073709551616) : bitsV .or .u64 (a : Int) (b : Int) = some (.int .u64 ((a ||| b : Nat) : Int)) := by
  have h1 : (BitVec.ofInt 64 (a : Int) ||| BitVec.ofInt 64 (b : Int)).toNat = a ||| b := by
    rw [BitVec.toNat_or, ofInt_nat h.1, ofInt_nat h.2]
  have h2 : a ||| b < 18446744073709551616 := Nat.or_lt_two_pow (n := 64) h.1 h.2
  show some (Value.int .u64 (IntKind.u64.wrap ((BitVec.ofInt 64 (a : Int) ||| BitVec.ofInt 64 (b : Int)).toNat))) = _
  rw [h1, wrap_u64_nat h2]
theorem or_add {c s x : Nat} (h : c < 2 ^ s) : c ||| x * 2 ^ s = c + x * 2 ^ s := by
  have := Nat.two_pow_add_eq_or_of_lt h x
  rw [Nat.or_comm, Nat.mul_comm x, ← this, Nat.add_comm]
theorem or_add' {c s x : Nat} (h : c < 2 ^ s) : x * 2 ^ s ||| c = x * 2 ^ s + c := by
  rw [Nat.or_comm, or_add h, Nat.add_comm]
theorem or_add32 {x y : Nat} (h : x < 4294967296) : x ||| y * 4294967296 = x + y * 4294967296 := or_add (s := 32) h
theorem or_add32' {x y : Nat} (h : x < 4294967296) : y * 4294967296 ||| x = y * 4294967296 + x := or_add' (s := 32) h
attribute [go_sem] or_add32 or_add32'
theorem xor_u32 {a : Nat} (h : a < 4294967296) : unP .xor (.val (.int .u32 (a : Int))) = some (.val (.int .u32 ((4294967295 - a : Nat) : Int))) := by
  have h1 : (BitVec.ofInt 32 (IntKind.u32.max) ^^^ BitVec.ofInt 32 (a : Int)).toNat = 4294967295 - a := by
    have e : BitVec.ofInt 32 IntKind.u32.max = BitVec.allOnes 32 := by decide
    rw [e, BitVec.allOnes_xor, BitVec.toNat_not, ofInt_nat h]
  have : unV .xor (.int .u32 (a : Int)) = some (.int .u32 ((4294967295 - a : Nat) : Int)) := by
    show some (Value.int .u32 (IntKind.u32.wrap ((BitVec.ofInt 32 IntKind.u32.max ^^^ BitVec.ofInt 32 (a : Int)).toNat))) = _
    rw [h1, wrap_u32_nat (by omega)]
  simp only [unP, this]; rfl
theorem cast_pow2 (s : Nat) : (2 : Int) ^ s = ((2 ^ s : Nat) : Int) := by simp
attribute [go_sem] or_u64 xor_u32 cast_pow2

end Go.Proofs.Ytfjdfnlkobeehaa

namespace Go.Proofs.Ytfjdfnlkobeehaa

variable {P : Program}


def nn1 : PV → PV
  | .val (.slice none 0 0) => .sl 0 []
  | p => p
def nn : PV → PV
  | .tup cs => .tup (cs.map nn1)
  | p => nn1 p
theorem nn1_rep {E : En} {p : PV} {v : Value} (h : Rep E p v) : Rep E (nn1 p) v := by
  unfold nn1
  split
  · simp only [Rep] at h ⊢
    exact .inl ⟨trivial, trivial, none, h⟩
  · exact h
theorem nnL_rep {E : En} : ∀ {cs : List PV} {vs : List Value}, RepL E cs vs → RepL E (cs.map nn1) vs
  | [], [], _ => by simp [RepL]
  | c :: cs, v :: vs, h => by
    simp only [RepL, List.map_cons] at h ⊢
    exact ⟨nn1_rep h.1, nnL_rep h.2⟩
  | [], _ :: _, h => by simp [RepL] at h
  | _ :: _, [], h => by simp [RepL] at h
theorem nn_rep {E : En} {p : PV} {v : Value} (h : Rep E p v) : Rep E (nn p) v := by
  unfold nn
  split
  · simp only [Rep] at h ⊢
    obtain ⟨vs, e, h⟩ := h
    exact ⟨vs, e, nnL_rep h⟩
  · exact nn1_rep h
theorem nn1_flat {p : PV} (h : flat p = true) : flat (nn1 p) = true := by
  unfold nn1; split
  · rfl
  · exact h
theorem nnL_flat : ∀ {cs : List PV}, flatL cs = true → flatL (cs.map nn1) = true
  | [], _ => rfl
  | c :: cs, h => by
    simp only [flatL, Bool.and_eq_true, List.map_cons] at h ⊢
    exact ⟨nn1_flat h.1, nnL_flat h.2⟩
theorem nn_flat {p : PV} (h : flat p = true) : flat (nn p) = true := by
  unfold nn; split
  · exact nnL_flat (by simpa [flat] using h)
  · exact nn1_flat h
theorem GhV.nn {st : PS} (p : PV) : GhV p st (nn p) st := by
  rintro c a w v ⟨ρ, h, hr⟩
  exact ⟨ρ, h, nn_rep hr⟩
theorem GhV.trans {p q r : PV} {s t u : PS} (h : GhV p s q t) (h' : GhV q t r u) : GhV p s r u := fun c a w v hR => h' c a w v (h c a w v hR)


theorem end_treeN {rs : List ResultVar} {Q : PV → Prop} {st : PS} (d : Nat) (h : obind (resP P st rs) fun ps => obind (Ytfjdfnlkobeehaa.frz (fun _ => true) st.H d (tupP ps)) fun q => flat q = true ∧ Q (nn q)) :
    endQ P rs (treeQ Q) .ret st := by
  obtain ⟨ps, h1, q, h2, h3, h4⟩ := h
  exact ⟨ps, h1, nn q, _, (GhV.frz _ d h2).trans (GhV.nn q), nn_flat h3, h4⟩

theorem dropH_all (H : Nat → Option (List PV)) : dropH (fun _ => true) H = fun _ => none := rfl
attribute [go_sem] dropH_all
theorem bne_f (a : Bool) : (a != false) = a := by cases a <;> rfl
theorem bne_t (a : Bool) : (a != true) = !a := by cases a <;> rfl
theorem beq_f (a : Bool) : (a == false) = !a := by cases a <;> rfl
theorem beq_t (a : Bool) : (a == true) = a := by cases a <;> rfl
attribute [go_sem] bne_f bne_t beq_f beq_t beq_self_eq_true

def viewO (o : Option (List PV)) (p : PV) (off n sz : Nat) : PV := match o with
  | some cs => if off + n * sz ≤ cs.length then .sl n ((cs.drop off).take (n * sz)) else p
  | none => p
theorem view_ref (H : Nat → Option (List PV)) (id off n cap sz : Nat) : view H (.ref id off n cap sz) = viewO (H id) (.ref id off n cap sz) off n sz := rfl
theorem view1_ref (H : Nat → Option (List PV)) (id off n cap sz : Nat) : view1 H (.ref id off n cap sz) = viewO (H id) (.ref id off n cap sz) off n sz := rfl
theorem viewO_some (cs : List PV) (p : PV) (off n sz : Nat) : viewO (some cs) p off n sz = if off + n * sz ≤ cs.length then .sl n ((cs.drop off).take (n * sz)) else p := rfl
attribute [go_sem] view_ref view1_ref viewO_some

def frzS (H : Nat → Option (List PV)) (p : PV) : PV := (Ytfjdfnlkobeehaa.frz (fun _ => true) H 1 p).getD .any
def PS.frzAll (st : PS) : PS := { st with sl := fun t => frzS st.H (st.sl t), H := fun _ => none }
theorem frzAll_sl (st : PS) (t : Nat) : st.frzAll.sl t = frzS st.H (st.sl t) := rfl
theorem frzAll_H (st : PS) : st.frzAll.H = fun _ => none := rfl
theorem frzAll_nx (st : PS) : st.frzAll.nx = st.nx := rfl
theorem frzAll_it (st : PS) : st.frzAll.it = st.it := rfl
theorem frzS_def (H : Nat → Option (List PV)) (p : PV) : frzS H p = (Ytfjdfnlkobeehaa.frz (fun _ => true) H 1 p).getD .any := rfl
attribute [go_sem] frzAll_sl frzAll_H frzAll_nx frzAll_it frzS_def Option.getD_some

theorem pCall_frzAll {f : FuncId} {args args' args2 : List PV} {st : PS} {K : PV → PS → Prop} {Q : PV → Prop} (hq : args.mapM (Ytfjdfnlkobeehaa.frz (fun _ => true) st.H 1) = some args') (hfl : flatL args' = true) (hv : args'.map (view (fun _ => none)) = args2) (hf : flatL args2 = true)
    (h : PT P f args2 Q) (hk : ∀ r n, flat r = true → Q r → st.nx ≤ n → K r (st.frzAll.withH (fun _ => none) n)) : pCall P f args st K := by
  have h1 : pCall P f args' st.frzAll K := pCall_tree hv hfl hf h hk
  obtain ⟨args1, st1, hg, hc⟩ := h1
  refine ⟨args1, st1, fun c a w vs hR => hg c a w vs ?_, hc⟩
  obtain ⟨ρ, hR, hr⟩ := hR
  have h' := (hR.drop (H' := dropH (fun _ => true) st.H) (it' := st.it) (fun i => by unfold dropH; split; exact .inr rfl; exact .inl rfl) (fun i => .inl rfl)).1
  refine ⟨ρ, ⟨h'.own, fun u => ?_, h'.size, h'.defers, h'.frame, h'.grow, h'.ids, h'.ρk, h'.fF, h'.fA, h'.sw⟩, frzL_sound hR (fun _ => true) 1 _ _ _ hq hr⟩
  show Rep _ (frzS st.H (st.sl u)) _
  unfold frzS
  cases hz : Ytfjdfnlkobeehaa.frz (fun _ => true) st.H 1 (st.sl u) with
  | none => simp [Rep]
  | some q => exact frz_sound hR (fun _ => true) 1 _ q _ hz (hR.slots u)
theorem nn_agg (cs : List PV) : nn (.agg cs) = .agg cs := rfl
attribute [go_sem] nn_agg

theorem Gh.frzAll (st : PS) : Gh st st.frzAll := by
  rintro c a w ⟨ρ, hR⟩
  have h' := (hR.drop (H' := dropH (fun _ => true) st.H) (it' := st.it) (fun i => by unfold dropH; split; exact .inr rfl; exact .inl rfl) (fun i => .inl rfl)).1
  refine ⟨ρ, h'.own, fun u => ?_, h'.size, h'.defers, h'.frame, h'.grow, h'.ids, h'.ρk, h'.fF, h'.fA, h'.sw⟩
  show Rep _ (frzS st.H (st.sl u)) _
  unfold frzS
  cases hz : Ytfjdfnlkobeehaa.frz (fun _ => true) st.H 1 (st.sl u) with
  | none => simp [Rep]
  | some q => exact frz_sound hR (fun _ => true) 1 _ q _ hz (hR.slots u)
theorem nn_tup (cs : List PV) : nn (.tup cs) = .tup (cs.map nn1) := rfl
theorem nn_nil : nn (.val (.slice none 0 0)) = .sl 0 [] := rfl
theorem nn_sl (n : Nat) (cs : List PV) : nn (.sl n cs) = .sl n cs := rfl
theorem nn_int (k : IntKind) (z : Int) : nn (.val (.int k z)) = .val (.int k z) := rfl
theorem nn1_nil : nn1 (.val (.slice none 0 0)) = .sl 0 [] := rfl
theorem nn1_sl (n : Nat) (cs : List PV) : nn1 (.sl n cs) = .sl n cs := rfl
theorem nn1_int (k : IntKind) (z : Int) : nn1 (.val (.int k z)) = .val (.int k z) := rfl
theorem nn1_bool (b : Bool) : nn1 (.val (.bool b)) = .val (.bool b) := rfl
theorem nn1_str (s : ByteArray) : nn1 (.val (.string s)) = .val (.string s) := rfl
theorem nn1_agg (cs : List PV) : nn1 (.agg cs) = .agg cs := rfl
theorem mapMo_nil {α β : Type} (f : α → Option β) : [].mapM f = some [] := rfl
theorem mapMo_cons {α β : Type} (f : α → Option β) (x : α) (l : List α) : (x :: l).mapM f = (f x).bind fun y => (l.mapM f).map (y :: ·) := by
  rw [List.mapM_cons]; cases f x <;> simp; cases l.mapM f <;> rfl
attribute [go_sem] nn_tup nn_nil nn_sl nn_int nn1_nil nn1_sl nn1_int nn1_bool nn1_str nn1_agg mapMo_nil mapMo_cons
end Go.Proofs.Ytfjdfnlkobeehaa

namespace Go.Proofs.Ytfjdfnlkobeehaa

variable {P : Program}

theorem mk_w (b : Value) : Mk1 (fun p => .agg [.val b, p]) := by
  refine ⟨fun k p => by simp [shift, shiftL], fun p h => by simp [closed, closedL, h], fun D H d p q h => ?_, fun p h => by simp [flat, flatL, h], fun {E E' p q v} hle h hr => ?_⟩
  · simp only [frz, List.mapM_cons, h, List.mapM_nil]
    have : frz D H d (.val b) = some (.val b) := frz_flat D H d _ rfl
    rw [this]; rfl
  · simp only [Rep] at hr ⊢
    obtain ⟨vs, rfl, hr⟩ := hr
    match vs, hr with
    | [u, x], hr =>
      simp only [RepL, Rep, and_true] at hr
      refine ⟨[u, x], rfl, ?_⟩
      simp only [RepL, Rep, and_true]
      exact ⟨hr.1, h _ hr.2⟩
    | [], hr => simp [RepL] at hr
    | [_], hr => simp [RepL] at hr
    | _ :: _ :: _ :: _, hr => simp [RepL] at hr


def nn2 : PV → PV
  | .agg cs => .agg (cs.map nn1)
  | p => nn1 p
def nn3 : PV → PV
  | .tup cs => .tup (cs.map nn2)
  | p => nn2 p
theorem nn2_rep {E : En} {p : PV} {v : Value} (h : Rep E p v) : Rep E (nn2 p) v := by
  unfold nn2
  split
  · simp only [Rep] at h ⊢
    obtain ⟨vs, e, h⟩ := h
    exact ⟨vs, e, nnL_rep h⟩
  · exact nn1_rep h
theorem nn2L_rep {E : En} : ∀ {cs : List PV} {vs : List Value}, RepL E cs vs → RepL E (cs.map nn2) vs
  | [], [], _ => by simp [RepL]
  | c :: cs, v :: vs, h => by
    simp only [RepL, List.map_cons] at h ⊢
    exact ⟨nn2_rep h.1, nn2L_rep h.2⟩
  | [], _ :: _, h => by simp [RepL] at h
  | _ :: _, [], h => by simp [RepL] at h
theorem nn3_rep {E : En} {p : PV} {v : Value} (h : Rep E p v) : Rep E (nn3 p) v := by
  unfold nn3
  split
  · simp only [Rep] at h ⊢
    obtain ⟨vs, e, h⟩ := h
    exact ⟨vs, e, nn2L_rep h⟩
  · exact nn2_rep h
theorem nn2_flat {p : PV} (h : flat p = true) : flat (nn2 p) = true := by
  unfold nn2; split
  · exact nnL_flat (by simpa [flat] using h)
  · exact nn1_flat h
theorem nn2L_flat : ∀ {cs : List PV}, flatL cs = true → flatL (cs.map nn2) = true
  | [], _ => rfl
  | c :: cs, h => by
    simp only [flatL, Bool.and_eq_true, List.map_cons] at h ⊢
    exact ⟨nn2_flat h.1, nn2L_flat h.2⟩
theorem nn3_flat {p : PV} (h : flat p = true) : flat (nn3 p) = true := by
  unfold nn3; split
  · exact nn2L_flat (by simpa [flat] using h)
  · exact nn2_flat h
theorem GhV.nn3 {st : PS} (p : PV) : GhV p st (nn3 p) st := by
  rintro c a w v ⟨ρ, h, hr⟩
  exact ⟨ρ, h, nn3_rep hr⟩

theorem end_treeM {rs : List ResultVar} {Q : PV → Prop} {st : PS} (d : Nat) (h : obind (resP P st rs) fun ps => obind (Ytfjdfnlkobeehaa.frz (fun _ => true) st.H d (tupP ps)) fun q => flat q = true ∧ Q (nn3 q)) :
    endQ P rs (treeQ Q) .ret st := by
  obtain ⟨ps, h1, q, h2, h3, h4⟩ := h
  exact ⟨ps, h1, nn3 q, _, (GhV.frz _ d h2).trans (GhV.nn3 q), nn3_flat h3, h4⟩
theorem nn3_agg (cs : List PV) : nn3 (.agg cs) = .agg (cs.map nn1) := rfl
theorem nn3_tup (cs : List PV) : nn3 (.tup cs) = .tup (cs.map nn2) := rfl
theorem nn2_agg (cs : List PV) : nn2 (.agg cs) = .agg (cs.map nn1) := rfl
theorem nn2_int (k : IntKind) (z : Int) : nn2 (.val (.int k z)) = .val (.int k z) := rfl
theorem nn2_bool (b : Bool) : nn2 (.val (.bool b)) = .val (.bool b) := rfl
theorem nn2_sl (n : Nat) (cs : List PV) : nn2 (.sl n cs) = .sl n cs := rfl
theorem nn2_nil : nn2 (.val (.slice none 0 0)) = .sl 0 [] := rfl
attribute [go_sem] nn3_agg nn3_tup nn2_agg nn2_int nn2_bool nn2_sl nn2_nil

def PS.nns (st : PS) : PS := { st with sl := fun t => nn2 (st.sl t) }
theorem nns_sl (st : PS) (t : Nat) : st.nns.sl t = nn2 (st.sl t) := rfl
theorem nns_H (st : PS) : st.nns.H = st.H := rfl
theorem nns_nx (st : PS) : st.nns.nx = st.nx := rfl
theorem nns_it (st : PS) : st.nns.it = st.it := rfl
attribute [go_sem] nns_sl nns_H nns_nx nns_it
theorem Gh.nns (st : PS) : Gh st st.nns := by
  rintro c a w ⟨ρ, hR⟩
  exact ⟨ρ, hR.own, fun u => nn2_rep (hR.slots u), hR.size, hR.defers, hR.frame, hR.grow, hR.ids, hR.ρk, hR.fF, hR.fA, hR.sw⟩

theorem PCalls.args {f : FuncId} {args args' : List PV} {H : Nat → Option (List PV)} {nx : Nat} {Q : PV → (Nat → Option (List PV)) → Nat → Prop} (h : PCalls P f args' H nx Q)
    (hr : ∀ (E : En) (vs : List Value), RepL E args vs → RepL E args' vs) : PCalls P f args H nx Q :=
  ⟨h.1, fun w vs ρ A0 h1 h2 h3 => h.2 w vs ρ A0 h1 h2 (hr _ _ h3)⟩
def memR (x : PV) (H : Nat → Option (List PV)) (r : PV) (H' : Nat → Option (List PV)) (nx' : Nat) : Prop := r = x ∧ H' = H

theorem end_mem {rs : List ResultVar} {st : PS} {x : PV} {H : Nat → Option (List PV)} (h : obind (resP P st rs) fun ps => tupP ps = x) (hH : ∀ i, H i = st.H i ∨ H i = none) : endQ P rs (memR x H) .ret st := by
  obtain ⟨ps, h1, h2⟩ := h
  refine ⟨ps, h1, x, { st with H := H, it := fun _ => none }, ?_, rfl, rfl⟩
  rw [h2]
  rintro c a w v ⟨ρ, hR, hr⟩
  have hd := hR.drop (H' := H) (it' := fun _ => none) hH (fun i => .inr rfl)
  exact ⟨ρ, hd.1, Rep.mono hd.2 _ _ hr⟩
theorem upd_less {α : Type} {H : Nat → Option α} {nx : Nat} {x : Option α} (h : H nx = none) (i : Nat) : H i = upd H nx x i ∨ H i = none := by
  by_cases hi : i = nx
  · subst hi; exact .inr h
  · exact .inl (by rw [upd_ne _ _ hi])
theorem take_two {α : Type} (a b : α) : [a, b].take 2 = [a, b] := rfl
theorem take_one {α : Type} (a b : α) : [a, b].take 1 = [a] := rfl
theorem drop_one {α : Type} (a b : α) : [a, b].drop 1 = [b] := rfl
theorem spl_two {α : Type} (a b x y : α) : spl [a, b] 0 [x, y] = [x, y] := rfl
attribute [go_sem] take_two take_one drop_one spl_two

def frzSD (d : Nat) (H : Nat → Option (List PV)) (p : PV) : PV := (Ytfjdfnlkobeehaa.frz (fun _ => true) H d p).getD .any
def PS.frzAllD (st : PS) (d : Nat) : PS := { st with sl := fun t => frzSD d st.H (st.sl t), H := fun _ => none }
theorem frzAllD_sl (st : PS) (d t : Nat) : (st.frzAllD d).sl t = frzSD d st.H (st.sl t) := rfl
theorem frzAllD_H (st : PS) (d : Nat) : (st.frzAllD d).H = fun _ => none := rfl
theorem frzAllD_nx (st : PS) (d : Nat) : (st.frzAllD d).nx = st.nx := rfl
theorem frzAllD_it (st : PS) (d : Nat) : (st.frzAllD d).it = st.it := rfl
theorem frzSD_def (d : Nat) (H : Nat → Option (List PV)) (p : PV) : frzSD d H p = (Ytfjdfnlkobeehaa.frz (fun _ => true) H d p).getD .any := rfl
attribute [go_sem] frzAllD_sl frzAllD_H frzAllD_nx frzAllD_it frzSD_def
theorem frz_ptr (D : Nat → Bool) (H : Nat → Option (List PV)) (d id off : Nat) : Ytfjdfnlkobeehaa.frz D H (d + 1) (.ptr id off) = if D id = true then (H id).bind fun cs => ((cs.drop off).mapM (Ytfjdfnlkobeehaa.frz D H d)).map .rp else none := rfl
attribute [go_sem] frz_ptr
end Go.Proofs.Ytfjdfnlkobeehaa
end

section
set_option linter.unusedVariables false
set_option linter.unusedSimpArgs false
namespace Go.Proofs.Ytfjdfnlkobeehaa

attribute [go_sem ↓] reduceIte
attribute [go_sem] reduceIte Nat.reduceEqDiff Nat.reduceAdd Nat.reduceMul Nat.reduceSub Nat.reduceLT Nat.reduceLeDiff Int.reduceToNat Int.reduceLE Int.reduceLT Int.reduceAdd Int.reduceMul Int.reduceSub Nat.sub_zero Int.reducePow Nat.reducePow Int.reduceNeg Int.reduceEq Int.reduceNe


def U (x : Nat) : PV := .val (.int .u32 x)
theorem U_def (x : Nat) : U x = .val (.int .u32 x) := rfl

def SU (xs : List Nat) : PV := .sl xs.length (xs.map U)
theorem SU_def (xs : List Nat) : SU xs = .sl xs.length (xs.map U) := rfl
theorem flatL_U (xs : List Nat) : flatL (xs.map U) = true := by
  induction xs with
  | nil => rfl
  | cons x xs ih => simp [flatL, flat, U, ih]
theorem flat_SU (xs : List Nat) : flat (SU xs) = true := flatL_U xs
theorem oneP_U (xs : List Nat) : (xs.map U).all oneP = true := by
  induction xs with
  | nil => rfl
  | cons x xs ih => simp [oneP, U, Value.oneCell', ih]
theorem flatL_take {l : List PV} (n : Nat) (h : flatL l = true) : flatL (l.take n) = true := by
  induction l generalizing n with
  | nil => simp [flatL]
  | cons x l ih => cases n with
    | zero => rfl
    | succ n => simp only [flatL, Bool.and_eq_true] at h; simp only [List.take_succ_cons, flatL, Bool.and_eq_true]; exact ⟨h.1, ih n h.2⟩
theorem flatL_drop {l : List PV} (n : Nat) (h : flatL l = true) : flatL (l.drop n) = true := by
  induction l generalizing n with
  | nil => simp [flatL]
  | cons x l ih => cases n with
    | zero => exact h
    | succ n => simp only [flatL, Bool.and_eq_true] at h; simpa using ih n h.2
theorem flatU_take (xs : List Nat) (n : Nat) : flatL ((xs.map U).take n) = true := flatL_take n (flatL_U xs)
theorem flatU_drop (xs : List Nat) (n : Nat) : flatL ((xs.map U).drop n) = true := flatL_drop n (flatL_U xs)
theorem flatU_sub (xs : List Nat) (n m : Nat) : flatL (((xs.map U).drop n).take m) = true := flatL_take m (flatU_drop xs n)
theorem repl_one {α : Type} (x : α) (n : Nat) : repl n [x] = List.replicate n x := by simp [repl]
theorem repl_U (n : Nat) : repl n [PV.val (.int .u32 0)] = (List.replicate n 0).map U := by rw [repl_one]; simp [U]
theorem replU_val (n : Nat) : (List.replicate n 0).map U = ([] : List Nat).map U ++ (List.replicate n (Value.int .u32 0)).map .val := by simp [U]
theorem get_U {xs : List Nat} {i : Nat} (l : List PV) (h : i < xs.length) : (xs.map U ++ l)[i]? = some (.val (.int .u32 (xs.getD i 0 : Nat))) := by
  rw [List.getElem?_append_left (by simpa using h)]
  simp [h, U]
theorem head_U {xs : List Nat} (h : 0 < xs.length) : (xs.map U).head? = some (.val (.int .u32 (xs.getD 0 0 : Nat))) := by
  cases xs with
  | nil => simp at h
  | cons x l => rfl
theorem set_U {xs : List Nat} {i x : Nat} (l : List PV) (h : i < xs.length) : spl (xs.map U ++ l) i [.val (.int .u32 (x : Nat))] = (xs.set i x).map U ++ l := by
  unfold spl
  simp only [List.length_singleton]
  rw [List.take_append_of_le_length (by simpa using Nat.le_of_lt h), List.drop_append_of_le_length (by simp; omega), List.set_eq_take_append_cons_drop, if_pos h]
  simp [U]
theorem set_U' {xs : List Nat} {i x : Nat} (h : i < xs.length) : spl (xs.map U) i [.val (.int .u32 (x : Nat))] = (xs.set i x).map U := by
  have := set_U (x := x) [] h
  simpa using this
theorem own_split {zs : List Nat} (h : Lm zs) (rest : List Value) : zs.map U ++ rest.map .val = (D (V zs)).map U ++ (List.replicate (zs.length - (D (V zs)).length) (Value.int .u32 0) ++ rest).map .val := by
  have hl := D_len_V h
  have e : zs = D (V zs) ++ List.replicate (zs.length - (D (V zs)).length) 0 := by
    refine V_inj h (Lm_append.2 ⟨Lm_D _, Lm_repl _⟩) (by simp; omega) ?_
    rw [V_append, V_repl, V_D]; simp
  conv => lhs; rw [e]
  simp [U]
theorem own_split' {zs : List Nat} (h : Lm zs) : zs.map U = (D (V zs)).map U ++ (List.replicate (zs.length - (D (V zs)).length) (Value.int .u32 0)).map .val := by
  have := own_split h []
  simpa using this
theorem sub_step {u v b : Nat} (hu : u < 4294967296) (hv : v < 4294967296) (hb : b ≤ 1) : ∃ z b' : Nat, z < 4294967296 ∧ b' ≤ 1 ∧ (((u : Int) - b) % 18446744073709551616 - v) % 18446744073709551616 % 4294967296 = z ∧
    (((u : Int) - b) % 18446744073709551616 - v) % 18446744073709551616 / 9223372036854775808 = b' ∧ z + v + b = u + 4294967296 * b' := by
  by_cases h : v + b ≤ u
  · exact ⟨u - v - b, 0, by omega, by omega, by omega, by omega, by omega⟩
  · exact ⟨u + 4294967296 - v - b, 1, by omega, by omega, by omega, by omega, by omega⟩
theorem app_U (zs : List Nat) (c : Nat) : zs.map U ++ [PV.val (.int .u32 (c : Nat))] = (zs ++ [c]).map U := by simp [U]
theorem repl_1 {α : Type} (l : List α) : repl 1 l = l := by simp [repl]
theorem repl_2 {α : Type} (l : List α) : repl 2 l = l ++ l := by simp [repl, List.replicate_succ]
theorem repl_3 {α : Type} (l : List α) : repl 3 l = l ++ (l ++ l) := by simp [repl, List.replicate_succ]
section
variable {α : Type} (a b c x : α)
theorem spl_10 : spl [a] 0 [x] = [x] := rfl
theorem spl_20 : spl [a, b] 0 [x] = [x, b] := rfl
theorem spl_21 : spl [a, b] 1 [x] = [a, x] := rfl
theorem spl_30 : spl [a, b, c] 0 [x] = [x, b, c] := rfl
theorem spl_31 : spl [a, b, c] 1 [x] = [a, x, c] := rfl
theorem spl_32 : spl [a, b, c] 2 [x] = [a, b, x] := rfl
end
theorem cellsP_int (k : IntKind) (z : Int) : cellsP (.val (.int k z)) = [.val (.int k z)] := rfl
theorem cellsP_bool (b : Bool) : cellsP (.val (.bool b)) = [.val (.bool b)] := rfl
theorem cellsP_str (s : ByteArray) : cellsP (.val (.string s)) = [.val (.string s)] := rfl
theorem cellsP_nil : cellsP (.val (.slice none 0 0)) = [.val (.slice none 0 0)] := rfl
theorem cellsP_ref (id off n cap sz : Nat) : cellsP (.ref id off n cap sz) = [.ref id off n cap sz] := rfl
theorem cellsP_sl (n : Nat) (cs : List PV) : cellsP (.sl n cs) = [.sl n cs] := rfl
theorem cellsP_ptr (id off : Nat) : cellsP (.ptr id off) = [.ptr id off] := rfl
theorem cellsP_agg (cs : List PV) : cellsP (.agg cs) = cs := rfl
theorem isAny_val (v : Value) : isAny (.val v) = false := rfl
theorem isAny_ref (id off n cap sz : Nat) : isAny (.ref id off n cap sz) = false := rfl
theorem isAny_sl (n : Nat) (cs : List PV) : isAny (.sl n cs) = false := rfl
theorem isAny_ptr (id off : Nat) : isAny (.ptr id off) = false := rfl
theorem isAny_agg (cs : List PV) : isAny (.agg cs) = false := rfl
theorem allP_nil : ([] : List PV).all oneP = true := rfl
theorem allP_cons (c : PV) (cs : List PV) : (c :: cs).all oneP = (oneP c && cs.all oneP) := rfl
theorem oneP_int (k : IntKind) (z : Int) : oneP (.val (.int k z)) = true := rfl
theorem oneP_bool (b : Bool) : oneP (.val (.bool b)) = true := rfl
theorem oneP_str (s : ByteArray) : oneP (.val (.string s)) = true := rfl
theorem oneP_nil : oneP (.val (.slice none 0 0)) = true := rfl
theorem oneP_ref (id off n cap sz : Nat) : oneP (.ref id off n cap sz) = true := rfl
theorem oneP_sl (n : Nat) (cs : List PV) : oneP (.sl n cs) = true := rfl
theorem oneP_ptr (id off : Nat) : oneP (.ptr id off) = true := rfl
attribute [go_sem] repl_1 repl_2 repl_3 spl_10 spl_20 spl_21 spl_30 spl_31 spl_32 cellsP_int cellsP_bool cellsP_str cellsP_nil cellsP_ref cellsP_sl cellsP_ptr cellsP_agg isAny_val isAny_ref isAny_sl isAny_ptr isAny_agg
  allP_nil allP_cons oneP_int oneP_bool oneP_str oneP_nil oneP_ref oneP_sl oneP_ptr List.length_replicate List.length_append get_U set_U set_U' head_U
attribute [go_sem low] repl_U
attribute [go_sem] flatU_take flatU_drop flatU_sub U_def SU_def flatL_U oneP_U
theorem closedL_U (xs : List Nat) : closedL (xs.map U) = true := by
  induction xs with
  | nil => rfl
  | cons x xs ih => simp [closedL, closed, U, ih]
theorem take_Ul (xs : List Nat) (l : List PV) : List.take xs.length (xs.map U ++ l) = xs.map U := by
  rw [List.take_append_of_le_length (by simp)]; exact List.take_of_length_le (by simp)
attribute [go_sem] take_Ul

end Go.Proofs.Ytfjdfnlkobeehaa
end

section
set_option maxRecDepth 100000
set_option linter.unusedVariables false
set_option linter.unusedSimpArgs false
namespace Go.Proofs.Ytfjdfnlkobeehaa

variable {P : Program}


structure Mk2 (mk : PV → PV → PV) : Prop where
  shift : ∀ k p q, shift k (mk p q) = mk (Ytfjdfnlkobeehaa.shift k p) (Ytfjdfnlkobeehaa.shift k q)
  closed : ∀ p q, closed p = true → closed q = true → closed (mk p q) = true
  flat : ∀ p q, flat p = true → flat q = true → flat (mk p q) = true
  frz : ∃ e, ∀ D H p q p' q', frz D H 1 p = some p' → frz D H 1 q = some q' → Ytfjdfnlkobeehaa.frz D H (e + 1) (mk p q) = some (mk p' q')
  rep : ∀ {E E' : En} {p q p' q' : PV} {v : Value}, E.le E' → (∀ u, Rep E p u → Rep E' p' u) → (∀ u, Rep E q u → Rep E' q' u) → Rep E (mk p q) v → Rep E' (mk p' q') v


theorem pCall_own2 {f : FuncId} {args args' : List PV} {st : PS} {K : PV → PS → Prop} {mk : PV → PV → PV} {cs ds : List PV} (hmk : Mk2 mk) (hv : args.map (view st.H) = args') (hf : flatL args' = true)
    (hcl : closedL cs = true) (hfl : flatL cs = true) (hcl2 : closedL ds = true) (hfl2 : flatL ds = true) (h : PO2 P f args' mk cs ds)
    (hk : ∀ (id cap : Nat) (rest : List Value) (id2 cap2 : Nat) (rest2 : List Value) (n : Nat), st.nx ≤ id → id < n → st.nx ≤ id2 → id2 < n → id ≠ id2 → cs.length + List.length rest = cap → ds.length + List.length rest2 = cap2 →
      K (mk (.ref id 0 cs.length cap 1) (.ref id2 0 ds.length cap2 1)) (st.withH (upd (upd st.H id (some (cs ++ rest.map .val))) id2 (some (ds ++ rest2.map .val))) n)) : pCall P f args st K := by
  refine ⟨_, _, GhA.refl _ _, .inl ⟨by rw [hv]; exact hf, ?_⟩⟩
  rw [hv]
  refine PCalls.mono h ?_
  rintro r H' n ⟨id, cap, rest, id2, cap2, rest2, rfl, hne, rfl, hcap, hcap2⟩
  refine ⟨fun _ => ⟨hmk.closed _ _ rfl rfl, fun i es hd => ?_⟩, fun hwf hwf' => ?_⟩
  · by_cases hi2 : i = id2
    · subst hi2; rw [upd_self] at hd; simp at hd; subst hd; exact closedL_app hcl2 (closedL_val _)
    · rw [upd_ne _ _ hi2] at hd
      by_cases hi : i = id
      · subst hi; rw [upd_self] at hd; simp at hd; subst hd; exact closedL_app hcl (closedL_val _)
      · rw [upd_ne _ _ hi] at hd; simp at hd
  · have hlt : id < n := by
      rcases Nat.lt_or_ge id n with h | h
      · exact h
      · have := hwf' id h; rw [upd_ne _ _ hne, upd_self] at this; simp at this
    have hlt2 : id2 < n := by
      rcases Nat.lt_or_ge id2 n with h | h
      · exact h
      · have := hwf' id2 h; rw [upd_self] at this; simp at this
    rw [hmk.shift, joinH_upd, joinH_upd, joinH_none hwf, shiftL_flat _ _ (flatL_app' hfl (flatL_val _)), shiftL_flat _ _ (flatL_app' hfl2 (flatL_val _))]
    exact ghK_intro (hk (id + st.nx) cap rest (id2 + st.nx) cap2 rest2 (st.nx + n) (by omega) (by omega) (by omega) (by omega) (by omega) hcap hcap2)


theorem PO2.tree {f : FuncId} {args : List PV} {mk : PV → PV → PV} {cs ds : List PV} (hmk : Mk2 mk) (hfl : flatL cs = true) (hfl2 : flatL ds = true) (h : PO2 P f args mk cs ds) : PT P f args (isV (mk (.sl cs.length cs) (.sl ds.length ds))) := by
  refine ⟨h.1, fun w vs ρ A0 h1 h2 h3 => (h.2 w vs ρ A0 h1 h2 h3).mono ?_⟩
  rintro e w' ⟨v, r, H', nx', ρ', he, ⟨id, cap, rest, id2, cap2, rest2, rfl, hne, rfl, hcap, hcap2⟩, hnx, hρ, hown, hrep, hframe, hsize, hsw⟩
  let H : Nat → Option (List PV) := upd (upd (fun _ => none) id (some (cs ++ rest.map .val))) id2 (some (ds ++ rest2.map .val))
  let c : Cx := { F := fun b => b < w.heap.size ∧ ¬ OwnB ρ (fun _ => none) (fun _ => none) b, w0 := w', A0 := A0, ρ0 := ρ', k := 0, n := 0, tb := [] }
  let st : PS := { sl := fun _ => .any, H := H, it := fun _ => none, nx := nx' }
  have hR : Rr c st { tmps := #[], defers := [] } w' ρ' :=
    ⟨hown, fun t => by simp [st, Rep], rfl, rfl, fun _ _ => rfl, Nat.le_refl _, Nat.zero_le _, fun _ _ => rfl, fun b hb => Nat.lt_of_lt_of_le hb.1 hsize, fun b hb => Nat.lt_of_lt_of_le (h1 b hb) hsize, Sw.refl _⟩
  have hH1 : H id = some (cs ++ rest.map .val) := by show upd _ id2 _ id = _; rw [upd_ne _ _ hne, upd_self]
  have hH2 : H id2 = some (ds ++ rest2.map .val) := upd_self _ _ _
  have key : ∀ (i cp : Nat) (xs : List PV) (rs : List Value), H i = some (xs ++ rs.map .val) → flatL xs = true → Ytfjdfnlkobeehaa.frz (fun _ => true) H 1 (.ref i 0 xs.length cp 1) = some (.sl xs.length xs) := by
    intro i cp xs rs hi hx
    simp only [frz_ref, if_true, hi, Option.bind_some]
    rw [if_pos (by simp)]
    simp only [List.drop_zero, Nat.mul_one, List.take_left]
    rw [frzL_flat (fun _ => true) H 0 hx]; rfl
  obtain ⟨e0, hfz⟩ := hmk.frz
  have hfz2 := hfz _ _ _ _ _ _ (key id cap cs rest hH1 hfl) (key id2 cap2 ds rest2 hH2 hfl2)
  have hd := hR.drop (H' := dropH (fun _ => true) st.H) (it' := fun _ => none) (fun i => .inr rfl) (fun i => .inl rfl)
  have hr := frz_sound hR (fun _ => true) _ _ _ v hfz2 hrep
  have hH : dropH (fun _ => true) st.H = fun _ => none := rfl
  rw [hH] at hd hr
  exact ⟨v, _, fun _ => none, nx', ρ', he, ⟨hmk.flat _ _ (by simpa [Ytfjdfnlkobeehaa.flat] using hfl) (by simpa [Ytfjdfnlkobeehaa.flat] using hfl2), rfl⟩, hnx, hρ, hd.1.own, hr, hframe, hsize, hsw⟩


theorem GhV.nilAt {st : PS} {f : PV → PV} (hf : ∀ {E E' : En} {v : Value} (n : Nat), E.le E' → (∀ u, Rep E (.val (.slice none 0 0)) u → Rep E' (.ref n 0 0 0 1) u) → Rep E (f (.val (.slice none 0 0))) v → Rep E' (f (.ref n 0 0 0 1)) v) :
    GhV (f (.val (.slice none 0 0))) st (f (.ref st.nx 0 0 0 1)) { st with H := upd st.H st.nx (some []), nx := st.nx + 1 } := by
  rintro c a w v ⟨ρ, h, hr⟩
  have hl : ∀ i, Live (upd st.H st.nx (some [])) st.it i → Live st.H st.it i := by
    rintro i (⟨cs, hc, hne⟩ | hi)
    · by_cases hx : i = st.nx
      · subst hx; rw [upd_self] at hc; simp at hc; exact absurd hc.symm (by simpa using hne)
      · rw [upd_ne _ _ hx] at hc; exact .inl ⟨cs, hc, hne⟩
    · exact .inr hi
  have hle : En.le (enOf c.A0 w ρ st.H st.it st.nx) (enOf c.A0 w ρ (upd st.H st.nx (some [])) st.it (st.nx + 1)) :=
    ⟨fun _ _ _ _ hv => hv, fun b _ _ hA _ hA' => hA (hA'.imp id fun ⟨i, hi, e⟩ => ⟨i, hl i hi, e⟩), Nat.le_succ _, fun _ _ => rfl⟩
  refine ⟨ρ, ⟨⟨fun i hi => ?_, fun i cs hc hne => ?_, fun i j hi hj he => h.own.inj i j (hl i hi) (hl j hj) he, fun i cs hc hne => ?_, h.own.itb, fun i hi => h.own.out i (hl i hi)⟩,
    fun u => Rep.mono hle _ _ (h.slots u), h.size, h.defers, h.frame, h.grow, Nat.le_succ_of_le h.ids, h.ρk, h.fF, h.fA, h.sw⟩, ?_⟩
  · by_cases hx : i = st.nx
    · exact hx ▸ Nat.lt_succ_self _
    · simp only [upd_ne _ _ hx] at hi; exact Nat.lt_succ_of_lt (h.own.bound i hi)
  · have hc : upd st.H st.nx (some []) i = some cs := hc
    by_cases hx : i = st.nx
    · subst hx; rw [upd_self] at hc; simp at hc; exact absurd hc.symm (by simpa using hne)
    · rw [upd_ne _ _ hx] at hc; exact h.own.excl i cs hc hne
  · have hc : upd st.H st.nx (some []) i = some cs := hc
    by_cases hx : i = st.nx
    · subst hx; rw [upd_self] at hc; simp at hc; exact absurd hc.symm (by simpa using hne)
    · rw [upd_ne _ _ hx] at hc
      obtain ⟨vs, e, hb, hr⟩ := h.own.blk i cs hc hne
      exact ⟨vs, e, hb, RepL.mono hle _ _ hr⟩
  · refine hf st.nx hle (fun u hu => ?_) hr
    simp only [Rep] at hu
    simp only [Rep]
    exact ⟨Nat.lt_succ_self _, Nat.le_refl _, .inr ⟨trivial, trivial, hu⟩⟩

theorem end_own2G {rs : List ResultVar} {st st1 : PS} {mk : PV → PV → PV} {cs ds : List PV} {id cap n id2 cap2 n2 : Nat} {rest rest2 : List Value} {ps : List PV} (h1 : resP P st rs = some ps)
    (hg : GhV (tupP ps) st (mk (.ref id 0 n cap 1) (.ref id2 0 n2 cap2 1)) st1) (hne : id ≠ id2) (hH : st1.H id = some (cs ++ rest.map .val)) (hH2 : st1.H id2 = some (ds ++ rest2.map .val)) (hn : cs.length = n) (hn2 : ds.length = n2)
    (hcap : cs.length + rest.length = cap) (hcap2 : ds.length + rest2.length = cap2) : endQ P rs (own2Q mk cs ds) .ret st := by
  subst hn hn2
  refine ⟨ps, h1, mk (.ref id 0 cs.length cap 1) (.ref id2 0 ds.length cap2 1), { st1 with H := upd (upd (fun _ => none) id (some (cs ++ rest.map .val))) id2 (some (ds ++ rest2.map .val)), it := fun _ => none }, hg.trans ?_, id, cap, rest, id2, cap2, rest2, rfl, hne, rfl, hcap, hcap2⟩
  rintro c a w v ⟨ρ, hR, hr⟩
  have hd := hR.drop (H' := upd (upd (fun _ => none) id (some (cs ++ rest.map .val))) id2 (some (ds ++ rest2.map .val))) (it' := fun _ => none) (fun i => by
    by_cases hi2 : i = id2
    · subst hi2; rw [upd_self]; exact .inl hH2.symm
    · rw [upd_ne _ _ hi2]
      by_cases hi : i = id
      · subst hi; rw [upd_self]; exact .inl hH.symm
      · rw [upd_ne _ _ hi]; exact .inr rfl) (fun i => .inr rfl)
  exact ⟨ρ, hd.1, Rep.mono hd.2 _ _ hr⟩
theorem GhV.refl (p : PV) (st : PS) : GhV p st p st := fun _ _ _ _ h => h
theorem end_own2 {rs : List ResultVar} {st : PS} {mk : PV → PV → PV} {cs ds : List PV} {id cap n id2 cap2 n2 : Nat} {rest rest2 : List Value} (h : obind (resP P st rs) fun ps => tupP ps = mk (.ref id 0 n cap 1) (.ref id2 0 n2 cap2 1))
    (hne : id ≠ id2) (hH : st.H id = some (cs ++ rest.map .val)) (hH2 : st.H id2 = some (ds ++ rest2.map .val)) (hn : cs.length = n) (hn2 : ds.length = n2)
    (hcap : cs.length + rest.length = cap) (hcap2 : ds.length + rest2.length = cap2) : endQ P rs (own2Q mk cs ds) .ret st := by
  obtain ⟨ps, h1, h2⟩ := h
  exact end_own2G h1 (by rw [h2]; exact GhV.refl _ _) hne hH hH2 hn hn2 hcap hcap2
theorem end_own2_nl {rs : List ResultVar} {st : PS} {mk : PV → PV → PV} (hmk : Mk2 mk) {ds : List PV} {id2 cap2 n2 : Nat} {rest2 : List Value} (h : obind (resP P st rs) fun ps => tupP ps = mk (.val (.slice none 0 0)) (.ref id2 0 n2 cap2 1))
    (hH2 : st.H id2 = some (ds ++ rest2.map .val)) (hn2 : ds.length = n2) (hcap2 : ds.length + rest2.length = cap2) (hid2 : id2 < st.nx) : endQ P rs (own2Q mk [] ds) .ret st := by
  obtain ⟨ps, h1, h2⟩ := h
  refine end_own2G (id := st.nx) (cap := 0) (n := 0) (rest := []) h1 (by rw [h2]; exact GhV.nilAt (f := fun p => mk p _) fun n hle hp hr => hmk.rep hle hp (fun u hu => Rep.mono hle _ _ hu) hr) (by omega) (upd_self _ _ _) ?_ rfl hn2 rfl hcap2
  show upd st.H st.nx _ id2 = _
  rw [upd_ne _ _ (by omega)]; exact hH2
theorem end_own2_nn {rs : List ResultVar} {st : PS} {mk : PV → PV → PV} (hmk : Mk2 mk) (h : obind (resP P st rs) fun ps => tupP ps = mk (.val (.slice none 0 0)) (.val (.slice none 0 0))) : endQ P rs (own2Q mk [] []) .ret st := by
  obtain ⟨ps, h1, h2⟩ := h
  refine end_own2G (st1 := { st with H := upd (upd st.H st.nx (some [])) (st.nx + 1) (some []), nx := st.nx + 1 + 1 }) (id := st.nx) (cap := 0) (n := 0) (rest := []) (id2 := st.nx + 1) (cap2 := 0) (n2 := 0) (rest2 := []) h1 ?_ (by omega) ?_ (upd_self _ _ _) rfl rfl rfl rfl
  · rw [h2]
    exact (GhV.nilAt (f := fun p => mk p _) fun n hle hp hr => hmk.rep hle hp (fun u hu => Rep.mono hle _ _ hu) hr).trans (GhV.nilAt (st := { st with H := upd st.H st.nx (some []), nx := st.nx + 1 }) (f := fun p => mk _ p) fun n hle hp hr => hmk.rep hle (fun u hu => Rep.mono hle _ _ hu) hp hr)
  · show upd (upd st.H st.nx (some [])) (st.nx + 1) (some []) st.nx = _
    rw [upd_ne _ _ (by omega)]; exact upd_self _ _ _


theorem rep_tup {E E' : En} {l l' : List PV} {v : Value} (h : ∀ vs, RepL E l vs → RepL E' l' vs) (hr : Rep E (.tup l) v) : Rep E' (.tup l') v := by
  simp only [Rep] at hr ⊢
  obtain ⟨vs, e, hr⟩ := hr
  exact ⟨vs, e, h vs hr⟩
theorem repL_cons {E E' : En} {p p' : PV} {l l' : List PV} (h : ∀ u, Rep E p u → Rep E' p' u) (hl : ∀ vs, RepL E l vs → RepL E' l' vs) : ∀ vs, RepL E (p :: l) vs → RepL E' (p' :: l') vs := by
  intro vs hr
  cases vs with
  | nil => simp [RepL] at hr
  | cons v vs => simp only [RepL] at hr ⊢; exact ⟨h v hr.1, hl vs hr.2⟩
theorem repL_nil {E E' : En} : ∀ vs, RepL E [] vs → RepL E' [] vs := fun vs hr => by
  cases vs with
  | nil => trivial
  | cons _ _ => simp [RepL] at hr

theorem mk_ll : Mk2 (fun p q => .tup [p, q]) :=
  ⟨fun k p q => by simp [shift, shiftL], fun p q h h' => by simp [closed, closedL, h, h'], fun p q h h' => by simp [flat, flatL, h, h'], ⟨1, fun D H p q p' q' h h' => by simp only [frz_tup, frz_agg, frz_val, List.mapM_cons, List.mapM_nil, h, h']; rfl⟩, fun {E E' p q p' q' v} hle h h' hr => rep_tup (repL_cons h (repL_cons h' repL_nil)) hr⟩

theorem mk_llv (b : Value) : Mk2 (fun p q => .tup [p, q, .val b]) :=
  ⟨fun k p q => by simp [shift, shiftL], fun p q h h' => by simp [closed, closedL, h, h'], fun p q h h' => by simp [flat, flatL, h, h'], ⟨1, fun D H p q p' q' h h' => by simp only [frz_tup, frz_agg, frz_val, List.mapM_cons, List.mapM_nil, h, h']; rfl⟩, fun {E E' p q p' q' v} hle h h' hr => rep_tup (repL_cons h (repL_cons h' (repL_cons (fun u hu => Rep.mono hle _ _ hu) repL_nil))) hr⟩

end Go.Proofs.Ytfjdfnlkobeehaa
end

section
set_option maxRecDepth 100000
set_option linter.unusedVariables false
set_option linter.unusedSimpArgs false
namespace Go.Proofs.Ytfjdfnlkobeehaa


structure Ok (xs : List Nat) : Prop where
  lm : Lm xs
  len : xs.length ≤ 1099511627776

theorem Ok.short {xs : List Nat} (h : Ok xs) : Ok (D (V xs)) := ⟨Lm_D _, Nat.le_trans (D_len_V h.lm) h.len⟩
theorem Ok.D {n k : Nat} (h : n < 4294967296 ^ k) (hk : k ≤ 1099511627776) : Ok (D n) := ⟨Lm_D _, Nat.le_trans (D_len_le.2 h) hk⟩

theorem short_calls {xs : List Nat} (h : Ok xs) : PT Try.prog 88 [SU xs] (isV (SU (D (V xs)))) := by
  have hlen := h.len

  refine PCalls.enter (n := 21) (rs := [.tmp 2]) (tb := []) Try.func88 rfl rfl rfl (by kernel_rfl) (by kernel_rfl) (by simp) fun c hc ht => ?_
  simp -implicitDefEqProofs (disch := omega) only [go_sem, ht, eq_self]
  refine LW.loopW hc ht (by kernel_rfl) (fun s => s.sl 0 = .sl xs.length (xs.map U) ∧ ∃ k : Nat, k ≤ xs.length ∧ s.sl 3 = .val (.int .i64 k) ∧ ∀ i, k ≤ i → i < xs.length → xs.getD i 0 = 0)
    (fun s => match s.sl 3 with | .val (.int _ k) => k.toNat | _ => 0) ?_ ?_
  · simp -implicitDefEqProofs (disch := omega) only [go_sem, ht, eq_self]
    exact ⟨_, Nat.le_refl _, rfl, fun i h h' => by omega⟩
  · rintro s ⟨h0, k, hk, h3, hz⟩
    by_cases hk0 : k = 0
    · subst hk0
      have e := D_take h.lm hk hz (.inl rfl)
      simp -implicitDefEqProofs (disch := omega) only [go_sem, ht, h0, h3, eq_self]
      refine end_treeW 0 ?_
      simp -implicitDefEqProofs (disch := omega) only [go_sem, ht, eq_self]
      rw [← e]; simp [SU]
    · simp -implicitDefEqProofs (disch := omega) only [go_sem, ht, h0, h3, eq_self]
      have e1 : ((k : Int) - 1).toNat = k - 1 := by omega
      refine ⟨fun h => ⟨⟨k - 1, by omega, rfl, fun i h1 h2 => ?_⟩, by omega⟩, fun hn => ?_⟩
      · by_cases hi : i = k - 1
        · subst hi; omega
        · exact hz i (by omega) h2
      · have e := D_take h.lm hk hz (.inr (by omega))
        refine end_treeW 0 ?_
        simp -implicitDefEqProofs (disch := omega) only [go_sem, ht, eq_self]
        rw [← e]; simp [SU, Nat.min_eq_left hk]

theorem same_calls {xs ys : List Nat} (hx : Ok xs) (hy : Ok ys) : PT Try.prog 75 [SU xs, SU ys] (isV (.val (.bool (decide (xs = ys))))) := by
  have := hx.len
  have := hy.len

  refine PCalls.enter (n := 26) (rs := [.tmp 4]) (tb := [(6, [(0, []), (1, []), (2, []), (3, []), (4, []), (5, []), (6, []), (7, []), (8, [])])]) Try.func75 rfl rfl rfl (by kernel_rfl) (by kernel_rfl) (by simp) fun c hc ht => ?_
  simp -implicitDefEqProofs (disch := omega) only [go_sem, ht, eq_self]
  refine ⟨fun hne => ?_, fun he => ?_⟩
  · have : xs ≠ ys := fun e => hne (by rw [e])
    (refine end_treeW 0 ?_; simp -implicitDefEqProofs (disch := omega) only [go_sem, ht, eq_self])
    simp [this]
  have he : xs.length = ys.length := by omega
  refine LW.loopW hc ht (by kernel_rfl) (fun s => s.sl 0 = .sl xs.length (xs.map U) ∧ s.sl 1 = .sl ys.length (ys.map U) ∧ ∃ k : Nat, k ≤ xs.length ∧ s.sl 5 = .val (.int .i64 k) ∧ ∀ i, i < k → xs.getD i 0 = ys.getD i 0)
    (fun s => match s.sl 5 with | .val (.int _ k) => xs.length - k.toNat | _ => 0) ?_ ?_
  · simp -implicitDefEqProofs (disch := omega) only [go_sem, ht, eq_self]
    exact ⟨0, Nat.zero_le _, rfl, fun i h => by omega⟩
  · rintro s ⟨h0, h1, k, hk, h5, hs⟩
    by_cases hkl : k = xs.length
    · have := list_ext0 he (fun i hi => hs i (by omega))
      simp -implicitDefEqProofs (disch := omega) only [go_sem, ht, h0, h1, h5, eq_self]
      (refine end_treeW 0 ?_; simp -implicitDefEqProofs (disch := omega) only [go_sem, ht, eq_self])
      simp [this]
    · simp -implicitDefEqProofs (disch := omega) only [go_sem, ht, h0, h1, h5, eq_self]
      refine ⟨fun hn => ?_, fun hn => ⟨⟨k + 1, by omega, rfl, fun i hi => ?_⟩, by omega⟩⟩
      · have : xs ≠ ys := fun e => hn (by rw [e])
        (refine end_treeW 0 ?_; simp -implicitDefEqProofs (disch := omega) only [go_sem, ht, eq_self])
        simp [this]
      · by_cases hi' : i = k
        · subst hi'; omega
        · exact hs i (by omega)

theorem cmp_calls {xs ys : List Nat} (hx : Ok xs) (hy : Ok ys) : PT Try.prog 89 [SU xs, SU ys] (isV (.val (.int .i64 (cmpI (V xs) (V ys))))) := by
  have hx' := hx.short
  have hy' := hy.short
  have := hx'.len
  have := hy'.len
  have hdx := V_D (V xs)
  have hdy := V_D (V ys)
  refine PCalls.enter (n := 45) (rs := [.tmp 4]) (tb := [(9, [(0, []), (1, []), (2, []), (3, []), (4, []), (5, []), (6, []), (7, []), (8, [])]), (11, [(0, []), (1, []), (2, []), (3, []), (4, []), (5, []), (6, []), (7, []), (8, [])])]) Try.func89 rfl rfl rfl (by kernel_rfl) (by kernel_rfl) (by simp) fun c hc ht => ?_
  simp -implicitDefEqProofs (disch := omega) only [go_sem, ht, eq_self]
  (refine pCall_view (by simp -implicitDefEqProofs (disch := omega) only [go_sem, ht, eq_self] <;> rfl) (by simp -implicitDefEqProofs (disch := omega) only [go_sem, ht, eq_self]) (by first | (apply Or.inl; simp -implicitDefEqProofs (disch := omega) only [go_sem, ht, eq_self]; done) | (apply Or.inr; rintro r rfl; rfl)) (short_calls hx) ?_; rintro _ nx - rfl hnx; (try simp only [put_nx, withH_nx, begP_nx] at hnx); simp -implicitDefEqProofs (disch := omega) only [go_sem, ht, eq_self])
  (refine pCall_view (by simp -implicitDefEqProofs (disch := omega) only [go_sem, ht, eq_self] <;> rfl) (by simp -implicitDefEqProofs (disch := omega) only [go_sem, ht, eq_self]) (by first | (apply Or.inl; simp -implicitDefEqProofs (disch := omega) only [go_sem, ht, eq_self]; done) | (apply Or.inr; rintro r rfl; rfl)) (short_calls hy) ?_; rintro _ nx - rfl hnx; (try simp only [put_nx, withH_nx, begP_nx] at hnx); simp -implicitDefEqProofs (disch := omega) only [go_sem, ht, eq_self])
  generalize V xs = a at *
  generalize V ys = b at *
  refine ⟨fun hne => ⟨fun hlt => ?_, fun hge => ?_⟩, fun he => ?_⟩
  · have := cmpI_lt (D_lt_of_len (a := a) (b := b) (by omega))
    (refine end_treeW 0 ?_; simp -implicitDefEqProofs (disch := omega) only [go_sem, ht, eq_self])
    rw [this]
  · have := cmpI_gt (D_lt_of_len (a := b) (b := a) (by omega))
    (refine end_treeW 0 ?_; simp -implicitDefEqProofs (disch := omega) only [go_sem, ht, eq_self])
    rw [this]
  have he : (D a).length = (D b).length := by omega
  refine LW.loopW hc ht (by kernel_rfl) (fun s => s.sl 0 = .sl (D a).length ((D a).map U) ∧ s.sl 1 = .sl (D b).length ((D b).map U) ∧ ∃ k : Nat, k ≤ (D a).length ∧ s.sl 5 = .val (.int .i64 ((k : Int) - 1)) ∧ V ((D a).drop k) = V ((D b).drop k))
    (fun s => match s.sl 5 with | .val (.int _ k) => (k + 1).toNat | _ => 0) ?_ ?_
  · simp -implicitDefEqProofs (disch := omega) only [go_sem, ht, eq_self]
    exact ⟨(D a).length, Nat.le_refl _, rfl, by rw [List.drop_length, he, List.drop_length]⟩
  · rintro s ⟨h0, h1, k, hk, h5, hs⟩
    by_cases hk0 : k = 0
    · subst hk0
      have hab : a = b := by simpa [hdx, hdy] using hs
      simp -implicitDefEqProofs (disch := omega) only [go_sem, ht, h0, h1, h5, eq_self]
      have := cmpI_eq hab
      (refine end_treeW 0 ?_; simp -implicitDefEqProofs (disch := omega) only [go_sem, ht, eq_self])
      rw [this]
    · have e1 : ((k : Int) - 1).toNat = k - 1 := by omega
      have e2 : k - 1 + 1 = k := by omega
      simp -implicitDefEqProofs (disch := omega) only [go_sem, ht, h0, h1, h5, e1, eq_self]
      refine ⟨fun hlt => ?_, fun hge => ⟨fun hgt => ?_, fun hle => ⟨⟨k - 1, by omega, by congr 2, ?_⟩, by omega⟩⟩⟩
      · have := cmpI_lt (show a < b by
          rw [← hdx, ← hdy]
          exact V_lt_of_top hx'.lm he (i := k - 1) (by omega) (by rw [e2]; exact hs) (by omega))
        (refine end_treeW 0 ?_; simp -implicitDefEqProofs (disch := omega) only [go_sem, ht, eq_self])
        rw [this]
      · have := cmpI_gt (show b < a by
          rw [← hdx, ← hdy]
          exact V_lt_of_top hy'.lm he.symm (i := k - 1) (by omega) (by rw [e2]; exact hs.symm) (by omega))
        (refine end_treeW 0 ?_; simp -implicitDefEqProofs (disch := omega) only [go_sem, ht, eq_self])
        rw [this]
      · rw [V_drop _ (by omega), V_drop (D b) (by omega), e2, hs]
        omega
end Go.Proofs.Ytfjdfnlkobeehaa

namespace Go.Proofs.Ytfjdfnlkobeehaa


abbrev PL (f : FuncId) (args : List PV) (xs : List Nat) : Prop := PO1 Try.prog f args (fun p => p) (xs.map U)

theorem PLtree {f : FuncId} {args : List PV} {xs : List Nat} (h : PL f args xs) : PT Try.prog f args (isV (SU xs)) := by
  have := PO1.tree mk_id (flatL_U xs) h
  simpa [SU_def] using this

theorem trim_calls {xs : List Nat} (h : Ok xs) : PL 77 [SU xs] (D (V xs)) := by
  have := h.short.len
  refine PCalls.enter (n := 6) (rs := [.tmp 2]) (tb := []) Try.func77 rfl rfl rfl (by kernel_rfl) (by kernel_rfl) (by simp) fun c hc ht => ?_
  simp -implicitDefEqProofs (disch := omega) only [go_sem, ht, eq_self]
  (refine pCall_view (by simp -implicitDefEqProofs (disch := omega) only [go_sem, ht, eq_self] <;> rfl) (by simp -implicitDefEqProofs (disch := omega) only [go_sem, ht, eq_self]) (by first | (apply Or.inl; simp -implicitDefEqProofs (disch := omega) only [go_sem, ht, eq_self]; done) | (apply Or.inr; rintro r rfl; rfl)) (short_calls h) ?_; rintro _ nx - rfl hnx; (try simp only [put_nx, withH_nx, begP_nx] at hnx); simp -implicitDefEqProofs (disch := omega) only [go_sem, ht, eq_self])
  refine append_nil (e := 93) (b := 4) (m := (D (V xs)).length) (z := .int .u32 0) (ys := (D (V xs)).map U) T28_elem rfl T93_size T93_bytes T93_zero (by simp -implicitDefEqProofs (disch := omega) only [go_sem, ht, srcP_sl, eq_self]) (by simp -implicitDefEqProofs (disch := omega) only [go_sem, ht, eq_self]) (by omega) (fun h0 => ?_) fun cap' rest' h1 h2 => ?_
  · have := D_len_zero.1 h0
    rw [this, D_zero]
    simp -implicitDefEqProofs (disch := omega) only [go_sem, ht, eq_self]
    exact end_own_nil mk_id (by simp -implicitDefEqProofs (disch := omega) only [go_sem, ht, eq_self])
  · simp -implicitDefEqProofs (disch := omega) only [go_sem, ht, eq_self]
    exact end_own1 (mk := fun p => p) (by simp -implicitDefEqProofs (disch := omega) only [go_sem, ht, eq_self] <;> rfl) (by simp -implicitDefEqProofs (disch := omega) only [go_sem, ht, eq_self] <;> rfl) (by simp <;> omega) (by simp <;> omega)

theorem add_calls {xs ys : List Nat} (hx : Ok xs) (hy : Ok ys) : PL 50 [SU xs, SU ys] (D (V xs + V ys)) := by
  have hx' := hx.short
  have hy' := hy.short
  have hdx := V_D (V xs)
  have hdy := V_D (V ys)
  have hcx : D (V (D (V xs))) = D (V xs) := by rw [V_D]
  have hcy : D (V (D (V ys))) = D (V ys) := by rw [V_D]
  have := hx.short.len
  have := hy.short.len
  refine PCalls.enter (n := 62) (rs := [.tmp 4]) (tb := []) Try.func50 rfl rfl rfl (by kernel_rfl) (by kernel_rfl) (by simp) fun c hc ht => ?_
  simp -implicitDefEqProofs (disch := omega) only [go_sem, ht, eq_self]
  (refine pCall_view (by simp -implicitDefEqProofs (disch := omega) only [go_sem, ht, eq_self] <;> rfl) (by simp -implicitDefEqProofs (disch := omega) only [go_sem, ht, eq_self]) (by first | (apply Or.inl; simp -implicitDefEqProofs (disch := omega) only [go_sem, ht, eq_self]; done) | (apply Or.inr; rintro r rfl; rfl)) (short_calls hx) ?_; rintro _ nx - rfl hnx; (try simp only [put_nx, withH_nx, begP_nx] at hnx); simp -implicitDefEqProofs (disch := omega) only [go_sem, ht, eq_self])
  (refine pCall_view (by simp -implicitDefEqProofs (disch := omega) only [go_sem, ht, eq_self] <;> rfl) (by simp -implicitDefEqProofs (disch := omega) only [go_sem, ht, eq_self]) (by first | (apply Or.inl; simp -implicitDefEqProofs (disch := omega) only [go_sem, ht, eq_self]; done) | (apply Or.inr; rintro r rfl; rfl)) (short_calls hy) ?_; rintro _ nx - rfl hnx; (try simp only [put_nx, withH_nx, begP_nx] at hnx); simp -implicitDefEqProofs (disch := omega) only [go_sem, ht, eq_self])
  generalize D (V xs) = ds at *
  generalize D (V ys) = es at *
  refine LW.both (fun s => ∃ us vs id rest, Ok us ∧ Ok vs ∧ D (V us) = us ∧ V us + V vs = V xs + V ys ∧ vs.length ≤ us.length ∧ s.sl 0 = .sl us.length (us.map U) ∧ s.sl 1 = .sl vs.length (vs.map U) ∧ s.sl 24 = .val (.int .i64 us.length) ∧ s.sl 25 = .val (.int .i64 0) ∧
    s.sl 6 = .val (.int .u64 0) ∧ s.sl 5 = .ref id 0 0 (us.length + 1) 1 ∧ s.H id = some (List.map .val rest) ∧ rest.length = us.length + 1 ∧ id < s.nx) (fun h => ?_) (fun h => ?_) ?_
  · refine ⟨es, ds, nx, List.replicate (es.length + 1) (.int .u32 0), hy', hx', hcy, by omega, by omega, ?_⟩
    simp -implicitDefEqProofs (disch := omega) only [go_sem, ht, replU_val, eq_self]
    simp
  · refine ⟨ds, es, nx, List.replicate (ds.length + 1) (.int .u32 0), hx', hy', hcx, by omega, by omega, ?_⟩
    simp -implicitDefEqProofs (disch := omega) only [go_sem, ht, replU_val, eq_self]
    simp
  · clear hx hy hx' hy' hcx hcy hdx hdy
    rintro s ⟨us, vs, id, rest, hu, hv, hcu, hsum, hle, h0, h1, h24, h25, h6, h5, hH, hr, hid⟩
    have := hu.len
    have := hv.len
    refine LW.loopW hc ht (by kernel_rfl) (fun s => s.sl 0 = .sl us.length (us.map U) ∧ s.sl 1 = .sl vs.length (vs.map U) ∧ s.sl 24 = .val (.int .i64 us.length) ∧ ∃ k : Nat, k ≤ us.length ∧ s.sl 25 = .val (.int .i64 k) ∧
      ∃ carry : Nat, carry ≤ 1 ∧ s.sl 6 = .val (.int .u64 carry) ∧ ∃ zs id cap rest, zs.length = k ∧ s.sl 5 = .ref id 0 k cap 1 ∧ s.H id = some (zs.map U ++ List.map PV.val rest) ∧ k + rest.length = cap ∧ id < s.nx ∧
      Lm zs ∧ V zs + 4294967296 ^ k * carry = V (us.take k) + V (vs.take k))
      (fun s => match s.sl 25 with | .val (.int _ k) => us.length - k.toNat | _ => 0) ?_ ?_
    · exact ⟨h0, h1, h24, 0, Nat.zero_le _, h25, 0, by omega, h6, [], id, _, rest, rfl, h5, by simpa using hH, by omega, hid, Lm_nil, by simp [V]⟩
    · clear h0 h1 h24 h25 h6 h5 hH hr hid
      rintro s ⟨h0, h1, h24, k, hk, h25, carry, hcar, h6, zs, id, cap, rest, hzl, h5, hH, hcap, hid, hzm, heq⟩
      by_cases hkl : k = us.length
      · rw [hkl, List.take_length, List.take_of_length_le hle, hsum] at heq
        simp -implicitDefEqProofs (disch := omega) only [go_sem, ht, h0, h1, h24, h25, h6, h5, hH, eq_self]
        refine ⟨fun hpos => ?_, fun hz => ?_⟩
        · (refine append_own (by simp -implicitDefEqProofs (disch := omega) only [srcP_ref, srcP_sl, srcP_nil, Option.isSome_some, hH, go_sem, ht, eq_self] <;> rfl) (by simp -implicitDefEqProofs (disch := omega) only [srcP_ref, srcP_sl, srcP_nil, Option.isSome_some, hH, go_sem, ht, eq_self] <;> rfl) (by simp -implicitDefEqProofs (disch := omega) only [srcP_ref, srcP_sl, srcP_nil, Option.isSome_some, hH, go_sem, ht, eq_self] <;> rfl) (by simp -implicitDefEqProofs (disch := omega) only [srcP_ref, srcP_sl, srcP_nil, Option.isSome_some, hH, go_sem, ht, eq_self] <;> rfl) (by simp -implicitDefEqProofs (disch := omega) only [srcP_ref, srcP_sl, srcP_nil, Option.isSome_some, hH, go_sem, ht, eq_self] <;> rfl) (by simp -implicitDefEqProofs (disch := omega) only [srcP_ref, srcP_sl, srcP_nil, Option.isSome_some, hH, go_sem, ht, eq_self] <;> rfl) (by simp -implicitDefEqProofs (disch := omega) only [srcP_ref, srcP_sl, srcP_nil, Option.isSome_some, hH, go_sem, ht, eq_self] <;> rfl) (by simp -implicitDefEqProofs (disch := omega) only [srcP_ref, srcP_sl, srcP_nil, Option.isSome_some, hH, go_sem, ht, eq_self] <;> rfl) (by simp <;> omega) (by first | assumption | (simp <;> omega)) (by first | rfl | simp) (by first | omega | (simp <;> omega)) ?_; intro id1 cap1 rest1 H1 nx1 hH1 hcap1 hid1 hnx1 hfr1 hfs1; simp only [put_nx, withH_nx, put_H, withH_H] at hid1 hnx1 hfr1 hfs1; (try simp only [app_U, ← List.map_append] at hH1))
          simp -implicitDefEqProofs (disch := omega) only [go_sem, ht, h5, eq_self]
          have hlm : Lm (zs ++ [carry]) := Lm_append.2 ⟨hzm, Lm_cons.2 ⟨by omega, Lm_nil⟩⟩
          have e : D (V xs + V ys) = zs ++ [carry] := by
            have : V (zs ++ [carry]) = V xs + V ys := by rw [V_append, hzl, hkl]; simpa [V] using heq
            rw [← this]
            exact D_V hlm (.inr (by simp; omega))
          rw [e]
          exact end_own1  (by simp -implicitDefEqProofs (disch := omega) only [hH1, go_sem, ht, eq_self] <;> rfl) (by simp -implicitDefEqProofs (disch := omega) only [hH1, go_sem, ht, eq_self] <;> rfl) (by simp <;> omega) (by simp <;> omega)
        · have hc0 : carry = 0 := by omega
          subst hc0
          have e : D (V xs + V ys) = zs := by
            rw [← heq, Nat.mul_zero, Nat.add_zero]
            refine D_of_len hzm ?_
            rw [hzl, hkl]
            have := D_len_mono (show V us ≤ V zs by omega)
            rwa [hcu] at this
          rw [e]
          exact end_own1  (by simp -implicitDefEqProofs (disch := omega) only [hH, go_sem, ht, eq_self] <;> rfl) (by simp -implicitDefEqProofs (disch := omega) only [hH, go_sem, ht, eq_self] <;> rfl) (by simp <;> omega) (by simp <;> omega)
      · have hk' : k < us.length := by omega
        have hug := hu.lm.get k
        have hvg := hv.lm.get k
        have hV := V_take_succ us hk'
        have key : ∀ y t : Nat, y < 4294967296 → V (vs.take (k + 1)) = V (vs.take k) + 4294967296 ^ k * y → t = carry + us.getD k 0 + y →
            V (zs ++ [t % 4294967296]) + 4294967296 ^ (k + 1) * (t / 4294967296) = V (us.take (k + 1)) + V (vs.take (k + 1)) := by
          intro y t hy hV2 ht
          rw [V_append, hzl, hV, hV2, Nat.pow_succ, Nat.mul_assoc, Nat.add_assoc, ← Nat.mul_add]
          have : V [t % 4294967296] + 4294967296 * (t / 4294967296) = carry + us.getD k 0 + y := by simp only [V]; omega
          rw [this, Nat.mul_add, Nat.mul_add]; omega
        by_cases hkv : k < vs.length
        · have hV2 := V_take_succ vs hkv
          simp -implicitDefEqProofs (disch := omega) only [go_sem, ht, h0, h1, h24, h25, h6, h5, hH, eq_self]
          (refine append_own (by simp -implicitDefEqProofs (disch := omega) only [srcP_ref, srcP_sl, srcP_nil, Option.isSome_some, hH, go_sem, ht, eq_self] <;> rfl) (by simp -implicitDefEqProofs (disch := omega) only [srcP_ref, srcP_sl, srcP_nil, Option.isSome_some, hH, go_sem, ht, eq_self] <;> rfl) (by simp -implicitDefEqProofs (disch := omega) only [srcP_ref, srcP_sl, srcP_nil, Option.isSome_some, hH, go_sem, ht, eq_self] <;> rfl) (by simp -implicitDefEqProofs (disch := omega) only [srcP_ref, srcP_sl, srcP_nil, Option.isSome_some, hH, go_sem, ht, eq_self] <;> rfl) (by simp -implicitDefEqProofs (disch := omega) only [srcP_ref, srcP_sl, srcP_nil, Option.isSome_some, hH, go_sem, ht, eq_self] <;> rfl) (by simp -implicitDefEqProofs (disch := omega) only [srcP_ref, srcP_sl, srcP_nil, Option.isSome_some, hH, go_sem, ht, eq_self] <;> rfl) (by simp -implicitDefEqProofs (disch := omega) only [srcP_ref, srcP_sl, srcP_nil, Option.isSome_some, hH, go_sem, ht, eq_self] <;> rfl) (by simp -implicitDefEqProofs (disch := omega) only [srcP_ref, srcP_sl, srcP_nil, Option.isSome_some, hH, go_sem, ht, eq_self] <;> rfl) (by simp <;> omega) (by first | assumption | (simp <;> omega)) (by first | rfl | simp) (by first | omega | (simp <;> omega)) ?_; intro id1 cap1 rest1 H1 nx1 hH1 hcap1 hid1 hnx1 hfr1 hfs1; simp only [put_nx, withH_nx, put_H, withH_H] at hid1 hnx1 hfr1 hfs1; (try simp only [app_U, ← List.map_append] at hH1))
          simp -implicitDefEqProofs (disch := omega) only [go_sem, ht, h0, h1, h24, h25, h6, h5, hH, eq_self]
          exact ⟨⟨k + 1, by omega, rfl, _, by omega, rfl, zs ++ [(carry + us.getD k 0 + vs.getD k 0) % 4294967296], id1, cap1, rest1, by simp [hzl], rfl, hH1, hcap1, by omega, Lm_append.2 ⟨hzm, fun x hx => by simp at hx; omega⟩, key _ _ hvg hV2 rfl⟩, by omega⟩
        · have hV2 : V (vs.take (k + 1)) = V (vs.take k) + 4294967296 ^ k * 0 := by
            rw [List.take_of_length_le (by omega), List.take_of_length_le (by omega)]; simp
          simp -implicitDefEqProofs (disch := omega) only [go_sem, ht, h0, h1, h24, h25, h6, h5, hH, eq_self]
          (refine append_own (by simp -implicitDefEqProofs (disch := omega) only [srcP_ref, srcP_sl, srcP_nil, Option.isSome_some, hH, go_sem, ht, eq_self] <;> rfl) (by simp -implicitDefEqProofs (disch := omega) only [srcP_ref, srcP_sl, srcP_nil, Option.isSome_some, hH, go_sem, ht, eq_self] <;> rfl) (by simp -implicitDefEqProofs (disch := omega) only [srcP_ref, srcP_sl, srcP_nil, Option.isSome_some, hH, go_sem, ht, eq_self] <;> rfl) (by simp -implicitDefEqProofs (disch := omega) only [srcP_ref, srcP_sl, srcP_nil, Option.isSome_some, hH, go_sem, ht, eq_self] <;> rfl) (by simp -implicitDefEqProofs (disch := omega) only [srcP_ref, srcP_sl, srcP_nil, Option.isSome_some, hH, go_sem, ht, eq_self] <;> rfl) (by simp -implicitDefEqProofs (disch := omega) only [srcP_ref, srcP_sl, srcP_nil, Option.isSome_some, hH, go_sem, ht, eq_self] <;> rfl) (by simp -implicitDefEqProofs (disch := omega) only [srcP_ref, srcP_sl, srcP_nil, Option.isSome_some, hH, go_sem, ht, eq_self] <;> rfl) (by simp -implicitDefEqProofs (disch := omega) only [srcP_ref, srcP_sl, srcP_nil, Option.isSome_some, hH, go_sem, ht, eq_self] <;> rfl) (by simp <;> omega) (by first | assumption | (simp <;> omega)) (by first | rfl | simp) (by first | omega | (simp <;> omega)) ?_; intro id1 cap1 rest1 H1 nx1 hH1 hcap1 hid1 hnx1 hfr1 hfs1; simp only [put_nx, withH_nx, put_H, withH_H] at hid1 hnx1 hfr1 hfs1; (try simp only [app_U, ← List.map_append] at hH1))
          simp -implicitDefEqProofs (disch := omega) only [go_sem, ht, h0, h1, h24, h25, h6, h5, hH, eq_self]
          exact ⟨⟨k + 1, by omega, rfl, _, by omega, rfl, zs ++ [(carry + us.getD k 0) % 4294967296], id1, cap1, rest1, by simp [hzl], rfl, hH1, hcap1, by omega, Lm_append.2 ⟨hzm, fun x hx => by simp at hx; omega⟩, key 0 _ (by omega) hV2 rfl⟩, by omega⟩
end Go.Proofs.Ytfjdfnlkobeehaa

namespace Go.Proofs.Ytfjdfnlkobeehaa

theorem short_own {H : Nat → Option (List PV)} {nx id n cap : Nat} {xs : List Nat} {rest : List Value} (hlm : Lm xs) (hn : xs.length = n) (hlen : n ≤ 2199023255552) (hcap : n ≤ cap) (hH : H id = some (xs.map U ++ rest.map .val)) :
    PCalls Try.prog 88 [.ref id 0 n cap 1] H nx (memQ (.ref id 0 (D (V xs)).length cap 1) H nx) := by
  refine PCalls.enter (n := 21) (rs := [.tmp 2]) (tb := []) Try.func88 rfl rfl rfl (by kernel_rfl) (by kernel_rfl) (by simp) fun c hc ht => ?_
  simp -implicitDefEqProofs (disch := omega) only [go_sem, ht, eq_self]
  refine LW.loopW hc ht (by kernel_rfl) (fun s => s.H = H ∧ s.nx = nx ∧ s.sl 0 = .ref id 0 n cap 1 ∧ ∃ k : Nat, k ≤ n ∧ s.sl 3 = .val (.int .i64 k) ∧ ∀ i, k ≤ i → i < xs.length → xs.getD i 0 = 0)
    (fun s => match s.sl 3 with | .val (.int _ k) => k.toNat | _ => 0) ?_ ?_
  · simp -implicitDefEqProofs (disch := omega) only [go_sem, ht, eq_self]
    exact ⟨_, Nat.le_refl _, rfl, fun i h h' => by omega⟩
  · rintro s ⟨eH, en, h0, k, hk, h3, hz⟩
    by_cases hk0 : k = 0
    · subst hk0
      have e := D_take hlm (Nat.zero_le _) hz (.inl rfl)
      simp -implicitDefEqProofs (disch := omega) only [go_sem, ht, h0, h3, eq_self]
      (refine end_plain (by simp -implicitDefEqProofs (disch := omega) only [eH, en, go_sem, ht, eq_self] <;> rfl) ?_; simp only [tupP_1, tupP_2]; refine ⟨?_, ?_, ?_⟩ <;> try simp -implicitDefEqProofs (disch := omega) only [eH, en, go_sem, ht, eq_self])
      rw [← e]; simp
    · simp -implicitDefEqProofs (disch := omega) only [go_sem, ht, h0, h3, eH, en, hH, eq_self]
      refine ⟨fun h => ⟨⟨k - 1, by omega, rfl, fun i h1 h2 => ?_⟩, by omega⟩, fun hn' => ?_⟩
      · by_cases hi : i = k - 1
        · subst hi; omega
        · exact hz i (by omega) h2
      · have e := D_take hlm (by omega : k ≤ xs.length) hz (.inr (by omega))
        (refine end_plain (by simp -implicitDefEqProofs (disch := omega) only [eH, en, go_sem, ht, eq_self] <;> rfl) ?_; simp only [tupP_1, tupP_2]; refine ⟨?_, ?_, ?_⟩ <;> try simp -implicitDefEqProofs (disch := omega) only [eH, en, go_sem, ht, eq_self])
        rw [← e]; simp; omega

theorem sub_calls {xs ys : List Nat} (hx : Ok xs) (hy : Ok ys) : PO1 Try.prog 51 [SU xs, SU ys] (fun p => .tup [p, .val (.bool (decide (V ys ≤ V xs)))]) ((D (V xs - V ys)).map U) := by
  have hx' := hx.short
  have hy' := hy.short
  have hdx := V_D (V xs)
  have hdy := V_D (V ys)
  have := hx.short.len
  have := hy.short.len
  refine PCalls.enter (n := 54) (rs := [.tmp 4, .tmp 5]) (tb := []) Try.func51 rfl rfl rfl (by kernel_rfl) (by kernel_rfl) (by simp) fun c hc ht => ?_
  simp -implicitDefEqProofs (disch := omega) only [go_sem, ht, eq_self]
  (refine pCall_view (by simp -implicitDefEqProofs (disch := omega) only [go_sem, ht, eq_self] <;> rfl) (by simp -implicitDefEqProofs (disch := omega) only [go_sem, ht, eq_self]) (by first | (apply Or.inl; simp -implicitDefEqProofs (disch := omega) only [go_sem, ht, eq_self]; done) | (apply Or.inr; rintro r rfl; rfl)) (short_calls hx) ?_; rintro _ nx - rfl hnx; (try simp only [put_nx, withH_nx, begP_nx] at hnx); simp -implicitDefEqProofs (disch := omega) only [go_sem, ht, eq_self])
  (refine pCall_view (by simp -implicitDefEqProofs (disch := omega) only [go_sem, ht, eq_self] <;> rfl) (by simp -implicitDefEqProofs (disch := omega) only [go_sem, ht, eq_self]) (by first | (apply Or.inl; simp -implicitDefEqProofs (disch := omega) only [go_sem, ht, eq_self]; done) | (apply Or.inr; rintro r rfl; rfl)) (short_calls hy) ?_; rintro _ nx - rfl hnx; (try simp only [put_nx, withH_nx, begP_nx] at hnx); simp -implicitDefEqProofs (disch := omega) only [go_sem, ht, eq_self])
  (refine pCall_view (by simp -implicitDefEqProofs (disch := omega) only [go_sem, ht, eq_self] <;> rfl) (by simp -implicitDefEqProofs (disch := omega) only [go_sem, ht, eq_self]) (by first | (apply Or.inl; simp -implicitDefEqProofs (disch := omega) only [go_sem, ht, eq_self]; done) | (apply Or.inr; rintro r rfl; rfl)) (cmp_calls hx' hy') ?_; rintro _ nx - rfl hnx; (try simp only [put_nx, withH_nx, begP_nx] at hnx); simp -implicitDefEqProofs (disch := omega) only [go_sem, ht, eq_self])
  rw [hdx, hdy]
  refine ⟨fun hlt => ?_, fun hge => ?_⟩
  · have hlt : V xs < V ys := by
      unfold cmpI at hlt; split at hlt
      · assumption
      · split at hlt <;> simp at hlt
    have e1 : decide (V ys ≤ V xs) = false := by simp; omega
    have e2 : D (V xs - V ys) = [] := by rw [show V xs - V ys = 0 by omega, D_zero]
    rw [e1, e2]
    exact end_own_nil (mk_b _) (by simp -implicitDefEqProofs (disch := omega) only [go_sem, ht, eq_self])
  · have hge : V ys ≤ V xs := by
      unfold cmpI at hge; split at hge
      · simp at hge
      · omega
    have e1 : decide (V ys ≤ V xs) = true := by simp; omega
    rw [e1]
    have hle := D_len_mono hge
    generalize D (V xs) = us at *
    generalize D (V ys) = vs at *
    rw [← hdx, ← hdy] at hge ⊢
    clear hx hy
    refine LW.loopW hc ht (by kernel_rfl) (fun s => s.sl 0 = .sl us.length (us.map U) ∧ s.sl 1 = .sl vs.length (vs.map U) ∧ s.sl 22 = .val (.int .i64 us.length) ∧ ∃ k : Nat, k ≤ us.length ∧ s.sl 23 = .val (.int .i64 k) ∧
      ∃ b : Nat, b ≤ 1 ∧ s.sl 7 = .val (.int .u64 b) ∧ ∃ zs id, zs.length = us.length ∧ s.sl 6 = .ref id 0 us.length us.length 1 ∧ s.H id = some (zs.map U) ∧ id < s.nx ∧
      Lm zs ∧ V (zs.take k) + V (vs.take k) = V (us.take k) + 4294967296 ^ k * b)
      (fun s => match s.sl 23 with | .val (.int _ k) => us.length - k.toNat | _ => 0) ?_ ?_
    · simp -implicitDefEqProofs (disch := omega) only [go_sem, ht, eq_self]
      exact ⟨0, Nat.zero_le _, rfl, 0, by omega, rfl, List.replicate us.length 0, nx, by simp, rfl, by rw [upd_self], by omega, Lm_repl _, by simp [V]⟩
    · rintro s ⟨h0, h1, h22, k, hk, h23, b, hb, h7, zs, id, hzl, h6, hH, hid, hzm, heq⟩
      by_cases hkl : k = us.length
      · simp -implicitDefEqProofs (disch := omega) only [go_sem, ht, h0, h1, h22, h23, h7, h6, hH, eq_self]
        (apply pCall_mem; exact (short_own (xs := zs) (rest := []) hzm hzl (by omega) (Nat.le_refl _) (by simp -implicitDefEqProofs (disch := omega) only [hH, List.map_nil, go_sem, ht, eq_self] <;> rfl)); rintro _ _ _ ⟨rfl, rfl, rfl⟩ -; simp -implicitDefEqProofs (disch := omega) only [hH, List.map_nil, go_sem, ht, eq_self])
        have e : D (V us - V vs) = D (V zs) := by
          rw [hkl, List.take_length, List.take_of_length_le hle, List.take_of_length_le (by omega)] at heq
          have h1 := V_lt hzm
          have h2 := V_lt hx'.lm
          rw [hzl] at h1
          have : b = 0 := by
            rcases Nat.lt_or_ge 0 b with hb' | hb'
            · have : b = 1 := by omega
              subst this; omega
            · omega
          subst this
          congr 1; omega
        rw [e]
        have := D_len_V hzm
        exact end_own1 (mk := fun p => .tup [p, .val (.bool true)]) (by simp -implicitDefEqProofs (disch := omega) only [hH, own_split' hzm, go_sem, ht, eq_self] <;> rfl) (by simp -implicitDefEqProofs (disch := omega) only [hH, own_split' hzm, go_sem, ht, eq_self] <;> rfl) (by simp <;> omega) (by simp <;> omega)
      · have hk' : k < us.length := by omega
        have hug := hx'.lm.get k
        have hvg := hy'.lm.get k
        have hV := V_take_succ us hk'
        have key : ∀ v z b' : Nat, V (vs.take (k + 1)) = V (vs.take k) + 4294967296 ^ k * v → z < 4294967296 → z + v + b = us.getD k 0 + 4294967296 * b' →
            V ((zs.set k z).take (k + 1)) + V (vs.take (k + 1)) = V (us.take (k + 1)) + 4294967296 ^ (k + 1) * b' := by
          intro v z b' hv hz hs
          rw [V_take_succ _ (by simp; omega), hv, hV, List.take_set_of_le (Nat.le_refl _), List.getD_eq_getElem?_getD, List.getElem?_set_self (by omega)]
          simp only [Option.getD_some, Nat.pow_succ]
          have : 4294967296 ^ k * (z + v + b) = 4294967296 ^ k * (us.getD k 0 + 4294967296 * b') := by rw [hs]
          simp only [Nat.mul_add, ← Nat.mul_assoc] at this
          omega
        have hset : ∀ z, z < 4294967296 → Lm (zs.set k z) := fun z hz x hx => by
          rcases List.mem_or_eq_of_mem_set hx with h | h
          · exact hzm x h
          · omega
        by_cases hkv : k < vs.length
        · have hV2 := V_take_succ vs hkv
          obtain ⟨z, b', hz, hb', e1, e2, e3⟩ := sub_step hug hvg hb
          simp -implicitDefEqProofs (disch := omega) only [go_sem, ht, h0, h1, h22, h23, h7, h6, hH, e1, e2, eq_self]
          exact ⟨⟨k + 1, by omega, rfl, b', hb', rfl, zs.set k z, id, by simp [hzl], rfl, upd_self _ _ _, hid, hset z hz, key _ z b' hV2 hz e3⟩, by omega⟩
        · have hV2 : V (vs.take (k + 1)) = V (vs.take k) + 4294967296 ^ k * 0 := by
            rw [List.take_of_length_le (by omega), List.take_of_length_le (by omega)]; simp
          obtain ⟨z, b', hz, hb', e1, e2, e3⟩ := sub_step hug (by omega : 0 < 4294967296) hb
          rw [show (((us.getD k 0 : Nat) : Int) - b) % 18446744073709551616 - ((0 : Nat) : Int) = (((us.getD k 0 : Nat) : Int) - b) % 18446744073709551616 by omega, Int.emod_emod] at e1 e2
          simp -implicitDefEqProofs (disch := omega) only [go_sem, ht, h0, h1, h22, h23, h7, h6, hH, e1, e2, eq_self]
          exact ⟨⟨k + 1, by omega, rfl, b', hb', rfl, zs.set k z, id, by simp [hzl], rfl, upd_self _ _ _, hid, hset z hz, key _ z b' hV2 hz e3⟩, by omega⟩
end Go.Proofs.Ytfjdfnlkobeehaa

namespace Go.Proofs.Ytfjdfnlkobeehaa

theorem len8_at : ∀ i : Fin 256, ((⟨List.toArray (List.append (List.append [0, 1, 2, 2, 3, 3, 3, 3, 4, 4, 4, 4, 4, 4, 4, 4, 5, 5, 5, 5, 5, 5, 5, 5, 5, 5, 5, 5, 5, 5, 5, 5, 6, 6, 6, 6, 6, 6, 6, 6, 6, 6, 6, 6, 6, 6, 6, 6, 6, 6, 6, 6, 6, 6, 6, 6, 6, 6, 6, 6, 6, 6, 6, 6] [7, 7, 7, 7, 7, 7, 7, 7, 7, 7, 7, 7, 7, 7, 7, 7, 7, 7, 7, 7, 7, 7, 7, 7, 7, 7, 7, 7, 7, 7, 7, 7, 7, 7, 7, 7, 7, 7, 7, 7, 7, 7, 7, 7, 7, 7, 7, 7, 7, 7, 7, 7, 7, 7, 7, 7, 7, 7, 7, 7, 7, 7, 7, 7]) (List.append [8, 8, 8, 8, 8, 8, 8, 8, 8, 8, 8, 8, 8, 8, 8, 8, 8, 8, 8, 8, 8, 8, 8, 8, 8, 8, 8, 8, 8, 8, 8, 8, 8, 8, 8, 8, 8, 8, 8, 8, 8, 8, 8, 8, 8, 8, 8, 8, 8, 8, 8, 8, 8, 8, 8, 8, 8, 8, 8, 8, 8, 8, 8, 8] [8, 8, 8, 8, 8, 8, 8, 8, 8, 8, 8, 8, 8, 8, 8, 8, 8, 8, 8, 8, 8, 8, 8, 8, 8, 8, 8, 8, 8, 8, 8, 8, 8, 8, 8, 8, 8, 8, 8, 8, 8, 8, 8, 8, 8, 8, 8, 8, 8, 8, 8, 8, 8, 8, 8, 8, 8, 8, 8, 8, 8, 8, 8, 8]))⟩ : ByteArray)[i.1]?) = some (UInt8.ofNat (bl i.1)) := by decide +kernel
theorem len8_u8 : ∀ i : Fin 256, (UInt8.ofNat (bl i.1)).toNat = bl i.1 := by decide +kernel
theorem len8_get {i : Nat} (h : i < 256) : ((⟨List.toArray (List.append (List.append [0, 1, 2, 2, 3, 3, 3, 3, 4, 4, 4, 4, 4, 4, 4, 4, 5, 5, 5, 5, 5, 5, 5, 5, 5, 5, 5, 5, 5, 5, 5, 5, 6, 6, 6, 6, 6, 6, 6, 6, 6, 6, 6, 6, 6, 6, 6, 6, 6, 6, 6, 6, 6, 6, 6, 6, 6, 6, 6, 6, 6, 6, 6, 6] [7, 7, 7, 7, 7, 7, 7, 7, 7, 7, 7, 7, 7, 7, 7, 7, 7, 7, 7, 7, 7, 7, 7, 7, 7, 7, 7, 7, 7, 7, 7, 7, 7, 7, 7, 7, 7, 7, 7, 7, 7, 7, 7, 7, 7, 7, 7, 7, 7, 7, 7, 7, 7, 7, 7, 7, 7, 7, 7, 7, 7, 7, 7, 7]) (List.append [8, 8, 8, 8, 8, 8, 8, 8, 8, 8, 8, 8, 8, 8, 8, 8, 8, 8, 8, 8, 8, 8, 8, 8, 8, 8, 8, 8, 8, 8, 8, 8, 8, 8, 8, 8, 8, 8, 8, 8, 8, 8, 8, 8, 8, 8, 8, 8, 8, 8, 8, 8, 8, 8, 8, 8, 8, 8, 8, 8, 8, 8, 8, 8] [8, 8, 8, 8, 8, 8, 8, 8, 8, 8, 8, 8, 8, 8, 8, 8, 8, 8, 8, 8, 8, 8, 8, 8, 8, 8, 8, 8, 8, 8, 8, 8, 8, 8, 8, 8, 8, 8, 8, 8, 8, 8, 8, 8, 8, 8, 8, 8, 8, 8, 8, 8, 8, 8, 8, 8, 8, 8, 8, 8, 8, 8, 8, 8]))⟩ : ByteArray)[i]?) = some (UInt8.ofNat (bl i)) := len8_at ⟨i, h⟩
theorem len8_val {i : Nat} (h : i < 256) : (UInt8.ofNat (bl i)).toNat = bl i := len8_u8 ⟨i, h⟩

theorem len32_calls {x : Nat} (hx : x < 4294967296) : PT Try.prog 116 [.val (.int .u32 x)] (isV (.val (.int .i64 (bl x)))) := by
  have hb : bl x ≤ 32 := bl_le.2 hx
  refine PCalls.enter (n := 19) (rs := [.tmp 2]) (tb := []) Try.func116 rfl rfl rfl (by kernel_rfl) (by kernel_rfl) (by simp) fun c hc ht => ?_
  by_cases h1 : 65536 ≤ x
  · have e1 := bl_div 16 h1
    by_cases h2 : 256 ≤ x / 65536
    · have e2 := bl_div 8 h2
      have h3 : x / 65536 / 256 < 256 := by omega
      have e3 : x / 65536 / 256 % 256 = x / 65536 / 256 := Nat.mod_eq_of_lt h3
      have : bl x = 24 + bl (x / 65536 / 256) := by simp at e1 e2; omega
      rw [this] at hb ⊢
      simp -implicitDefEqProofs (disch := omega) only [go_sem, ht, len8_get h3, len8_val h3, e3, eq_self]
      (refine end_treeW 0 ?_; simp -implicitDefEqProofs (disch := omega) only [go_sem, ht, eq_self])
    · have h3 : x / 65536 < 256 := by omega
      have e3 : x / 65536 % 256 = x / 65536 := Nat.mod_eq_of_lt h3
      have : bl x = 16 + bl (x / 65536) := by simpa using e1
      rw [this] at hb ⊢
      simp -implicitDefEqProofs (disch := omega) only [go_sem, ht, len8_get h3, len8_val h3, e3, eq_self]
      (refine end_treeW 0 ?_; simp -implicitDefEqProofs (disch := omega) only [go_sem, ht, eq_self])
  · by_cases h2 : 256 ≤ x
    · have e2 := bl_div 8 h2
      have h3 : x / 256 < 256 := by omega
      have e3 : x / 256 % 256 = x / 256 := Nat.mod_eq_of_lt h3
      have : bl x = 8 + bl (x / 256) := by simpa using e2
      rw [this] at hb ⊢
      simp -implicitDefEqProofs (disch := omega) only [go_sem, ht, len8_get h3, len8_val h3, e3, eq_self]
      (refine end_treeW 0 ?_; simp -implicitDefEqProofs (disch := omega) only [go_sem, ht, eq_self])
    · have h3 : x < 256 := by omega
      have e3 : x % 256 = x := Nat.mod_eq_of_lt h3
      simp -implicitDefEqProofs (disch := omega) only [go_sem, ht, len8_get h3, len8_val h3, e3, eq_self]
      (refine end_treeW 0 ?_; simp -implicitDefEqProofs (disch := omega) only [go_sem, ht, Int.zero_add, eq_self])

theorem bits_calls {xs : List Nat} (h : Ok xs) : PT Try.prog 76 [SU xs] (isV (.val (.int .i64 (bl (V xs))))) := by
  have := h.short.len
  refine PCalls.enter (n := 20) (rs := [.tmp 2]) (tb := []) Try.func76 rfl rfl rfl (by kernel_rfl) (by kernel_rfl) (by simp) fun c hc ht => ?_
  simp -implicitDefEqProofs (disch := omega) only [go_sem, ht, eq_self]
  by_cases hn : V xs = 0
  · have hl : (D (V xs)).length = 0 := D_len_zero.2 hn
    (refine pCall_view (by simp -implicitDefEqProofs (disch := omega) only [go_sem, ht, eq_self] <;> rfl) (by simp -implicitDefEqProofs (disch := omega) only [go_sem, ht, eq_self]) (by first | (apply Or.inl; simp -implicitDefEqProofs (disch := omega) only [go_sem, ht, eq_self]; done) | (apply Or.inr; rintro r rfl; rfl)) (short_calls h) ?_; rintro _ nx - rfl hnx; (try simp only [put_nx, withH_nx, begP_nx] at hnx); simp -implicitDefEqProofs (disch := omega) only [go_sem, ht, eq_self])
    rw [hn, bl_zero]
    (refine end_treeW 0 ?_; simp -implicitDefEqProofs (disch := omega) only [go_sem, ht, eq_self])
    rfl
  · have hl := D_len_pos hn
    have hg := (Lm_D (V xs)).get ((D (V xs)).length - 1)
    have hb : bl ((D (V xs)).getD ((D (V xs)).length - 1) 0) ≤ 32 := bl_le.2 hg
    (refine pCall_view (by simp -implicitDefEqProofs (disch := omega) only [go_sem, ht, eq_self] <;> rfl) (by simp -implicitDefEqProofs (disch := omega) only [go_sem, ht, eq_self]) (by first | (apply Or.inl; simp -implicitDefEqProofs (disch := omega) only [go_sem, ht, eq_self]; done) | (apply Or.inr; rintro r rfl; rfl)) (short_calls h) ?_; rintro _ nx - rfl hnx; (try simp only [put_nx, withH_nx, begP_nx] at hnx); simp -implicitDefEqProofs (disch := omega) only [go_sem, ht, eq_self])
    (refine pCall_view (by simp -implicitDefEqProofs (disch := omega) only [go_sem, ht, eq_self] <;> rfl) (by simp -implicitDefEqProofs (disch := omega) only [go_sem, ht, eq_self]) (by first | (apply Or.inl; simp -implicitDefEqProofs (disch := omega) only [go_sem, ht, eq_self]; done) | (apply Or.inr; rintro r rfl; rfl)) (len32_calls hg) ?_; rintro _ nx - rfl hnx; (try simp only [put_nx, withH_nx, begP_nx] at hnx); simp -implicitDefEqProofs (disch := omega) only [go_sem, ht, eq_self])
    rw [bl_top hn]
    (refine end_treeW 0 ?_; simp -implicitDefEqProofs (disch := omega) only [go_sem, ht, eq_self])
end Go.Proofs.Ytfjdfnlkobeehaa

namespace Go.Proofs.Ytfjdfnlkobeehaa

theorem moved_calls {xs : List Nat} {s n : Nat} (h : Ok xs) (hs : s < 32) (hn : n ≤ 1099511627777) : PL 138 [SU xs, .val (.int .i64 s), .val (.int .i64 n)] (pad n (V xs * 2 ^ s)) := by
  have := h.len
  refine PCalls.enter (n := 39) (rs := [.tmp 6]) (tb := []) Try.func138 rfl rfl rfl (by kernel_rfl) (by kernel_rfl) (by simp) fun c hc ht => ?_
  simp -implicitDefEqProofs (disch := omega) only [go_sem, ht, eq_self]
  refine LW.loopW hc ht (by kernel_rfl) (fun t => t.sl 0 = .sl xs.length (xs.map U) ∧ t.sl 1 = .val (.int .i64 s) ∧ t.sl 13 = .val (.int .i64 n) ∧ ∃ k : Nat, k ≤ n ∧ t.sl 14 = .val (.int .i64 k) ∧
      ∃ c : Nat, c < 2 ^ s ∧ t.sl 8 = .val (.int .u64 c) ∧ ∃ zs id, zs.length = n ∧ t.sl 7 = .ref id 0 n n 1 ∧ t.H id = some (zs.map U) ∧ id < t.nx ∧
      Lm zs ∧ V (zs.take k) + 4294967296 ^ k * c = V (xs.take k) * 2 ^ s)
      (fun t => match t.sl 14 with | .val (.int _ k) => n - k.toNat | _ => 0) ?_ ?_
  · simp -implicitDefEqProofs (disch := omega) only [go_sem, ht, eq_self]
    exact ⟨0, Nat.zero_le _, rfl, 0, Nat.pow_pos (by decide), rfl, List.replicate n 0, 0, by simp, rfl, by rw [upd_self], by omega, Lm_repl _, by simp [V]⟩
  · rintro t ⟨h0, h1, h13, k, hk, h14, c', hc', h8, zs, id, hzl, h7, hH, hid, hzm, heq⟩
    by_cases hkl : k = n
    · have e : pad n (V xs * 2 ^ s) = zs := by
        rw [hkl, ← hzl, List.take_length] at heq
        refine V_inj (pad_lm _ _) hzm (by rw [pad_len, hzl]) ?_
        rw [pad_V]
        have h1 := V_lt hzm
        have hx : V xs * 2 ^ s = V (xs.take zs.length) * 2 ^ s + 4294967296 ^ zs.length * (V (xs.drop zs.length) * 2 ^ s) := by
          rcases Nat.lt_or_ge zs.length xs.length with hlt | hge
          · conv => lhs; rw [V_split xs (Nat.le_of_lt hlt)]
            rw [Nat.add_mul, Nat.mul_assoc]
          · rw [List.take_of_length_le hge, List.drop_of_length_le hge]; simp [V]
        rw [hx, ← heq, ← hzl, Nat.add_assoc, ← Nat.mul_add, Nat.add_mul_mod_self_left, Nat.mod_eq_of_lt h1]
      simp -implicitDefEqProofs (disch := omega) only [go_sem, ht, h0, h1, h13, h14, h8, h7, hH, eq_self]
      rw [e]
      exact end_own1 (rest := []) (by simp -implicitDefEqProofs (disch := omega) only [hH, List.map_nil, go_sem, ht, eq_self] <;> rfl) (by simp -implicitDefEqProofs (disch := omega) only [hH, List.map_nil, go_sem, ht, eq_self] <;> rfl) (by simp <;> omega) (by simp <;> omega)
    · have key : ∀ x v : Nat, x < 4294967296 → V (xs.take (k + 1)) = V (xs.take k) + 4294967296 ^ k * x → v = c' + x * 2 ^ s →
            v / 4294967296 < 2 ^ s ∧ V ((zs.set k (v % 4294967296)).take (k + 1)) + 4294967296 ^ (k + 1) * (v / 4294967296) = V (xs.take (k + 1)) * 2 ^ s := by
        intro x v hx hV hv
        constructor
        · rw [Nat.div_lt_iff_lt_mul (by decide), hv]
          have : x * 2 ^ s ≤ 4294967295 * 2 ^ s := Nat.mul_le_mul_right _ (by omega)
          omega
        · rw [V_take_succ _ (by simp; omega), hV, List.take_set_of_le (Nat.le_refl _), List.getD_eq_getElem?_getD, List.getElem?_set_self (by omega)]
          simp only [Option.getD_some, Nat.pow_succ]
          rw [Nat.add_assoc, Nat.mul_assoc (4294967296 ^ k), ← Nat.mul_add, Nat.mod_add_div, hv, Nat.mul_add, ← Nat.add_assoc, heq, Nat.add_mul, Nat.mul_assoc]
      have hset : ∀ z, z < 4294967296 → Lm (zs.set k z) := fun z hz x hx => by
        rcases List.mem_or_eq_of_mem_set hx with h | h
        · exact hzm x h
        · omega
      have hs2 : 2 ^ s ≤ 2147483648 := by
        have := Nat.pow_le_pow_right (n := 2) (by decide) (show s ≤ 31 by omega)
        simpa using this
      by_cases hkx : k < xs.length
      · have hxg := h.lm.get k
        have hm : xs.getD k 0 * 2 ^ s ≤ 4294967295 * 2147483648 := Nat.mul_le_mul (by omega) hs2
        have ho := or_add (x := xs.getD k 0) hc'
        obtain ⟨k1, k2⟩ := key _ _ hxg (V_take_succ xs hkx) rfl
        simp -implicitDefEqProofs (disch := omega) only [go_sem, ht, h0, h1, h13, h14, h8, h7, hH, ho, eq_self]
        exact ⟨⟨k + 1, by omega, rfl, _, k1, rfl, _, id, by simp [hzl], rfl, upd_self _ _ _, hid, hset _ (Nat.mod_lt _ (by decide)), k2⟩, by omega⟩
      · have hV : V (xs.take (k + 1)) = V (xs.take k) + 4294967296 ^ k * 0 := by
          rw [List.take_of_length_le (by omega), List.take_of_length_le (by omega)]; simp
        obtain ⟨k1, k2⟩ := key 0 _ (by decide) hV rfl
        simp only [Nat.zero_mul, Nat.add_zero, Nat.mod_eq_of_lt (show c' < 4294967296 by omega)] at k1 k2
        simp -implicitDefEqProofs (disch := omega) only [go_sem, ht, h0, h1, h13, h14, h8, h7, hH, eq_self]
        exact ⟨⟨k + 1, by omega, rfl, _, k1, rfl, _, id, by simp [hzl], rfl, upd_self _ _ _, hid, hset _ (by omega), k2⟩, by omega⟩


end Go.Proofs.Ytfjdfnlkobeehaa

namespace Go.Proofs.Ytfjdfnlkobeehaa

theorem right_calls {xs : List Nat} {s : Int} (h : Ok xs) (hs : s ≤ 9223372036854775807) (hs' : -9223372036854775808 ≤ s) : PO1 Try.prog 140 [SU xs, .val (.int .i64 s)]
    (fun p => .tup [p, .val (.int .i64 (if s < 0 then 1 else 0))]) ((if s < 0 then [] else D (V xs / 2 ^ s.toNat)).map U) := by
  have hlen := h.short.len
  have hcx : V (D (V xs)) = V xs := V_D _
  have hlm := Lm_D (V xs)
  have hv := V_lt (Lm_D (V xs))
  refine PCalls.enter (n := 60) (rs := [.tmp 4, .tmp 5]) (tb := []) Try.func140 rfl rfl rfl (by kernel_rfl) (by kernel_rfl) (by simp) fun c hc ht => ?_
  by_cases h1 : s < 0
  · rw [if_pos h1, if_pos h1]
    simp -implicitDefEqProofs (disch := omega) only [go_sem, ht, eq_self]
    exact end_own_nil (mk_b _) (by simp -implicitDefEqProofs (disch := omega) only [go_sem, ht, eq_self])
  rw [if_neg h1, if_neg h1]
  obtain ⟨k, rfl⟩ := Int.eq_ofNat_of_zero_le (show 0 ≤ s by omega)
  simp -implicitDefEqProofs (disch := omega) only [go_sem, ht, eq_self]
  by_cases hn : (D (V xs)).length ≤ k / 32
  · (refine pCall_view (by simp -implicitDefEqProofs (disch := omega) only [go_sem, ht, eq_self] <;> rfl) (by simp -implicitDefEqProofs (disch := omega) only [go_sem, ht, eq_self]) (by first | (apply Or.inl; simp -implicitDefEqProofs (disch := omega) only [go_sem, ht, eq_self]; done) | (apply Or.inr; rintro r rfl; rfl)) (short_calls h) ?_; rintro _ nx - rfl hnx; (try simp only [put_nx, withH_nx, begP_nx] at hnx); simp -implicitDefEqProofs (disch := omega) only [go_sem, ht, eq_self])
    have e : D (V xs / 2 ^ k) = [] := by
      rw [D_nil, Nat.div_eq_zero_iff]
      right
      rw [hcx, pow32] at hv
      exact Nat.lt_of_lt_of_le hv (Nat.pow_le_pow_right (by decide) (by omega))
    rw [e]
    exact end_own_nil (mk_b _) (by simp -implicitDefEqProofs (disch := omega) only [go_sem, ht, eq_self])
  · (refine pCall_view (by simp -implicitDefEqProofs (disch := omega) only [go_sem, ht, eq_self] <;> rfl) (by simp -implicitDefEqProofs (disch := omega) only [go_sem, ht, eq_self]) (by first | (apply Or.inl; simp -implicitDefEqProofs (disch := omega) only [go_sem, ht, eq_self]; done) | (apply Or.inr; rintro r rfl; rfl)) (short_calls h) ?_; rintro _ nx - rfl hnx; (try simp only [put_nx, withH_nx, begP_nx] at hnx); simp -implicitDefEqProofs (disch := omega) only [go_sem, ht, eq_self])
    have hus : V ((D (V xs)).drop (k / 32)) = V xs / 4294967296 ^ (k / 32) := by rw [V_drop_div hlm (by omega), hcx]
    have hul : ((D (V xs)).drop (k / 32)).length = (D (V xs)).length - k / 32 := by simp
    have hum := hlm.drop (k / 32)
    have hW : V ((D (V xs)).drop (k / 32)) / 2 ^ (k % 32) = V xs / 2 ^ k := by
      rw [hus, Nat.div_div_eq_div_mul, pow32, ← Nat.pow_add, Nat.div_add_mod]
    generalize hU : (D (V xs)).drop (k / 32) = us at *
    have hr : k % 32 < 32 := Nat.mod_lt _ (by decide)
    rw [← hW]
    have hlen : us.length ≤ 1099511627776 := by omega
    refine LW.loopW hc ht (by kernel_rfl) (fun t => t.sl 0 = .sl us.length (us.map U) ∧ t.sl 1 = .val (.int .i64 k) ∧ t.sl 26 = .val (.int .i64 us.length) ∧ ∃ j : Nat, j ≤ us.length ∧ t.sl 27 = .val (.int .i64 j) ∧
      ∃ zs id, zs.length = us.length ∧ t.sl 6 = .ref id 0 us.length us.length 1 ∧ t.H id = some (zs.map U) ∧ id < t.nx ∧
      Lm zs ∧ Hide (V (zs.take j) = V us / 2 ^ (k % 32) % 4294967296 ^ j))
      (fun t => match t.sl 27 with | .val (.int _ j) => us.length - j.toNat | _ => 0) ?_ ?_
    · simp -implicitDefEqProofs (disch := omega) only [go_sem, ht, eq_self]
      exact ⟨by rw [← List.map_drop, hU, hul, List.take_of_length_le (by simp [hul])], by rw [hul], 0, Nat.zero_le _, rfl, List.replicate us.length 0, nx, by simp, by rw [hul], by rw [upd_self, hul], by omega, Lm_repl _, Hide.mk (by simp [V, Nat.mod_one])⟩
    · clear h hcx hlm hv hus hW hU
      rintro t ⟨h0, h1, h26, j, hj, h27, zs, id, hzl, h6, hH, hid, hzm, heq⟩
      by_cases hjl : j = us.length
      · have e : D (V us / 2 ^ (k % 32)) = D (V zs) := by
          have hv := V_lt hum
          have heq := heq.out
          rw [hjl, ← hzl, List.take_length, Nat.mod_eq_of_lt] at heq
          · rw [heq]
          · rw [hzl]; exact Nat.lt_of_le_of_lt (Nat.div_le_self _ _) hv
        rw [e]
        have := D_len_V hzm
        simp -implicitDefEqProofs (disch := omega) only [go_sem, ht, h0, h1, h26, h27, h6, hH, eq_self]
        (apply pCall_mem; exact (short_own (xs := zs) (rest := []) hzm hzl (by omega) (Nat.le_refl _) (by simp -implicitDefEqProofs (disch := omega) only [hH, List.map_nil, go_sem, ht, eq_self] <;> rfl)); rintro _ _ _ ⟨rfl, rfl, rfl⟩ -; simp -implicitDefEqProofs (disch := omega) only [hH, List.map_nil, go_sem, ht, eq_self])
        exact end_own1 (mk := fun p => .tup [p, .val (.int .i64 0)]) (by simp -implicitDefEqProofs (disch := omega) only [hH, own_split' hzm, go_sem, ht, eq_self] <;> rfl) (by simp -implicitDefEqProofs (disch := omega) only [hH, own_split' hzm, go_sem, ht, eq_self] <;> rfl) (by simp <;> omega) (by simp <;> omega)
      · have hxg := hum.get j
        have hd := V_drop_div hum (i := j) hj
        have hd1 := V_drop us (i := j) (by omega)
        have hp : 0 < 2 ^ (k % 32) := Nat.pow_pos (by decide)
        have key : ∀ v : Nat, (∃ w, V (us.drop j) = v + 18446744073709551616 * w) →
            V ((zs.set j (v / 2 ^ (k % 32) % 4294967296)).take (j + 1)) = V us / 2 ^ (k % 32) % 4294967296 ^ (j + 1) := by
          rintro v ⟨w, hw⟩
          rw [V_take_succ _ (by simp; omega), List.take_set_of_le (Nat.le_refl _), List.getD_eq_getElem?_getD, List.getElem?_set_self (by omega), heq.out, Nat.pow_succ, Nat.mod_mul]
          simp only [Option.getD_some]
          congr 2
          rw [Nat.div_div_eq_div_mul, Nat.mul_comm (2 ^ (k % 32)), ← Nat.div_div_eq_div_mul, ← hd, hw]
          exact (right_step hr v w).symm
        have hset : ∀ z, z < 4294967296 → Lm (zs.set j z) := fun z hz x hx => by
          rcases List.mem_or_eq_of_mem_set hx with h | h
          · exact hzm x h
          · omega
        by_cases hj1 : j + 1 < us.length
        · have hxg1 := hum.get (j + 1)
          have hd2 := V_drop us (i := j + 1) hj1
          have k2 := Hide.mk (key (us.getD j 0 + us.getD (j + 1) 0 * 4294967296) ⟨V (us.drop (j + 1 + 1)), by omega⟩)
          clear heq key hd hd1 hd2
          simp -implicitDefEqProofs (disch := omega) only [go_sem, ht, h0, h1, h26, h27, h6, hH, eq_self]
          exact ⟨⟨j + 1, by omega, rfl, _, id, by simp [hzl], rfl, upd_self _ _ _, hid, hset _ (Nat.mod_lt _ (by decide)), k2⟩, by omega⟩
        · have hd2 : V (us.drop (j + 1)) = 0 := by rw [List.drop_of_length_le (by omega)]; rfl
          have k2 := Hide.mk (key (us.getD j 0) ⟨0, by omega⟩)
          have hlt : us.getD j 0 / 2 ^ (k % 32) < 4294967296 := Nat.lt_of_le_of_lt (Nat.div_le_self _ _) hxg
          clear heq key hd hd1 hd2
          simp -implicitDefEqProofs (disch := omega) only [go_sem, ht, h0, h1, h26, h27, h6, hH, eq_self]
          exact ⟨⟨j + 1, by omega, rfl, _, id, by simp [hzl], rfl, upd_self _ _ _, hid, hset _ (Nat.mod_lt _ (by decide)), k2⟩, by omega⟩
end Go.Proofs.Ytfjdfnlkobeehaa

namespace Go.Proofs.Ytfjdfnlkobeehaa

theorem spl_zero (a y : PV) (l : List PV) : spl (a :: l) 0 [y] = y :: l := by simp [spl]
theorem spl_succ (a y : PV) (l : List PV) (i : Nat) : spl (a :: l) (i + 1) [y] = a :: spl l i [y] := by simp [spl, Nat.add_right_comm]
attribute [go_sem] spl_zero spl_succ List.cons_append

theorem V_set_drop {zs : List Nat} {k v : Nat} (hk : k < zs.length) : V ((zs.set k v).drop k) = v + 4294967296 * V (zs.drop (k + 1)) := by
  rw [V_drop _ (by simpa using hk), List.getD_eq_getElem?_getD, List.getElem?_set_self hk, List.drop_set_of_lt (Nat.lt_succ_self k)]
  rfl

theorem byLimb_calls {xs : List Nat} {b : Nat} (h : Ok xs) (hb : b < 4294967296) (hb0 : 0 < b) : PO1 Try.prog 126 [SU xs, .val (.int .u32 b)]
    (fun p => .tup [p, .val (.int .u32 (V xs % b : Nat))]) ((D (V xs / b)).map U) := by
  have hlen := h.len
  refine PCalls.enter (n := 43) (rs := [.tmp 4, .tmp 5]) (tb := []) Try.func126 rfl rfl rfl (by kernel_rfl) (by kernel_rfl) (by simp) fun c hc ht => ?_
  simp -implicitDefEqProofs (disch := omega) only [go_sem, ht, eq_self]
  refine LW.loopW hc ht (by kernel_rfl) (fun t => t.sl 0 = .sl xs.length (xs.map U) ∧ t.sl 1 = .val (.int .u32 b) ∧ ∃ k : Nat, k ≤ xs.length ∧ t.sl 8 = .val (.int .i64 ((k : Int) - 1)) ∧
      ∃ zs id r, zs.length = xs.length ∧ t.sl 6 = .ref id 0 xs.length xs.length 1 ∧ t.H id = some (zs.map U) ∧ id < t.nx ∧ t.sl 7 = .val (.int .u64 (r : Nat)) ∧ r < b ∧
      Lm zs ∧ Hide (V (zs.drop k) * b + r = V (xs.drop k)))
      (fun t => match t.sl 8 with | .val (.int _ j) => (j + 1).toNat | _ => 0) ?_ ?_
  · simp -implicitDefEqProofs (disch := omega) only [go_sem, ht, eq_self]
    exact ⟨xs.length, Nat.le_refl _, rfl, List.replicate xs.length 0, 0, 0, by simp, rfl, by rw [upd_self], by omega, rfl, hb0, Lm_repl _, Hide.mk (by rw [List.drop_of_length_le (by simp), List.drop_of_length_le (by simp)]; simp [V])⟩
  · rintro t ⟨h0, h1, k, hk, h8, zs, id, r, hzl, h6, hH, hid, h7, hr, hzm, heq⟩
    by_cases hk0 : k = 0
    · subst hk0
      have heq := heq.out
      rw [List.drop_zero, List.drop_zero] at heq
      have e1 : V xs / b = V zs := by
        rw [← heq, Nat.mul_comm, Nat.mul_add_div hb0, Nat.div_eq_of_lt hr, Nat.add_zero]
      have e2 : V xs % b = r := by
        rw [← heq, Nat.mul_comm, Nat.mul_add_mod, Nat.mod_eq_of_lt hr]
      rw [e1, e2]
      clear e1 e2 heq
      have := D_len_V hzm
      simp -implicitDefEqProofs (disch := omega) only [go_sem, ht, h0, h1, h8, h7, h6, hH, eq_self]
      (apply pCall_mem; exact (short_own (xs := zs) (rest := []) hzm hzl (by omega) (Nat.le_refl _) (by simp -implicitDefEqProofs (disch := omega) only [hH, h7, List.map_nil, go_sem, ht, eq_self] <;> rfl)); rintro _ _ _ ⟨rfl, rfl, rfl⟩ -; simp -implicitDefEqProofs (disch := omega) only [hH, h7, List.map_nil, go_sem, ht, eq_self])
      exact end_own1 (mk := fun p => .tup [p, .val (.int .u32 r)]) (by simp -implicitDefEqProofs (disch := omega) only [hH, own_split' hzm, go_sem, ht, eq_self] <;> rfl) (by simp -implicitDefEqProofs (disch := omega) only [hH, own_split' hzm, go_sem, ht, eq_self] <;> rfl) (by simp <;> omega) (by simp <;> omega)
    · have e1 : ((k : Int) - 1).toNat = k - 1 := by omega
      have e2 : k - 1 + 1 = k := by omega
      have hxg := h.lm.get (k - 1)
      have hd := V_drop xs (i := k - 1) (by omega)
      rw [e2, ← heq.out] at hd
      have hq : (r * 4294967296 + xs.getD (k - 1) 0) / b < 4294967296 := by
        rw [Nat.div_lt_iff_lt_mul hb0]
        have : (r + 1) * 4294967296 ≤ b * 4294967296 := Nat.mul_le_mul_right _ hr
        omega
      have hm : (r * 4294967296 + xs.getD (k - 1) 0) % b < b := Nat.mod_lt _ hb0
      have hset : Lm (zs.set (k - 1) ((r * 4294967296 + xs.getD (k - 1) 0) / b)) := fun x hx => by
        rcases List.mem_or_eq_of_mem_set hx with h | h
        · exact hzm x h
        · omega
      have key : Hide (V ((zs.set (k - 1) ((r * 4294967296 + xs.getD (k - 1) 0) / b)).drop (k - 1)) * b + (r * 4294967296 + xs.getD (k - 1) 0) % b = V (xs.drop (k - 1))) := by
        refine Hide.mk ?_
        rw [V_set_drop (by omega), hd, e2]
        have := Nat.div_add_mod (r * 4294967296 + xs.getD (k - 1) 0) b
        rw [Nat.add_mul, Nat.mul_comm _ b, Nat.mul_add 4294967296, ← Nat.mul_assoc]
        omega
      clear hd heq
      have hr' : r < 4294967296 := by omega
      have e3 := Nat.mod_eq_of_lt hq
      have e4 := Nat.mod_eq_of_lt (Nat.lt_trans hq (by decide : 4294967296 < 18446744073709551616))
      simp -implicitDefEqProofs (disch := omega) only [go_sem, ht, h0, h1, h8, h7, h6, hH, e1, e3, e4, eq_self]
      exact ⟨⟨k - 1, by omega, by congr 2, _, id, _, by simp [hzl], rfl, upd_self _ _ _, hid, rfl, hm, hset, key⟩, by omega⟩

theorem small_calls {n : Nat} (hn : n < 18446744073709551616) : PL 49 [.val (.int .u64 n)] (D n) := by
  have hv : V [n % 4294967296, n / 4294967296] = n := by simp only [V]; omega
  have hm : Lm [n % 4294967296, n / 4294967296] := Lm_cons.2 ⟨by omega, Lm_cons.2 ⟨by omega, Lm_nil⟩⟩
  have := D_len_V hm
  rw [hv] at this
  simp only [List.length_cons, List.length_nil] at this
  refine PCalls.enter (n := 10) (rs := [.tmp 2]) (tb := []) Try.func49 rfl rfl rfl (by kernel_rfl) (by kernel_rfl) (by simp) fun c hc ht => ?_
  simp -implicitDefEqProofs (disch := omega) only [go_sem, ht, eq_self]
  (apply pCall_mem; exact (short_own (xs := [n % 4294967296, n / 4294967296]) (rest := []) hm rfl (by omega) (Nat.le_refl _) (by simp -implicitDefEqProofs (disch := omega) only [upd_self, List.map_nil, go_sem, ht, eq_self] <;> rfl)); rintro _ _ _ ⟨rfl, rfl, rfl⟩ -; simp -implicitDefEqProofs (disch := omega) only [upd_self, List.map_nil, go_sem, ht, eq_self])
  have hs : [PV.val (.int .u32 ((n % 4294967296 : Nat) : Int)), PV.val (.int .u32 ((n / 4294967296 : Nat) : Int))] = _ := own_split' hm
  rw [hv] at hs ⊢
  exact end_own1 (mk := fun p => p) (by simp -implicitDefEqProofs (disch := omega) only [upd_self, hs, go_sem, ht, eq_self] <;> rfl) (by simp -implicitDefEqProofs (disch := omega) only [upd_self, hs, go_sem, ht, eq_self] <;> rfl) (by simp <;> omega) (by simp <;> omega)
end Go.Proofs.Ytfjdfnlkobeehaa

namespace Go.Proofs.Ytfjdfnlkobeehaa

def divP (a b : Nat) : PV := .tup [SU (D (a / b)), SU (D (if b = 0 then 0 else a % b)), .val (.bool (decide (b ≠ 0)))]

theorem D_one {n : Nat} (h0 : n ≠ 0) (h : n < 4294967296) : D n = [n] := by
  rw [D_pos h0, Nat.mod_eq_of_lt h, Nat.div_eq_of_lt h, D_zero]
theorem D_two {n : Nat} (h : 4294967296 ≤ n) : 2 ≤ (D n).length := by
  rw [D_pos (by omega), List.length_cons]
  have := D_len_pos (n := n / 4294967296) (by omega)
  omega

theorem cmpI_neg {a b : Nat} : cmpI a b < 0 ↔ a < b := by
  unfold cmpI; split
  · simp_all
  · split <;> simp_all

theorem divmod_own_of {xs ys : List Nat} (hx : Ok xs) (hy : Ok ys)
    (hlong : 4294967296 ≤ V ys → V ys ≤ V xs → PO2 Try.prog 127 [SU (D (V xs)), SU (D (V ys))] (fun p q => .tup [p, q]) ((D (V xs / V ys)).map U) ((D (V xs % V ys)).map U)) :
    PO2 Try.prog 104 [SU xs, SU ys] (fun p q => .tup [p, q, .val (.bool (decide (V ys ≠ 0)))]) ((D (V xs / V ys)).map U) ((D (if V ys = 0 then 0 else V xs % V ys)).map U) := by
  have hx' := hx.short
  have hy' := hy.short
  have hdx := V_D (V xs)
  have hdy := V_D (V ys)
  have := hx.short.len
  have := hy.short.len
  refine PCalls.enter (n := 48) (rs := [.tmp 4, .tmp 5, .tmp 6]) (tb := []) Try.func104 rfl rfl rfl (by kernel_rfl) (by kernel_rfl) (by simp) fun c hc ht => ?_
  simp -implicitDefEqProofs (disch := omega) only [go_sem, ht, eq_self]
  by_cases h0 : V ys = 0
  · have hl : (D (V ys)).length = 0 := D_len_zero.2 h0
    rw [if_pos h0, h0, D_zero, Nat.div_zero, D_zero, List.map_nil]
    (refine pCall_view (by simp -implicitDefEqProofs (disch := omega) only [go_sem, ht, eq_self] <;> rfl) (by simp -implicitDefEqProofs (disch := omega) only [go_sem, ht, eq_self]) (by first | (apply Or.inl; simp -implicitDefEqProofs (disch := omega) only [go_sem, ht, eq_self]; done) | (apply Or.inr; rintro r rfl; rfl)) (short_calls hx) ?_; rintro _ nx - rfl hnx; (try simp only [put_nx, withH_nx, begP_nx] at hnx); simp -implicitDefEqProofs (disch := omega) only [go_sem, ht, eq_self])
    (refine pCall_view (by simp -implicitDefEqProofs (disch := omega) only [go_sem, ht, eq_self] <;> rfl) (by simp -implicitDefEqProofs (disch := omega) only [go_sem, ht, eq_self]) (by first | (apply Or.inl; simp -implicitDefEqProofs (disch := omega) only [go_sem, ht, eq_self]; done) | (apply Or.inr; rintro r rfl; rfl)) (short_calls hy) ?_; rintro _ nx - rfl hnx; (try simp only [put_nx, withH_nx, begP_nx] at hnx); simp -implicitDefEqProofs (disch := omega) only [go_sem, ht, eq_self])
    exact end_own2_nn (mk_llv _) (by simp -implicitDefEqProofs (disch := omega) only [go_sem, ht, eq_self] <;> rfl)
  · have hl := D_len_pos h0
    rw [if_neg h0]
    have e0 : decide (V ys ≠ 0) = true := by simp [h0]
    rw [e0]
    have hcm := cmp_calls hx' hy'
    rw [hdx, hdy] at hcm
    by_cases hlt : V xs < V ys
    · rw [cmpI_lt hlt] at hcm
      have htr := trim_calls hx'
      rw [hdx] at htr
      rw [Nat.div_eq_of_lt hlt, Nat.mod_eq_of_lt hlt, D_zero, List.map_nil]
      (refine pCall_view (by simp -implicitDefEqProofs (disch := omega) only [go_sem, ht, eq_self] <;> rfl) (by simp -implicitDefEqProofs (disch := omega) only [go_sem, ht, eq_self]) (by first | (apply Or.inl; simp -implicitDefEqProofs (disch := omega) only [go_sem, ht, eq_self]; done) | (apply Or.inr; rintro r rfl; rfl)) (short_calls hx) ?_; rintro _ nx - rfl hnx; (try simp only [put_nx, withH_nx, begP_nx] at hnx); simp -implicitDefEqProofs (disch := omega) only [go_sem, ht, eq_self])
      (refine pCall_view (by simp -implicitDefEqProofs (disch := omega) only [go_sem, ht, eq_self] <;> rfl) (by simp -implicitDefEqProofs (disch := omega) only [go_sem, ht, eq_self]) (by first | (apply Or.inl; simp -implicitDefEqProofs (disch := omega) only [go_sem, ht, eq_self]; done) | (apply Or.inr; rintro r rfl; rfl)) (short_calls hy) ?_; rintro _ nx - rfl hnx; (try simp only [put_nx, withH_nx, begP_nx] at hnx); simp -implicitDefEqProofs (disch := omega) only [go_sem, ht, eq_self])
      (refine pCall_view (by simp -implicitDefEqProofs (disch := omega) only [go_sem, ht, eq_self] <;> rfl) (by simp -implicitDefEqProofs (disch := omega) only [go_sem, ht, eq_self]) (by first | (apply Or.inl; simp -implicitDefEqProofs (disch := omega) only [go_sem, ht, eq_self]; done) | (apply Or.inr; rintro r rfl; rfl)) (hcm) ?_; rintro _ nx - rfl hnx; (try simp only [put_nx, withH_nx, begP_nx] at hnx); simp -implicitDefEqProofs (disch := omega) only [go_sem, ht, eq_self])
      (refine pCall_own1 (mk := fun p => p) (mk_id) (by simp -implicitDefEqProofs (disch := omega) only [go_sem, ht, eq_self] <;> rfl) (by simp -implicitDefEqProofs (disch := omega) only [go_sem, ht, eq_self]) (closedL_U _) (flatL_U _) (htr) ?_; intro id1 cap1 rest1 nx1 hid1 hnx1 hcap1; simp only [put_nx, withH_nx, begP_nx, List.length_map] at hid1 hcap1; simp -implicitDefEqProofs (disch := omega) only [go_sem, ht, eq_self])
      exact end_own2_nl (mk_llv _) (by simp -implicitDefEqProofs (disch := omega) only [go_sem, ht, eq_self] <;> rfl) (by simp -implicitDefEqProofs (disch := omega) only [go_sem, ht, eq_self] <;> rfl) (by simp) (by simp; omega) (by simp -implicitDefEqProofs (disch := omega) only [go_sem, ht, eq_self] <;> omega)
    · have hge : 0 ≤ cmpI (V xs) (V ys) := by
        have := mt (cmpI_neg (a := V xs) (b := V ys)).1 hlt
        omega
      generalize cmpI (V xs) (V ys) = cm at *
      by_cases h1 : V ys < 4294967296
      · have hl1 : (D (V ys)).length = 1 := by rw [D_one h0 h1]; rfl
        have hg : (D (V ys)).getD 0 0 = V ys := by rw [D_one h0 h1]; rfl
        have hm : V xs % V ys < V ys := Nat.mod_lt _ (by omega)
        (refine pCall_view (by simp -implicitDefEqProofs (disch := omega) only [go_sem, ht, eq_self] <;> rfl) (by simp -implicitDefEqProofs (disch := omega) only [go_sem, ht, eq_self]) (by first | (apply Or.inl; simp -implicitDefEqProofs (disch := omega) only [go_sem, ht, eq_self]; done) | (apply Or.inr; rintro r rfl; rfl)) (short_calls hx) ?_; rintro _ nx - rfl hnx; (try simp only [put_nx, withH_nx, begP_nx] at hnx); simp -implicitDefEqProofs (disch := omega) only [go_sem, ht, eq_self])
        (refine pCall_view (by simp -implicitDefEqProofs (disch := omega) only [go_sem, ht, eq_self] <;> rfl) (by simp -implicitDefEqProofs (disch := omega) only [go_sem, ht, eq_self]) (by first | (apply Or.inl; simp -implicitDefEqProofs (disch := omega) only [go_sem, ht, eq_self]; done) | (apply Or.inr; rintro r rfl; rfl)) (short_calls hy) ?_; rintro _ nx - rfl hnx; (try simp only [put_nx, withH_nx, begP_nx] at hnx); simp -implicitDefEqProofs (disch := omega) only [go_sem, ht, eq_self])
        (refine pCall_view (by simp -implicitDefEqProofs (disch := omega) only [go_sem, ht, eq_self] <;> rfl) (by simp -implicitDefEqProofs (disch := omega) only [go_sem, ht, eq_self]) (by first | (apply Or.inl; simp -implicitDefEqProofs (disch := omega) only [go_sem, ht, eq_self]; done) | (apply Or.inr; rintro r rfl; rfl)) (hcm) ?_; rintro _ nx - rfl hnx; (try simp only [put_nx, withH_nx, begP_nx] at hnx); simp -implicitDefEqProofs (disch := omega) only [go_sem, ht, eq_self])
        rw [hg]
        have hbl := byLimb_calls hx' h1 (by omega)
        rw [hdx] at hbl
        (refine pCall_own1 (mk := fun p => .tup [p, .val (.int .u32 (V xs % V ys : Nat))]) (mk_b _) (by simp -implicitDefEqProofs (disch := omega) only [go_sem, ht, eq_self] <;> rfl) (by simp -implicitDefEqProofs (disch := omega) only [go_sem, ht, eq_self]) (closedL_U _) (flatL_U _) (hbl) ?_; intro id1 cap1 rest1 nx1 hid1 hnx1 hcap1; simp only [put_nx, withH_nx, begP_nx, List.length_map] at hid1 hcap1; simp -implicitDefEqProofs (disch := omega) only [go_sem, ht, eq_self])
        (refine pCall_own1 (mk := fun p => p) (mk_id) (by simp -implicitDefEqProofs (disch := omega) only [go_sem, ht, eq_self] <;> rfl) (by simp -implicitDefEqProofs (disch := omega) only [go_sem, ht, eq_self]) (closedL_U _) (flatL_U _) (small_calls (n := V xs % V ys) (by omega)) ?_; intro id2 cap2 rest2 nx2 hid2 hnx2 hcap2; simp only [put_nx, withH_nx, begP_nx, List.length_map] at hid2 hcap2; simp -implicitDefEqProofs (disch := omega) only [go_sem, ht, eq_self])
        exact end_own2 (mk := fun p q => .tup [p, q, .val (.bool true)]) (by simp -implicitDefEqProofs (disch := omega) only [go_sem, ht, eq_self] <;> rfl) (by omega) (by simp -implicitDefEqProofs (disch := omega) only [go_sem, ht, eq_self] <;> rfl) (by simp -implicitDefEqProofs (disch := omega) only [go_sem, ht, eq_self] <;> rfl) (by simp <;> omega) (by simp <;> omega) (by simp <;> omega) (by simp <;> omega)
      · have h2 := D_two (n := V ys) (by omega)
        (refine pCall_view (by simp -implicitDefEqProofs (disch := omega) only [go_sem, ht, eq_self] <;> rfl) (by simp -implicitDefEqProofs (disch := omega) only [go_sem, ht, eq_self]) (by first | (apply Or.inl; simp -implicitDefEqProofs (disch := omega) only [go_sem, ht, eq_self]; done) | (apply Or.inr; rintro r rfl; rfl)) (short_calls hx) ?_; rintro _ nx - rfl hnx; (try simp only [put_nx, withH_nx, begP_nx] at hnx); simp -implicitDefEqProofs (disch := omega) only [go_sem, ht, eq_self])
        (refine pCall_view (by simp -implicitDefEqProofs (disch := omega) only [go_sem, ht, eq_self] <;> rfl) (by simp -implicitDefEqProofs (disch := omega) only [go_sem, ht, eq_self]) (by first | (apply Or.inl; simp -implicitDefEqProofs (disch := omega) only [go_sem, ht, eq_self]; done) | (apply Or.inr; rintro r rfl; rfl)) (short_calls hy) ?_; rintro _ nx - rfl hnx; (try simp only [put_nx, withH_nx, begP_nx] at hnx); simp -implicitDefEqProofs (disch := omega) only [go_sem, ht, eq_self])
        (refine pCall_view (by simp -implicitDefEqProofs (disch := omega) only [go_sem, ht, eq_self] <;> rfl) (by simp -implicitDefEqProofs (disch := omega) only [go_sem, ht, eq_self]) (by first | (apply Or.inl; simp -implicitDefEqProofs (disch := omega) only [go_sem, ht, eq_self]; done) | (apply Or.inr; rintro r rfl; rfl)) (hcm) ?_; rintro _ nx - rfl hnx; (try simp only [put_nx, withH_nx, begP_nx] at hnx); simp -implicitDefEqProofs (disch := omega) only [go_sem, ht, eq_self])
        (refine pCall_own2 (mk := fun p q => .tup [p, q]) (mk_ll) (by simp -implicitDefEqProofs (disch := omega) only [go_sem, ht, eq_self] <;> rfl) (by simp -implicitDefEqProofs (disch := omega) only [go_sem, ht, eq_self]) (closedL_U _) (flatL_U _) (closedL_U _) (flatL_U _) (hlong (by omega) (by omega)) ?_; intro id1 cap1 rest1 jd1 dap1 sest1 nx1 hid1 hnx1 hjd1 hmx1 hne1 hcap1 hdap1; simp only [put_nx, withH_nx, begP_nx, List.length_map] at hid1 hjd1 hcap1 hdap1; simp -implicitDefEqProofs (disch := omega) only [go_sem, ht, eq_self])
        exact end_own2 (mk := fun p q => .tup [p, q, .val (.bool true)]) (by simp -implicitDefEqProofs (disch := omega) only [go_sem, ht, eq_self] <;> rfl) (by omega) (by simp -implicitDefEqProofs (disch := omega) only [go_sem, ht, eq_self] <;> rfl) (by simp -implicitDefEqProofs (disch := omega) only [go_sem, ht, eq_self] <;> rfl) (by simp <;> omega) (by simp <;> omega) (by simp <;> omega) (by simp <;> omega)
theorem divmod_of {xs ys : List Nat} (hx : Ok xs) (hy : Ok ys)
    (hlong : 4294967296 ≤ V ys → V ys ≤ V xs → PO2 Try.prog 127 [SU (D (V xs)), SU (D (V ys))] (fun p q => .tup [p, q]) ((D (V xs / V ys)).map U) ((D (V xs % V ys)).map U)) :
    PT Try.prog 104 [SU xs, SU ys] (isV (divP (V xs) (V ys))) := by
  have := PO2.tree (mk_llv _) (flatL_U _) (flatL_U _) (divmod_own_of hx hy hlong)
  simpa [divP, SU_def] using this
end Go.Proofs.Ytfjdfnlkobeehaa

namespace Go.Proofs.Ytfjdfnlkobeehaa

theorem V_set {zs : List Nat} {k v : Nat} (h : k < zs.length) : V (zs.set k v) + 4294967296 ^ k * zs.getD k 0 = V zs + 4294967296 ^ k * v := by
  induction zs generalizing k with
  | nil => simp at h
  | cons z zs ih =>
    cases k with
    | zero => simp [V]; omega
    | succ k =>
      have := ih (k := k) (by simpa using h)
      simp only [List.set_cons_succ, V, Nat.pow_succ, List.getD_cons_succ]
      have h2 : 4294967296 * (V (zs.set k v) + 4294967296 ^ k * zs.getD k 0) = 4294967296 * (V zs + 4294967296 ^ k * v) := by rw [this]
      rw [Nat.mul_add, Nat.mul_add, ← Nat.mul_assoc, ← Nat.mul_assoc, Nat.mul_comm 4294967296 (4294967296 ^ k)] at h2
      omega
theorem V_set_take {zs : List Nat} {k n v : Nat} (h : k < n) (hn : n ≤ zs.length) : V ((zs.set k v).take n) + 4294967296 ^ k * zs.getD k 0 = V (zs.take n) + 4294967296 ^ k * v := by
  have := V_set (zs := zs.take n) (k := k) (v := v) (by simp; omega)
  rw [← List.take_set, List.getD_eq_getElem?_getD, List.getElem?_take, if_pos h, ← List.getD_eq_getElem?_getD] at this
  exact this
theorem mul_step {zs vs : List Nat} {A x y c i j m P : Nat} (hm : j < m) (hz : i + m ≤ zs.length) (hv : V (vs.take (j + 1)) = V (vs.take j) + 4294967296 ^ j * y) (h : V (zs.take (i + m)) + 4294967296 ^ (i + j) * c = P + 4294967296 ^ i * (x * V (vs.take j))) :
    V ((zs.set (i + j) ((c + (x * y + zs.getD (i + j) 0)) % 4294967296)).take (i + m)) + 4294967296 ^ (i + (j + 1)) * ((c + (x * y + zs.getD (i + j) 0)) / 4294967296) = P + 4294967296 ^ i * (x * V (vs.take (j + 1))) := by
  have h1 := V_set_take (zs := zs) (k := i + j) (n := i + m) (v := (c + (x * y + zs.getD (i + j) 0)) % 4294967296) (by omega) hz
  generalize zs.getD (i + j) 0 = z at *
  have h2 := Nat.mod_add_div (c + (x * y + z)) 4294967296
  generalize (c + (x * y + z)) % 4294967296 = r at *
  generalize (c + (x * y + z)) / 4294967296 = q at *
  have h3 : 4294967296 ^ (i + j) * (r + 4294967296 * q) = 4294967296 ^ (i + j) * (c + (x * y + z)) := by rw [h2]
  have h4 : 4294967296 ^ i * (x * V (vs.take (j + 1))) = 4294967296 ^ i * (x * V (vs.take j)) + 4294967296 ^ (i + j) * (x * y) := by
    rw [hv, Nat.mul_add, Nat.mul_add, Nat.pow_add, Nat.mul_left_comm x, Nat.mul_assoc]
  rw [h4, ← Nat.add_assoc i j 1, Nat.pow_succ, Nat.mul_assoc]
  rw [Nat.mul_add, Nat.mul_add, Nat.mul_add] at h3
  omega
theorem mul_end {us zs : List Nat} {c i m W : Nat} (hi : i < us.length) (hz : i + m < zs.length) (h : V (zs.take (i + m)) + 4294967296 ^ (i + m) * c = V (us.take i) * W + 4294967296 ^ i * (us.getD i 0 * W)) :
    V ((zs.set (i + m) c).take (i + 1 + m)) = V (us.take (i + 1)) * W := by
  rw [Nat.add_right_comm, V_take_succ _ (by simpa using hz), List.take_set_of_le (Nat.le_refl _), List.getD_eq_getElem?_getD, List.getElem?_set_self hz, V_take_succ us hi, Nat.add_mul, Nat.mul_assoc, ← h]
  rfl

theorem mul_calls {xs ys : List Nat} (hx : Ok xs) (hy : Ok ys) : PL 48 [SU xs, SU ys] (D (V xs * V ys)) := by
  have hx' := hx.short
  have hy' := hy.short
  have hdx := V_D (V xs)
  have hdy := V_D (V ys)
  have := hx.short.len
  have := hy.short.len
  refine PCalls.enter (n := 79) (rs := [.tmp 4]) (tb := []) Try.func48 rfl rfl rfl (by kernel_rfl) (by kernel_rfl) (by simp) fun c hc ht => ?_
  simp -implicitDefEqProofs (disch := omega) only [go_sem, ht, eq_self]
  by_cases h0 : V xs = 0
  · have hl : (D (V xs)).length = 0 := D_len_zero.2 h0
    (refine pCall_view (by simp -implicitDefEqProofs (disch := omega) only [go_sem, ht, eq_self] <;> rfl) (by simp -implicitDefEqProofs (disch := omega) only [go_sem, ht, eq_self]) (by first | (apply Or.inl; simp -implicitDefEqProofs (disch := omega) only [go_sem, ht, eq_self]; done) | (apply Or.inr; rintro r rfl; rfl)) (short_calls hx) ?_; rintro _ nx - rfl hnx; (try simp only [put_nx, withH_nx, begP_nx] at hnx); simp -implicitDefEqProofs (disch := omega) only [go_sem, ht, eq_self])
    (refine pCall_view (by simp -implicitDefEqProofs (disch := omega) only [go_sem, ht, eq_self] <;> rfl) (by simp -implicitDefEqProofs (disch := omega) only [go_sem, ht, eq_self]) (by first | (apply Or.inl; simp -implicitDefEqProofs (disch := omega) only [go_sem, ht, eq_self]; done) | (apply Or.inr; rintro r rfl; rfl)) (short_calls hy) ?_; rintro _ nx - rfl hnx; (try simp only [put_nx, withH_nx, begP_nx] at hnx); simp -implicitDefEqProofs (disch := omega) only [go_sem, ht, eq_self])
    rw [h0, Nat.zero_mul, D_zero]
    exact end_own_nil mk_id (by simp -implicitDefEqProofs (disch := omega) only [go_sem, ht, eq_self])
  by_cases h1 : V ys = 0
  · have hl : (D (V ys)).length = 0 := D_len_zero.2 h1
    have hl2 := D_len_pos h0
    (refine pCall_view (by simp -implicitDefEqProofs (disch := omega) only [go_sem, ht, eq_self] <;> rfl) (by simp -implicitDefEqProofs (disch := omega) only [go_sem, ht, eq_self]) (by first | (apply Or.inl; simp -implicitDefEqProofs (disch := omega) only [go_sem, ht, eq_self]; done) | (apply Or.inr; rintro r rfl; rfl)) (short_calls hx) ?_; rintro _ nx - rfl hnx; (try simp only [put_nx, withH_nx, begP_nx] at hnx); simp -implicitDefEqProofs (disch := omega) only [go_sem, ht, eq_self])
    (refine pCall_view (by simp -implicitDefEqProofs (disch := omega) only [go_sem, ht, eq_self] <;> rfl) (by simp -implicitDefEqProofs (disch := omega) only [go_sem, ht, eq_self]) (by first | (apply Or.inl; simp -implicitDefEqProofs (disch := omega) only [go_sem, ht, eq_self]; done) | (apply Or.inr; rintro r rfl; rfl)) (short_calls hy) ?_; rintro _ nx - rfl hnx; (try simp only [put_nx, withH_nx, begP_nx] at hnx); simp -implicitDefEqProofs (disch := omega) only [go_sem, ht, eq_self])
    rw [h1, Nat.mul_zero, D_zero]
    exact end_own_nil mk_id (by simp -implicitDefEqProofs (disch := omega) only [go_sem, ht, eq_self])
  have hl0 := D_len_pos h0
  have hl1 := D_len_pos h1
  (refine pCall_view (by simp -implicitDefEqProofs (disch := omega) only [go_sem, ht, eq_self] <;> rfl) (by simp -implicitDefEqProofs (disch := omega) only [go_sem, ht, eq_self]) (by first | (apply Or.inl; simp -implicitDefEqProofs (disch := omega) only [go_sem, ht, eq_self]; done) | (apply Or.inr; rintro r rfl; rfl)) (short_calls hx) ?_; rintro _ nx - rfl hnx; (try simp only [put_nx, withH_nx, begP_nx] at hnx); simp -implicitDefEqProofs (disch := omega) only [go_sem, ht, eq_self])
  (refine pCall_view (by simp -implicitDefEqProofs (disch := omega) only [go_sem, ht, eq_self] <;> rfl) (by simp -implicitDefEqProofs (disch := omega) only [go_sem, ht, eq_self]) (by first | (apply Or.inl; simp -implicitDefEqProofs (disch := omega) only [go_sem, ht, eq_self]; done) | (apply Or.inr; rintro r rfl; rfl)) (short_calls hy) ?_; rintro _ nx - rfl hnx; (try simp only [put_nx, withH_nx, begP_nx] at hnx); simp -implicitDefEqProofs (disch := omega) only [go_sem, ht, eq_self])
  have e : V xs * V ys = V (D (V xs)) * V (D (V ys)) := by rw [hdx, hdy]
  rw [e]
  clear e
  generalize D (V xs) = us at *
  generalize D (V ys) = vs at *
  clear hx hy h0 h1 hdx hdy
  refine LW.loopW hc ht (by kernel_rfl) (fun s => s.sl 1 = .sl vs.length (vs.map U) ∧ s.sl 29 = .sl us.length (us.map U) ∧ s.sl 30 = .val (.int .i64 us.length) ∧ ∃ i : Nat, i ≤ us.length ∧ s.sl 31 = .val (.int .i64 i) ∧
      ∃ (zs : List Nat) (id : Nat), zs.length = us.length + vs.length ∧ s.sl 5 = .ref id 0 (us.length + vs.length) (us.length + vs.length) 1 ∧ s.H id = some (zs.map U) ∧ id < s.nx ∧ Lm zs ∧ Hide (V (zs.take (i + vs.length)) = V (us.take i) * V vs))
      (fun s => match s.sl 31 with | .val (.int _ i) => us.length - i.toNat | _ => 0) ?_ ?_
  · simp -implicitDefEqProofs (disch := omega) only [go_sem, ht, eq_self]
    exact ⟨0, Nat.zero_le _, rfl, List.replicate (us.length + vs.length) 0, nx, by simp, rfl, by rw [upd_self], by omega, Lm_repl _, Hide.mk (by rw [List.take_replicate, V_repl]; simp [V])⟩
  · rintro s ⟨h1, h29, h30, i, hi, h31, zs, id, hzl, h5, hH, hid, hzm, heq⟩
    by_cases hil : i = us.length
    · have e : V us * V vs = V zs := by
        have := heq.out
        rw [hil, ← hzl, List.take_length, List.take_length] at this
        exact this.symm
      rw [e]
      have := D_len_V hzm
      simp -implicitDefEqProofs (disch := omega) only [go_sem, ht, h1, h29, h30, h31, h5, hH, eq_self]
      (apply pCall_mem; exact (short_own (xs := zs) (rest := []) hzm hzl (by omega) (Nat.le_refl _) (by simp -implicitDefEqProofs (disch := omega) only [hH, List.map_nil, go_sem, ht, eq_self] <;> rfl)); rintro _ _ _ ⟨rfl, rfl, rfl⟩ -; simp -implicitDefEqProofs (disch := omega) only [hH, List.map_nil, go_sem, ht, eq_self])
      exact end_own1 (mk := fun p => p) (by simp -implicitDefEqProofs (disch := omega) only [hH, own_split' hzm, go_sem, ht, eq_self] <;> rfl) (by simp -implicitDefEqProofs (disch := omega) only [hH, own_split' hzm, go_sem, ht, eq_self] <;> rfl) (by simp <;> omega) (by simp <;> omega)
    · have hxg := hx'.lm.get i
      simp -implicitDefEqProofs (disch := omega) only [go_sem, ht, h1, h29, h30, h31, h5, hH, eq_self]
      refine LW.loopW hc ht (by kernel_rfl) (fun t => t.sl 1 = .sl vs.length (vs.map U) ∧ t.sl 6 = .val (.int .i64 i) ∧ t.sl 7 = .val (.int .u32 (us.getD i 0 : Nat)) ∧ t.sl 29 = .sl us.length (us.map U) ∧ t.sl 30 = .val (.int .i64 us.length) ∧ t.sl 31 = .val (.int .i64 i) ∧
        t.sl 36 = .sl vs.length (vs.map U) ∧ t.sl 37 = .val (.int .i64 vs.length) ∧ ∃ j : Nat, j ≤ vs.length ∧ t.sl 38 = .val (.int .i64 j) ∧
        ∃ (zs : List Nat) (id c : Nat), zs.length = us.length + vs.length ∧ t.sl 5 = .ref id 0 (us.length + vs.length) (us.length + vs.length) 1 ∧ t.H id = some (zs.map U) ∧ id < t.nx ∧ Lm zs ∧ t.sl 8 = .val (.int .u64 c) ∧ c < 4294967296 ∧
          Hide (V (zs.take (i + vs.length)) + 4294967296 ^ (i + j) * c = V (us.take i) * V vs + 4294967296 ^ i * (us.getD i 0 * V (vs.take j))))
        (fun t => match t.sl 38 with | .val (.int _ j) => vs.length - j.toNat | _ => 0) ?_ ?_
      · simp -implicitDefEqProofs (disch := omega) only [go_sem, ht, h1, h29, h30, h31, h5, hH, eq_self]
        exact ⟨0, Nat.zero_le _, rfl, zs, id, 0, hzl, rfl, hH, hid, hzm, rfl, by omega, Hide.mk (by rw [heq.out]; simp [V])⟩
      · clear h1 h29 h30 h5 hH hid hzm heq hzl zs id
        rintro t ⟨h1, h6, h7, h29, h30, h31', h36, h37, j, hj, h38, zs, id, c', hzl, h5, hH, hid, hzm, h8, hc', heq⟩
        have hset : ∀ k z, z < 4294967296 → Lm (zs.set k z) := fun k z hz x hx => by
          rcases List.mem_or_eq_of_mem_set hx with h | h
          · exact hzm x h
          · omega
        by_cases hjl : j = vs.length
        · have key : Hide (V ((zs.set (i + vs.length) c').take (i + 1 + vs.length)) = V (us.take (i + 1)) * V vs) := by
            have := heq.out
            rw [hjl, List.take_length] at this
            exact Hide.mk (mul_end (by omega) (by omega) this)
          clear heq
          simp -implicitDefEqProofs (disch := omega) only [go_sem, ht, h1, h6, h7, h29, h30, h31', h36, h37, h38, h5, hH, h8, eq_self]
          exact ⟨⟨i + 1, by omega, rfl, _, id, by simp [hzl], rfl, upd_self _ _ _, hid, hset _ _ hc', key⟩, by omega⟩
        · have hyg := hy'.lm.get j
          have hzg := hzm.get (i + j)
          have key := Hide.mk (mul_step (A := 0) (by omega : j < vs.length) (by omega) (V_take_succ vs (by omega)) heq.out)
          have hxy : us.getD i 0 * vs.getD j 0 ≤ 4294967295 * 4294967295 := Nat.mul_le_mul (by omega) (by omega)
          clear heq
          simp -implicitDefEqProofs (disch := omega) only [go_sem, ht, h1, h6, h7, h29, h30, h31', h36, h37, h38, h5, hH, h8, eq_self]
          exact ⟨⟨j + 1, by omega, rfl, _, id, _, by simp [hzl], rfl, upd_self _ _ _, hid, hset _ _ (Nat.mod_lt _ (by decide)), rfl, by omega, key⟩, by omega⟩
end Go.Proofs.Ytfjdfnlkobeehaa
end

section
set_option linter.unusedVariables false
set_option linter.unusedSimpArgs false
namespace Go.Proofs.Ytfjdfnlkobeehaa

def PS.withIt (st : PS) (it : Nat → Option (ByteArray × Nat)) : PS := { st with it := it }
theorem withIt_sl (st : PS) (it : Nat → Option (ByteArray × Nat)) : (st.withIt it).sl = st.sl := rfl
theorem withIt_H (st : PS) (it : Nat → Option (ByteArray × Nat)) : (st.withIt it).H = st.H := rfl
theorem withIt_nx (st : PS) (it : Nat → Option (ByteArray × Nat)) : (st.withIt it).nx = st.nx := rfl
theorem withIt_it (st : PS) (it : Nat → Option (ByteArray × Nat)) : (st.withIt it).it = it := rfl

def nextO (st : PS) (id : Nat) (K : PV → PS → Prop) (o : Option (ByteArray × Nat)) : Prop :=
  ∃ s pos, o = some (s, pos) ∧
    ((pos < s.size → K (.tup [.val (.bool true), .val (.int .i64 pos), .val (.int .i32 (Utf8.decode s pos).1)]) { st with it := upd st.it id (some (s, pos + (Utf8.decode s pos).2)) }) ∧
     (s.size ≤ pos → K (.tup [.val (.bool false)]) st))
theorem pNext_ptr (st : PS) (id : Nat) (K : PV → PS → Prop) : pNext st (.ptr id 0) K = nextO st id K (st.it id) := by
  unfold pNext nextO
  apply propext
  constructor
  · rintro ⟨i, e, h⟩
    cases e
    exact h
  · intro h; exact ⟨id, rfl, h⟩
theorem nextO_lt {st : PS} {id : Nat} {K : PV → PS → Prop} {s : ByteArray} {pos : Nat} (h : pos < s.size) :
    nextO st id K (some (s, pos)) = K (.tup [.val (.bool true), .val (.int .i64 pos), .val (.int .i32 (Utf8.decode s pos).1)]) (st.withIt (upd st.it id (some (s, pos + (Utf8.decode s pos).2)))) := by
  unfold nextO
  apply propext
  constructor
  · rintro ⟨s', p', e, h1, _⟩
    cases e
    exact h1 h
  · intro hk
    exact ⟨s, pos, rfl, fun _ => hk, fun h' => absurd h' (Nat.not_le.2 h)⟩
theorem nextO_ge {st : PS} {id : Nat} {K : PV → PS → Prop} {s : ByteArray} {pos : Nat} (h : s.size ≤ pos) :
    nextO st id K (some (s, pos)) = K (.tup [.val (.bool false)]) st := by
  unfold nextO
  apply propext
  constructor
  · rintro ⟨s', p', e, _, h1⟩
    cases e
    exact h1 h
  · intro hk
    exact ⟨s, pos, rfl, fun h' => absurd h (Nat.not_le.2 h'), fun _ => hk⟩
@[congr] theorem nextO_congr {st : PS} {id : Nat} {K : PV → PS → Prop} {o o' : Option (ByteArray × Nat)} (h : o = o') : nextO st id K o = nextO st id K o' := by rw [h]
attribute [go_sem] withIt_sl withIt_H withIt_nx withIt_it pNext_ptr nextO_lt nextO_ge
end Go.Proofs.Ytfjdfnlkobeehaa
end

section
set_option maxRecDepth 100000
set_option linter.unusedVariables false
set_option linter.unusedSimpArgs false
namespace Go.Proofs.Ytfjdfnlkobeehaa

section
variable {f s lo t u2 wl P g r W Z : Nat}

theorem guess_top (hP : 0 < P) (hZ : Z = (f * 4294967296 + s) * P + lo) (hW : W = (t * 4294967296 + u2) * P + wl) (hs : s < 4294967296) (hlo : lo < P) (h : W < 4294967296 * Z) : t < 4294967296 * f + 4294967296 := by
  have h1 : t * 4294967296 * P ≤ W := by rw [hW, Nat.add_mul]; omega
  have h2 : Z ≤ (f + 1) * 4294967296 * P := by
    have : (f * 4294967296 + s + 1) * P ≤ (f + 1) * 4294967296 * P := Nat.mul_le_mul_right _ (by omega)
    rw [Nat.add_mul _ 1, Nat.one_mul] at this
    omega
  have h3 : t * 4294967296 * P < 4294967296 * (f + 1) * (4294967296 * P) := by
    have : 4294967296 * Z ≤ 4294967296 * ((f + 1) * 4294967296 * P) := Nat.mul_le_mul_left _ h2
    rw [Nat.mul_assoc, Nat.mul_assoc 4294967296]
    rw [Nat.mul_assoc (f + 1)] at this
    rw [Nat.mul_assoc t] at h1
    omega
  rw [Nat.mul_assoc] at h3
  have h4 := Nat.lt_of_mul_lt_mul_right h3
  omega

theorem guess_first (hP : 0 < P) (hf : 0 < f) (hZ : Z = (f * 4294967296 + s) * P + lo) (hW : W = (t * 4294967296 + u2) * P + wl) (hu2 : u2 < 4294967296) (hwl : wl < P) : W / Z ≤ t / f := by
  rw [Nat.le_div_iff_mul_le hf]
  have h0 : W / Z * Z ≤ W := Nat.div_mul_le_self W Z
  generalize W / Z = q at *
  rcases Nat.lt_or_ge t (q * f) with h | h
  · exfalso
    have h1 : (t + 1) * (4294967296 * P) ≤ q * f * (4294967296 * P) := Nat.mul_le_mul_right _ h
    have h2 : q * f * (4294967296 * P) ≤ q * Z := by
      rw [Nat.mul_assoc]
      refine Nat.mul_le_mul_left _ ?_
      rw [hZ, Nat.add_mul, Nat.mul_assoc]; omega
    have h3 : W < (t + 1) * (4294967296 * P) := by
      have : (t * 4294967296 + u2 + 1) * P ≤ (t + 1) * 4294967296 * P := Nat.mul_le_mul_right _ (by omega)
      rw [Nat.add_mul _ 1, Nat.one_mul] at this
      rw [← Nat.mul_assoc]
      omega
    omega
  · exact h

theorem guess_again (hP : 0 < P) (hZ : Z = (f * 4294967296 + s) * P + lo) (hW : W = (t * 4294967296 + u2) * P + wl) (hwl : wl < P) (hb : W < 4294967296 * Z) (hq : W / Z ≤ g) (hg : g * f + r = t)
    (h : 4294967296 ≤ g ∨ r * 4294967296 + u2 < g * s) : W / Z < g := by
  have hZ0 : 0 < Z := by rcases Nat.eq_zero_or_pos Z with h | h; subst h; omega; exact h
  have hqB : W / Z < 4294967296 := (Nat.div_lt_iff_lt_mul hZ0).2 hb
  rcases h with h | h
  · omega
  · rcases Nat.lt_or_ge (W / Z) g with h1 | h1
    · exact h1
    · exfalso
      have e : W / Z = g := by omega
      have h0 : W / Z * Z ≤ W := Nat.div_mul_le_self W Z
      rw [e] at h0
      have h2 : (t * 4294967296 + u2 + 1) * P ≤ g * Z := by
        have : (t * 4294967296 + u2 + 1) * P ≤ (g * (f * 4294967296 + s)) * P := by
          refine Nat.mul_le_mul_right _ ?_
          rw [Nat.mul_add, ← Nat.mul_assoc, ← hg, Nat.add_mul]
          omega
        refine Nat.le_trans this ?_
        rw [Nat.mul_assoc]
        have h5 : (f * 4294967296 + s) * P ≤ Z := by rw [hZ]; exact Nat.le_add_right _ _
        exact Nat.mul_le_mul_left g h5
      rw [Nat.add_mul _ 1, Nat.one_mul] at h2
      omega

theorem guess_done (hP : 0 < P) (hf : 0 < f) (hZ : Z = (f * 4294967296 + s) * P + lo) (hW : W = (t * 4294967296 + u2) * P + wl) (hs : s < 4294967296) (hlo : lo < P) (hg : g * f + r = t) (hg' : g < 4294967296)
    (h : 4294967296 ≤ r ∨ g * s ≤ r * 4294967296 + u2) : g ≤ W / Z + 1 := by
  have hZP : 4294967296 * P ≤ Z := by
    have : 1 * 4294967296 * P ≤ f * 4294967296 * P := Nat.mul_le_mul_right _ (Nat.mul_le_mul_right _ hf)
    rw [hZ, Nat.add_mul]; omega
  have hZ0 : 0 < Z := by omega
  rcases Nat.eq_zero_or_pos g with h0 | h0
  · rw [h0]; exact Nat.zero_le _
  obtain ⟨k, rfl⟩ : ∃ k, g = k + 1 := ⟨g - 1, by omega⟩
  refine Nat.succ_le_succ ?_
  rw [Nat.le_div_iff_mul_le hZ0]
  rcases h with h | h
  · have h1 : (k + 1) * Z ≤ W := by
      have : (k + 1) * Z ≤ (k + 1) * ((f * 4294967296 + 4294967296) * P) := by
        refine Nat.mul_le_mul_left _ ?_
        have : (f * 4294967296 + s + 1) * P ≤ (f * 4294967296 + 4294967296) * P := Nat.mul_le_mul_right _ (by omega)
        rw [Nat.add_mul _ 1, Nat.one_mul] at this
        omega
      refine Nat.le_trans this ?_
      rw [← Nat.mul_assoc]
      have h2 : (k + 1) * (f * 4294967296 + 4294967296) * P ≤ t * 4294967296 * P := by
        refine Nat.mul_le_mul_right _ ?_
        rw [Nat.mul_add, ← Nat.mul_assoc, ← hg, Nat.add_mul]
        omega
      have h3 : t * 4294967296 * P ≤ W := by rw [hW, Nat.add_mul, Nat.add_assoc]; exact Nat.le_add_right _ _
      exact Nat.le_trans h2 h3
    rw [Nat.add_mul] at h1
    omega
  · have h1 : (k + 1) * Z ≤ (t * 4294967296 + u2) * P + (k + 1) * lo := by
      rw [hZ, Nat.mul_add, ← Nat.mul_assoc]
      refine Nat.add_le_add_right (Nat.mul_le_mul_right _ ?_) _
      rw [Nat.mul_add, ← Nat.mul_assoc, ← hg, Nat.add_mul _ r]
      omega
    have h2 : (k + 1) * lo ≤ 4294967296 * P := Nat.mul_le_mul (by omega) (by omega)
    rw [Nat.add_mul k, Nat.one_mul] at h1
    omega
end


theorem take_sub {u v b : Nat} (hu : u < 4294967296) (hv : v < 4294967296) (hb : b ≤ 1) : ∃ z b' : Nat, z < 4294967296 ∧ b' ≤ 1 ∧ (((u : Int) - v) % 18446744073709551616 - b) % 18446744073709551616 % 4294967296 = z ∧
    (((u : Int) - v) % 18446744073709551616 - b) % 18446744073709551616 / 9223372036854775808 = b' ∧ z + v + b = u + 4294967296 * b' := by
  by_cases h : v + b ≤ u
  · exact ⟨u - v - b, 0, by omega, by omega, by omega, by omega, by omega⟩
  · exact ⟨u + 4294967296 - v - b, 1, by omega, by omega, by omega, by omega, by omega⟩


theorem seg_succ {zs : List Nat} {off i : Nat} (h : off + i < zs.length) : V ((zs.drop off).take (i + 1)) = V ((zs.drop off).take i) + 4294967296 ^ i * zs.getD (off + i) 0 := by
  rw [V_take_succ _ (by simp; omega)]
  congr 2
  rw [List.getD_eq_getElem?_getD, List.getElem?_drop, ← List.getD_eq_getElem?_getD]
theorem seg_set {zs : List Nat} {off i x : Nat} (h : off + i < zs.length) : V (((zs.set (off + i) x).drop off).take (i + 1)) = V ((zs.drop off).take i) + 4294967296 ^ i * x := by
  rw [seg_succ (by simpa using h), List.getD_eq_getElem?_getD, List.getElem?_set_self h]
  congr 2
  rw [List.drop_set, if_neg (by omega), Nat.add_sub_cancel_left, List.take_set_of_le (Nat.le_refl _)]
theorem getD_of_drop {zs ws : List Nat} {k : Nat} (h : zs.drop k = ws.drop k) : zs.getD k 0 = ws.getD k 0 := by
  have := congrArg (fun l => l[0]?) h
  simp only [List.getElem?_drop, Nat.add_zero] at this
  rw [List.getD_eq_getElem?_getD, List.getD_eq_getElem?_getD, this]
theorem drop_set_succ {zs ws : List Nat} {k x : Nat} (h : zs.drop k = ws.drop k) : (zs.set k x).drop (k + 1) = ws.drop (k + 1) := by
  rw [List.drop_set_of_lt (Nat.lt_succ_self k)]
  have := congrArg (List.drop 1) h
  simpa only [List.drop_drop] using this
theorem take_step {g v c b y z b' Sw Sv Su P : Nat} (hi : Sw + g * Sv = Su + P * (c + b)) (hz : z + (c + g * v) % 4294967296 + b = y + 4294967296 * b') :
    (Sw + P * z) + g * (Sv + P * v) = (Su + P * y) + (P * 4294967296) * ((c + g * v) / 4294967296 + b') := by
  have h2 := Nat.mod_add_div (c + g * v) 4294967296
  generalize (c + g * v) % 4294967296 = r at *
  generalize (c + g * v) / 4294967296 = q at *
  have h3 : P * (z + r + b) = P * (y + 4294967296 * b') := by rw [hz]
  have h4 : P * (r + 4294967296 * q) = P * (c + g * v) := by rw [h2]
  rw [Nat.mul_add g, Nat.mul_left_comm g P v, Nat.mul_add (P * 4294967296), Nat.mul_assoc P, Nat.mul_assoc P]
  simp only [Nat.mul_add] at h3 h4 hi
  omega
theorem take_end0 {S g Z W : Nat} (hZ : 0 < Z) (h : S + g * Z = W) (h2 : W / Z ≤ g) : W / Z = g ∧ S = W % Z := by
  have h1 : g ≤ W / Z := by rw [Nat.le_div_iff_mul_le hZ]; omega
  have e : W / Z = g := by omega
  have := Nat.div_add_mod W Z
  rw [e, Nat.mul_comm] at this
  exact ⟨e, by omega⟩
theorem take_end1 {S g Z W BB F e : Nat} (hZ : 0 < Z) (hZB : Z ≤ BB) (h : S + g * Z = W + BB) (hS : S < BB) (hg : g ≤ W / Z + 1) (hF : F < BB) (hf : F + BB * e = S + Z) : W / Z = g - 1 ∧ 0 < g ∧ F = W % Z := by
  have h1 : W < g * Z := by omega
  have h2 : W / Z < g := (Nat.div_lt_iff_lt_mul hZ).2 h1
  have hm := Nat.mod_lt W hZ
  have hd := Nat.div_add_mod W Z
  generalize W / Z = q at *
  generalize W % Z = p at *
  have eg : g = q + 1 := by omega
  rw [eg, Nat.add_mul, Nat.one_mul, Nat.mul_comm q] at h
  have h3 : F + BB * e = p + BB := by omega
  have he : e = 1 := by
    rcases Nat.lt_trichotomy e 1 with h | h | h
    · have : e = 0 := by omega
      subst this; omega
    · exact h
    · have : BB * 2 ≤ BB * e := Nat.mul_le_mul_left _ h
      omega
  subst he
  exact ⟨by omega, by omega, by omega⟩
theorem upd_upd {α : Type} (f : Nat → α) (i : Nat) (x y : α) : upd (upd f i x) i y = upd f i y := by
  funext j; unfold upd; split <;> rfl
theorem upd_id {α : Type} {f : Nat → α} {i : Nat} {x : α} (h : f i = x) : upd f i x = f := by
  funext j; unfold upd; split
  · rename_i e; subst e; exact h.symm
  · rfl
attribute [go_sem] upd_upd
theorem frzL_U (D : Nat → Bool) (H : Nat → Option (List PV)) (d : Nat) (xs : List Nat) : (xs.map U).mapM (Ytfjdfnlkobeehaa.frz D H d) = some (xs.map U) := frzL_flat D H d (flatL_U xs)
attribute [go_sem] frzL_U

theorem arith1 {a P W Z Y N B : Nat} (h : a + P * W + Z * (P * B * Y) = N) : a + P * (W % Z) + Z * (P * (W / Z + B * Y)) = N := by
  have h7 := Nat.div_add_mod W Z
  generalize W / Z = q at *
  generalize W % Z = r at *
  subst h7
  rw [← h, Nat.mul_add P, Nat.mul_add P, Nat.mul_add Z, Nat.mul_left_comm Z P q, Nat.mul_assoc P B Y]
  omega
theorem arith2 {P B a b c d x1 x0 u2 : Nat} (hb : b = u2 + B * c) (hc : c = x0 + B * d) (hd : d = x1 + B * 0) : a + P * b = ((x1 * B + x0) * B + u2) * P + a := by
  rw [Nat.mul_zero, Nat.add_zero] at hd
  rw [hb, hc, hd, Nat.add_comm a, Nat.mul_comm P, Nat.mul_comm x1, Nat.mul_comm _ B, Nat.add_comm x0, Nat.add_comm u2]
theorem arith3 {P B a b c x0 u2 : Nat} (hb : b = u2 + B * c) (hc : c = x0 + B * 0) : a + P * b = (x0 * B + u2) * P + a := by
  rw [Nat.mul_zero, Nat.add_zero] at hc
  rw [hb, hc, Nat.add_comm a, Nat.mul_comm P, Nat.mul_comm x0, Nat.add_comm u2]
theorem arith4 {a t x y Z P Q : Nat} (h1 : a < 4294967296 * Z) (h2 : Z < P) (h3 : Q = P * 4294967296) (h4 : a = t + Q * x) : x = 0 ∧ a = t := by
  rcases Nat.eq_zero_or_pos x with h | h
  · subst h; exact ⟨rfl, by rw [h4, Nat.mul_zero, Nat.add_zero]⟩
  · have h5 : Q * 1 ≤ Q * x := Nat.mul_le_mul_left _ h
    generalize Q * x = y at *
    omega
theorem arith5 {a b x Z : Nat} (h1 : a = b + 4294967296 * x) (h2 : b < 4294967296) (h : x < Z) : a < 4294967296 * Z := by omega

theorem long_tail {ws : List Nat} {j m Z : Nat} (hj : j + (m + 1) ≤ ws.length) (hwm : Lm ws) (hZ : Z < 4294967296 ^ m) (h : V (ws.drop (j + 1)) < Z) :
    V (ws.drop (j + (m + 1))) = 0 ∧ V (ws.drop j) = V ((ws.drop j).take (m + 1)) ∧ V (ws.drop j) < 4294967296 * Z := by
  have h3 : V (ws.drop j) < 4294967296 * Z := arith5 (V_drop ws (i := j) (Nat.lt_of_lt_of_le (Nat.lt_add_of_pos_right (Nat.succ_pos m)) hj)) (hwm.get j) h
  have h4 := V_split (ws.drop j) (i := m + 1) (by rw [List.length_drop]; exact Nat.le_sub_of_add_le (Nat.add_comm _ _ ▸ hj))
  rw [List.drop_drop] at h4
  obtain ⟨h6, h7⟩ := arith4 (y := 0) h3 hZ (Nat.pow_succ ..) h4
  exact ⟨h6, h7, h3⟩
theorem long_step {ws w2 qs : List Nat} {j m Z N W : Nat} (hj : j + (m + 1) ≤ ws.length) (hl : w2.length = ws.length) (hq : j < qs.length) (hZ0 : 0 < Z)
    (hp : w2.take j = ws.take j) (hd : w2.drop (j + (m + 1)) = ws.drop (j + (m + 1))) (hv : V ((w2.drop j).take (m + 1)) = W % Z) (h0 : V (ws.drop (j + (m + 1))) = 0) (hW : V (ws.drop j) = W)
    (h : V ws + Z * (4294967296 ^ (j + 1) * V (qs.drop (j + 1))) = N) :
    V w2 + Z * (4294967296 ^ j * V ((qs.set j (W / Z)).drop j)) = N ∧ V (w2.drop j) < Z := by
  have h1 := V_split ws (i := j) (by omega)
  have h2 := V_split w2 (i := j) (by omega)
  have h4 := V_split (w2.drop j) (i := m + 1) (by simp; omega)
  rw [List.drop_drop, hd, h0, hv, Nat.mul_zero, Nat.add_zero] at h4
  have h6 : V ((qs.set j (W / Z)).drop j) = W / Z + 4294967296 * V (qs.drop (j + 1)) := V_set_drop hq
  refine ⟨?_, by rw [h4]; exact Nat.mod_lt _ hZ0⟩
  rw [h4, hp] at h2
  rw [hW] at h1
  rw [Nat.pow_succ, h1] at h
  rw [h6, h2]
  exact arith1 h
theorem guess_parts {ws : List Nat} {j m : Nat} (hm : 2 ≤ m) (hj : j + (m + 1) ≤ ws.length) (h0 : V (ws.drop (j + (m + 1))) = 0) :
    V (ws.drop j) = ((ws.getD (j + m) 0 * 4294967296 + ws.getD (j + m - 1) 0) * 4294967296 + ws.getD (j + m - 2) 0) * 4294967296 ^ (m - 2) + V ((ws.drop j).take (m - 2)) := by
  have h1 := V_split (ws.drop j) (i := m - 2) (by simp; omega)
  rw [List.drop_drop] at h1
  have h2 := V_drop ws (i := j + (m - 2)) (by omega)
  have h3 := V_drop ws (i := j + (m - 2) + 1) (by omega)
  have h4 := V_drop ws (i := j + (m - 2) + 1 + 1) (by omega)
  have e1 : j + (m - 2) = j + m - 2 := by omega
  have e2 : j + (m - 2) + 1 = j + m - 1 := by omega
  have e3 : j + (m - 2) + 1 + 1 = j + m := by omega
  have e4 : j + (m - 2) + 1 + 1 + 1 = j + (m + 1) := by omega
  rw [e4, h0] at h4
  rw [e3] at h4 h3
  rw [e2] at h3 h2
  rw [e1] at h2 h1
  rw [h1]
  exact arith2 h2 h3 h4
theorem div_parts {v : List Nat} {m : Nat} (hm : 2 ≤ m) (hl : v.length = m) : V v = (v.getD (m - 1) 0 * 4294967296 + v.getD (m - 2) 0) * 4294967296 ^ (m - 2) + V (v.take (m - 2)) := by
  have h1 := V_split v (i := m - 2) (by omega)
  have h2 := V_drop v (i := m - 2) (by omega)
  have h3 := V_drop v (i := m - 2 + 1) (by omega)
  have e2 : m - 2 + 1 = m - 1 := by omega
  have e3 : m - 2 + 1 + 1 = m := by omega
  have e4 : v.drop m = [] := by rw [← hl, List.drop_length]
  rw [e3, e4, V_nil] at h3
  rw [e2] at h3 h2
  rw [h1]
  exact arith3 h2 h3
end Go.Proofs.Ytfjdfnlkobeehaa

namespace Go.Proofs.Ytfjdfnlkobeehaa


def takeQ (H : Nat → Option (List PV)) (nx id off m Z W : Nat) (zs : List Nat) (l : List PV) (r : PV) (H' : Nat → Option (List PV)) (nx' : Nat) : Prop :=
  ∃ ws : List Nat, ws.length = zs.length ∧ Lm ws ∧ ws.take off = zs.take off ∧ ws.drop (off + (m + 1)) = zs.drop (off + (m + 1)) ∧ V ((ws.drop off).take (m + 1)) = W % Z ∧
    r = .val (.int .u32 (W / Z : Nat)) ∧ H' = upd H id (some (ws.map U ++ l)) ∧ nx' = nx

theorem take_calls {H : Nat → Option (List PV)} {nx id off m cap g W : Nat} {zs vs : List Nat} {l : List PV} (hvs : Lm vs) (hm : vs.length = m) (hzs : Lm zs) (hoff : off + (m + 1) ≤ zs.length) (hlen : zs.length ≤ 4398046511104)
    (hcap : m + 1 ≤ cap) (hH : H id = some (zs.map U ++ l)) (hW : V ((zs.drop off).take (m + 1)) = W) (hZ : 0 < V vs) (hg : g < 4294967296) (hg1 : W / V vs ≤ g) (hg2 : g ≤ W / V vs + 1) :
    PCalls Try.prog 139 [.ref id off (m + 1) cap 1, SU vs, .val (.int .u64 g)] H nx (takeQ H nx id off m (V vs) W zs l) := by
  subst hm
  refine PCalls.enter (n := 107) (rs := [.tmp 6]) (tb := [(19, [(0, []), (1, []), (2, []), (3, []), (4, []), (5, []), (6, []), (7, []), (8, []), (9, []), (10, []), (11, []), (12, []), (13, [])]), (1000019, [(0, []), (0, []), (0, []), (6, []), (14, []), (30, []), (0, []), (0, []), (192, []), (448, []), (960, []), (2046, []), (4095, []), (8191, [])])]) Try.func139 rfl rfl rfl (by kernel_rfl) (by kernel_rfl) (by simp) fun c hc ht => ?_
  simp -implicitDefEqProofs (disch := omega) only [go_sem, ht, eq_self]
  refine LW.loopW hc ht (by kernel_rfl) (fun t => t.sl 0 = .ref id off (vs.length + 1) cap 1 ∧ t.sl 1 = .sl vs.length (vs.map U) ∧ t.sl 2 = .val (.int .u64 g) ∧ t.sl 13 = .sl vs.length (vs.map U) ∧ t.sl 14 = .val (.int .i64 vs.length) ∧ ∃ i : Nat, i ≤ vs.length ∧ t.sl 15 = .val (.int .i64 i) ∧
      ∃ (ws : List Nat) (c b : Nat), ws.length = zs.length ∧ t.H = upd H id (some (ws.map U ++ l)) ∧ t.nx = nx ∧ Lm ws ∧ t.sl 7 = .val (.int .u64 c) ∧ c ≤ g - 1 ∧ t.sl 8 = .val (.int .u64 b) ∧ b ≤ 1 ∧ ws.take off = zs.take off ∧ ws.drop (off + i) = zs.drop (off + i) ∧
        Hide (V ((ws.drop off).take i) + g * V (vs.take i) = V ((zs.drop off).take i) + 4294967296 ^ i * (c + b)))
      (fun t => match t.sl 15 with | .val (.int _ i) => vs.length - i.toNat | _ => 0) ?_ ?_
  · simp -implicitDefEqProofs (disch := omega) only [go_sem, ht, eq_self]
    exact ⟨0, Nat.zero_le _, rfl, zs, 0, 0, rfl, (upd_id hH).symm, hzs, rfl, by omega, rfl, by omega, rfl, rfl, Hide.mk (by simp [V])⟩
  · rintro t ⟨h0, h1, h2, h13, h14, i, hi, h15, ws, c', b, hwl, eH, en, hwm, h7, hc', h8, hb, hpre, hpost, heq⟩
    have hset : ∀ k z, z < 4294967296 → Lm (ws.set k z) := fun k z hz x hx => by
      rcases List.mem_or_eq_of_mem_set hx with h | h
      · exact hwm x h
      · omega
    have hu := hwm.get (off + i)
    by_cases hil : i = vs.length
    · have hq := heq.out
      clear heq
      rw [hil, List.take_length] at hq
      obtain ⟨z, b', hz, hb', e1, e2, e3⟩ := take_sub hu (show c' < 4294967296 by omega) hb
      have e4 : V (((ws.set (off + i) z).drop off).take (i + 1)) + g * V vs = W + 4294967296 ^ (i + 1) * b' := by
        have hy := getD_of_drop hpost
        rw [seg_set (by omega), ← hW, ← hil, seg_succ (by omega), ← hy, Nat.pow_succ, Nat.mul_assoc, hil]
        rw [hil] at e3
        have : 4294967296 ^ vs.length * (z + c' + b) = 4294967296 ^ vs.length * (ws.getD (off + vs.length) 0 + 4294967296 * b') := by rw [e3]
        simp only [Nat.mul_add] at this hq ⊢
        omega
      have hp1 : (ws.set (off + i) z).take off = zs.take off := by rw [List.take_set_of_le (by omega), hpre]
      have hp2 : (ws.set (off + i) z).drop (off + (i + 1)) = zs.drop (off + (i + 1)) := drop_set_succ hpost
      subst hil
      by_cases hb0 : b' = 0
      · have e5 : V (((ws.set (off + vs.length) z).drop off).take (vs.length + 1)) + g * V vs = W := by rw [e4, hb0, Nat.mul_zero, Nat.add_zero]
        clear e4
        have ez : ws.getD (off + vs.length) 0 - c' - b = z := by omega
        rw [hb0] at e2
        obtain ⟨q1, q2⟩ := take_end0 hZ e5 hg1
        have q2 := Hide.mk q2
        clear e5 hq hg1 hg2 hW
        simp -implicitDefEqProofs (disch := omega) only [go_sem, ht, h0, h1, h2, h13, h14, h15, h7, h8, eH, e1, e2, ez, eq_self]
        refine end_plain (by simp -implicitDefEqProofs (disch := omega) only [go_sem, ht, eq_self] <;> rfl) ?_
        simp only [tupP_1]
        simp -implicitDefEqProofs (disch := omega) only [go_sem, ht, eH, en, eq_self]
        exact ⟨_, by simp [hwl], hset _ _ hz, hp1, hp2, q2.out, by rw [q1], rfl, rfl⟩
      · have hb1 : b' = 1 := by omega
        have e5 : V (((ws.set (off + vs.length) z).drop off).take (vs.length + 1)) + g * V vs = W + 4294967296 ^ (vs.length + 1) := by rw [e4, hb1, Nat.mul_one]
        clear e4
        rw [hb1] at e2
        have e4 := Hide.mk e5
        clear e5
        clear hq hW hg1
        simp -implicitDefEqProofs (disch := omega) only [go_sem, ht, h0, h1, h2, h13, h14, h15, h7, h8, eH, e1, e2, eq_self]
        have hw1 := hset (off + vs.length) z hz
        have hl1 : (ws.set (off + vs.length) z).length = zs.length := by simp [hwl]
        generalize ws.set (off + vs.length) z = w1 at *
        clear hset hu e1 e2 e3 hpost hpre hwm h7 h8 h13 h14 h15 hc' hb
        refine LW.loopW hc ht (by kernel_rfl) (fun s => s.sl 0 = .ref id off (vs.length + 1) cap 1 ∧ s.sl 1 = .sl vs.length (vs.map U) ∧ s.sl 2 = .val (.int .u64 g) ∧ s.sl 69 = .sl vs.length (vs.map U) ∧ s.sl 70 = .val (.int .i64 vs.length) ∧ ∃ i : Nat, i ≤ vs.length ∧ s.sl 71 = .val (.int .i64 i) ∧
          ∃ (ws : List Nat) (c : Nat), ws.length = zs.length ∧ s.H = upd H id (some (ws.map U ++ l)) ∧ s.nx = nx ∧ Lm ws ∧ s.sl 7 = .val (.int .u64 c) ∧ c ≤ 1 ∧ ws.take off = zs.take off ∧ ws.drop (off + i) = w1.drop (off + i) ∧
            Hide (V ((ws.drop off).take i) + 4294967296 ^ i * c = V ((w1.drop off).take i) + V (vs.take i)))
          (fun s => match s.sl 71 with | .val (.int _ i) => vs.length - i.toNat | _ => 0) ?_ ?_
        · simp -implicitDefEqProofs (disch := omega) only [go_sem, ht, h0, h1, h2, eH, en, eq_self]
          exact ⟨0, Nat.zero_le _, rfl, w1, 0, hl1, rfl, hw1, rfl, by omega, hp1, rfl, Hide.mk (by simp [V])⟩
        · clear h0 h1 h2 eH en hwl ws t
          rintro t ⟨h0, h1, h2, h69, h70, i, hi, h71, ws, c', hwl, eH, en, hwm, h7, hc', hpre, hpost, heq⟩
          have hset : ∀ k z, z < 4294967296 → Lm (ws.set k z) := fun k z hz x hx => by
            rcases List.mem_or_eq_of_mem_set hx with h | h
            · exact hwm x h
            · omega
          have hu := hwm.get (off + i)
          by_cases hil : i = vs.length
          · subst hil
            have f1 : V (((ws.set (off + vs.length) ((ws.getD (off + vs.length) 0 + c') % 4294967296)).drop off).take (vs.length + 1)) + 4294967296 ^ (vs.length + 1) * ((ws.getD (off + vs.length) 0 + c') / 4294967296) = V ((w1.drop off).take (vs.length + 1)) + V vs := by
              have hy := getD_of_drop hpost
              have heq := heq.out
              rw [List.take_length] at heq
              rw [seg_set (by omega), seg_succ (zs := w1) (by omega), ← hy, Nat.pow_succ, Nat.mul_assoc, Nat.add_assoc, ← Nat.mul_add, Nat.mod_add_div, Nat.mul_add]
              omega
            have hZB : V vs ≤ 4294967296 ^ (vs.length + 1) := by
              have := V_lt hvs
              rw [Nat.pow_succ]; omega
            have hwm2 := hset (off + vs.length) _ (Nat.mod_lt (ws.getD (off + vs.length) 0 + c') (by decide))
            have hF : V (((ws.set (off + vs.length) ((ws.getD (off + vs.length) 0 + c') % 4294967296)).drop off).take (vs.length + 1)) < 4294967296 ^ (vs.length + 1) := by
              have := V_lt ((hwm2.drop off).take (vs.length + 1))
              rwa [List.length_take_of_le (by simp; omega)] at this
            have hS : V ((w1.drop off).take (vs.length + 1)) < 4294967296 ^ (vs.length + 1) := by
              have := V_lt ((hw1.drop off).take (vs.length + 1))
              rwa [List.length_take_of_le (by simp; omega)] at this
            obtain ⟨q1, q0, q2⟩ := take_end1 hZ hZB e4.out hS hg2 hF f1
            have q2 := Hide.mk q2
            have hp3 : (ws.set (off + vs.length) ((ws.getD (off + vs.length) 0 + c') % 4294967296)).take off = zs.take off := by rw [List.take_set_of_le (by omega), hpre]
            have hp4 : (ws.set (off + vs.length) ((ws.getD (off + vs.length) 0 + c') % 4294967296)).drop (off + (vs.length + 1)) = zs.drop (off + (vs.length + 1)) := (drop_set_succ hpost).trans hp2
            clear f1 hZB hF hS e4 heq hg2
            simp -implicitDefEqProofs (disch := omega) only [go_sem, ht, h0, h1, h2, h69, h70, h71, h7, eH, en, eq_self]
            refine end_plain (by simp -implicitDefEqProofs (disch := omega) only [go_sem, ht, eq_self] <;> rfl) ?_
            simp only [tupP_1]
            simp -implicitDefEqProofs (disch := omega) only [go_sem, ht, eH, en, eq_self]
            exact ⟨_, by simp [hwl], hwm2, hp3, hp4, q2.out, by rw [q1], rfl, rfl⟩
          · have hv := hvs.get i
            have key : Hide (V (((ws.set (off + i) ((c' + (ws.getD (off + i) 0 + vs.getD i 0)) % 4294967296)).drop off).take (i + 1)) + 4294967296 ^ (i + 1) * ((c' + (ws.getD (off + i) 0 + vs.getD i 0)) / 4294967296) = V ((w1.drop off).take (i + 1)) + V (vs.take (i + 1))) := by
              have hy := getD_of_drop hpost
              have heq := heq.out
              rw [seg_set (by omega), seg_succ (zs := w1) (by omega), V_take_succ vs (by omega), ← hy, Nat.pow_succ, Nat.mul_assoc, Nat.add_assoc, ← Nat.mul_add, Nat.mod_add_div, Nat.mul_add, Nat.mul_add]
              exact Hide.mk (by omega)
            have hp3 : (ws.set (off + i) ((c' + (ws.getD (off + i) 0 + vs.getD i 0)) % 4294967296)).take off = zs.take off := by rw [List.take_set_of_le (by omega), hpre]
            have hp4 : (ws.set (off + i) ((c' + (ws.getD (off + i) 0 + vs.getD i 0)) % 4294967296)).drop (off + (i + 1)) = w1.drop (off + (i + 1)) := drop_set_succ hpost
            clear heq hg2
            simp -implicitDefEqProofs (disch := omega) only [go_sem, ht, h0, h1, h2, h69, h70, h71, h7, eH, en, eq_self]
            exact ⟨⟨i + 1, by omega, rfl, _, _, by simp [hwl], rfl, hset _ _ (Nat.mod_lt _ (by decide)), rfl, by omega, hp3, hp4, key⟩, by omega⟩
    · have hv := hvs.get i
      have hgv : g * vs.getD i 0 ≤ g * 4294967295 := Nat.mul_le_mul_left _ (by omega)
      obtain ⟨z, b', hz, hb', e1, e2, e3⟩ := take_sub hu (show (c' + g * vs.getD i 0) % 4294967296 < 4294967296 from Nat.mod_lt _ (by decide)) hb
      have key : Hide (V (((ws.set (off + i) z).drop off).take (i + 1)) + g * V (vs.take (i + 1)) = V ((zs.drop off).take (i + 1)) + 4294967296 ^ (i + 1) * ((c' + g * vs.getD i 0) / 4294967296 + b')) := by
        have hy := getD_of_drop hpost
        rw [seg_set (by omega), seg_succ (zs := zs) (by omega), V_take_succ vs (by omega), Nat.pow_succ, ← hy]
        exact Hide.mk (take_step heq.out e3)
      have hp1 : (ws.set (off + i) z).take off = zs.take off := by rw [List.take_set_of_le (by omega), hpre]
      have hp2 : (ws.set (off + i) z).drop (off + (i + 1)) = zs.drop (off + (i + 1)) := drop_set_succ hpost
      clear heq hg1 hg2 hW e3
      simp -implicitDefEqProofs (disch := omega) only [go_sem, ht, h0, h1, h2, h13, h14, h15, h7, h8, eH, en, e1, e2, eq_self]
      exact ⟨⟨i + 1, by omega, rfl, _, _, _, by simp [hwl], rfl, hset _ _ hz, rfl, by omega, rfl, hb', hp1, hp2, key⟩, by omega⟩
end Go.Proofs.Ytfjdfnlkobeehaa

namespace Go.Proofs.Ytfjdfnlkobeehaa


def Bt (x : Nat) : PV := .val (.int .u8 x)
theorem Bt_def (x : Nat) : Bt x = .val (.int .u8 x) := rfl
theorem flatL_B (xs : List Nat) : flatL (xs.map Bt) = true := by
  induction xs with
  | nil => rfl
  | cons x xs ih => simp [flatL, flat, Bt, ih]
theorem oneP_B (xs : List Nat) : (xs.map Bt).all oneP = true := by
  induction xs with
  | nil => rfl
  | cons x xs ih => simp [oneP, Bt, Value.oneCell', ih]
theorem repl_B (n : Nat) : repl n [PV.val (.int .u8 0)] = (List.replicate n 0).map Bt := by rw [repl_one]; simp [Bt]
theorem get_B {xs : List Nat} {i : Nat} (l : List PV) (h : i < xs.length) : (xs.map Bt ++ l)[i]? = some (.val (.int .u8 (xs.getD i 0 : Nat))) := by
  rw [List.getElem?_append_left (by simpa using h)]
  simp [h, Bt]
theorem get_B' {xs : List Nat} {i : Nat} (h : i < xs.length) : (xs.map Bt)[i]? = some (.val (.int .u8 (xs.getD i 0 : Nat))) := by
  simp [h, Bt]
theorem set_B' {xs : List Nat} {i x : Nat} (h : i < xs.length) : spl (xs.map Bt) i [.val (.int .u8 (x : Nat))] = (xs.set i x).map Bt := by
  unfold spl
  simp only [List.length_singleton]
  rw [List.set_eq_take_append_cons_drop, if_pos h]
  simp [Bt]
theorem bytesP_B (ys : List Nat) : bytesP (ys.map Bt) = some (ys.map UInt8.ofNat) := by
  induction ys with
  | nil => rfl
  | cons y ys ih =>
    simp only [List.map_cons, Bt, bytesP] at ih ⊢
    simp [ih]
theorem convP_ref {P : Program} {H : Nat → Option (List PV)} {s d : TypeId} {id off n cap z : Nat} : convP P H s d (.ref id off n cap z) = if strT P d = true ∧ (elemT P s).bind (kindT P) = some .u8 then
    (H id).bind fun cs => if off + n ≤ cs.length then (bytesP ((cs.drop off).take n)).map fun l => .val (.string ⟨l.toArray⟩) else none else none := by
  simp only [convP]; cases H id <;> rfl
attribute [go_sem] flatL_B oneP_B get_B get_B' set_B' convP_ref Bt_def bytesP_B
attribute [go_sem low] repl_B


def unU : PV → Nat
  | .val (.int _ z) => z.toNat
  | _ => 0
theorem unU_U (xs : List Nat) : (xs.map U).map unU = xs := by
  induction xs with
  | nil => rfl
  | cons x xs ih => simpa [U, unU] using ih


end Go.Proofs.Ytfjdfnlkobeehaa

namespace Go.Proofs.Ytfjdfnlkobeehaa

theorem lz_calls {x : Nat} (hx : x < 4294967296) : PT Try.prog 137 [.val (.int .u32 x)] (isV (.val (.int .i64 (32 - bl x : Nat)))) := by
  have hb : bl x ≤ 32 := bl_le.2 hx
  refine PCalls.enter (n := 6) (rs := [.tmp 2]) (tb := []) Try.func137 rfl rfl rfl (by kernel_rfl) (by kernel_rfl) (by simp) fun c hc ht => ?_
  simp -implicitDefEqProofs (disch := omega) only [go_sem, ht, eq_self]
  (refine pCall_view (by simp -implicitDefEqProofs (disch := omega) only [go_sem, ht, eq_self] <;> rfl) (by simp -implicitDefEqProofs (disch := omega) only [go_sem, ht, eq_self]) (by first | (apply Or.inl; simp -implicitDefEqProofs (disch := omega) only [go_sem, ht, eq_self]; done) | (apply Or.inr; rintro r rfl; rfl)) (len32_calls hx) ?_; rintro _ nx - rfl hnx; (try simp only [put_nx, withH_nx, begP_nx] at hnx); simp -implicitDefEqProofs (disch := omega) only [go_sem, ht, eq_self])
  (refine end_treeW 0 ?_; simp -implicitDefEqProofs (disch := omega) only [go_sem, ht, eq_self])
  congr 2
  omega

theorem take_U {ws : List Nat} {l : List PV} {m : Nat} (h : m ≤ ws.length) : List.take m (ws.map U ++ l) = (ws.take m).map U := by
  rw [List.take_append_of_le_length (by simpa using h), List.map_take]

theorem norm_top {B m s : Nat} (hB : B ≠ 0) (hm : (D B).length = m) (hs : s = 32 - bl ((D B).getD (m - 1) 0)) : s < 32 ∧ B * 2 ^ s < 4294967296 ^ m ∧ 2147483648 ≤ (pad m (B * 2 ^ s)).getD (m - 1) 0 := by
  have hl := D_len_pos hB
  have hg := (Lm_D B).get (m - 1)
  have hb : bl ((D B).getD (m - 1) 0) ≤ 32 := bl_le.2 hg
  have hne := D_last B hB
  rw [hm] at hne
  have hb1 : bl ((D B).getD (m - 1) 0) ≠ 0 := fun h => hne (by have := bl_lt (n := (D B).getD (m - 1) 0); rw [h] at this; omega)
  have ht := bl_top hB
  rw [hm] at ht
  have e1 : bl B + s = 32 * m := by omega
  have h1 : B * 2 ^ s < 4294967296 ^ m := by
    rw [pow32, ← e1, Nat.pow_add]
    exact Nat.mul_lt_mul_of_pos_right bl_lt (Nat.pow_pos (by decide))
  refine ⟨by omega, h1, ?_⟩
  
  have h2 : 2 ^ (bl B - 1) ≤ B := bl_ge hB
  have h3 : 2 ^ (32 * m - 1) ≤ B * 2 ^ s := by
    rw [show 32 * m - 1 = (bl B - 1) + s by omega, Nat.pow_add]
    exact Nat.mul_le_mul_right _ h2
  have hv := pad_V m (B * 2 ^ s)
  rw [Nat.mod_eq_of_lt h1] at hv
  rw [← hv] at h3
  have hp := pad_len m (B * 2 ^ s)
  have hpm := pad_lm m (B * 2 ^ s)
  generalize pad m (B * 2 ^ s) = ps at *
  obtain ⟨k, rfl⟩ : ∃ k, m = k + 1 := ⟨m - 1, by omega⟩
  have h4 := V_take_succ ps (i := k) (by omega)
  rw [← hp, List.take_length] at h4
  have h5 := V_lt (hpm.take k)
  rw [List.length_take_of_le (by omega), pow32] at h5
  rw [h4, show 32 * (k + 1) - 1 = 32 * k + 31 by omega, Nat.pow_add, pow32] at h3
  rw [Nat.add_sub_cancel]
  generalize 2 ^ (32 * k) = P at *
  rcases Nat.lt_or_ge (ps.getD k 0) 2147483648 with h | h
  · exfalso
    have h6 : P * (ps.getD k 0 + 1) ≤ P * 2147483648 := Nat.mul_le_mul_left _ h
    rw [Nat.mul_add, Nat.mul_one] at h6
    have e : 2 ^ 31 = 2147483648 := by decide
    rw [e] at h3
    omega
  · exact h

theorem long_top {u v : List Nat} {la A s : Nat} (hu : u.length = la + 1) (hm : 2 ≤ v.length) (hml : v.length ≤ la) (hA : A < 4294967296 ^ la) (hs : s < 32) (h : V u = A * 2 ^ s) (htop : 2147483648 ≤ v.getD (v.length - 1) 0) :
    V (u.drop (u.length - v.length)) < V v := by
  have h1 : 2 ^ s ≤ 2147483648 := Nat.pow_le_pow_right (n := 2) (by decide) (show s ≤ 31 by omega)
  have h2 : V u < 4294967296 ^ la * 2147483648 := by
    rw [h]
    exact Nat.lt_of_le_of_lt (Nat.mul_le_mul_left _ h1) (Nat.mul_lt_mul_of_pos_right hA (Nat.succ_pos _))
  have h3 := V_split u (i := u.length - v.length) (Nat.sub_le _ _)
  have e : la = (u.length - v.length) + (v.length - 1) := by omega
  have h4 : 4294967296 ^ la = 4294967296 ^ (u.length - v.length) * 4294967296 ^ (v.length - 1) := by
    conv => lhs; rw [e, Nat.pow_add]
  rw [h4, Nat.mul_assoc] at h2
  have h5 : 4294967296 ^ (u.length - v.length) * V (u.drop (u.length - v.length)) < 4294967296 ^ (u.length - v.length) * (4294967296 ^ (v.length - 1) * 2147483648) := Nat.lt_of_le_of_lt (h3 ▸ Nat.le_add_left _ _) h2
  have h6 := Nat.lt_of_mul_lt_mul_left h5
  have h7 := V_take_succ v (i := v.length - 1) (by omega)
  rw [show v.length - 1 + 1 = v.length by omega, List.take_length] at h7
  refine Nat.lt_of_lt_of_le h6 (Nat.le_trans (Nat.mul_le_mul_left _ htop) ?_)
  rw [h7]
  exact Nat.le_add_left _ _

theorem dec_eq {g F r T : Nat} (h : g * F + r = T) (hg : 0 < g) : (g - 1) * F + (r + F) = T := by
  obtain ⟨k, rfl⟩ : ∃ k, g = k + 1 := ⟨g - 1, by omega⟩
  rw [Nat.add_mul, Nat.one_mul] at h
  rw [Nat.add_sub_cancel]; omega
theorem guess_lt {g F r T : Nat} (h : g * F + r = T) (ht : T < 4294967296 * F + 4294967296) (hr : 4294967296 ≤ r) : g < 4294967296 :=
  Nat.lt_of_mul_lt_mul_right (a := F) (by omega)

theorem long_calls {A B : Nat} (hA : Ok (D A)) (hB : Ok (D B)) (h2 : 4294967296 ≤ B) (hBA : B ≤ A) : PO2 Try.prog 127 [SU (D A), SU (D B)] (fun p q => .tup [p, q]) ((D (A / B)).map U) ((D (A % B)).map U) := by
  have hm2 := D_two h2
  have hla := D_len_mono hBA
  have hAl := hA.len
  have hBl := hB.len
  have hlz := lz_calls ((Lm_D B).get ((D B).length - 1))
  obtain ⟨hs, hBs, htop⟩ := norm_top (B := B) (m := (D B).length) (s := 32 - bl ((D B).getD ((D B).length - 1) 0)) (by omega) rfl rfl
  generalize hes : 32 - bl ((D B).getD ((D B).length - 1) 0) = s at *
  have hmu := moved_calls (n := (D A).length + 1) hA hs (by omega)
  have hmv := PLtree (moved_calls (n := (D B).length) hB hs (by omega))
  rw [V_D] at hmu hmv
  have hAs : A * 2 ^ s < 4294967296 ^ ((D A).length + 1) := by
    have h1 := V_lt (Lm_D A)
    rw [V_D] at h1
    rw [Nat.pow_succ]
    have h2 : 2 ^ s ≤ 4294967296 := by
      have := Nat.pow_le_pow_right (n := 2) (by decide) (show s ≤ 32 by omega)
      simpa using this
    exact Nat.lt_of_le_of_lt (Nat.mul_le_mul_left _ h2) (Nat.mul_lt_mul_of_pos_right h1 (by decide))
  have huV := pad_V ((D A).length + 1) (A * 2 ^ s)
  rw [Nat.mod_eq_of_lt hAs] at huV
  have huL := pad_len ((D A).length + 1) (A * 2 ^ s)
  have hum := pad_lm ((D A).length + 1) (A * 2 ^ s)
  have hvV := pad_V (D B).length (B * 2 ^ s)
  rw [Nat.mod_eq_of_lt hBs] at hvV
  have hvL := pad_len (D B).length (B * 2 ^ s)
  have hvm := pad_lm (D B).length (B * 2 ^ s)
  generalize hu0 : pad ((D A).length + 1) (A * 2 ^ s) = u0 at *
  generalize hv0 : pad (D B).length (B * 2 ^ s) = v at *
  have hAs := Hide.mk hAs
  have hBs := Hide.mk hBs
  have hvg := hvm.get (v.length - 1)
  have hvg2 := hvm.get (v.length - 2)
  have hZ0 : 0 < V v := by rw [hvV]; exact Nat.mul_pos (by omega) (Nat.pow_pos (by decide))
  have hZm : Hide (V v < 4294967296 ^ v.length) := Hide.mk (by rw [hvV, hvL]; exact hBs.out)
  have htop' : 2147483648 ≤ v.getD (v.length - 1) 0 := by rw [hvL]; exact htop
  have hu0t : Hide (V (u0.drop (u0.length - v.length)) < V v) := Hide.mk (long_top (A := A) huL (by omega) (by omega) (by have h1 := V_lt (Lm_D A); rwa [V_D] at h1) hs huV htop')
  have hdv := Hide.mk (div_parts (v := v) (m := v.length) (by omega) rfl)
  have hm3 : 2 ≤ v.length := by omega
  have hml : v.length ≤ (D A).length := by omega
  have hqe : A / B = V u0 / V v := by rw [huV, hvV, Nat.mul_div_mul_right _ _ (Nat.pow_pos (by decide))]
  have hre : A % B = (V u0 % V v) / 2 ^ s := by rw [huV, hvV, Nat.mul_mod_mul_right, Nat.mul_div_cancel _ (Nat.pow_pos (by decide))]
  refine PCalls.enter (n := 137) (rs := [.tmp 4, .tmp 5]) (tb := [(5, [(0, []), (1, []), (2, []), (3, []), (4, []), (5, []), (6, []), (7, []), (8, []), (9, []), (10, []), (11, []), (12, []), (13, [])]), (1000005, [(0, []), (0, []), (2, []), (7, []), (15, []), (31, []), (0, []), (0, []), (128, []), (448, []), (960, []), (1984, []), (63, []), (8191, [])]), (9, [(0, []), (1, []), (2, []), (3, []), (4, []), (5, []), (6, []), (7, []), (8, []), (9, []), (10, []), (11, []), (12, []), (13, []), (14, []), (15, []), (16, []), (17, [])]), (1000009, [(0, []), (0, []), (0, []), (6, []), (15, []), (31, []), (63, []), (127, []), (0, []), (0, []), (0, []), (1536, []), (3584, []), (7936, []), (16128, []), (32512, []), (65535, []), (131071, [])]), (10, [(0, []), (1, []), (2, []), (3, []), (4, []), (5, []), (6, []), (7, [])])]) Try.func127 rfl rfl rfl (by kernel_rfl) (by kernel_rfl) (by simp) fun c hc ht => ?_
  simp -implicitDefEqProofs (disch := omega) only [go_sem, ht, eq_self]
  (refine pCall_view (by simp -implicitDefEqProofs (disch := omega) only [go_sem, ht, eq_self] <;> rfl) (by simp -implicitDefEqProofs (disch := omega) only [go_sem, ht, eq_self]) (by first | (apply Or.inl; simp -implicitDefEqProofs (disch := omega) only [go_sem, ht, eq_self]; done) | (apply Or.inr; rintro r rfl; rfl)) (hlz) ?_; rintro _ nx - rfl hnx; (try simp only [put_nx, withH_nx, begP_nx] at hnx); simp -implicitDefEqProofs (disch := omega) only [go_sem, ht, eq_self])
  (refine pCall_own1 (mk := fun p => p) (mk_id) (by simp -implicitDefEqProofs (disch := omega) only [go_sem, ht, eq_self] <;> rfl) (by simp -implicitDefEqProofs (disch := omega) only [go_sem, ht, eq_self]) (closedL_U _) (flatL_U _) (hmu) ?_; intro id1 cap1 rest1 nx1 hid1 hnx1 hcap1; simp only [put_nx, withH_nx, begP_nx, List.length_map] at hid1 hcap1; simp -implicitDefEqProofs (disch := omega) only [go_sem, ht, eq_self])
  (refine pCall_view (by simp -implicitDefEqProofs (disch := omega) only [go_sem, ht, eq_self] <;> rfl) (by simp -implicitDefEqProofs (disch := omega) only [go_sem, ht, eq_self]) (by first | (apply Or.inl; simp -implicitDefEqProofs (disch := omega) only [go_sem, ht, eq_self]; done) | (apply Or.inr; rintro r rfl; rfl)) (hmv) ?_; rintro _ nx - rfl hnx; (try simp only [put_nx, withH_nx, begP_nx] at hnx); simp -implicitDefEqProofs (disch := omega) only [go_sem, ht, eq_self])
  clear hlz hmu hmv hv0 hu0 htop hes hBs hAs hvV hBA h2 hA hB
  rw [hqe, hre]
  have huV := Hide.mk huV
  clear hqe hre
  refine LW.loopW hc ht (by kernel_rfl) (fun t => t.sl 6 = .val (.int .i64 s) ∧ t.sl 8 = .sl v.length (v.map U) ∧ t.sl 9 = .val (.int .i64 v.length) ∧ t.sl 10 = .val (.int .u64 (v.getD (v.length - 1) 0 : Nat)) ∧ t.sl 11 = .val (.int .u64 (v.getD (v.length - 2) 0 : Nat)) ∧
      ∃ k : Nat, k ≤ u0.length - v.length ∧ t.sl 12 = .val (.int .i64 ((k : Int) - 1)) ∧ ∃ (idq idu : Nat) (qs ws : List Nat) (rest : List Value), idq ≠ idu ∧ idq < t.nx ∧ idu < t.nx ∧ qs.length = u0.length - v.length ∧ ws.length = u0.length ∧ Lm qs ∧ Lm ws ∧
        t.sl 4 = .ref idq 0 (u0.length - v.length) (u0.length - v.length) 1 ∧ t.sl 7 = .ref idu 0 u0.length cap1 1 ∧ t.H idq = some (qs.map U) ∧ t.H idu = some (ws.map U ++ List.map PV.val rest) ∧
        Hide (V ws + V v * (4294967296 ^ k * V (qs.drop k)) = V u0) ∧ Hide (V (ws.drop k) < V v))
      (fun t => match t.sl 12 with | .val (.int _ k) => (k + 1).toNat | _ => 0) ?_ ?_
  · simp -implicitDefEqProofs (disch := omega) only [go_sem, ht, eq_self]
    exact ⟨u0.length - v.length, Nat.le_refl _, by congr 2; omega, nx, id1, List.replicate (u0.length - v.length) 0, u0, rest1, by omega, by omega, by omega, by simp, rfl, Lm_repl _, hum, by congr 1 <;> omega, rfl, by rw [upd_self], by rw [upd_ne _ _ (by omega)]; exact upd_self _ _ _, Hide.mk (by rw [List.drop_of_length_le (by simp)]; simp [V]), hu0t⟩
  · rintro t ⟨h6, h8, h9, h10, h11, k, hk, h12, idq, idu, qs, ws, rest, hne, hiq, hiu, hql, hwl, hqm, hwm, h4, h7, hHq, hHu, heq, hlt⟩
    by_cases hk0 : k = 0
    · subst hk0
      have hlt := hlt.out
      have heq := heq.out
      rw [List.drop_zero] at hlt heq
      rw [Nat.pow_zero, Nat.one_mul] at heq
      have q1 : V u0 / V v = V qs := by rw [← heq, Nat.add_comm, Nat.mul_add_div hZ0, Nat.div_eq_of_lt hlt, Nat.add_zero]
      have q2 : V u0 % V v = V ws := by rw [← heq, Nat.add_comm, Nat.mul_add_mod, Nat.mod_eq_of_lt hlt]
      have q3 : V (ws.take v.length) = V ws := by rw [V_take_mod hwm (by omega), Nat.mod_eq_of_lt (Nat.lt_trans hlt hZm.out)]
      rw [q1, q2]
      have hr := right_calls (xs := ws.take v.length) (s := (s : Int)) ⟨hwm.take _, by simp; omega⟩ (by omega) (by omega)
      rw [q3, if_neg (by omega), if_neg (by omega), Int.toNat_natCast, SU_def, List.length_take_of_le (show v.length ≤ ws.length by omega)] at hr
      have et := take_U (l := List.map PV.val rest) (show v.length ≤ ws.length by omega)
      have hqs : (qs.map U).take (D (V qs)).length = (D (V qs)).map U := by
        have := take_Ul (D (V qs)) ((List.replicate (qs.length - (D (V qs)).length) (Value.int .u32 0)).map .val)
        rwa [← own_split' hqm] at this
      have hql2 := D_len_V hqm
      have hrl : (D (V ws / 2 ^ s)).length ≤ u0.length := Nat.le_trans (D_len_mono (Nat.div_le_self _ _)) (by have := D_len_V hwm; omega)
      clear q1 q2 q3 hlt heq
      simp -implicitDefEqProofs (disch := omega) only [go_sem, ht, h6, h8, h9, h10, h11, h12, h4, h7, hHq, hHu, eq_self]
      (refine pCall_own1 (mk := fun p => .tup [p, .val (.int .i64 0)]) (mk_b _) (by simp -implicitDefEqProofs (disch := omega) only [h6, h8, h9, h10, h11, h12, h4, h7, hHq, hHu, et, if_pos, go_sem, ht, eq_self] <;> rfl) (by simp -implicitDefEqProofs (disch := omega) only [h6, h8, h9, h10, h11, h12, h4, h7, hHq, hHu, et, if_pos, go_sem, ht, eq_self]) (closedL_U _) (flatL_U _) (hr) ?_; intro id2 cap2 rest2 nx2 hid2 hnx2 hcap2; simp only [put_nx, withH_nx, begP_nx, List.length_map] at hid2 hcap2; simp -implicitDefEqProofs (disch := omega) only [h6, h8, h9, h10, h11, h12, h4, h7, hHq, hHu, et, if_pos, go_sem, ht, eq_self])
      (apply pCall_mem; exact (short_own (xs := qs) (rest := []) hqm hql (by omega) (Nat.le_refl _) (by simp -implicitDefEqProofs (disch := omega) only [hHq, List.map_nil, go_sem, ht, eq_self] <;> rfl)); rintro _ _ _ ⟨rfl, rfl, rfl⟩ -; simp -implicitDefEqProofs (disch := omega) only [hHq, List.map_nil, go_sem, ht, eq_self])
      have hqo := own_split' hqm
      exact end_own2 (by simp -implicitDefEqProofs (disch := omega) only [go_sem, ht, eq_self] <;> rfl) (by omega) (by simp -implicitDefEqProofs (disch := omega) only [go_sem, ht, hHq, eq_self]; rw [hqo]) (by simp -implicitDefEqProofs (disch := omega) only [go_sem, ht, eq_self] <;> rfl) (by simp <;> omega) (by simp <;> omega) (by simp <;> omega) (by simp <;> omega)
    · obtain ⟨j, rfl⟩ : ∃ j, k = j + 1 := ⟨k - 1, by omega⟩
      have e1 : (((j + 1 : Nat) : Int) - 1) = (j : Int) := by omega
      rw [e1] at h12
      obtain ⟨g1, g2, g3⟩ := long_tail (m := v.length) (by omega) hwm hZm.out hlt.out
      have hparts := guess_parts (m := v.length) (by omega) (by omega) g1
      have hx1 := hwm.get (j + v.length)
      have hx0 := hwm.get (j + v.length - 1)
      have hx2 := hwm.get (j + v.length - 2)
      have hwl2 := V_lt ((hwm.drop j).take (v.length - 2))
      rw [List.length_take_of_le (by simp; omega)] at hwl2
      have hlo2 := V_lt (hvm.take (v.length - 2))
      rw [List.length_take_of_le (by omega)] at hlo2
      have hfirst := Hide.mk (guess_first (Nat.pow_pos (by decide)) (by omega) hdv.out hparts hx2 hwl2)
      have htopb := guess_top (Nat.pow_pos (by decide)) hdv.out hparts hvg2 hlo2 g3
      have hagain : ∀ g r, V (ws.drop j) / V v ≤ g → g * v.getD (v.length - 1) 0 + r = ws.getD (j + v.length) 0 * 4294967296 + ws.getD (j + v.length - 1) 0 → (4294967296 ≤ g ∨ r * 4294967296 + ws.getD (j + v.length - 2) 0 < g * v.getD (v.length - 2) 0) → V (ws.drop j) / V v < g :=
        fun g r h1 h2 h3 => guess_again (Nat.pow_pos (by decide)) hdv.out hparts hwl2 g3 h1 h2 h3
      have hdone : ∀ g r, g * v.getD (v.length - 1) 0 + r = ws.getD (j + v.length) 0 * 4294967296 + ws.getD (j + v.length - 1) 0 → g < 4294967296 → (4294967296 ≤ r ∨ g * v.getD (v.length - 2) 0 ≤ r * 4294967296 + ws.getD (j + v.length - 2) 0) → g ≤ V (ws.drop j) / V v + 1 :=
        fun g r h1 h2 h3 => guess_done (Nat.pow_pos (by decide)) (by omega) hdv.out hparts hvg2 hlo2 h1 h2 h3
      have hstep := fun (w2 : List Nat) hl hp hd hv => long_step (N := V u0) (m := v.length) (qs := qs) (ws := ws) (w2 := w2) (W := V (ws.drop j)) (Z := V v) (by omega) hl (by omega) hZ0 hp hd hv g1 rfl heq.out
      clear hparts hwl2 hlo2
      have g2 := Hide.mk g2
      have g3 := Hide.mk g3
      clear heq hlt
      have hset : ∀ z, z < 4294967296 → Lm (qs.set j z) := fun z hz x hx => by
        rcases List.mem_or_eq_of_mem_set hx with h | h
        · exact hqm x h
        · omega
      have hTl : ws.getD (j + v.length) 0 * 4294967296 + ws.getD (j + v.length - 1) 0 < 18446744073709551616 := by omega
      have hTF := Nat.lt_of_le_of_lt (Nat.div_le_self (ws.getD (j + v.length) 0 * 4294967296 + ws.getD (j + v.length - 1) 0) (v.getD (v.length - 1) 0)) hTl
      have eTF := Nat.mod_eq_of_lt hTF
      have hTm := Nat.mod_lt (ws.getD (j + v.length) 0 * 4294967296 + ws.getD (j + v.length - 1) 0) (y := v.getD (v.length - 1) 0) (by omega)
      simp -implicitDefEqProofs (disch := omega) only [go_sem, ht, h6, h8, h9, h10, h11, h12, h4, h7, hHq, hHu, eq_self]
      refine LW.loopW hc ht (by kernel_rfl) (fun s' => s'.sl 6 = .val (.int .i64 s) ∧ s'.sl 8 = .sl v.length (v.map U) ∧ s'.sl 9 = .val (.int .i64 v.length) ∧ s'.sl 10 = .val (.int .u64 (v.getD (v.length - 1) 0 : Nat)) ∧ s'.sl 11 = .val (.int .u64 (v.getD (v.length - 2) 0 : Nat)) ∧
          s'.sl 12 = .val (.int .i64 j) ∧ idq < s'.nx ∧ idu < s'.nx ∧ s'.sl 4 = .ref idq 0 (u0.length - v.length) (u0.length - v.length) 1 ∧ s'.sl 7 = .ref idu 0 u0.length cap1 1 ∧ s'.H idq = some (qs.map U) ∧ s'.H idu = some (ws.map U ++ List.map PV.val rest) ∧
          ∃ g r : Nat, s'.sl 14 = .val (.int .u64 g) ∧ s'.sl 15 = .val (.int .u64 r) ∧ g ≤ 18446744073709551615 ∧ r < 8589934592 ∧ Hide (g * v.getD (v.length - 1) 0 + r = ws.getD (j + v.length) 0 * 4294967296 + ws.getD (j + v.length - 1) 0) ∧ Hide (V (ws.drop j) / V v ≤ g))
        (fun s' => match s'.sl 14 with | .val (.int _ g) => g.toNat | _ => 0) ?_ ?_
      · simp -implicitDefEqProofs (disch := omega) only [go_sem, ht, h6, h8, h9, h10, h11, h12, h4, h7, hHq, hHu, eq_self]
        try rw [eTF]
        exact ⟨hiq, hiu, _, _, rfl, rfl, Nat.le_of_lt_succ hTF, Nat.lt_trans hTm (by omega), Hide.mk (by rw [Nat.mul_comm]; exact Nat.div_add_mod _ _), hfirst⟩
      · clear hTl hTF eTF hTm hfirst
        rintro s' ⟨h6, h8, h9, h10, h11, h12', hiq, hiu, h4, h7, hHq, hHu, g, r, h14, h15, hg, hr, hgr, hqg⟩
        by_cases hrB : r < 4294967296
        · by_cases hgB : 4294967296 ≤ g
          · have := hagain g r hqg.out hgr.out (.inl hgB)
            have hg0 : 0 < g := Nat.lt_of_le_of_lt (Nat.zero_le _) this
            have k1 := Hide.mk (dec_eq hgr.out hg0)
            have k2 := Hide.mk (Nat.le_sub_one_of_lt this)
            clear this hgr hqg hagain hdone hstep htopb
            simp -implicitDefEqProofs (disch := omega) only [go_sem, ht, h6, h8, h9, h10, h11, h12', h4, h7, hHq, hHu, h14, h15, eq_self]
            exact ⟨⟨hiq, hiu, _, _, rfl, rfl, by omega, by omega, k1, k2⟩, by omega⟩
          · have hgs : g * v.getD (v.length - 2) 0 ≤ 4294967295 * 4294967295 := Nat.mul_le_mul (by omega) (by omega)
            by_cases hcm : r * 4294967296 + ws.getD (j + v.length - 2) 0 < g * v.getD (v.length - 2) 0
            · have := hagain g r hqg.out hgr.out (.inr hcm)
              have hg0 : 0 < g := Nat.lt_of_le_of_lt (Nat.zero_le _) this
              have k1 := Hide.mk (dec_eq hgr.out hg0)
              have k2 := Hide.mk (Nat.le_sub_one_of_lt this)
              clear this hgr hqg hagain hdone hstep htopb
              simp -implicitDefEqProofs (disch := omega) only [go_sem, ht, h6, h8, h9, h10, h11, h12', h4, h7, hHq, hHu, h14, h15, eq_self]
              exact ⟨⟨hiq, hiu, _, _, rfl, rfl, by omega, by omega, k1, k2⟩, by omega⟩
            · have := hdone g r hgr.out (by omega) (.inr (by omega))
              have k3 := Hide.mk this
              have hqB := Nat.lt_of_le_of_lt hqg.out (show g < 4294967296 by omega)
              clear this hgr hagain hdone htopb
              simp -implicitDefEqProofs (disch := omega) only [go_sem, ht, h6, h8, h9, h10, h11, h12', h4, h7, hHq, hHu, h14, h15, eq_self]
              rw [if_neg (show ¬ cap1 = j by omega), show j + v.length + 1 - j = v.length + 1 by omega]
              apply pCall_mem
              exact take_calls (W := V (ws.drop j)) (zs := ws) (l := List.map PV.val rest) hvm rfl hwm (by omega) (by omega) (by omega) (by simp -implicitDefEqProofs (disch := omega) only [go_sem, ht, hHu, eq_self]) g2.out.symm hZ0 (by omega) hqg.out k3.out
              rintro _ _ _ ⟨w2, hl2, hm2, hp2, hd2, hv2, rfl, rfl, rfl⟩ -
              obtain ⟨z1, z2⟩ := hstep w2 hl2 hp2 hd2 hv2
              have z1 := Hide.mk z1
              have z2 := Hide.mk z2
              clear hstep hp2 hd2 hv2 g2
              generalize V (ws.drop j) / V v = q at *
              simp -implicitDefEqProofs (disch := omega) only [go_sem, ht, h6, h8, h9, h10, h11, h12', h4, h7, hHq, hHu, h14, h15, eq_self]
              exact ⟨⟨j, by omega, rfl, idq, idu, qs.set j q, w2, rest, hne, hiq, hiu, by simp [hql], by omega, hset q hqB, hm2, rfl, rfl, upd_self _ _ _, by rw [upd_ne _ _ (Ne.symm hne)]; exact upd_self _ _ _, z1, z2⟩, by omega⟩
        · have hgB := guess_lt hgr.out htopb (by omega)
          have this := hdone g r hgr.out hgB (.inl (by omega))
          have k3 := Hide.mk this
          have hqB := Nat.lt_of_le_of_lt hqg.out (show g < 4294967296 by omega)
          clear this hgr hagain hdone htopb
          simp -implicitDefEqProofs (disch := omega) only [go_sem, ht, h6, h8, h9, h10, h11, h12', h4, h7, hHq, hHu, h14, h15, eq_self]
          rw [if_neg (show ¬ cap1 = j by omega), show j + v.length + 1 - j = v.length + 1 by omega]
          apply pCall_mem
          exact take_calls (W := V (ws.drop j)) (zs := ws) (l := List.map PV.val rest) hvm rfl hwm (by omega) (by omega) (by omega) (by simp -implicitDefEqProofs (disch := omega) only [go_sem, ht, hHu, eq_self]) g2.out.symm hZ0 (by omega) hqg.out k3.out
          rintro _ _ _ ⟨w2, hl2, hm2, hp2, hd2, hv2, rfl, rfl, rfl⟩ -
          obtain ⟨z1, z2⟩ := hstep w2 hl2 hp2 hd2 hv2
          have z1 := Hide.mk z1
          have z2 := Hide.mk z2
          clear hstep hp2 hd2 hv2 g2
          generalize V (ws.drop j) / V v = q at *
          simp -implicitDefEqProofs (disch := omega) only [go_sem, ht, h6, h8, h9, h10, h11, h12', h4, h7, hHq, hHu, h14, h15, eq_self]
          exact ⟨⟨j, by omega, rfl, idq, idu, qs.set j q, w2, rest, hne, hiq, hiu, by simp [hql], by omega, hset q hqB, hm2, rfl, rfl, upd_self _ _ _, by rw [upd_ne _ _ (Ne.symm hne)]; exact upd_self _ _ _, z1, z2⟩, by omega⟩
end Go.Proofs.Ytfjdfnlkobeehaa

namespace Go.Proofs.Ytfjdfnlkobeehaa

theorem divmod_calls {xs ys : List Nat} (hx : Ok xs) (hy : Ok ys) : PT Try.prog 104 [SU xs, SU ys] (isV (divP (V xs) (V ys))) :=
  divmod_of hx hy fun h1 h2 => long_calls hx.short hy.short h1 h2


def uintP (n : Nat) : PV := if n < 18446744073709551616 then .tup [.val (.int .u64 n), .val (.bool true)] else .tup [.val (.int .u64 0), .val (.bool false)]

theorem uint_calls {xs : List Nat} (h : Ok xs) : PT Try.prog 133 [SU xs] (isV (uintP (V xs))) := by
  have := h.short.len
  have hs := short_calls h
  unfold uintP
  generalize V xs = n at *
  refine PCalls.enter (n := 30) (rs := [.tmp 2, .tmp 3]) (tb := [(9, [(0, []), (1, []), (2, []), (3, []), (4, []), (5, []), (6, []), (7, []), (8, []), (9, []), (10, [])])]) Try.func133 rfl rfl rfl (by kernel_rfl) (by kernel_rfl) (by simp) fun c hc ht => ?_
  simp -implicitDefEqProofs (disch := omega) only [go_sem, ht, eq_self]
  by_cases h0 : n = 0
  · subst h0
    have hl : (D 0).length = 0 := by rw [D_zero]; rfl
    (refine pCall_view (by simp -implicitDefEqProofs (disch := omega) only [go_sem, ht, eq_self] <;> rfl) (by simp -implicitDefEqProofs (disch := omega) only [go_sem, ht, eq_self]) (by first | (apply Or.inl; simp -implicitDefEqProofs (disch := omega) only [go_sem, ht, eq_self]; done) | (apply Or.inr; rintro r rfl; rfl)) (hs) ?_; rintro _ nx - rfl hnx; (try simp only [put_nx, withH_nx, begP_nx] at hnx); simp -implicitDefEqProofs (disch := omega) only [go_sem, ht, eq_self])
    (refine end_treeW 0 ?_; simp -implicitDefEqProofs (disch := omega) only [go_sem, ht, eq_self])
    rfl
  by_cases h1 : n < 4294967296
  · have e := D_one h0 h1
    have hl : (D n).length = 1 := by rw [e]; rfl
    have hg : (D n).getD 0 0 = n := by rw [e]; rfl
    rw [if_pos (by omega)]
    (refine pCall_view (by simp -implicitDefEqProofs (disch := omega) only [go_sem, ht, eq_self] <;> rfl) (by simp -implicitDefEqProofs (disch := omega) only [go_sem, ht, eq_self]) (by first | (apply Or.inl; simp -implicitDefEqProofs (disch := omega) only [go_sem, ht, eq_self]; done) | (apply Or.inr; rintro r rfl; rfl)) (hs) ?_; rintro _ nx - rfl hnx; (try simp only [put_nx, withH_nx, begP_nx] at hnx); simp -implicitDefEqProofs (disch := omega) only [go_sem, ht, eq_self])
    rw [hg]
    (refine end_treeW 0 ?_; simp -implicitDefEqProofs (disch := omega) only [go_sem, ht, eq_self])
  by_cases h2 : n < 18446744073709551616
  · have e : D n = [n % 4294967296, n / 4294967296] := by
      rw [D_pos h0, D_one (by omega) (by omega)]
    have hl : (D n).length = 2 := by rw [e]; rfl
    have hg : (D n).getD 0 0 = n % 4294967296 := by rw [e]; rfl
    have hg1 : (D n).getD 1 0 = n / 4294967296 := by rw [e]; rfl
    rw [if_pos h2]
    have e2 : n / 4294967296 * 4294967296 + n % 4294967296 = n := by omega
    (refine pCall_view (by simp -implicitDefEqProofs (disch := omega) only [go_sem, ht, eq_self] <;> rfl) (by simp -implicitDefEqProofs (disch := omega) only [go_sem, ht, eq_self]) (by first | (apply Or.inl; simp -implicitDefEqProofs (disch := omega) only [go_sem, ht, eq_self]; done) | (apply Or.inr; rintro r rfl; rfl)) (hs) ?_; rintro _ nx - rfl hnx; (try simp only [put_nx, withH_nx, begP_nx] at hnx); simp -implicitDefEqProofs (disch := omega) only [go_sem, ht, eq_self])
    (refine end_treeW 0 ?_; simp -implicitDefEqProofs (disch := omega) only [go_sem, ht, hg, hg1, e2, eq_self])
  · have hl : 3 ≤ (D n).length := by
      rcases Nat.lt_or_ge (D n).length 3 with h | h
      · exact absurd (D_len_le.1 (show (D n).length ≤ 2 by omega)) (by omega)
      · exact h
    rw [if_neg h2]
    (refine pCall_view (by simp -implicitDefEqProofs (disch := omega) only [go_sem, ht, eq_self] <;> rfl) (by simp -implicitDefEqProofs (disch := omega) only [go_sem, ht, eq_self]) (by first | (apply Or.inl; simp -implicitDefEqProofs (disch := omega) only [go_sem, ht, eq_self]; done) | (apply Or.inr; rintro r rfl; rfl)) (hs) ?_; rintro _ nx - rfl hnx; (try simp only [put_nx, withH_nx, begP_nx] at hnx); simp -implicitDefEqProofs (disch := omega) only [go_sem, ht, eq_self])
    (refine end_treeW 0 ?_; simp -implicitDefEqProofs (disch := omega) only [go_sem, ht, eq_self])

theorem gcd_calls {xs ys : List Nat} (hx : Ok xs) (hy : Ok ys) : PL 118 [SU xs, SU ys] (D (Nat.gcd (V xs) (V ys))) := by
  have hx' := hx.short
  have hy' := hy.short
  have hs := short_calls hx
  have hs2 := short_calls hy
  clear hx hy
  generalize V xs = A at *
  generalize V ys = B at *
  refine PCalls.enter (n := 52) (rs := [.tmp 4]) (tb := [(7, [(0, []), (1, []), (2, []), (3, []), (4, []), (5, [])])]) Try.func118 rfl rfl rfl (by kernel_rfl) (by kernel_rfl) (by simp) fun c hc ht => ?_
  simp -implicitDefEqProofs (disch := omega) only [go_sem, ht, eq_self]
  (refine pCall_view (by simp -implicitDefEqProofs (disch := omega) only [go_sem, ht, eq_self] <;> rfl) (by simp -implicitDefEqProofs (disch := omega) only [go_sem, ht, eq_self]) (by first | (apply Or.inl; simp -implicitDefEqProofs (disch := omega) only [go_sem, ht, eq_self]; done) | (apply Or.inr; rintro r rfl; rfl)) (hs) ?_; rintro _ nx - rfl hnx; (try simp only [put_nx, withH_nx, begP_nx] at hnx); simp -implicitDefEqProofs (disch := omega) only [go_sem, ht, eq_self])
  (refine pCall_view (by simp -implicitDefEqProofs (disch := omega) only [go_sem, ht, eq_self] <;> rfl) (by simp -implicitDefEqProofs (disch := omega) only [go_sem, ht, eq_self]) (by first | (apply Or.inl; simp -implicitDefEqProofs (disch := omega) only [go_sem, ht, eq_self]; done) | (apply Or.inr; rintro r rfl; rfl)) (hs2) ?_; rintro _ nx - rfl hnx; (try simp only [put_nx, withH_nx, begP_nx] at hnx); simp -implicitDefEqProofs (disch := omega) only [go_sem, ht, eq_self])
  refine LW.loopW hc ht (by kernel_rfl) (fun t => ∃ a b : Nat, Ok (D a) ∧ Ok (D b) ∧ t.sl 0 = .sl (D a).length ((D a).map U) ∧ t.sl 1 = .sl (D b).length ((D b).map U) ∧ t.H = (fun _ => none) ∧ Hide (Nat.gcd a b = Nat.gcd A B))
    (fun t => match t.sl 1 with | .sl _ cs => V (cs.map unU) | _ => 0) ?_ ?_
  · simp -implicitDefEqProofs (disch := omega) only [go_sem, ht, eq_self]
    exact ⟨A, B, hx', hy', rfl, rfl, Hide.mk rfl⟩
  · rintro t ⟨a, b, ha, hb, h0, h1, hH, hg⟩
    have hal := ha.len
    have hbl := hb.len
    by_cases hb0 : b = 0
    · subst hb0
      have hl : (D 0).length = 0 := by rw [D_zero]; rfl
      have hg := hg.out
      rw [Nat.gcd_zero_right] at hg
      subst hg
      have htr := trim_calls ha
      rw [V_D] at htr
      simp -implicitDefEqProofs (disch := omega) only [go_sem, ht, h0, h1, hl, eq_self]
      (refine pCall_own1 (mk := fun p => p) (mk_id) (by simp -implicitDefEqProofs (disch := omega) only [go_sem, ht, eq_self] <;> rfl) (by simp -implicitDefEqProofs (disch := omega) only [go_sem, ht, eq_self]) (closedL_U _) (flatL_U _) (htr) ?_; intro id1 cap1 rest1 nx1 hid1 hnx1 hcap1; simp only [put_nx, withH_nx, begP_nx, List.length_map] at hid1 hcap1; simp -implicitDefEqProofs (disch := omega) only [go_sem, ht, eq_self])
      exact end_own1 (mk := fun p => p) (by simp -implicitDefEqProofs (disch := omega) only [go_sem, ht, eq_self] <;> rfl) (by simp -implicitDefEqProofs (disch := omega) only [go_sem, ht, eq_self] <;> rfl) (by simp <;> omega) (by simp <;> omega)
    · have hbp := D_len_pos hb0
      have hua := uint_calls ha
      have hub := uint_calls hb
      rw [V_D] at hua hub
      unfold uintP at hua hub
      by_cases hs : a < 18446744073709551616 ∧ b < 18446744073709551616
      · rw [if_pos hs.1] at hua
        rw [if_pos hs.2] at hub
        simp -implicitDefEqProofs (disch := omega) only [go_sem, ht, h0, h1, eq_self]
        (refine pCall_view (by simp -implicitDefEqProofs (disch := omega) only [h0, h1, go_sem, ht, eq_self] <;> rfl) (by simp -implicitDefEqProofs (disch := omega) only [h0, h1, go_sem, ht, eq_self]) (by first | (apply Or.inl; simp -implicitDefEqProofs (disch := omega) only [h0, h1, go_sem, ht, eq_self]; done) | (apply Or.inr; rintro r rfl; rfl)) (hua) ?_; rintro _ nx - rfl hnx; (try simp only [put_nx, withH_nx, begP_nx] at hnx); simp -implicitDefEqProofs (disch := omega) only [h0, h1, go_sem, ht, eq_self])
        (refine pCall_view (by simp -implicitDefEqProofs (disch := omega) only [h0, h1, go_sem, ht, eq_self] <;> rfl) (by simp -implicitDefEqProofs (disch := omega) only [h0, h1, go_sem, ht, eq_self]) (by first | (apply Or.inl; simp -implicitDefEqProofs (disch := omega) only [h0, h1, go_sem, ht, eq_self]; done) | (apply Or.inr; rintro r rfl; rfl)) (hub) ?_; rintro _ nx - rfl hnx; (try simp only [put_nx, withH_nx, begP_nx] at hnx); simp -implicitDefEqProofs (disch := omega) only [h0, h1, go_sem, ht, eq_self])
        have hg := hg.out
        rw [← hg]
        refine LW.loopW hc ht (by kernel_rfl) (fun s => s.H = (fun _ => none) ∧ ∃ x y : Nat, s.sl 5 = .val (.int .u64 x) ∧ s.sl 7 = .val (.int .u64 y) ∧ x < 18446744073709551616 ∧ y < 18446744073709551616 ∧ Nat.gcd x y = Nat.gcd a b)
          (fun s => match s.sl 7 with | .val (.int _ y) => y.toNat | _ => 0) ?_ ?_
        · simp -implicitDefEqProofs (disch := omega) only [go_sem, ht, hH, eq_self]
          exact ⟨a, b, rfl, rfl, hs.1, hs.2, rfl⟩
        · clear hH h0 h1 hua hub
          rintro t2 ⟨hH, x, y, h5, h7, hx, hy, hg2⟩
          by_cases hy0 : y = 0
          · subst hy0
            rw [Nat.gcd_zero_right] at hg2
            subst hg2
            simp -implicitDefEqProofs (disch := omega) only [go_sem, ht, h5, h7, eq_self]
            (refine pCall_own1 (mk := fun p => p) (mk_id) (by simp -implicitDefEqProofs (disch := omega) only [h5, h7, go_sem, ht, eq_self] <;> rfl) (by simp -implicitDefEqProofs (disch := omega) only [h5, h7, go_sem, ht, eq_self]) (closedL_U _) (flatL_U _) (small_calls hx) ?_; intro id1 cap1 rest1 nx1 hid1 hnx1 hcap1; simp only [put_nx, withH_nx, begP_nx, List.length_map] at hid1 hcap1; simp -implicitDefEqProofs (disch := omega) only [h5, h7, go_sem, ht, eq_self])
            exact end_own1 (mk := fun p => p) (by simp -implicitDefEqProofs (disch := omega) only [go_sem, ht, eq_self] <;> rfl) (by simp -implicitDefEqProofs (disch := omega) only [go_sem, ht, eq_self] <;> rfl) (by simp <;> omega) (by simp <;> omega)
          · have hm := Nat.mod_lt x (Nat.pos_of_ne_zero hy0)
            have hg3 : Nat.gcd y (x % y) = Nat.gcd a b := by rw [← hg2, Nat.gcd_comm x y, Nat.gcd_rec y x, Nat.gcd_comm]
            simp -implicitDefEqProofs (disch := omega) only [go_sem, ht, h5, h7, hH, eq_self]
            exact ⟨⟨y, x % y, rfl, rfl, hy, by omega, hg3⟩, hm⟩
      · have hdm := divmod_calls ha hb
        rw [V_D, V_D] at hdm
        unfold divP at hdm
        rw [if_neg hb0] at hdm
        have hrm : Ok (D (a % b)) := ⟨Lm_D _, Nat.le_trans (D_len_mono (Nat.mod_le a b)) hal⟩
        have hgr : Hide (Nat.gcd b (a % b) = Nat.gcd A B) := Hide.mk (by rw [← hg.out, Nat.gcd_comm a b, Nat.gcd_rec b a, Nat.gcd_comm])
        clear hg
        by_cases ha2 : a < 18446744073709551616
        · rw [if_pos ha2] at hua
          rw [if_neg (by omega)] at hub
          simp -implicitDefEqProofs (disch := omega) only [go_sem, ht, h0, h1, eq_self]
          (refine pCall_view (by simp -implicitDefEqProofs (disch := omega) only [h0, h1, go_sem, ht, eq_self] <;> rfl) (by simp -implicitDefEqProofs (disch := omega) only [h0, h1, go_sem, ht, eq_self]) (by first | (apply Or.inl; simp -implicitDefEqProofs (disch := omega) only [h0, h1, go_sem, ht, eq_self]; done) | (apply Or.inr; rintro r rfl; rfl)) (hua) ?_; rintro _ nx - rfl hnx; (try simp only [put_nx, withH_nx, begP_nx] at hnx); simp -implicitDefEqProofs (disch := omega) only [h0, h1, go_sem, ht, eq_self])
          (refine pCall_view (by simp -implicitDefEqProofs (disch := omega) only [h0, h1, go_sem, ht, eq_self] <;> rfl) (by simp -implicitDefEqProofs (disch := omega) only [h0, h1, go_sem, ht, eq_self]) (by first | (apply Or.inl; simp -implicitDefEqProofs (disch := omega) only [h0, h1, go_sem, ht, eq_self]; done) | (apply Or.inr; rintro r rfl; rfl)) (hub) ?_; rintro _ nx - rfl hnx; (try simp only [put_nx, withH_nx, begP_nx] at hnx); simp -implicitDefEqProofs (disch := omega) only [h0, h1, go_sem, ht, eq_self])
          (refine pCall_view (by simp -implicitDefEqProofs (disch := omega) only [h0, h1, go_sem, ht, eq_self] <;> rfl) (by simp -implicitDefEqProofs (disch := omega) only [h0, h1, go_sem, ht, eq_self]) (by first | (apply Or.inl; simp -implicitDefEqProofs (disch := omega) only [h0, h1, go_sem, ht, eq_self]; done) | (apply Or.inr; rintro r rfl; rfl)) (hdm) ?_; rintro _ nx - rfl hnx; (try simp only [put_nx, withH_nx, begP_nx] at hnx); simp -implicitDefEqProofs (disch := omega) only [h0, h1, go_sem, ht, eq_self])
          exact ⟨⟨b, a % b, hb, hrm, rfl, rfl, hH, hgr⟩, by simpa only [unU_U, V_D] using Nat.mod_lt a (Nat.pos_of_ne_zero hb0)⟩
        · rw [if_neg ha2] at hua
          by_cases hb2 : b < 18446744073709551616
          · rw [if_pos hb2] at hub
            simp -implicitDefEqProofs (disch := omega) only [go_sem, ht, h0, h1, eq_self]
            (refine pCall_view (by simp -implicitDefEqProofs (disch := omega) only [h0, h1, go_sem, ht, eq_self] <;> rfl) (by simp -implicitDefEqProofs (disch := omega) only [h0, h1, go_sem, ht, eq_self]) (by first | (apply Or.inl; simp -implicitDefEqProofs (disch := omega) only [h0, h1, go_sem, ht, eq_self]; done) | (apply Or.inr; rintro r rfl; rfl)) (hua) ?_; rintro _ nx - rfl hnx; (try simp only [put_nx, withH_nx, begP_nx] at hnx); simp -implicitDefEqProofs (disch := omega) only [h0, h1, go_sem, ht, eq_self])
            (refine pCall_view (by simp -implicitDefEqProofs (disch := omega) only [h0, h1, go_sem, ht, eq_self] <;> rfl) (by simp -implicitDefEqProofs (disch := omega) only [h0, h1, go_sem, ht, eq_self]) (by first | (apply Or.inl; simp -implicitDefEqProofs (disch := omega) only [h0, h1, go_sem, ht, eq_self]; done) | (apply Or.inr; rintro r rfl; rfl)) (hub) ?_; rintro _ nx - rfl hnx; (try simp only [put_nx, withH_nx, begP_nx] at hnx); simp -implicitDefEqProofs (disch := omega) only [h0, h1, go_sem, ht, eq_self])
            (refine pCall_view (by simp -implicitDefEqProofs (disch := omega) only [h0, h1, go_sem, ht, eq_self] <;> rfl) (by simp -implicitDefEqProofs (disch := omega) only [h0, h1, go_sem, ht, eq_self]) (by first | (apply Or.inl; simp -implicitDefEqProofs (disch := omega) only [h0, h1, go_sem, ht, eq_self]; done) | (apply Or.inr; rintro r rfl; rfl)) (hdm) ?_; rintro _ nx - rfl hnx; (try simp only [put_nx, withH_nx, begP_nx] at hnx); simp -implicitDefEqProofs (disch := omega) only [h0, h1, go_sem, ht, eq_self])
            exact ⟨⟨b, a % b, hb, hrm, rfl, rfl, hH, hgr⟩, by simpa only [unU_U, V_D] using Nat.mod_lt a (Nat.pos_of_ne_zero hb0)⟩

          · rw [if_neg hb2] at hub
            simp -implicitDefEqProofs (disch := omega) only [go_sem, ht, h0, h1, eq_self]
            (refine pCall_view (by simp -implicitDefEqProofs (disch := omega) only [h0, h1, go_sem, ht, eq_self] <;> rfl) (by simp -implicitDefEqProofs (disch := omega) only [h0, h1, go_sem, ht, eq_self]) (by first | (apply Or.inl; simp -implicitDefEqProofs (disch := omega) only [h0, h1, go_sem, ht, eq_self]; done) | (apply Or.inr; rintro r rfl; rfl)) (hua) ?_; rintro _ nx - rfl hnx; (try simp only [put_nx, withH_nx, begP_nx] at hnx); simp -implicitDefEqProofs (disch := omega) only [h0, h1, go_sem, ht, eq_self])
            (refine pCall_view (by simp -implicitDefEqProofs (disch := omega) only [h0, h1, go_sem, ht, eq_self] <;> rfl) (by simp -implicitDefEqProofs (disch := omega) only [h0, h1, go_sem, ht, eq_self]) (by first | (apply Or.inl; simp -implicitDefEqProofs (disch := omega) only [h0, h1, go_sem, ht, eq_self]; done) | (apply Or.inr; rintro r rfl; rfl)) (hub) ?_; rintro _ nx - rfl hnx; (try simp only [put_nx, withH_nx, begP_nx] at hnx); simp -implicitDefEqProofs (disch := omega) only [h0, h1, go_sem, ht, eq_self])
            (refine pCall_view (by simp -implicitDefEqProofs (disch := omega) only [h0, h1, go_sem, ht, eq_self] <;> rfl) (by simp -implicitDefEqProofs (disch := omega) only [h0, h1, go_sem, ht, eq_self]) (by first | (apply Or.inl; simp -implicitDefEqProofs (disch := omega) only [h0, h1, go_sem, ht, eq_self]; done) | (apply Or.inr; rintro r rfl; rfl)) (hdm) ?_; rintro _ nx - rfl hnx; (try simp only [put_nx, withH_nx, begP_nx] at hnx); simp -implicitDefEqProofs (disch := omega) only [h0, h1, go_sem, ht, eq_self])
            exact ⟨⟨b, a % b, hb, hrm, rfl, rfl, hH, hgr⟩, by simpa only [unU_U, V_D] using Nat.mod_lt a (Nat.pos_of_ne_zero hb0)⟩

end Go.Proofs.Ytfjdfnlkobeehaa

namespace Go.Proofs.Ytfjdfnlkobeehaa

end Go.Proofs.Ytfjdfnlkobeehaa

namespace Go.Proofs.Ytfjdfnlkobeehaa


end Go.Proofs.Ytfjdfnlkobeehaa

namespace Go.Proofs.Ytfjdfnlkobeehaa


end Go.Proofs.Ytfjdfnlkobeehaa

namespace Go.Proofs.Ytfjdfnlkobeehaa

end Go.Proofs.Ytfjdfnlkobeehaa
end

section
set_option maxRecDepth 100000
set_option linter.unusedVariables false
set_option linter.unusedSimpArgs false
namespace Go.Proofs.Ytfjdfnlkobeehaa

end Go.Proofs.Ytfjdfnlkobeehaa
end

section
set_option linter.unusedVariables false
set_option linter.unusedSimpArgs false
namespace Go.Proofs.Ytfjdfnlkobeehaa
open Go.ChangeShapes Go.WideShapes Go.ChangeAt Go.RowKit

variable {P : Program}


abbrev E0 (w : World) : En := enOf (fun _ => False) w (fun _ => 0) (fun _ => none) (fun _ => none) 0

theorem law_run {f : FuncId} {args : List PV} {Q : PV → Prop} (h : PT P f args Q) {w : World} {vs : List Value} (hr : RepL (E0 w) args vs) :
    Calls P f vs.toArray w fun e w' => (∃ v r, e = .returned v ∧ Q r ∧ ∀ x, r = .val x → v = x) ∧ Below w.heap.size w w' := by
  have hno : ∀ b, ¬ OwnB (fun _ => 0) (fun _ => none) (fun _ => none) b := by
    rintro b ⟨i, ⟨cs, hcs, _⟩ | hi, _⟩
    · simp at hcs
    · simp at hi
  have hown : OwnOK (fun _ => False) (fun _ => False) w (fun _ => 0) (fun _ => none) (fun _ => none) 0 :=
    ⟨fun i hi => by simp at hi, fun i cs hi => by simp at hi, fun i j hi => by rcases hi with ⟨cs, hcs, _⟩ | hi <;> simp at *,
      fun i cs hi => by simp at hi, fun i s p hi => by simp at hi, fun i hi => by rcases hi with ⟨cs, hcs, _⟩ | hi <;> simp at *⟩
  refine (h.2 w vs (fun _ => 0) (fun _ => False) (fun _ h => h.elim) hown hr).mono ?_
  rintro e w' ⟨v, r, H', nx', ρ', rfl, ⟨_, hq⟩, _, _, _, hrep, hframe, hsize, hsw⟩
  refine ⟨⟨v, r, rfl, hq, fun x hx => ?_⟩, hsw.1, hsw.2.1, hsw.2.2, hsize, fun k hk => hframe k hk (hno k)⟩
  subst hx
  simpa [Rep] using hrep

section
variable {H : Type} {enc : TypeId × Value → H} {w : World} {base : Nat}


theorem arg_int {t : TypeId} {k : IntKind} {b0 : Nat} {v : Value} {d : DataW H} {p : List MemPlace} (ht : P.underlying t = some (.int k)) (hv : Value.okWide P w .any b0 t v) (hd : DataW.Trod enc P w 0 (fun _ => true) true t v d p) :
    ∃ z, k.min ≤ z ∧ z ≤ k.max ∧ Rep (E0 w) (.val (.int k z)) v := by
  obtain ⟨z, rfl, _, _, hw⟩ := open_int ht hv hd
  have hw : (decide (k.min ≤ z) && decide (z ≤ k.max)) = true := hw
  have h2 : k.min ≤ z ∧ z ≤ k.max := by simpa using hw
  exact ⟨z, h2.1, h2.2, by simp [Rep]⟩


end

end Go.Proofs.Ytfjdfnlkobeehaa
end

section
set_option maxRecDepth 100000
set_option linter.unusedVariables false
set_option linter.unusedSimpArgs false
namespace Go.Proofs.Ytfjdfnlkobeehaa

theorem law_own : ownKnob Try.prog.godebug = none := by kernel_rfl
theorem law_laidOut : laidOutB Try.prog = true := by kernel_rfl
theorem lt_add {a b k : Nat} (ha : a < 4294967296 ^ k) (hb : b < 4294967296 ^ k) : a + b < 4294967296 ^ (k + 1) := by
  rw [Nat.pow_succ]; omega
theorem lt_mono {a k m : Nat} (h : a < 4294967296 ^ k) (hk : k ≤ m) : a < 4294967296 ^ m := Nat.lt_of_lt_of_le h (Nat.pow_le_pow_right (by decide) hk)
theorem lt_mul {a b i j : Nat} (ha : a < 4294967296 ^ i) (hb : b < 4294967296 ^ j) : a * b < 4294967296 ^ (i + j) := by
  rw [Nat.pow_add]; exact Nat.mul_lt_mul'' ha hb
theorem V_lt' {xs : List Nat} {k : Nat} (h : Lm xs) (hk : xs.length ≤ k) : V xs < 4294967296 ^ k :=
  Nat.lt_of_lt_of_le (V_lt h) (Nat.pow_le_pow_right (by decide) hk)
theorem sub_tree {xs ys : List Nat} (hx : Ok xs) (hy : Ok ys) : PT Try.prog 51 [SU xs, SU ys] (isV (.tup [SU (D (V xs - V ys)), .val (.bool (decide (V ys ≤ V xs)))])) := by
  have := PO1.tree (mk_b _) (flatL_U _) (sub_calls hx hy)
  simpa [SU_def] using this
theorem Ok.nil : Ok [] := ⟨Lm_nil, by simp⟩
theorem Ok.one {n : Nat} (h : n < 4294967296) : Ok [n] := ⟨by intro x hx; simp at hx; omega, by simp⟩
end Go.Proofs.Ytfjdfnlkobeehaa
end

section
set_option maxRecDepth 100000
set_option linter.unusedVariables false
set_option linter.unusedSimpArgs false
namespace Go.Proofs.Ytfjdfnlkobeehaa

theorem Ok_le {a b : Nat} (h : Ok (D b)) (hab : a ≤ b) : Ok (D a) := ⟨Lm_D _, Nat.le_trans (D_len_mono hab) h.len⟩
section
variable {xs ys : List Nat} {a b : Nat}
theorem divmod_v (hx : Ok xs) (hy : Ok ys) (ha : V xs = a) (hb : V ys = b) (h0 : b ≠ 0) : PT Try.prog 104 [SU xs, SU ys] (isV (.tup [SU (D (a / b)), SU (D (a % b)), .val (.bool true)])) := by
  subst ha hb
  have := divmod_calls hx hy
  unfold divP at this
  rw [if_neg h0, decide_eq_true h0] at this
  exact this
theorem divmod_z (hx : Ok xs) (hy : Ok ys) (hb : V ys = 0) : PT Try.prog 104 [SU xs, SU ys] (isV (.tup [SU [], SU [], .val (.bool false)])) := by
  have := divmod_calls hx hy
  unfold divP at this
  rw [if_pos hb, hb, Nat.div_zero, D_zero] at this
  exact this
end
theorem bl_pos' {n : Nat} (h : n ≠ 0) : 0 < bl n := by rw [bl_pos h]; omega
end Go.Proofs.Ytfjdfnlkobeehaa
end
