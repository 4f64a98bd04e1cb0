/- The program's whole: sums of many, texts that are read. -/
import Derived.Test.YtgebemjmckgomaaWholeB
import Derived.Test.YtgebemjmckgomaaLimbsB
import Derived.Laws.RangeAny
set_option maxRecDepth 100000
set_option linter.unusedVariables false
set_option linter.unusedSimpArgs false
namespace Go.Proofs.Ytgebemjmckgomaa

theorem runelen1 : PT Try.prog 125 [.val (.int .i32 45)] (isV (.val (.int .i64 1))) := by
  refine PCalls.enter (n := 25) (rs := [.tmp 2]) (tb := []) Try.func125 rfl rfl rfl (by kernel_rfl) (by kernel_rfl) (by simp) fun c hc ht => ?_
  simp -implicitDefEqProofs (disch := omega) only [go_sem, ht, eq_self]
  (refine end_treeW 0 ?_; simp -implicitDefEqProofs (disch := omega) only [go_sem, ht, eq_self])
theorem runelen3 : PT Try.prog 125 [.val (.int .i32 8722)] (isV (.val (.int .i64 3))) := by
  refine PCalls.enter (n := 25) (rs := [.tmp 2]) (tb := []) Try.func125 rfl rfl rfl (by kernel_rfl) (by kernel_rfl) (by simp) fun c hc ht => ?_
  simp -implicitDefEqProofs (disch := omega) only [go_sem, ht, eq_self]
  (refine end_treeW 0 ?_; simp -implicitDefEqProofs (disch := omega) only [go_sem, ht, eq_self])
theorem decode_minus {s : ByteArray} (h : (Utf8.decode s 0).1 = 8722) : 3 ≤ s.size := by
  unfold Utf8.decode at h
  simp only at h
  split at h
  · omega
  split at h
  · split at h
    · rename_i h1 h2
      simp only at h
      omega
    · simp [Utf8.runeError] at h
  split at h
  · rename_i h1
    simp only [Bool.and_eq_true, decide_eq_true_eq] at h1
    omega
  split at h
  · split at h
    · rename_i h1 h2
      simp only [Bool.and_eq_true, decide_eq_true_eq] at h2
      simp only at h
      omega
    · simp [Utf8.runeError] at h
  · simp [Utf8.runeError] at h
/-- How long a minus stands ahead. -/
def mlen (s : ByteArray) : Nat := if s.size = 0 then 0 else if (Utf8.decode s 0).1 = 45 then 1 else if (Utf8.decode s 0).1 = 8722 then 3 else 0
theorem mlen_le (s : ByteArray) : mlen s ≤ s.size := by
  unfold mlen
  split
  · omega
  · split
    · omega
    · split
      · rename_i h; exact decode_minus h
      · omega
def wparseP (s : ByteArray) : Int × Int := (sg (decide (mlen s ≠ 0)) (parseP (s.extract (mlen s) s.size)).1, (parseP (s.extract (mlen s) s.size)).2)
theorem parse_ok (s : ByteArray) : Ok (D (parseP s).1) := by
  have h0 : Ok (D 0) := by rw [D_zero]; exact Ok.nil
  unfold parseP
  split
  · exact h0
  split
  · exact h0
  split
  · rename_i h1 h2 h3
    exact dv_ok h3 (by simp; omega)
  · exact h0
theorem parse_zero {s : ByteArray} (h : (parseP s).2 ≠ 0) : (parseP s).1 = 0 := by
  unfold parseP at *
  split at h
  · rename_i h1; rw [if_pos h1]
  · rename_i h1
    rw [if_neg h1]
    split at h
    · rename_i h2; rw [if_pos h2]
    · rename_i h2
      rw [if_neg h2]
      split at h
      · simp at h
      · rename_i h3; rw [if_neg h3]
theorem parse_t {s : ByteArray} (hs : s.size ≤ 140737488351232) : PT Try.prog 100 [.val (.string s)] (isV (.tup [SU (D (parseP s).1), .val (.int .i64 (parseP s).2)])) := by
  have := PO1.tree (mk_b _) (flatL_U _) (parse_calls hs)
  simpa [SU_def] using this
theorem parse_err (s : ByteArray) : (parseP s).2 = 0 ∨ (parseP s).2 = 2 ∨ (parseP s).2 = 10 := by
  unfold parseP
  split
  · exact .inr (.inl rfl)
  split
  · exact .inr (.inr rfl)
  split
  · exact .inl rfl
  · exact .inr (.inr rfl)
theorem ext_all (s : ByteArray) : s.extract 0 s.size = s := by
  cases s; simp [ByteArray.extract, ByteArray.copySlice, ByteArray.size]

theorem wparse_calls {s : ByteArray} (hs : s.size ≤ 140737488351232) : PT Try.prog 99 [.val (.string s)] (isV (.tup [WC (wparseP s).1, .val (.int .i64 (wparseP s).2)])) := by
  have hm := mlen_le s
  have hp := parse_t (s := s.extract (mlen s) s.size) (by rw [ByteArray.size_extract]; omega)
  have hok := parse_ok (s.extract (mlen s) s.size)
  have he := parse_err (s.extract (mlen s) s.size)
  have hz := parse_zero (s := s.extract (mlen s) s.size)
  have hmd := made_v (b := decide (mlen s ≠ 0)) hok
  unfold wparseP
  simp only
  have hlm : ∀ b : Bool, sg b 0 = 0 := fun b => by cases b <;> rfl
  refine PCalls.enter (n := 36) (rs := [.cell 2 24, .tmp 3]) (tb := []) Try.func99 rfl rfl rfl (by kernel_rfl) (by kernel_rfl) (by simp) fun c hc ht => ?_
  simp -implicitDefEqProofs (disch := omega) only [go_sem, ht, eq_self]
  refine LW.loopW hc ht (by kernel_rfl) (fun t => t.sl 0 = .val (.string s) ∧ t.sl 2 = .ptr 0 0 ∧ t.H 0 = some [.val (.bool false), .val (.slice none 0 0)] ∧ 0 < t.nx ∧ t.sl 3 = .val (.int .i64 0) ∧ t.sl 4 = .val (.bool false) ∧ ∃ idit, t.sl 10 = .ptr idit 0 ∧ t.it idit = some (s, 0)) (fun _ => 0) ?_ ?_
  · simp -implicitDefEqProofs (disch := omega) only [go_sem, ht, eq_self]
    exact ⟨_, rfl, upd_self _ _ _⟩
  · rintro t ⟨h0, h2, hH, hnx, h3, h4, idit, h10, hit⟩
    by_cases hs0 : s.size = 0
    · have em : mlen s = 0 := if_pos hs0
      rw [em, ext_all] at hp hok he hz hmd
      rw [em, ext_all]
      rw [show decide ((0 : Nat) ≠ 0) = false from rfl] at hmd ⊢
      generalize (parseP s).1 = n at *
      generalize (parseP s).2 = e at *
      by_cases he0 : e = 0
      · subst he0
        simp -implicitDefEqProofs (disch := omega) only [go_sem, ht, h0, h2, hH, h3, h4, h10, hit, eq_self]
        ((refine pCall_view (by simp -implicitDefEqProofs (disch := omega) only [h2, hH, h3, h4, go_sem, ht, eq_self] <;> rfl) (by simp -implicitDefEqProofs (disch := omega) only [h2, hH, h3, h4, go_sem, ht, eq_self]) (by first | (apply Or.inl; simp -implicitDefEqProofs (disch := omega) only [h2, hH, h3, h4, go_sem, ht, eq_self]; done) | (apply Or.inr; rintro r rfl; rfl)) (hp) ?_; rintro _ nx_1 - rfl hnx_1; (try simp only [put_nx, withH_nx, begP_nx] at hnx_1); simp -implicitDefEqProofs (disch := omega) only [h2, hH, h3, h4, go_sem, ht, eq_self]); (refine pCall_view (by simp -implicitDefEqProofs (disch := omega) only [h2, hH, h3, h4, go_sem, ht, eq_self] <;> rfl) (by simp -implicitDefEqProofs (disch := omega) only [h2, hH, h3, h4, go_sem, ht, eq_self]) (by first | (apply Or.inl; simp -implicitDefEqProofs (disch := omega) only [h2, hH, h3, h4, go_sem, ht, eq_self]; done) | (apply Or.inr; rintro r rfl; rfl)) (hmd) ?_; rintro _ nx_2 - rfl hnx_2; (try simp only [put_nx, withH_nx, begP_nx] at hnx_2); simp -implicitDefEqProofs (disch := omega) only [h2, hH, h3, h4, go_sem, ht, eq_self]))
        (refine end_treeM 2 ?_; simp -implicitDefEqProofs (disch := omega) only [go_sem, ht, h2, hH, h3, h4, eq_self])
      · have := hz he0
        subst this
        rw [hlm]
        rw [D_zero] at hp
        simp -implicitDefEqProofs (disch := omega) only [go_sem, ht, h0, h2, hH, h3, h4, h10, hit, eq_self]
        ((refine pCall_view (by simp -implicitDefEqProofs (disch := omega) only [h2, hH, h3, h4, go_sem, ht, eq_self] <;> rfl) (by simp -implicitDefEqProofs (disch := omega) only [h2, hH, h3, h4, go_sem, ht, eq_self]) (by first | (apply Or.inl; simp -implicitDefEqProofs (disch := omega) only [h2, hH, h3, h4, go_sem, ht, eq_self]; done) | (apply Or.inr; rintro r rfl; rfl)) (hp) ?_; rintro _ nx_3 - rfl hnx_3; (try simp only [put_nx, withH_nx, begP_nx] at hnx_3); simp -implicitDefEqProofs (disch := omega) only [h2, hH, h3, h4, go_sem, ht, eq_self]))
        (refine end_treeM 2 ?_; simp -implicitDefEqProofs (disch := omega) only [go_sem, ht, h2, hH, h3, h4, Int.natAbs_zero, D_zero, List.length_nil, List.map_nil, Int.lt_irrefl, decide_false, eq_self])
    · have hs1 : 0 < s.size := by omega
      by_cases hr : (Utf8.decode s 0).1 = 45
      · have em : mlen s = 1 := by unfold mlen; rw [if_neg hs0, if_pos hr]
        rw [em] at hp hok he hz hmd
        rw [em]
        rw [show decide ((1 : Nat) ≠ 0) = true from rfl] at hmd ⊢
        obtain ⟨s', es⟩ : ∃ s', s.extract 1 s.size = s' := ⟨_, rfl⟩
        rw [es] at hp hok he hz hmd ⊢
        generalize (parseP s').1 = n at *
        generalize (parseP s').2 = e at *
        by_cases he0 : e = 0
        · subst he0
          simp -implicitDefEqProofs (disch := omega) only [go_sem, ht, h0, h2, hH, h3, h4, h10, hit, hr, eq_self]
          ((refine pCall_view (by simp -implicitDefEqProofs (disch := omega) only [es, h0, h2, hH, h3, h4, go_sem, ht, eq_self] <;> rfl) (by simp -implicitDefEqProofs (disch := omega) only [es, h0, h2, hH, h3, h4, go_sem, ht, eq_self]) (by first | (apply Or.inl; simp -implicitDefEqProofs (disch := omega) only [es, h0, h2, hH, h3, h4, go_sem, ht, eq_self]; done) | (apply Or.inr; rintro r rfl; rfl)) (runelen1) ?_; rintro _ nx_4 - rfl hnx_4; (try simp only [put_nx, withH_nx, begP_nx] at hnx_4); simp -implicitDefEqProofs (disch := omega) only [es, h0, h2, hH, h3, h4, go_sem, ht, eq_self]); (refine pCall_view (by simp -implicitDefEqProofs (disch := omega) only [es, h0, h2, hH, h3, h4, go_sem, ht, eq_self] <;> rfl) (by simp -implicitDefEqProofs (disch := omega) only [es, h0, h2, hH, h3, h4, go_sem, ht, eq_self]) (by first | (apply Or.inl; simp -implicitDefEqProofs (disch := omega) only [es, h0, h2, hH, h3, h4, go_sem, ht, eq_self]; done) | (apply Or.inr; rintro r rfl; rfl)) (hp) ?_; rintro _ nx_5 - rfl hnx_5; (try simp only [put_nx, withH_nx, begP_nx] at hnx_5); simp -implicitDefEqProofs (disch := omega) only [es, h0, h2, hH, h3, h4, go_sem, ht, eq_self]); (refine pCall_view (by simp -implicitDefEqProofs (disch := omega) only [es, h0, h2, hH, h3, h4, go_sem, ht, eq_self] <;> rfl) (by simp -implicitDefEqProofs (disch := omega) only [es, h0, h2, hH, h3, h4, go_sem, ht, eq_self]) (by first | (apply Or.inl; simp -implicitDefEqProofs (disch := omega) only [es, h0, h2, hH, h3, h4, go_sem, ht, eq_self]; done) | (apply Or.inr; rintro r rfl; rfl)) (hmd) ?_; rintro _ nx_6 - rfl hnx_6; (try simp only [put_nx, withH_nx, begP_nx] at hnx_6); simp -implicitDefEqProofs (disch := omega) only [es, h0, h2, hH, h3, h4, go_sem, ht, eq_self]))
          (refine end_treeM 2 ?_; simp -implicitDefEqProofs (disch := omega) only [go_sem, ht, h2, hH, h3, h4, eq_self])
        · have := hz he0
          subst this
          rw [hlm]
          rw [D_zero] at hp
          simp -implicitDefEqProofs (disch := omega) only [go_sem, ht, h0, h2, hH, h3, h4, h10, hit, hr, eq_self]
          ((refine pCall_view (by simp -implicitDefEqProofs (disch := omega) only [es, h0, h2, hH, h3, h4, go_sem, ht, eq_self] <;> rfl) (by simp -implicitDefEqProofs (disch := omega) only [es, h0, h2, hH, h3, h4, go_sem, ht, eq_self]) (by first | (apply Or.inl; simp -implicitDefEqProofs (disch := omega) only [es, h0, h2, hH, h3, h4, go_sem, ht, eq_self]; done) | (apply Or.inr; rintro r rfl; rfl)) (runelen1) ?_; rintro _ nx_7 - rfl hnx_7; (try simp only [put_nx, withH_nx, begP_nx] at hnx_7); simp -implicitDefEqProofs (disch := omega) only [es, h0, h2, hH, h3, h4, go_sem, ht, eq_self]); (refine pCall_view (by simp -implicitDefEqProofs (disch := omega) only [es, h0, h2, hH, h3, h4, go_sem, ht, eq_self] <;> rfl) (by simp -implicitDefEqProofs (disch := omega) only [es, h0, h2, hH, h3, h4, go_sem, ht, eq_self]) (by first | (apply Or.inl; simp -implicitDefEqProofs (disch := omega) only [es, h0, h2, hH, h3, h4, go_sem, ht, eq_self]; done) | (apply Or.inr; rintro r rfl; rfl)) (hp) ?_; rintro _ nx_8 - rfl hnx_8; (try simp only [put_nx, withH_nx, begP_nx] at hnx_8); simp -implicitDefEqProofs (disch := omega) only [es, h0, h2, hH, h3, h4, go_sem, ht, eq_self]))
          (refine end_treeM 2 ?_; simp -implicitDefEqProofs (disch := omega) only [go_sem, ht, h2, hH, h3, h4, Int.natAbs_zero, D_zero, List.length_nil, List.map_nil, Int.lt_irrefl, decide_false, eq_self])
      by_cases hr3 : (Utf8.decode s 0).1 = 8722
      · have em : mlen s = 3 := by unfold mlen; rw [if_neg hs0, if_neg hr, if_pos hr3]
        have h3s := decode_minus hr3
        rw [em] at hp hok he hz hmd
        rw [em]
        rw [show decide ((3 : Nat) ≠ 0) = true from rfl] at hmd ⊢
        obtain ⟨s', es⟩ : ∃ s', s.extract 3 s.size = s' := ⟨_, rfl⟩
        rw [es] at hp hok he hz hmd ⊢
        generalize (parseP s').1 = n at *
        generalize (parseP s').2 = e at *
        by_cases he0 : e = 0
        · subst he0
          simp -implicitDefEqProofs (disch := omega) only [go_sem, ht, h0, h2, hH, h3, h4, h10, hit, hr3, eq_self]
          ((refine pCall_view (by simp -implicitDefEqProofs (disch := omega) only [es, h0, h2, hH, h3, h4, go_sem, ht, eq_self] <;> rfl) (by simp -implicitDefEqProofs (disch := omega) only [es, h0, h2, hH, h3, h4, go_sem, ht, eq_self]) (by first | (apply Or.inl; simp -implicitDefEqProofs (disch := omega) only [es, h0, h2, hH, h3, h4, go_sem, ht, eq_self]; done) | (apply Or.inr; rintro r rfl; rfl)) (runelen3) ?_; rintro _ nx_9 - rfl hnx_9; (try simp only [put_nx, withH_nx, begP_nx] at hnx_9); simp -implicitDefEqProofs (disch := omega) only [es, h0, h2, hH, h3, h4, go_sem, ht, eq_self]); (refine pCall_view (by simp -implicitDefEqProofs (disch := omega) only [es, h0, h2, hH, h3, h4, go_sem, ht, eq_self] <;> rfl) (by simp -implicitDefEqProofs (disch := omega) only [es, h0, h2, hH, h3, h4, go_sem, ht, eq_self]) (by first | (apply Or.inl; simp -implicitDefEqProofs (disch := omega) only [es, h0, h2, hH, h3, h4, go_sem, ht, eq_self]; done) | (apply Or.inr; rintro r rfl; rfl)) (hp) ?_; rintro _ nx_10 - rfl hnx_10; (try simp only [put_nx, withH_nx, begP_nx] at hnx_10); simp -implicitDefEqProofs (disch := omega) only [es, h0, h2, hH, h3, h4, go_sem, ht, eq_self]); (refine pCall_view (by simp -implicitDefEqProofs (disch := omega) only [es, h0, h2, hH, h3, h4, go_sem, ht, eq_self] <;> rfl) (by simp -implicitDefEqProofs (disch := omega) only [es, h0, h2, hH, h3, h4, go_sem, ht, eq_self]) (by first | (apply Or.inl; simp -implicitDefEqProofs (disch := omega) only [es, h0, h2, hH, h3, h4, go_sem, ht, eq_self]; done) | (apply Or.inr; rintro r rfl; rfl)) (hmd) ?_; rintro _ nx_11 - rfl hnx_11; (try simp only [put_nx, withH_nx, begP_nx] at hnx_11); simp -implicitDefEqProofs (disch := omega) only [es, h0, h2, hH, h3, h4, go_sem, ht, eq_self]))
          (refine end_treeM 2 ?_; simp -implicitDefEqProofs (disch := omega) only [go_sem, ht, h2, hH, h3, h4, eq_self])
        · have := hz he0
          subst this
          rw [hlm]
          rw [D_zero] at hp
          simp -implicitDefEqProofs (disch := omega) only [go_sem, ht, h0, h2, hH, h3, h4, h10, hit, hr3, eq_self]
          ((refine pCall_view (by simp -implicitDefEqProofs (disch := omega) only [es, h0, h2, hH, h3, h4, go_sem, ht, eq_self] <;> rfl) (by simp -implicitDefEqProofs (disch := omega) only [es, h0, h2, hH, h3, h4, go_sem, ht, eq_self]) (by first | (apply Or.inl; simp -implicitDefEqProofs (disch := omega) only [es, h0, h2, hH, h3, h4, go_sem, ht, eq_self]; done) | (apply Or.inr; rintro r rfl; rfl)) (runelen3) ?_; rintro _ nx_12 - rfl hnx_12; (try simp only [put_nx, withH_nx, begP_nx] at hnx_12); simp -implicitDefEqProofs (disch := omega) only [es, h0, h2, hH, h3, h4, go_sem, ht, eq_self]); (refine pCall_view (by simp -implicitDefEqProofs (disch := omega) only [es, h0, h2, hH, h3, h4, go_sem, ht, eq_self] <;> rfl) (by simp -implicitDefEqProofs (disch := omega) only [es, h0, h2, hH, h3, h4, go_sem, ht, eq_self]) (by first | (apply Or.inl; simp -implicitDefEqProofs (disch := omega) only [es, h0, h2, hH, h3, h4, go_sem, ht, eq_self]; done) | (apply Or.inr; rintro r rfl; rfl)) (hp) ?_; rintro _ nx_13 - rfl hnx_13; (try simp only [put_nx, withH_nx, begP_nx] at hnx_13); simp -implicitDefEqProofs (disch := omega) only [es, h0, h2, hH, h3, h4, go_sem, ht, eq_self]))
          (refine end_treeM 2 ?_; simp -implicitDefEqProofs (disch := omega) only [go_sem, ht, h2, hH, h3, h4, Int.natAbs_zero, D_zero, List.length_nil, List.map_nil, Int.lt_irrefl, decide_false, eq_self])
      · have em : mlen s = 0 := by unfold mlen; rw [if_neg hs0, if_neg hr, if_neg hr3]
        rw [em, ext_all] at hp hok he hz hmd
        rw [em, ext_all]
        rw [show decide ((0 : Nat) ≠ 0) = false from rfl] at hmd ⊢
        generalize (parseP s).1 = n at *
        generalize (parseP s).2 = e at *
        obtain ⟨r, er⟩ : ∃ r, (Utf8.decode s 0).1 = r := ⟨_, rfl⟩
        rw [er] at hr hr3
        have k1 : decide ((r : Int) = 45) = false := by simp; omega
        have k2 : decide ((r : Int) = 8722) = false := by simp; omega
        by_cases he0 : e = 0
        · subst he0
          simp -implicitDefEqProofs (disch := omega) only [go_sem, ht, h0, h2, hH, h3, h4, h10, hit, er, k1, k2, eq_self]
          ((refine pCall_view (by simp -implicitDefEqProofs (disch := omega) only [h2, hH, h3, h4, go_sem, ht, eq_self] <;> rfl) (by simp -implicitDefEqProofs (disch := omega) only [h2, hH, h3, h4, go_sem, ht, eq_self]) (by first | (apply Or.inl; simp -implicitDefEqProofs (disch := omega) only [h2, hH, h3, h4, go_sem, ht, eq_self]; done) | (apply Or.inr; rintro r rfl; rfl)) (hp) ?_; rintro _ nx_14 - rfl hnx_14; (try simp only [put_nx, withH_nx, begP_nx] at hnx_14); simp -implicitDefEqProofs (disch := omega) only [h2, hH, h3, h4, go_sem, ht, eq_self]); (refine pCall_view (by simp -implicitDefEqProofs (disch := omega) only [h2, hH, h3, h4, go_sem, ht, eq_self] <;> rfl) (by simp -implicitDefEqProofs (disch := omega) only [h2, hH, h3, h4, go_sem, ht, eq_self]) (by first | (apply Or.inl; simp -implicitDefEqProofs (disch := omega) only [h2, hH, h3, h4, go_sem, ht, eq_self]; done) | (apply Or.inr; rintro r rfl; rfl)) (hmd) ?_; rintro _ nx_15 - rfl hnx_15; (try simp only [put_nx, withH_nx, begP_nx] at hnx_15); simp -implicitDefEqProofs (disch := omega) only [h2, hH, h3, h4, go_sem, ht, eq_self]))
          (refine end_treeM 2 ?_; simp -implicitDefEqProofs (disch := omega) only [go_sem, ht, h2, hH, h3, h4, eq_self])
        · have := hz he0
          subst this
          rw [hlm]
          rw [D_zero] at hp
          simp -implicitDefEqProofs (disch := omega) only [go_sem, ht, h0, h2, hH, h3, h4, h10, hit, er, k1, k2, eq_self]
          ((refine pCall_view (by simp -implicitDefEqProofs (disch := omega) only [h2, hH, h3, h4, go_sem, ht, eq_self] <;> rfl) (by simp -implicitDefEqProofs (disch := omega) only [h2, hH, h3, h4, go_sem, ht, eq_self]) (by first | (apply Or.inl; simp -implicitDefEqProofs (disch := omega) only [h2, hH, h3, h4, go_sem, ht, eq_self]; done) | (apply Or.inr; rintro r rfl; rfl)) (hp) ?_; rintro _ nx_16 - rfl hnx_16; (try simp only [put_nx, withH_nx, begP_nx] at hnx_16); simp -implicitDefEqProofs (disch := omega) only [h2, hH, h3, h4, go_sem, ht, eq_self]))
          (refine end_treeM 2 ?_; simp -implicitDefEqProofs (disch := omega) only [go_sem, ht, h2, hH, h3, h4, Int.natAbs_zero, D_zero, List.length_nil, List.map_nil, Int.lt_irrefl, decide_false, eq_self])
end Go.Proofs.Ytgebemjmckgomaa

namespace Go.Proofs.Ytgebemjmckgomaa

theorem decode_low (b : UInt8) (l : List UInt8) (h : b.toNat < 128) : (Utf8.decode ⟨(b :: l).toArray⟩ 0).1 = b.toNat := by
  have e : (⟨(b :: l).toArray⟩ : ByteArray).get! 0 = b := by simp [ByteArray.get!]
  unfold Utf8.decode
  simp only [Nat.add_zero, e]
  rw [if_pos h]
theorem decode_u2212 (l : List UInt8) : (Utf8.decode ⟨(226 :: 136 :: 146 :: l).toArray⟩ 0).1 = 8722 := by
  have e0 : (⟨((226 : UInt8) :: 136 :: 146 :: l).toArray⟩ : ByteArray).get! 0 = 226 := by simp [ByteArray.get!]
  have e1 : (⟨((226 : UInt8) :: 136 :: 146 :: l).toArray⟩ : ByteArray).get! 1 = 136 := by simp [ByteArray.get!]
  have e2 : (⟨((226 : UInt8) :: 136 :: 146 :: l).toArray⟩ : ByteArray).get! 2 = 146 := by simp [ByteArray.get!]
  have es : (⟨((226 : UInt8) :: 136 :: 146 :: l).toArray⟩ : ByteArray).size = l.length + 3 := by rw [bsize]; simp
  unfold Utf8.decode
  simp only [Nat.add_zero, Nat.zero_add, e0, e1, e2, es]
  have h1 : decide (1 < l.length + 3) = true := by simp
  have h2 : decide (2 < l.length + 3) = true := by simp
  simp only [h1, h2]
  rfl
/-- A natural's digits as bytes. -/
def dgB (n : Nat) : List UInt8 := (txt n).data.toList
theorem dgB_all (n : Nat) : (dgB n).all isDg = true := by
  unfold dgB
  by_cases h : n = 0
  · subst h; rfl
  · rw [txt_pos h]; simpa using all_digs n
theorem dgB_ne (n : Nat) : dgB n ≠ [] := by
  unfold dgB
  by_cases h : n = 0
  · subst h; simp [txt]
  · rw [txt_pos h, digs_pos h]; simp
theorem txt_dgB (n : Nat) : txt n = ⟨(dgB n).toArray⟩ := by unfold dgB; cases txt n; simp
theorem dgB_cons (n : Nat) : ∃ b l, dgB n = b :: l ∧ 48 ≤ b.toNat ∧ b.toNat ≤ 57 := by
  have h1 := dgB_all n
  have h2 := dgB_ne n
  cases h : dgB n with
  | nil => exact absurd h h2
  | cons b l =>
    rw [h] at h1
    simp only [List.all_cons, Bool.and_eq_true] at h1
    exact ⟨b, l, rfl, dig_of h1.1⟩
theorem mlen_txt (n : Nat) : mlen (txt n) = 0 := by
  obtain ⟨b, l, h, h1, h2⟩ := dgB_cons n
  rw [txt_dgB, h]
  have := decode_low b l (by omega)
  unfold mlen
  rw [this]
  rw [if_neg (by rw [bsize]; simp), if_neg (by omega), if_neg (by omega)]
theorem mlen_minus (l : List UInt8) : mlen ⟨(45 :: l).toArray⟩ = 1 := by
  have := decode_low 45 l (by decide)
  unfold mlen
  rw [this, if_neg (by rw [bsize]; simp), if_pos (by decide)]
theorem mlen_u2212 (l : List UInt8) : mlen ⟨(226 :: 136 :: 146 :: l).toArray⟩ = 3 := by
  unfold mlen
  rw [decode_u2212, if_neg (by rw [bsize]; simp), if_neg (by decide), if_pos rfl]
theorem bext3 (a b d : UInt8) (l : List UInt8) : (⟨(a :: b :: d :: l).toArray⟩ : ByteArray).extract 3 (l.length + 3) = ⟨l.toArray⟩ := by
  apply ByteArray.ext
  simp [ByteArray.data_extract]
theorem wtxt_neg {z : Int} (h : z < 0) : wtxt z = ⟨(45 :: dgB z.natAbs).toArray⟩ := by
  unfold wtxt
  rw [if_pos h, txt_dgB]
  apply ByteArray.ext
  simp
theorem wtxt_pos {z : Int} (h : ¬ z < 0) : wtxt z = txt z.natAbs := if_neg h
theorem wparse_wtxt {z : Int} (h : (digs z.natAbs).length ≤ 5120) : wparseP (wtxt z) = (z, 0) := by
  have hp := txt_parse h
  by_cases hz : z < 0
  · rw [wtxt_neg hz]
    unfold wparseP
    rw [mlen_minus, bsize, List.length_cons, bext, ← txt_dgB, hp]
    simp [sg]; omega
  · rw [wtxt_pos hz]
    unfold wparseP
    rw [mlen_txt, ext_all, hp]
    simp [sg]; omega
theorem wparse_u2212 {z : Int} (h : (digs z.natAbs).length ≤ 5120) (hz : z < 0) : wparseP (⟨#[226, 136, 146]⟩ ++ (wtxt z).extract 1 (wtxt z).size) = (z, 0) := by
  have hp := txt_parse h
  rw [wtxt_neg hz, bsize, List.length_cons, bext]
  have e : (⟨#[226, 136, 146]⟩ : ByteArray) ++ ⟨(dgB z.natAbs).toArray⟩ = ⟨(226 :: 136 :: 146 :: dgB z.natAbs).toArray⟩ := by
    apply ByteArray.ext
    simp
  rw [e]
  unfold wparseP
  rw [mlen_u2212, bsize]
  simp only [List.length_cons]
  rw [bext3, ← txt_dgB, hp]
  simp [sg]; omega
end Go.Proofs.Ytgebemjmckgomaa
