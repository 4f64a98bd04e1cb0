/- Fractions and their texts: the program's Parse, the document's Parse and Text, and what both tell. -/
import Derived.Test.YtgebemjmckgomaaCutS
import Derived.Test.YtgebemjmckgomaaRefT
import Derived.Test.YtgebemjmckgomaaRefText
import Derived.Test.YtgebemjmckgomaaCopyW
set_option maxRecDepth 100000
set_option linter.unusedVariables false
set_option linter.unusedSimpArgs false
namespace Go.Proofs.Ytgebemjmckgomaa

/-- What Parse tells: a fraction, or an error's number. -/
def rpP (s : ByteArray) (o : Nat) : Option Rat × Int :=
  if 10240 < s.size then (none, 2) else if (wparseP (s.extract 0 o)).2 ≠ 0 then (none, (wparseP (s.extract 0 o)).2) else if o < s.size then
    if (parseP (s.extract (o + 1) s.size)).2 ≠ 0 then (none, (parseP (s.extract (o + 1) s.size)).2) else if (parseP (s.extract (o + 1) s.size)).1 = 0 then (none, 20)
      else (some (Rat.divInt (wparseP (s.extract 0 o)).1 ((parseP (s.extract (o + 1) s.size)).1 : Nat)), 0)
  else (some ((wparseP (s.extract 0 o)).1 : Rat), 0)
def FO : Option Rat → PV
  | none => FZ
  | some q => FC q
theorem FO_none : FO none = FZ := rfl
theorem FO_some (q : Rat) : FO (some q) = FC q := rfl
theorem parse_z5 {K : Nat} (hK : K = 5120) (s' : ByteArray) : (parseP s').1 < 4294967296 ^ K := by
  have h0 : 0 < 4294967296 ^ K := Nat.pow_pos (by decide)
  unfold parseP
  split
  · exact h0
  split
  · exact h0
  split
  · rename_i h1 h2 h3
    have hlt := dv_lt _ _ rfl h3
    have hl : s'.data.toList.length ≤ K := by simp; omega
    exact Nat.lt_of_lt_of_le hlt (Nat.le_trans (Nat.pow_le_pow_right (by decide) hl) (Nat.pow_le_pow_left (show 10 ≤ 4294967296 by decide) _))
  · exact h0
theorem wparse_err (s : ByteArray) : (wparseP s).2 = 0 ∨ (wparseP s).2 = 2 ∨ (wparseP s).2 = 10 := parse_err _
theorem rparse_calls {s : ByteArray} {o : Nat} (h : Sl s o) (hs : s.size ≤ 140737488351232) : PT Try.prog 58 [.val (.string s)] (isV (.tup [FO (rpP s o).1, .val (.int .i64 (rpP s o).2)])) := by
  have hct := cut_calls h hs
  have hle := h.le
  have h1 := wparse_calls (s := s.extract 0 o) (by rw [ByteArray.size_extract]; omega)
  obtain ⟨K, hK⟩ : ∃ K, K = 5120 := ⟨_, rfl⟩
  have hz := Ref.parse_z hK (s.extract 0 o)
  have he := wparse_err (s.extract 0 o)
  unfold rpP
  by_cases h0 : 10240 < s.size
  · rw [if_pos h0]
    simp only [FO_none]
    refine PCalls.enter (n := 48) (rs := [.cell 2 28, .tmp 3]) (tb := [(12, [(0, []), (1, []), (2, [0]), (3, []), (4, []), (5, []), (6, []), (7, [])])]) Try.func58 rfl rfl rfl (by kernel_rfl) (by kernel_rfl) (by simp) fun c hc ht => ?_
    simp -implicitDefEqProofs (disch := omega) only [go_sem, ht, eq_self]
    (refine end_treeM 2 ?_; simp -implicitDefEqProofs (disch := omega) only [go_sem, ht, eq_self])
  rw [if_neg h0]
  by_cases ho : o < s.size
  · unfold cutP at hct
    rw [if_pos ho] at hct
    have h2 := parse_t (s := s.extract (o + 1) s.size) (by rw [ByteArray.size_extract]; omega)
    have hok := parse_ok (s.extract (o + 1) s.size)
    have hz2 := parse_z5 hK (s.extract (o + 1) s.size)
    have he2 := parse_err (s.extract (o + 1) s.size)
    have hsz := size_calls (ds := D (parseP (s.extract (o + 1) s.size)).1)
    generalize s.extract (o + 1) s.size = tl at *
    generalize s.extract 0 o = hd at *
    have pn := Wn.C hz (by omega)
    have pd := Wn.N hz2 (by omega)
    by_cases e1 : (wparseP hd).2 = 0
    · rw [if_neg (by simp [e1])]
      rw [e1] at h1
      by_cases e2 : (parseP tl).2 = 0
      · rw [if_pos ho, if_neg (by simp [e2])]
        rw [e2] at h2
        by_cases e3 : (parseP tl).1 = 0
        · rw [if_pos e3]
          simp only [FO_none]
          rw [e3] at pd h2 hsz
          have hof := rof_zero (b := decide ((wparseP hd).1 < 0)) (xs := D (wparseP hd).1.natAbs) pd
          rw [← WC] at hof
          generalize (wparseP hd).1 = n at *
          refine PCalls.enter (n := 48) (rs := [.cell 2 28, .tmp 3]) (tb := [(12, [(0, []), (1, []), (2, [0]), (3, []), (4, []), (5, []), (6, []), (7, [])])]) Try.func58 rfl rfl rfl (by kernel_rfl) (by kernel_rfl) (by simp) fun c hc ht => ?_
          simp -implicitDefEqProofs (disch := omega) only [go_sem, ht, eq_self]
          ((refine pCall_view (by simp -implicitDefEqProofs (disch := omega) only [go_sem, ht, eq_self] <;> rfl) (by simp -implicitDefEqProofs (disch := omega) only [go_sem, ht, eq_self]) (by first | (apply Or.inl; simp -implicitDefEqProofs (disch := omega) only [go_sem, ht, eq_self]; done) | (apply Or.inr; rintro r rfl; rfl)) (hct) ?_; rintro _ nx_1 - rfl hnx_1; (try simp only [put_nx, withH_nx, begP_nx] at hnx_1); simp -implicitDefEqProofs (disch := omega) only [go_sem, ht, eq_self]); (refine pCall_view (by simp -implicitDefEqProofs (disch := omega) only [go_sem, ht, eq_self] <;> rfl) (by simp -implicitDefEqProofs (disch := omega) only [go_sem, ht, eq_self]) (by first | (apply Or.inl; simp -implicitDefEqProofs (disch := omega) only [go_sem, ht, eq_self]; done) | (apply Or.inr; rintro r rfl; rfl)) (h1) ?_; rintro _ nx_2 - rfl hnx_2; (try simp only [put_nx, withH_nx, begP_nx] at hnx_2); simp -implicitDefEqProofs (disch := omega) only [go_sem, ht, eq_self]); (refine pCall_view (by simp -implicitDefEqProofs (disch := omega) only [go_sem, ht, eq_self] <;> rfl) (by simp -implicitDefEqProofs (disch := omega) only [go_sem, ht, eq_self]) (by first | (apply Or.inl; simp -implicitDefEqProofs (disch := omega) only [go_sem, ht, eq_self]; done) | (apply Or.inr; rintro r rfl; rfl)) (h2) ?_; rintro _ nx_3 - rfl hnx_3; (try simp only [put_nx, withH_nx, begP_nx] at hnx_3); simp -implicitDefEqProofs (disch := omega) only [go_sem, ht, eq_self]); (refine pCall_view (by simp -implicitDefEqProofs (disch := omega) only [go_sem, ht, eq_self] <;> rfl) (by simp -implicitDefEqProofs (disch := omega) only [go_sem, ht, eq_self]) (by first | (apply Or.inl; simp -implicitDefEqProofs (disch := omega) only [go_sem, ht, eq_self]; done) | (apply Or.inr; rintro r rfl; rfl)) (hsz) ?_; rintro _ nx_4 - rfl hnx_4; (try simp only [put_nx, withH_nx, begP_nx] at hnx_4); simp -implicitDefEqProofs (disch := omega) only [go_sem, ht, eq_self]); (refine pCall_view (by simp -implicitDefEqProofs (disch := omega) only [go_sem, ht, eq_self] <;> rfl) (by simp -implicitDefEqProofs (disch := omega) only [go_sem, ht, eq_self]) (by first | (apply Or.inl; simp -implicitDefEqProofs (disch := omega) only [go_sem, ht, eq_self]; done) | (apply Or.inr; rintro r rfl; rfl)) (hof) ?_; rintro _ nx_5 - rfl hnx_5; (try simp only [put_nx, withH_nx, begP_nx] at hnx_5); simp -implicitDefEqProofs (disch := omega) only [go_sem, ht, eq_self]))
          (refine end_treeM 2 ?_; simp -implicitDefEqProofs (disch := omega) only [go_sem, ht, eq_self])
        · rw [if_neg e3]
          simp only [FO_some]
          have hof := rofW pn pd (by omega)
          rw [← WC] at hof
          clear pn pd hz hz2 hok
          generalize Rat.divInt (wparseP hd).1 ((parseP tl).1 : Nat) = r at *
          generalize (wparseP hd).1 = n at *
          generalize (parseP tl).1 = d at *
          refine PCalls.enter (n := 48) (rs := [.cell 2 28, .tmp 3]) (tb := [(12, [(0, []), (1, []), (2, [0]), (3, []), (4, []), (5, []), (6, []), (7, [])])]) Try.func58 rfl rfl rfl (by kernel_rfl) (by kernel_rfl) (by simp) fun c hc ht => ?_
          simp -implicitDefEqProofs (disch := omega) only [go_sem, ht, eq_self]
          ((refine pCall_view (by simp -implicitDefEqProofs (disch := omega) only [go_sem, ht, eq_self] <;> rfl) (by simp -implicitDefEqProofs (disch := omega) only [go_sem, ht, eq_self]) (by first | (apply Or.inl; simp -implicitDefEqProofs (disch := omega) only [go_sem, ht, eq_self]; done) | (apply Or.inr; rintro r rfl; rfl)) (hct) ?_; rintro _ nx_6 - rfl hnx_6; (try simp only [put_nx, withH_nx, begP_nx] at hnx_6); simp -implicitDefEqProofs (disch := omega) only [go_sem, ht, eq_self]); (refine pCall_view (by simp -implicitDefEqProofs (disch := omega) only [go_sem, ht, eq_self] <;> rfl) (by simp -implicitDefEqProofs (disch := omega) only [go_sem, ht, eq_self]) (by first | (apply Or.inl; simp -implicitDefEqProofs (disch := omega) only [go_sem, ht, eq_self]; done) | (apply Or.inr; rintro r rfl; rfl)) (h1) ?_; rintro _ nx_7 - rfl hnx_7; (try simp only [put_nx, withH_nx, begP_nx] at hnx_7); simp -implicitDefEqProofs (disch := omega) only [go_sem, ht, eq_self]); (refine pCall_view (by simp -implicitDefEqProofs (disch := omega) only [go_sem, ht, eq_self] <;> rfl) (by simp -implicitDefEqProofs (disch := omega) only [go_sem, ht, eq_self]) (by first | (apply Or.inl; simp -implicitDefEqProofs (disch := omega) only [go_sem, ht, eq_self]; done) | (apply Or.inr; rintro r rfl; rfl)) (h2) ?_; rintro _ nx_8 - rfl hnx_8; (try simp only [put_nx, withH_nx, begP_nx] at hnx_8); simp -implicitDefEqProofs (disch := omega) only [go_sem, ht, eq_self]); (refine pCall_view (by simp -implicitDefEqProofs (disch := omega) only [go_sem, ht, eq_self] <;> rfl) (by simp -implicitDefEqProofs (disch := omega) only [go_sem, ht, eq_self]) (by first | (apply Or.inl; simp -implicitDefEqProofs (disch := omega) only [go_sem, ht, eq_self]; done) | (apply Or.inr; rintro r rfl; rfl)) (hsz) ?_; rintro _ nx_9 - rfl hnx_9; (try simp only [put_nx, withH_nx, begP_nx] at hnx_9); simp -implicitDefEqProofs (disch := omega) only [go_sem, ht, eq_self]); (refine pCall_view (by simp -implicitDefEqProofs (disch := omega) only [go_sem, ht, eq_self] <;> rfl) (by simp -implicitDefEqProofs (disch := omega) only [go_sem, ht, eq_self]) (by first | (apply Or.inl; simp -implicitDefEqProofs (disch := omega) only [go_sem, ht, eq_self]; done) | (apply Or.inr; rintro r rfl; rfl)) (hof) ?_; rintro _ nx_10 - rfl hnx_10; (try simp only [put_nx, withH_nx, begP_nx] at hnx_10); simp -implicitDefEqProofs (disch := omega) only [go_sem, ht, eq_self]))
          (refine end_treeM 2 ?_; simp -implicitDefEqProofs (disch := omega) only [go_sem, ht, eq_self])
      · rw [if_pos ho, if_pos e2]
        simp only [FO_none]
        have := parse_zero e2
        rw [this, D_zero] at h2
        clear pn pd hz hz2 hok
        generalize (wparseP hd).1 = n at *
        generalize (parseP tl).2 = e at *
        refine PCalls.enter (n := 48) (rs := [.cell 2 28, .tmp 3]) (tb := [(12, [(0, []), (1, []), (2, [0]), (3, []), (4, []), (5, []), (6, []), (7, [])])]) Try.func58 rfl rfl rfl (by kernel_rfl) (by kernel_rfl) (by simp) fun c hc ht => ?_
        simp -implicitDefEqProofs (disch := omega) only [go_sem, ht, eq_self]
        ((refine pCall_view (by simp -implicitDefEqProofs (disch := omega) only [go_sem, ht, eq_self] <;> rfl) (by simp -implicitDefEqProofs (disch := omega) only [go_sem, ht, eq_self]) (by first | (apply Or.inl; simp -implicitDefEqProofs (disch := omega) only [go_sem, ht, eq_self]; done) | (apply Or.inr; rintro r rfl; rfl)) (hct) ?_; rintro _ nx_11 - rfl hnx_11; (try simp only [put_nx, withH_nx, begP_nx] at hnx_11); simp -implicitDefEqProofs (disch := omega) only [go_sem, ht, eq_self]); (refine pCall_view (by simp -implicitDefEqProofs (disch := omega) only [go_sem, ht, eq_self] <;> rfl) (by simp -implicitDefEqProofs (disch := omega) only [go_sem, ht, eq_self]) (by first | (apply Or.inl; simp -implicitDefEqProofs (disch := omega) only [go_sem, ht, eq_self]; done) | (apply Or.inr; rintro r rfl; rfl)) (h1) ?_; rintro _ nx_12 - rfl hnx_12; (try simp only [put_nx, withH_nx, begP_nx] at hnx_12); simp -implicitDefEqProofs (disch := omega) only [go_sem, ht, eq_self]); (refine pCall_view (by simp -implicitDefEqProofs (disch := omega) only [go_sem, ht, eq_self] <;> rfl) (by simp -implicitDefEqProofs (disch := omega) only [go_sem, ht, eq_self]) (by first | (apply Or.inl; simp -implicitDefEqProofs (disch := omega) only [go_sem, ht, eq_self]; done) | (apply Or.inr; rintro r rfl; rfl)) (h2) ?_; rintro _ nx_13 - rfl hnx_13; (try simp only [put_nx, withH_nx, begP_nx] at hnx_13); simp -implicitDefEqProofs (disch := omega) only [go_sem, ht, eq_self]))
        (refine end_treeM 2 ?_; simp -implicitDefEqProofs (disch := omega) only [go_sem, ht, eq_self])
    · rw [if_pos e1]
      simp only [FO_none]
      have := Ref.wparse_zero hd e1
      rw [this, WC0] at h1
      clear pn pd hz hz2 hok
      generalize (wparseP hd).2 = e at *
      refine PCalls.enter (n := 48) (rs := [.cell 2 28, .tmp 3]) (tb := [(12, [(0, []), (1, []), (2, [0]), (3, []), (4, []), (5, []), (6, []), (7, [])])]) Try.func58 rfl rfl rfl (by kernel_rfl) (by kernel_rfl) (by simp) fun c hc ht => ?_
      simp -implicitDefEqProofs (disch := omega) only [go_sem, ht, eq_self]
      ((refine pCall_view (by simp -implicitDefEqProofs (disch := omega) only [go_sem, ht, eq_self] <;> rfl) (by simp -implicitDefEqProofs (disch := omega) only [go_sem, ht, eq_self]) (by first | (apply Or.inl; simp -implicitDefEqProofs (disch := omega) only [go_sem, ht, eq_self]; done) | (apply Or.inr; rintro r rfl; rfl)) (hct) ?_; rintro _ nx_14 - rfl hnx_14; (try simp only [put_nx, withH_nx, begP_nx] at hnx_14); simp -implicitDefEqProofs (disch := omega) only [go_sem, ht, eq_self]); (refine pCall_view (by simp -implicitDefEqProofs (disch := omega) only [go_sem, ht, eq_self] <;> rfl) (by simp -implicitDefEqProofs (disch := omega) only [go_sem, ht, eq_self]) (by first | (apply Or.inl; simp -implicitDefEqProofs (disch := omega) only [go_sem, ht, eq_self]; done) | (apply Or.inr; rintro r rfl; rfl)) (h1) ?_; rintro _ nx_15 - rfl hnx_15; (try simp only [put_nx, withH_nx, begP_nx] at hnx_15); simp -implicitDefEqProofs (disch := omega) only [go_sem, ht, eq_self]))
      (refine end_treeM 2 ?_; simp -implicitDefEqProofs (disch := omega) only [go_sem, ht, eq_self])
  · unfold cutP at hct
    rw [if_neg ho] at hct
    have e0 : o = s.size := by omega
    rw [e0, ext_all] at h1 hz he ⊢
    have pn := Wn.C hz (by omega)
    have hfr := rfromW pn
    rw [← WC] at hfr
    by_cases e1 : (wparseP s).2 = 0
    · rw [if_neg (by simp [e1]), if_neg (by omega)]
      rw [e1] at h1
      simp only [FO_some]
      clear pn hz
      generalize (wparseP s).1 = n at *
      refine PCalls.enter (n := 48) (rs := [.cell 2 28, .tmp 3]) (tb := [(12, [(0, []), (1, []), (2, [0]), (3, []), (4, []), (5, []), (6, []), (7, [])])]) Try.func58 rfl rfl rfl (by kernel_rfl) (by kernel_rfl) (by simp) fun c hc ht => ?_
      simp -implicitDefEqProofs (disch := omega) only [go_sem, ht, eq_self]
      ((refine pCall_view (by simp -implicitDefEqProofs (disch := omega) only [go_sem, ht, eq_self] <;> rfl) (by simp -implicitDefEqProofs (disch := omega) only [go_sem, ht, eq_self]) (by first | (apply Or.inl; simp -implicitDefEqProofs (disch := omega) only [go_sem, ht, eq_self]; done) | (apply Or.inr; rintro r rfl; rfl)) (hct) ?_; rintro _ nx_16 - rfl hnx_16; (try simp only [put_nx, withH_nx, begP_nx] at hnx_16); simp -implicitDefEqProofs (disch := omega) only [go_sem, ht, eq_self]); (refine pCall_view (by simp -implicitDefEqProofs (disch := omega) only [go_sem, ht, eq_self] <;> rfl) (by simp -implicitDefEqProofs (disch := omega) only [go_sem, ht, eq_self]) (by first | (apply Or.inl; simp -implicitDefEqProofs (disch := omega) only [go_sem, ht, eq_self]; done) | (apply Or.inr; rintro r rfl; rfl)) (h1) ?_; rintro _ nx_17 - rfl hnx_17; (try simp only [put_nx, withH_nx, begP_nx] at hnx_17); simp -implicitDefEqProofs (disch := omega) only [go_sem, ht, eq_self]); (refine pCall_view (by simp -implicitDefEqProofs (disch := omega) only [go_sem, ht, eq_self] <;> rfl) (by simp -implicitDefEqProofs (disch := omega) only [go_sem, ht, eq_self]) (by first | (apply Or.inl; simp -implicitDefEqProofs (disch := omega) only [go_sem, ht, eq_self]; done) | (apply Or.inr; rintro r rfl; rfl)) (hfr) ?_; rintro _ nx_18 - rfl hnx_18; (try simp only [put_nx, withH_nx, begP_nx] at hnx_18); simp -implicitDefEqProofs (disch := omega) only [go_sem, ht, eq_self]))
      (refine end_treeM 2 ?_; simp -implicitDefEqProofs (disch := omega) only [go_sem, ht, eq_self])
    · rw [if_pos e1]
      simp only [FO_none]
      have := Ref.wparse_zero s e1
      rw [this, WC0] at h1
      clear pn hz
      generalize (wparseP s).2 = e at *
      refine PCalls.enter (n := 48) (rs := [.cell 2 28, .tmp 3]) (tb := [(12, [(0, []), (1, []), (2, [0]), (3, []), (4, []), (5, []), (6, []), (7, [])])]) Try.func58 rfl rfl rfl (by kernel_rfl) (by kernel_rfl) (by simp) fun c hc ht => ?_
      simp -implicitDefEqProofs (disch := omega) only [go_sem, ht, eq_self]
      ((refine pCall_view (by simp -implicitDefEqProofs (disch := omega) only [go_sem, ht, eq_self] <;> rfl) (by simp -implicitDefEqProofs (disch := omega) only [go_sem, ht, eq_self]) (by first | (apply Or.inl; simp -implicitDefEqProofs (disch := omega) only [go_sem, ht, eq_self]; done) | (apply Or.inr; rintro r rfl; rfl)) (hct) ?_; rintro _ nx_19 - rfl hnx_19; (try simp only [put_nx, withH_nx, begP_nx] at hnx_19); simp -implicitDefEqProofs (disch := omega) only [go_sem, ht, eq_self]); (refine pCall_view (by simp -implicitDefEqProofs (disch := omega) only [go_sem, ht, eq_self] <;> rfl) (by simp -implicitDefEqProofs (disch := omega) only [go_sem, ht, eq_self]) (by first | (apply Or.inl; simp -implicitDefEqProofs (disch := omega) only [go_sem, ht, eq_self]; done) | (apply Or.inr; rintro r rfl; rfl)) (h1) ?_; rintro _ nx_20 - rfl hnx_20; (try simp only [put_nx, withH_nx, begP_nx] at hnx_20); simp -implicitDefEqProofs (disch := omega) only [go_sem, ht, eq_self]))
      (refine end_treeM 2 ?_; simp -implicitDefEqProofs (disch := omega) only [go_sem, ht, eq_self])
end Go.Proofs.Ytgebemjmckgomaa

namespace Go.Proofs.Ytgebemjmckgomaa

theorem r3parse {s : ByteArray} {o : Nat} (h : Sl s o) (hs : s.size ≤ 140737488351232) : PT Try.prog 59 [.val (.string s)] (isV (.tup [FO (rpP s o).1, .val (.int .i64 (rpP s o).2)])) := by
  have hle := h.le
  have h1 := Ref.number_z (s := s.extract 0 o) (by rw [ByteArray.size_extract]; omega)
  obtain ⟨K, hK⟩ : ∃ K, K = 5120 := ⟨_, rfl⟩
  have hz := Ref.parse_z hK (s.extract 0 o)
  have he := wparse_err (s.extract 0 o)
  unfold rpP
  by_cases h0 : 10240 < s.size
  · rw [if_pos h0]
    simp only [FO_none]
    refine PCalls.enter (n := 63) (rs := [.cell 2 28, .tmp 3]) (tb := [(10, [(0, []), (1, [0]), (2, []), (3, []), (4, []), (5, [])])]) Try.func59 rfl rfl rfl (by kernel_rfl) (by kernel_rfl) (by simp) fun c hc ht => ?_
    simp -implicitDefEqProofs (disch := omega) only [go_sem, ht, eq_self]
    (refine end_treeM 2 ?_; simp -implicitDefEqProofs (disch := omega) only [go_sem, ht, eq_self])
  rw [if_neg h0]
  refine PCalls.enter (n := 63) (rs := [.cell 2 28, .tmp 3]) (tb := [(10, [(0, []), (1, [0]), (2, []), (3, []), (4, []), (5, [])])]) Try.func59 rfl rfl rfl (by kernel_rfl) (by kernel_rfl) (by simp) fun c hc ht => ?_
  simp -implicitDefEqProofs (disch := omega) only [go_sem, ht, eq_self]
  refine LW.loopW hc ht (by kernel_rfl) (fun t => t.sl 0 = .val (.string s) ∧ t.sl 2 = .ptr 0 0 ∧ t.H 0 = some [.val (.bool false), .val (.slice none 0 0), .val (.slice none 0 0)] ∧ 0 < t.nx ∧ ∃ a : Nat, a ≤ o ∧ t.sl 4 = .val (.int .i64 a))
    (fun t => match t.sl 4 with | .val (.int _ a) => s.size - a.toNat | _ => 0) ?_ ?_
  · simp -implicitDefEqProofs (disch := omega) only [go_sem, ht, eq_self]
    exact ⟨0, by omega, rfl⟩
  · rintro t ⟨g0, g2, gH, hnx, a, hao, g4⟩
    by_cases hae : a = o
    · subst hae
      by_cases ho : a < s.size
      · have hy := h.yes ho
        have h47 : (47 : UInt8).toNat = 47 := rfl
        have h2 := Ref.natural_z (s := s.extract (a + 1) s.size) (by rw [ByteArray.size_extract]; omega)
        have hok := Ref.parse_ok10 (s.extract (a + 1) s.size)
        have hz2 := parse_z5 hK (s.extract (a + 1) s.size)
        obtain ⟨tl, etl⟩ : ∃ tl, s.extract (a + 1) s.size = tl := ⟨_, rfl⟩
        obtain ⟨hd, ehd⟩ : ∃ hd, s.extract 0 a = hd := ⟨_, rfl⟩
        rw [etl] at h2 hok hz2 ⊢
        rw [ehd] at h1 hz he ⊢
        by_cases e1 : (wparseP hd).2 = 0
        · rw [if_neg (by simp [e1])]
          rw [e1] at h1
          by_cases e2 : (parseP tl).2 = 0
          · rw [if_pos ho, if_neg (by simp [e2])]
            rw [e2] at h2
            have hsg := Ref.sign_z (z := ((parseP tl).1 : Nat)) hok
            by_cases e3 : (parseP tl).1 = 0
            · rw [if_pos e3]
              simp only [FO_none]
              rw [e3] at h2 hsg
              rw [cZ_eq (show ((0 : Nat) : Int) = 0 from rfl)] at hsg
              generalize (wparseP hd).1 = n at *
              simp -implicitDefEqProofs (disch := omega) only [go_sem, ht, g0, g2, gH, g4, hy, h47, ehd, etl, eq_self]
              ((refine pCall_view (by simp -implicitDefEqProofs (disch := omega) only [g0, g2, gH, g4, hy, h47, ehd, etl, go_sem, ht, eq_self] <;> rfl) (by simp -implicitDefEqProofs (disch := omega) only [g0, g2, gH, g4, hy, h47, ehd, etl, go_sem, ht, eq_self]) (by first | (apply Or.inl; simp -implicitDefEqProofs (disch := omega) only [g0, g2, gH, g4, hy, h47, ehd, etl, go_sem, ht, eq_self]; done) | (apply Or.inr; rintro r rfl; rfl)) (h1) ?_; rintro _ nx_21 - rfl hnx_21; (try simp only [put_nx, withH_nx, begP_nx] at hnx_21); simp -implicitDefEqProofs (disch := omega) only [g0, g2, gH, g4, hy, h47, ehd, etl, go_sem, ht, eq_self]); (refine pCall_view (by simp -implicitDefEqProofs (disch := omega) only [g0, g2, gH, g4, hy, h47, ehd, etl, go_sem, ht, eq_self] <;> rfl) (by simp -implicitDefEqProofs (disch := omega) only [g0, g2, gH, g4, hy, h47, ehd, etl, go_sem, ht, eq_self]) (by first | (apply Or.inl; simp -implicitDefEqProofs (disch := omega) only [g0, g2, gH, g4, hy, h47, ehd, etl, go_sem, ht, eq_self]; done) | (apply Or.inr; rintro r rfl; rfl)) (h2) ?_; rintro _ nx_22 - rfl hnx_22; (try simp only [put_nx, withH_nx, begP_nx] at hnx_22); simp -implicitDefEqProofs (disch := omega) only [g0, g2, gH, g4, hy, h47, ehd, etl, go_sem, ht, eq_self]); (refine pCall_view (by simp -implicitDefEqProofs (disch := omega) only [g0, g2, gH, g4, hy, h47, ehd, etl, go_sem, ht, eq_self] <;> rfl) (by simp -implicitDefEqProofs (disch := omega) only [g0, g2, gH, g4, hy, h47, ehd, etl, go_sem, ht, eq_self]) (by first | (apply Or.inl; simp -implicitDefEqProofs (disch := omega) only [g0, g2, gH, g4, hy, h47, ehd, etl, go_sem, ht, eq_self]; done) | (apply Or.inr; rintro r rfl; rfl)) (hsg) ?_; rintro _ nx_23 - rfl hnx_23; (try simp only [put_nx, withH_nx, begP_nx] at hnx_23); simp -implicitDefEqProofs (disch := omega) only [g0, g2, gH, g4, hy, h47, ehd, etl, go_sem, ht, eq_self]))
              (refine end_treeM 2 ?_; simp -implicitDefEqProofs (disch := omega) only [go_sem, ht, g2, gH, eq_self])
            · rw [if_neg e3]
              simp only [FO_some]
              have zt : Z K ((parseP tl).1 : Nat) := hz2
              have hmk := Ref.make_z hz zt (by omega) (by omega)
              have zr : Zq K (Rat.divInt (wparseP hd).1 ((parseP tl).1 : Nat)) := by
                rw [Rat.divInt_ofNat]
                exact .of (by omega) hz hz2
              have htl := Ref.told_f zr (by omega)
              have hcc : cZ ((parseP tl).1 : Nat) 0 ≠ 0 := by unfold cZ; split <;> (try split) <;> omega
              rw [Ref.NZ_nat_def] at h2 hsg hmk
              generalize Rat.divInt (wparseP hd).1 ((parseP tl).1 : Nat) = r at *
              generalize cZ ((parseP tl).1 : Nat) 0 = kc at *
              clear zt zr hz hz2 hok
              generalize (wparseP hd).1 = n at *
              generalize (parseP tl).1 = d at *
              simp -implicitDefEqProofs (disch := omega) only [go_sem, ht, g0, g2, gH, g4, hy, h47, ehd, etl, eq_self]
              ((refine pCall_view (by simp -implicitDefEqProofs (disch := omega) only [g0, g2, gH, g4, hy, h47, ehd, etl, go_sem, ht, eq_self] <;> rfl) (by simp -implicitDefEqProofs (disch := omega) only [g0, g2, gH, g4, hy, h47, ehd, etl, go_sem, ht, eq_self]) (by first | (apply Or.inl; simp -implicitDefEqProofs (disch := omega) only [g0, g2, gH, g4, hy, h47, ehd, etl, go_sem, ht, eq_self]; done) | (apply Or.inr; rintro r rfl; rfl)) (h1) ?_; rintro _ nx_24 - rfl hnx_24; (try simp only [put_nx, withH_nx, begP_nx] at hnx_24); simp -implicitDefEqProofs (disch := omega) only [g0, g2, gH, g4, hy, h47, ehd, etl, go_sem, ht, eq_self]); (refine pCall_view (by simp -implicitDefEqProofs (disch := omega) only [g0, g2, gH, g4, hy, h47, ehd, etl, go_sem, ht, eq_self] <;> rfl) (by simp -implicitDefEqProofs (disch := omega) only [g0, g2, gH, g4, hy, h47, ehd, etl, go_sem, ht, eq_self]) (by first | (apply Or.inl; simp -implicitDefEqProofs (disch := omega) only [g0, g2, gH, g4, hy, h47, ehd, etl, go_sem, ht, eq_self]; done) | (apply Or.inr; rintro r rfl; rfl)) (h2) ?_; rintro _ nx_25 - rfl hnx_25; (try simp only [put_nx, withH_nx, begP_nx] at hnx_25); simp -implicitDefEqProofs (disch := omega) only [g0, g2, gH, g4, hy, h47, ehd, etl, go_sem, ht, eq_self]); (refine pCall_view (by simp -implicitDefEqProofs (disch := omega) only [g0, g2, gH, g4, hy, h47, ehd, etl, go_sem, ht, eq_self] <;> rfl) (by simp -implicitDefEqProofs (disch := omega) only [g0, g2, gH, g4, hy, h47, ehd, etl, go_sem, ht, eq_self]) (by first | (apply Or.inl; simp -implicitDefEqProofs (disch := omega) only [g0, g2, gH, g4, hy, h47, ehd, etl, go_sem, ht, eq_self]; done) | (apply Or.inr; rintro r rfl; rfl)) (hsg) ?_; rintro _ nx_26 - rfl hnx_26; (try simp only [put_nx, withH_nx, begP_nx] at hnx_26); simp -implicitDefEqProofs (disch := omega) only [g0, g2, gH, g4, hy, h47, ehd, etl, go_sem, ht, eq_self]); (refine pCall_view (by simp -implicitDefEqProofs (disch := omega) only [g0, g2, gH, g4, hy, h47, ehd, etl, go_sem, ht, eq_self] <;> rfl) (by simp -implicitDefEqProofs (disch := omega) only [g0, g2, gH, g4, hy, h47, ehd, etl, go_sem, ht, eq_self]) (by first | (apply Or.inl; simp -implicitDefEqProofs (disch := omega) only [g0, g2, gH, g4, hy, h47, ehd, etl, go_sem, ht, eq_self]; done) | (apply Or.inr; rintro r rfl; rfl)) (hmk) ?_; rintro _ nx_27 - rfl hnx_27; (try simp only [put_nx, withH_nx, begP_nx] at hnx_27); simp -implicitDefEqProofs (disch := omega) only [g0, g2, gH, g4, hy, h47, ehd, etl, go_sem, ht, eq_self]); (refine pCall_view (by simp -implicitDefEqProofs (disch := omega) only [g0, g2, gH, g4, hy, h47, ehd, etl, go_sem, ht, eq_self] <;> rfl) (by simp -implicitDefEqProofs (disch := omega) only [g0, g2, gH, g4, hy, h47, ehd, etl, go_sem, ht, eq_self]) (by first | (apply Or.inl; simp -implicitDefEqProofs (disch := omega) only [g0, g2, gH, g4, hy, h47, ehd, etl, go_sem, ht, eq_self]; done) | (apply Or.inr; rintro r rfl; rfl)) (htl) ?_; rintro _ nx_28 - rfl hnx_28; (try simp only [put_nx, withH_nx, begP_nx] at hnx_28); simp -implicitDefEqProofs (disch := omega) only [g0, g2, gH, g4, hy, h47, ehd, etl, go_sem, ht, eq_self]))
              (refine end_treeM 2 ?_; simp -implicitDefEqProofs (disch := omega) only [go_sem, ht, g2, gH, eq_self])
          · rw [if_pos ho, if_pos e2]
            simp only [FO_none]
            clear hz hz2 hok
            rw [Ref.NZ_nat_def] at h2
            generalize (wparseP hd).1 = n at *
            rw [e1] at he
            have he2 := parse_err tl
            generalize (parseP tl).2 = e at *
            generalize (parseP tl).1 = d at *
            simp -implicitDefEqProofs (disch := omega) only [go_sem, ht, g0, g2, gH, g4, hy, h47, ehd, etl, eq_self]
            ((refine pCall_view (by simp -implicitDefEqProofs (disch := omega) only [g0, g2, gH, g4, hy, h47, ehd, etl, go_sem, ht, eq_self] <;> rfl) (by simp -implicitDefEqProofs (disch := omega) only [g0, g2, gH, g4, hy, h47, ehd, etl, go_sem, ht, eq_self]) (by first | (apply Or.inl; simp -implicitDefEqProofs (disch := omega) only [g0, g2, gH, g4, hy, h47, ehd, etl, go_sem, ht, eq_self]; done) | (apply Or.inr; rintro r rfl; rfl)) (h1) ?_; rintro _ nx_29 - rfl hnx_29; (try simp only [put_nx, withH_nx, begP_nx] at hnx_29); simp -implicitDefEqProofs (disch := omega) only [g0, g2, gH, g4, hy, h47, ehd, etl, go_sem, ht, eq_self]); (refine pCall_view (by simp -implicitDefEqProofs (disch := omega) only [g0, g2, gH, g4, hy, h47, ehd, etl, go_sem, ht, eq_self] <;> rfl) (by simp -implicitDefEqProofs (disch := omega) only [g0, g2, gH, g4, hy, h47, ehd, etl, go_sem, ht, eq_self]) (by first | (apply Or.inl; simp -implicitDefEqProofs (disch := omega) only [g0, g2, gH, g4, hy, h47, ehd, etl, go_sem, ht, eq_self]; done) | (apply Or.inr; rintro r rfl; rfl)) (h2) ?_; rintro _ nx_30 - rfl hnx_30; (try simp only [put_nx, withH_nx, begP_nx] at hnx_30); simp -implicitDefEqProofs (disch := omega) only [g0, g2, gH, g4, hy, h47, ehd, etl, go_sem, ht, eq_self]))
            (refine end_treeM 2 ?_; simp -implicitDefEqProofs (disch := omega) only [go_sem, ht, g2, gH, eq_self])
        · rw [if_pos e1]
          simp only [FO_none]
          clear hz hz2 hok h2
          generalize (wparseP hd).1 = n at *
          generalize (wparseP hd).2 = e at *
          simp -implicitDefEqProofs (disch := omega) only [go_sem, ht, g0, g2, gH, g4, hy, h47, ehd, eq_self]
          ((refine pCall_view (by simp -implicitDefEqProofs (disch := omega) only [g0, g2, gH, g4, hy, h47, ehd, etl, go_sem, ht, eq_self] <;> rfl) (by simp -implicitDefEqProofs (disch := omega) only [g0, g2, gH, g4, hy, h47, ehd, etl, go_sem, ht, eq_self]) (by first | (apply Or.inl; simp -implicitDefEqProofs (disch := omega) only [g0, g2, gH, g4, hy, h47, ehd, etl, go_sem, ht, eq_self]; done) | (apply Or.inr; rintro r rfl; rfl)) (h1) ?_; rintro _ nx_31 - rfl hnx_31; (try simp only [put_nx, withH_nx, begP_nx] at hnx_31); simp -implicitDefEqProofs (disch := omega) only [g0, g2, gH, g4, hy, h47, ehd, etl, go_sem, ht, eq_self]))
          (refine end_treeM 2 ?_; simp -implicitDefEqProofs (disch := omega) only [go_sem, ht, g2, gH, eq_self])
      · have e0 : a = s.size := by omega
        obtain ⟨hd, ehd⟩ : ∃ hd, s.extract 0 a = hd := ⟨_, rfl⟩
        rw [ehd] at h1 hz he ⊢
        by_cases e1 : (wparseP hd).2 = 0
        · rw [if_neg (by simp [e1]), if_neg (by omega)]
          rw [e1] at h1
          simp only [FO_some]
          have h3 := Ref.int_z (v := 1) (by omega) (by omega)
          rw [show ((1 : Int)) = ((1 : Nat) : Int) from rfl, Ref.NZ_nat_def] at h3
          have h4 := Ref.told_q hz (one_lt_pow (k := K) (by omega)) (by omega)
          have e : FC ((wparseP hd).1 : Rat) = FX (decide ((wparseP hd).1 < 0)) (D (wparseP hd).1.natAbs) (D 1) := rfl
          rw [← e] at h4
          clear hz e
          generalize (wparseP hd).1 = n at *
          simp -implicitDefEqProofs (disch := omega) only [go_sem, ht, g0, g2, gH, g4, ehd, eq_self]
          ((refine pCall_view (by simp -implicitDefEqProofs (disch := omega) only [g0, g2, gH, g4, ehd, go_sem, ht, eq_self] <;> rfl) (by simp -implicitDefEqProofs (disch := omega) only [g0, g2, gH, g4, ehd, go_sem, ht, eq_self]) (by first | (apply Or.inl; simp -implicitDefEqProofs (disch := omega) only [g0, g2, gH, g4, ehd, go_sem, ht, eq_self]; done) | (apply Or.inr; rintro r rfl; rfl)) (h1) ?_; rintro _ nx_32 - rfl hnx_32; (try simp only [put_nx, withH_nx, begP_nx] at hnx_32); simp -implicitDefEqProofs (disch := omega) only [g0, g2, gH, g4, ehd, go_sem, ht, eq_self]); (refine pCall_view (by simp -implicitDefEqProofs (disch := omega) only [g0, g2, gH, g4, ehd, go_sem, ht, eq_self] <;> rfl) (by simp -implicitDefEqProofs (disch := omega) only [g0, g2, gH, g4, ehd, go_sem, ht, eq_self]) (by first | (apply Or.inl; simp -implicitDefEqProofs (disch := omega) only [g0, g2, gH, g4, ehd, go_sem, ht, eq_self]; done) | (apply Or.inr; rintro r rfl; rfl)) (h3) ?_; rintro _ nx_33 - rfl hnx_33; (try simp only [put_nx, withH_nx, begP_nx] at hnx_33); simp -implicitDefEqProofs (disch := omega) only [g0, g2, gH, g4, ehd, go_sem, ht, eq_self]); (refine pCall_view (by simp -implicitDefEqProofs (disch := omega) only [g0, g2, gH, g4, ehd, go_sem, ht, eq_self] <;> rfl) (by simp -implicitDefEqProofs (disch := omega) only [g0, g2, gH, g4, ehd, go_sem, ht, eq_self]) (by first | (apply Or.inl; simp -implicitDefEqProofs (disch := omega) only [g0, g2, gH, g4, ehd, go_sem, ht, eq_self]; done) | (apply Or.inr; rintro r rfl; rfl)) (h4) ?_; rintro _ nx_34 - rfl hnx_34; (try simp only [put_nx, withH_nx, begP_nx] at hnx_34); simp -implicitDefEqProofs (disch := omega) only [g0, g2, gH, g4, ehd, go_sem, ht, eq_self]))
          (refine end_treeM 2 ?_; simp -implicitDefEqProofs (disch := omega) only [go_sem, ht, g2, gH, eq_self])
        · rw [if_pos e1]
          simp only [FO_none]
          clear hz
          generalize (wparseP hd).1 = n at *
          generalize (wparseP hd).2 = e at *
          simp -implicitDefEqProofs (disch := omega) only [go_sem, ht, g0, g2, gH, g4, ehd, eq_self]
          ((refine pCall_view (by simp -implicitDefEqProofs (disch := omega) only [g0, g2, gH, g4, ehd, go_sem, ht, eq_self] <;> rfl) (by simp -implicitDefEqProofs (disch := omega) only [g0, g2, gH, g4, ehd, go_sem, ht, eq_self]) (by first | (apply Or.inl; simp -implicitDefEqProofs (disch := omega) only [g0, g2, gH, g4, ehd, go_sem, ht, eq_self]; done) | (apply Or.inr; rintro r rfl; rfl)) (h1) ?_; rintro _ nx_35 - rfl hnx_35; (try simp only [put_nx, withH_nx, begP_nx] at hnx_35); simp -implicitDefEqProofs (disch := omega) only [g0, g2, gH, g4, ehd, go_sem, ht, eq_self]))
          (refine end_treeM 2 ?_; simp -implicitDefEqProofs (disch := omega) only [go_sem, ht, g2, gH, eq_self])
    · have hlt : a < s.size := by omega
      have hgx : s[a]? = some (s[a]'hlt) := by simp [hlt]
      have hne := h.no a (by omega)
      rw [hgx] at hne
      generalize s[a]'hlt = xb at *
      obtain ⟨x, hx⟩ : ∃ x, xb.toNat = x := ⟨_, rfl⟩
      have hx47 : x ≠ 47 := fun e => hne (by congr 1; exact UInt8.toNat_inj.1 (by rw [hx, e]; rfl))
      clear hne h1 hz he
      simp -implicitDefEqProofs (disch := omega) only [go_sem, ht, g0, g2, gH, g4, hgx, hx, eq_self]
      exact ⟨⟨hnx, a + 1, by omega, rfl⟩, by omega⟩
theorem r3text {b : Bool} {xs ds : List Nat} {q : Rat} {k : Nat} (h : Fn b xs ds q k) (hk : k ≤ 100000) : PT Try.prog 62 [FX b xs ds] (isV (.val (.string (rtxt q)))) := by
  have h1 := Ref.read_q h hk
  have hq := h.zq
  have h2 := Ref.text_z hq.num (by omega)
  have zqd : Z k (q.den : Int) := hq.den
  have z1 : Z k ((1 : Nat) : Int) := one_lt_pow h.hk1
  have h3 := Ref.int_z (v := 1) (by omega) (by omega)
  have h4 := Ref.ncmp_z (Ref.okZ zqd (by omega)) (Ref.okZ z1 (by omega))
  rw [show ((1 : Int)) = ((1 : Nat) : Int) from rfl, Ref.NZ_nat_def] at h3
  have l1 := wtxt_le hq.num
  have l2 := txt_le hq.den
  unfold rtxt
  by_cases hd : q.den = 1
  · rw [hd, cZ_eq rfl, Ref.NZ_nat_def] at h4
    rw [if_pos hd]
    rw [hd] at h1
    generalize wtxt q.num = tx at *
    refine PCalls.enter (n := 22) (rs := [.tmp 2]) (tb := [(3, [(0, []), (1, []), (2, [0, 1]), (3, []), (4, [])])]) Try.func62 rfl rfl rfl (by kernel_rfl) (by kernel_rfl) (by simp) fun c hc ht => ?_
    simp -implicitDefEqProofs (disch := omega) only [go_sem, ht, eq_self]
    ((refine pCall_view (by simp -implicitDefEqProofs (disch := omega) only [go_sem, ht, eq_self] <;> rfl) (by simp -implicitDefEqProofs (disch := omega) only [go_sem, ht, eq_self]) (by first | (apply Or.inl; simp -implicitDefEqProofs (disch := omega) only [go_sem, ht, eq_self]; done) | (apply Or.inr; rintro r rfl; rfl)) (h1) ?_; rintro _ nx_36 - rfl hnx_36; (try simp only [put_nx, withH_nx, begP_nx] at hnx_36); simp -implicitDefEqProofs (disch := omega) only [go_sem, ht, eq_self]); (refine pCall_view (by simp -implicitDefEqProofs (disch := omega) only [go_sem, ht, eq_self] <;> rfl) (by simp -implicitDefEqProofs (disch := omega) only [go_sem, ht, eq_self]) (by first | (apply Or.inl; simp -implicitDefEqProofs (disch := omega) only [go_sem, ht, eq_self]; done) | (apply Or.inr; rintro r rfl; rfl)) (h2) ?_; rintro _ nx_37 - rfl hnx_37; (try simp only [put_nx, withH_nx, begP_nx] at hnx_37); simp -implicitDefEqProofs (disch := omega) only [go_sem, ht, eq_self]); (refine pCall_view (by simp -implicitDefEqProofs (disch := omega) only [go_sem, ht, eq_self] <;> rfl) (by simp -implicitDefEqProofs (disch := omega) only [go_sem, ht, eq_self]) (by first | (apply Or.inl; simp -implicitDefEqProofs (disch := omega) only [go_sem, ht, eq_self]; done) | (apply Or.inr; rintro r rfl; rfl)) (h3) ?_; rintro _ nx_38 - rfl hnx_38; (try simp only [put_nx, withH_nx, begP_nx] at hnx_38); simp -implicitDefEqProofs (disch := omega) only [go_sem, ht, eq_self]); (refine pCall_view (by simp -implicitDefEqProofs (disch := omega) only [go_sem, ht, eq_self] <;> rfl) (by simp -implicitDefEqProofs (disch := omega) only [go_sem, ht, eq_self]) (by first | (apply Or.inl; simp -implicitDefEqProofs (disch := omega) only [go_sem, ht, eq_self]; done) | (apply Or.inr; rintro r rfl; rfl)) (h4) ?_; rintro _ nx_39 - rfl hnx_39; (try simp only [put_nx, withH_nx, begP_nx] at hnx_39); simp -implicitDefEqProofs (disch := omega) only [go_sem, ht, eq_self]))
    (refine end_treeW 0 ?_; simp -implicitDefEqProofs (disch := omega) only [go_sem, ht, eq_self])
  · have hc' : cZ (q.den : Int) ((1 : Nat) : Int) ≠ 0 := by unfold cZ; split <;> (try split) <;> omega
    generalize cZ (q.den : Int) ((1 : Nat) : Int) = kc at *
    have h5 := Ref.text_z zqd (by omega)
    have e5 : wtxt (q.den : Int) = txt q.den := by unfold wtxt; rw [if_neg (by omega)]; rfl
    rw [e5] at h5
    rw [Ref.NZ_nat_def, Ref.NZ_nat_def] at h4
    rw [Ref.NZ_nat_def] at h5
    rw [if_neg hd]
    have e47 : (#[47] : Array UInt8).size = 1 := rfl
    have e47' : (⟨#[47]⟩ : ByteArray).size = 1 := rfl
    generalize wtxt q.num = tx at *
    generalize txt q.den = ty at *
    refine PCalls.enter (n := 22) (rs := [.tmp 2]) (tb := [(3, [(0, []), (1, []), (2, [0, 1]), (3, []), (4, [])])]) Try.func62 rfl rfl rfl (by kernel_rfl) (by kernel_rfl) (by simp) fun c hc ht => ?_
    simp -implicitDefEqProofs (disch := omega) only [go_sem, ht, eq_self]
    ((refine pCall_view (by simp -implicitDefEqProofs (disch := omega) only [go_sem, ht, eq_self] <;> rfl) (by simp -implicitDefEqProofs (disch := omega) only [go_sem, ht, eq_self]) (by first | (apply Or.inl; simp -implicitDefEqProofs (disch := omega) only [go_sem, ht, eq_self]; done) | (apply Or.inr; rintro r rfl; rfl)) (h1) ?_; rintro _ nx_40 - rfl hnx_40; (try simp only [put_nx, withH_nx, begP_nx] at hnx_40); simp -implicitDefEqProofs (disch := omega) only [go_sem, ht, eq_self]); (refine pCall_view (by simp -implicitDefEqProofs (disch := omega) only [go_sem, ht, eq_self] <;> rfl) (by simp -implicitDefEqProofs (disch := omega) only [go_sem, ht, eq_self]) (by first | (apply Or.inl; simp -implicitDefEqProofs (disch := omega) only [go_sem, ht, eq_self]; done) | (apply Or.inr; rintro r rfl; rfl)) (h2) ?_; rintro _ nx_41 - rfl hnx_41; (try simp only [put_nx, withH_nx, begP_nx] at hnx_41); simp -implicitDefEqProofs (disch := omega) only [go_sem, ht, eq_self]); (refine pCall_view (by simp -implicitDefEqProofs (disch := omega) only [go_sem, ht, eq_self] <;> rfl) (by simp -implicitDefEqProofs (disch := omega) only [go_sem, ht, eq_self]) (by first | (apply Or.inl; simp -implicitDefEqProofs (disch := omega) only [go_sem, ht, eq_self]; done) | (apply Or.inr; rintro r rfl; rfl)) (h3) ?_; rintro _ nx_42 - rfl hnx_42; (try simp only [put_nx, withH_nx, begP_nx] at hnx_42); simp -implicitDefEqProofs (disch := omega) only [go_sem, ht, eq_self]); (refine pCall_view (by simp -implicitDefEqProofs (disch := omega) only [go_sem, ht, eq_self] <;> rfl) (by simp -implicitDefEqProofs (disch := omega) only [go_sem, ht, eq_self]) (by first | (apply Or.inl; simp -implicitDefEqProofs (disch := omega) only [go_sem, ht, eq_self]; done) | (apply Or.inr; rintro r rfl; rfl)) (h4) ?_; rintro _ nx_43 - rfl hnx_43; (try simp only [put_nx, withH_nx, begP_nx] at hnx_43); simp -implicitDefEqProofs (disch := omega) only [go_sem, ht, eq_self]))
    refine ⟨by omega, ?_⟩
    ((refine pCall_view (by simp -implicitDefEqProofs (disch := omega) only [go_sem, ht, eq_self] <;> rfl) (by simp -implicitDefEqProofs (disch := omega) only [go_sem, ht, eq_self]) (by first | (apply Or.inl; simp -implicitDefEqProofs (disch := omega) only [go_sem, ht, eq_self]; done) | (apply Or.inr; rintro r rfl; rfl)) (h5) ?_; rintro _ nx_44 - rfl hnx_44; (try simp only [put_nx, withH_nx, begP_nx] at hnx_44); simp -implicitDefEqProofs (disch := omega) only [go_sem, ht, eq_self]))
    refine ⟨by omega, ?_⟩
    (refine end_treeW 0 ?_; simp -implicitDefEqProofs (disch := omega) only [go_sem, ht, eq_self])
theorem copyr_calls {b : Bool} {xs ds : List Nat} (hx : Ok xs) (hd : Ok ds) : PT Try.prog 61 [FX b xs ds] (isV (FX b xs ds)) := by
  have h1 := PO1.tree (mk_w _) (flatL_U _) (copyw_calls (b := b) hx)
  have h2 := PLtree (copy_calls hd)
  simp only [List.length_map] at h1
  refine PCalls.enter (n := 10) (rs := [.cell 2 28]) (tb := [(1, [(0, []), (1, []), (3, []), (4, []), (2, [3, 4]), (5, []), (6, []), (7, [])])]) Try.func61 rfl rfl rfl (by kernel_rfl) (by kernel_rfl) (by simp) fun c hc ht => ?_
  simp -implicitDefEqProofs (disch := omega) only [go_sem, ht, eq_self]
  ((refine pCall_view (by simp -implicitDefEqProofs (disch := omega) only [go_sem, ht, eq_self] <;> rfl) (by simp -implicitDefEqProofs (disch := omega) only [go_sem, ht, eq_self]) (by first | (apply Or.inl; simp -implicitDefEqProofs (disch := omega) only [go_sem, ht, eq_self]; done) | (apply Or.inr; rintro r rfl; rfl)) (h1) ?_; rintro _ nx_45 - rfl hnx_45; (try simp only [put_nx, withH_nx, begP_nx] at hnx_45); simp -implicitDefEqProofs (disch := omega) only [go_sem, ht, eq_self]); (refine pCall_view (by simp -implicitDefEqProofs (disch := omega) only [go_sem, ht, eq_self] <;> rfl) (by simp -implicitDefEqProofs (disch := omega) only [go_sem, ht, eq_self]) (by first | (apply Or.inl; simp -implicitDefEqProofs (disch := omega) only [go_sem, ht, eq_self]; done) | (apply Or.inr; rintro r rfl; rfl)) (h2) ?_; rintro _ nx_46 - rfl hnx_46; (try simp only [put_nx, withH_nx, begP_nx] at hnx_46); simp -implicitDefEqProofs (disch := omega) only [go_sem, ht, eq_self]))
  (refine end_treeM 2 ?_; simp -implicitDefEqProofs (disch := omega) only [go_sem, ht, eq_self])
end Go.Proofs.Ytgebemjmckgomaa
