/- The program's ratio: quotients, texts; the order of fractions. -/
import Derived.Test.YtgebemjmckgomaaRatio3
set_option maxRecDepth 100000
set_option linter.unusedVariables false
set_option linter.unusedSimpArgs false
namespace Go.Proofs.Ytgebemjmckgomaa

/-- No fraction at all. -/
def FZ : PV := .agg [.val (.bool false), .sl 0 [], .sl 0 []]
theorem FZ_def : FZ = .agg [.val (.bool false), .sl 0 [], .sl 0 []] := rfl
attribute [go_sem] FZ_def
theorem rat_over {x y : Int} (hy : y ≠ 0) : mkRat (if y < 0 then -x else x) y.natAbs = Rat.divInt x y := by
  by_cases h : y < 0
  · rw [if_pos h]
    have e : y = -(y.natAbs : Int) := by omega
    conv => rhs; rw [e, Rat.divInt_neg', Rat.divInt_ofNat]
  · rw [if_neg h]
    have e : y = (y.natAbs : Int) := by omega
    conv => rhs; rw [e, Rat.divInt_ofNat]
theorem rat_div {q p : Rat} (hp : p.num ≠ 0) : mkRat (if p.num < 0 then -(q.num * p.den) else q.num * p.den) (q.den * p.num.natAbs) = q / p := by
  rw [Rat.div_def, Rat.inv_def, ← rat_over hp]
  conv => rhs; rw [← Rat.mkRat_self q]
  rw [Rat.mkRat_mul_mkRat]
  by_cases h : p.num < 0
  · rw [if_pos h, if_pos h, Int.mul_neg]
  · rw [if_neg h, if_neg h]
section
variable {b d : Bool} {xs ds ys es : List Nat} {q p : Rat} {k m : Nat} {x y : Int}
theorem rof_zero (g : Wn d ys 0 m) : PT Try.prog 14 [WX b xs, WX d ys] (isV (.tup [FZ, .val (.int .i64 20)])) := by
  have hs := signW g
  rw [cZ_eq rfl] at hs
  refine PCalls.enter (n := 18) (rs := [.cell 4 28, .tmp 5]) (tb := []) Try.func14 rfl rfl rfl (by kernel_rfl) (by kernel_rfl) (by simp) fun c hc ht => ?_
  simp -implicitDefEqProofs (disch := omega) only [go_sem, ht, eq_self]
  ((refine pCall_view (by simp -implicitDefEqProofs (disch := omega) only [go_sem, ht, eq_self] <;> rfl) (by simp -implicitDefEqProofs (disch := omega) only [go_sem, ht, eq_self]) (by first | (apply Or.inl; simp -implicitDefEqProofs (disch := omega) only [go_sem, ht, eq_self]; done) | (apply Or.inr; rintro r rfl; rfl)) (hs) ?_; rintro _ nx_1 - rfl hnx_1; (try simp only [put_nx, withH_nx, begP_nx] at hnx_1); simp -implicitDefEqProofs (disch := omega) only [go_sem, ht, eq_self]))
  (refine end_treeM 2 ?_; simp -implicitDefEqProofs (disch := omega) only [go_sem, ht, eq_self])
theorem sg_flag (hv : WV d ys = y) (hy : y ≠ 0) : d = decide (y < 0) := by
  unfold WV sg at hv
  cases d
  · simp at hv; simp; omega
  · simp at hv; simp; omega
theorem rofW (h : Wn b xs x k) (g : Wn d ys y m) (hy : y ≠ 0) : PT Try.prog 14 [WX b xs, WX d ys] (isV (.tup [FC (Rat.divInt x y), .val (.int .i64 0)])) := by
  have hs := signW g
  have hs0 : cZ y 0 ≠ 0 := by unfold cZ; split <;> (try split) <;> omega
  have hd := sg_flag g.val hy
  rw [← rat_over hy]
  have hn := negW h
  have l1 := lowestW (Wn.C h.z.neg h.hk) g.ok g.abs
  have l2 := lowestW h g.ok g.abs
  generalize cZ y 0 = c0 at *
  by_cases hneg : y < 0
  · rw [decide_eq_true hneg] at hd
    subst hd
    rw [if_pos hneg]
    refine PCalls.enter (n := 18) (rs := [.cell 4 28, .tmp 5]) (tb := []) Try.func14 rfl rfl rfl (by kernel_rfl) (by kernel_rfl) (by simp) fun c hc ht => ?_
    simp -implicitDefEqProofs (disch := omega) only [go_sem, ht, eq_self]
    ((refine pCall_view (by simp -implicitDefEqProofs (disch := omega) only [go_sem, ht, eq_self] <;> rfl) (by simp -implicitDefEqProofs (disch := omega) only [go_sem, ht, eq_self]) (by first | (apply Or.inl; simp -implicitDefEqProofs (disch := omega) only [go_sem, ht, eq_self]; done) | (apply Or.inr; rintro r rfl; rfl)) (hs) ?_; rintro _ nx_2 - rfl hnx_2; (try simp only [put_nx, withH_nx, begP_nx] at hnx_2); simp -implicitDefEqProofs (disch := omega) only [go_sem, ht, eq_self]); (refine pCall_view (by simp -implicitDefEqProofs (disch := omega) only [go_sem, ht, eq_self] <;> rfl) (by simp -implicitDefEqProofs (disch := omega) only [go_sem, ht, eq_self]) (by first | (apply Or.inl; simp -implicitDefEqProofs (disch := omega) only [go_sem, ht, eq_self]; done) | (apply Or.inr; rintro r rfl; rfl)) (hn) ?_; rintro _ nx_3 - rfl hnx_3; (try simp only [put_nx, withH_nx, begP_nx] at hnx_3); simp -implicitDefEqProofs (disch := omega) only [go_sem, ht, eq_self]); (refine pCall_view (by simp -implicitDefEqProofs (disch := omega) only [go_sem, ht, eq_self] <;> rfl) (by simp -implicitDefEqProofs (disch := omega) only [go_sem, ht, eq_self]) (by first | (apply Or.inl; simp -implicitDefEqProofs (disch := omega) only [go_sem, ht, eq_self]; done) | (apply Or.inr; rintro r rfl; rfl)) (l1) ?_; rintro _ nx_4 - rfl hnx_4; (try simp only [put_nx, withH_nx, begP_nx] at hnx_4); simp -implicitDefEqProofs (disch := omega) only [go_sem, ht, eq_self]))
    (refine end_treeM 2 ?_; simp -implicitDefEqProofs (disch := omega) only [go_sem, ht, eq_self])
  · rw [decide_eq_false hneg] at hd
    subst hd
    rw [if_neg hneg]
    refine PCalls.enter (n := 18) (rs := [.cell 4 28, .tmp 5]) (tb := []) Try.func14 rfl rfl rfl (by kernel_rfl) (by kernel_rfl) (by simp) fun c hc ht => ?_
    simp -implicitDefEqProofs (disch := omega) only [go_sem, ht, eq_self]
    ((refine pCall_view (by simp -implicitDefEqProofs (disch := omega) only [go_sem, ht, eq_self] <;> rfl) (by simp -implicitDefEqProofs (disch := omega) only [go_sem, ht, eq_self]) (by first | (apply Or.inl; simp -implicitDefEqProofs (disch := omega) only [go_sem, ht, eq_self]; done) | (apply Or.inr; rintro r rfl; rfl)) (hs) ?_; rintro _ nx_5 - rfl hnx_5; (try simp only [put_nx, withH_nx, begP_nx] at hnx_5); simp -implicitDefEqProofs (disch := omega) only [go_sem, ht, eq_self]); (refine pCall_view (by simp -implicitDefEqProofs (disch := omega) only [go_sem, ht, eq_self] <;> rfl) (by simp -implicitDefEqProofs (disch := omega) only [go_sem, ht, eq_self]) (by first | (apply Or.inl; simp -implicitDefEqProofs (disch := omega) only [go_sem, ht, eq_self]; done) | (apply Or.inr; rintro r rfl; rfl)) (l2) ?_; rintro _ nx_6 - rfl hnx_6; (try simp only [put_nx, withH_nx, begP_nx] at hnx_6); simp -implicitDefEqProofs (disch := omega) only [go_sem, ht, eq_self]))
    (refine end_treeM 2 ?_; simp -implicitDefEqProofs (disch := omega) only [go_sem, ht, eq_self])
theorem rdiv_zero (h : Fn d ys es 0 k) : PT Try.prog 36 [FX b xs ds, FX d ys es] (isV (.tup [FZ, .val (.int .i64 20)])) := by
  have hs := rsignW h
  rw [Rat.zero_num, cZ_eq rfl] at hs
  refine PCalls.enter (n := 34) (rs := [.cell 4 28, .tmp 5]) (tb := [(3, [(0, []), (2, []), (1, [2]), (3, []), (4, []), (5, [])]), (4, [(0, []), (1, []), (2, []), (3, []), (4, [0, 1]), (5, []), (6, [0, 1, 2, 3]), (7, [])]), (7, [(0, []), (1, []), (2, []), (3, []), (4, []), (5, []), (6, [0]), (7, []), (8, []), (9, [])])]) Try.func36 rfl rfl rfl (by kernel_rfl) (by kernel_rfl) (by simp) fun c hc ht => ?_
  simp -implicitDefEqProofs (disch := omega) only [go_sem, ht, eq_self]
  ((refine pCall_view (by simp -implicitDefEqProofs (disch := omega) only [go_sem, ht, eq_self] <;> rfl) (by simp -implicitDefEqProofs (disch := omega) only [go_sem, ht, eq_self]) (by first | (apply Or.inl; simp -implicitDefEqProofs (disch := omega) only [go_sem, ht, eq_self]; done) | (apply Or.inr; rintro r rfl; rfl)) (hs) ?_; rintro _ nx_7 - rfl hnx_7; (try simp only [put_nx, withH_nx, begP_nx] at hnx_7); simp -implicitDefEqProofs (disch := omega) only [go_sem, ht, eq_self]))
  (refine end_treeM 2 ?_; simp -implicitDefEqProofs (disch := omega) only [go_sem, ht, eq_self])
theorem rdivW (h : Fn b xs ds q k) (g : Fn d ys es p k) (hp : p ≠ 0) (hk : 3 * k ≤ 100000) : PT Try.prog 36 [FX b xs ds, FX d ys es] (isV (.tup [FC (q / p), .val (.int .i64 0)])) := by
  have hp0 : p.num ≠ 0 := fun e => hp (Rat.num_eq_zero.1 e)
  have hs := rsignW g
  have hs0 : cZ p.num 0 ≠ 0 := by unfold cZ; split <;> (try split) <;> omega
  have t1 := rtrimW h
  have t2 := rtrimW g
  have hq := h.zq
  have hz := g.zq
  have s1 := size_calls (ds := D p.den)
  have m1 := mulW (Wn.C hq.num (by omega)) (Wn.N hz.den (by omega))
  have z1 := hq.num.mul (Wn.N hz.den (by omega)).z
  have n1 := negW (Wn.C z1 (by omega))
  have l1 := mul_v (xs := D q.den) (ys := D p.num.natAbs) (.D hq.den (by omega)) (.D hz.num (by omega)) (V_D _) (V_D _)
  have o1 : Ok (D (q.den * p.num.natAbs)) := .D (lt_mul hq.den hz.num) (by omega)
  have lw1 := lowestW (Wn.C z1 (by omega)) o1 (V_D _)
  have lw2 := lowestW (Wn.C z1.neg (by omega)) o1 (V_D _)
  rw [← rat_div hp0]
  generalize cZ p.num 0 = c0 at *
  generalize q.num * (p.den : Int) = z at *
  generalize q.den * p.num.natAbs = dd at *
  by_cases hneg : p.num < 0
  · rw [if_pos hneg]
    have hd := decide_eq_true hneg
    refine PCalls.enter (n := 34) (rs := [.cell 4 28, .tmp 5]) (tb := [(3, [(0, []), (2, []), (1, [2]), (3, []), (4, []), (5, [])]), (4, [(0, []), (1, []), (2, []), (3, []), (4, [0, 1]), (5, []), (6, [0, 1, 2, 3]), (7, [])]), (7, [(0, []), (1, []), (2, []), (3, []), (4, []), (5, []), (6, [0]), (7, []), (8, []), (9, [])])]) Try.func36 rfl rfl rfl (by kernel_rfl) (by kernel_rfl) (by simp) fun c hc ht => ?_
    simp -implicitDefEqProofs (disch := omega) only [go_sem, ht, eq_self]
    ((refine pCall_view (by simp -implicitDefEqProofs (disch := omega) only [hd, go_sem, ht, eq_self] <;> rfl) (by simp -implicitDefEqProofs (disch := omega) only [hd, go_sem, ht, eq_self]) (by first | (apply Or.inl; simp -implicitDefEqProofs (disch := omega) only [hd, go_sem, ht, eq_self]; done) | (apply Or.inr; rintro r rfl; rfl)) (hs) ?_; rintro _ nx_8 - rfl hnx_8; (try simp only [put_nx, withH_nx, begP_nx] at hnx_8); simp -implicitDefEqProofs (disch := omega) only [hd, go_sem, ht, eq_self]); (refine pCall_view (by simp -implicitDefEqProofs (disch := omega) only [hd, go_sem, ht, eq_self] <;> rfl) (by simp -implicitDefEqProofs (disch := omega) only [hd, go_sem, ht, eq_self]) (by first | (apply Or.inl; simp -implicitDefEqProofs (disch := omega) only [hd, go_sem, ht, eq_self]; done) | (apply Or.inr; rintro r rfl; rfl)) (t1) ?_; rintro _ nx_9 - rfl hnx_9; (try simp only [put_nx, withH_nx, begP_nx] at hnx_9); simp -implicitDefEqProofs (disch := omega) only [hd, go_sem, ht, eq_self]); (refine pCall_view (by simp -implicitDefEqProofs (disch := omega) only [hd, go_sem, ht, eq_self] <;> rfl) (by simp -implicitDefEqProofs (disch := omega) only [hd, go_sem, ht, eq_self]) (by first | (apply Or.inl; simp -implicitDefEqProofs (disch := omega) only [hd, go_sem, ht, eq_self]; done) | (apply Or.inr; rintro r rfl; rfl)) (t2) ?_; rintro _ nx_10 - rfl hnx_10; (try simp only [put_nx, withH_nx, begP_nx] at hnx_10); simp -implicitDefEqProofs (disch := omega) only [hd, go_sem, ht, eq_self]); (refine pCall_view (by simp -implicitDefEqProofs (disch := omega) only [hd, go_sem, ht, eq_self] <;> rfl) (by simp -implicitDefEqProofs (disch := omega) only [hd, go_sem, ht, eq_self]) (by first | (apply Or.inl; simp -implicitDefEqProofs (disch := omega) only [hd, go_sem, ht, eq_self]; done) | (apply Or.inr; rintro r rfl; rfl)) (s1) ?_; rintro _ nx_11 - rfl hnx_11; (try simp only [put_nx, withH_nx, begP_nx] at hnx_11); simp -implicitDefEqProofs (disch := omega) only [hd, go_sem, ht, eq_self]); (refine pCall_view (by simp -implicitDefEqProofs (disch := omega) only [hd, go_sem, ht, eq_self] <;> rfl) (by simp -implicitDefEqProofs (disch := omega) only [hd, go_sem, ht, eq_self]) (by first | (apply Or.inl; simp -implicitDefEqProofs (disch := omega) only [hd, go_sem, ht, eq_self]; done) | (apply Or.inr; rintro r rfl; rfl)) (m1) ?_; rintro _ nx_12 - rfl hnx_12; (try simp only [put_nx, withH_nx, begP_nx] at hnx_12); simp -implicitDefEqProofs (disch := omega) only [hd, go_sem, ht, eq_self]); (refine pCall_view (by simp -implicitDefEqProofs (disch := omega) only [hd, go_sem, ht, eq_self] <;> rfl) (by simp -implicitDefEqProofs (disch := omega) only [hd, go_sem, ht, eq_self]) (by first | (apply Or.inl; simp -implicitDefEqProofs (disch := omega) only [hd, go_sem, ht, eq_self]; done) | (apply Or.inr; rintro r rfl; rfl)) (n1) ?_; rintro _ nx_13 - rfl hnx_13; (try simp only [put_nx, withH_nx, begP_nx] at hnx_13); simp -implicitDefEqProofs (disch := omega) only [hd, go_sem, ht, eq_self]); (refine pCall_view (by simp -implicitDefEqProofs (disch := omega) only [hd, go_sem, ht, eq_self] <;> rfl) (by simp -implicitDefEqProofs (disch := omega) only [hd, go_sem, ht, eq_self]) (by first | (apply Or.inl; simp -implicitDefEqProofs (disch := omega) only [hd, go_sem, ht, eq_self]; done) | (apply Or.inr; rintro r rfl; rfl)) (l1) ?_; rintro _ nx_14 - rfl hnx_14; (try simp only [put_nx, withH_nx, begP_nx] at hnx_14); simp -implicitDefEqProofs (disch := omega) only [hd, go_sem, ht, eq_self]); (refine pCall_view (by simp -implicitDefEqProofs (disch := omega) only [hd, go_sem, ht, eq_self] <;> rfl) (by simp -implicitDefEqProofs (disch := omega) only [hd, go_sem, ht, eq_self]) (by first | (apply Or.inl; simp -implicitDefEqProofs (disch := omega) only [hd, go_sem, ht, eq_self]; done) | (apply Or.inr; rintro r rfl; rfl)) (lw2) ?_; rintro _ nx_15 - rfl hnx_15; (try simp only [put_nx, withH_nx, begP_nx] at hnx_15); simp -implicitDefEqProofs (disch := omega) only [hd, go_sem, ht, eq_self]))
    (refine end_treeM 2 ?_; simp -implicitDefEqProofs (disch := omega) only [go_sem, ht, eq_self])
  · rw [if_neg hneg]
    have hd := decide_eq_false hneg
    refine PCalls.enter (n := 34) (rs := [.cell 4 28, .tmp 5]) (tb := [(3, [(0, []), (2, []), (1, [2]), (3, []), (4, []), (5, [])]), (4, [(0, []), (1, []), (2, []), (3, []), (4, [0, 1]), (5, []), (6, [0, 1, 2, 3]), (7, [])]), (7, [(0, []), (1, []), (2, []), (3, []), (4, []), (5, []), (6, [0]), (7, []), (8, []), (9, [])])]) Try.func36 rfl rfl rfl (by kernel_rfl) (by kernel_rfl) (by simp) fun c hc ht => ?_
    simp -implicitDefEqProofs (disch := omega) only [go_sem, ht, eq_self]
    ((refine pCall_view (by simp -implicitDefEqProofs (disch := omega) only [hd, go_sem, ht, eq_self] <;> rfl) (by simp -implicitDefEqProofs (disch := omega) only [hd, go_sem, ht, eq_self]) (by first | (apply Or.inl; simp -implicitDefEqProofs (disch := omega) only [hd, go_sem, ht, eq_self]; done) | (apply Or.inr; rintro r rfl; rfl)) (hs) ?_; rintro _ nx_16 - rfl hnx_16; (try simp only [put_nx, withH_nx, begP_nx] at hnx_16); simp -implicitDefEqProofs (disch := omega) only [hd, go_sem, ht, eq_self]); (refine pCall_view (by simp -implicitDefEqProofs (disch := omega) only [hd, go_sem, ht, eq_self] <;> rfl) (by simp -implicitDefEqProofs (disch := omega) only [hd, go_sem, ht, eq_self]) (by first | (apply Or.inl; simp -implicitDefEqProofs (disch := omega) only [hd, go_sem, ht, eq_self]; done) | (apply Or.inr; rintro r rfl; rfl)) (t1) ?_; rintro _ nx_17 - rfl hnx_17; (try simp only [put_nx, withH_nx, begP_nx] at hnx_17); simp -implicitDefEqProofs (disch := omega) only [hd, go_sem, ht, eq_self]); (refine pCall_view (by simp -implicitDefEqProofs (disch := omega) only [hd, go_sem, ht, eq_self] <;> rfl) (by simp -implicitDefEqProofs (disch := omega) only [hd, go_sem, ht, eq_self]) (by first | (apply Or.inl; simp -implicitDefEqProofs (disch := omega) only [hd, go_sem, ht, eq_self]; done) | (apply Or.inr; rintro r rfl; rfl)) (t2) ?_; rintro _ nx_18 - rfl hnx_18; (try simp only [put_nx, withH_nx, begP_nx] at hnx_18); simp -implicitDefEqProofs (disch := omega) only [hd, go_sem, ht, eq_self]); (refine pCall_view (by simp -implicitDefEqProofs (disch := omega) only [hd, go_sem, ht, eq_self] <;> rfl) (by simp -implicitDefEqProofs (disch := omega) only [hd, go_sem, ht, eq_self]) (by first | (apply Or.inl; simp -implicitDefEqProofs (disch := omega) only [hd, go_sem, ht, eq_self]; done) | (apply Or.inr; rintro r rfl; rfl)) (s1) ?_; rintro _ nx_19 - rfl hnx_19; (try simp only [put_nx, withH_nx, begP_nx] at hnx_19); simp -implicitDefEqProofs (disch := omega) only [hd, go_sem, ht, eq_self]); (refine pCall_view (by simp -implicitDefEqProofs (disch := omega) only [hd, go_sem, ht, eq_self] <;> rfl) (by simp -implicitDefEqProofs (disch := omega) only [hd, go_sem, ht, eq_self]) (by first | (apply Or.inl; simp -implicitDefEqProofs (disch := omega) only [hd, go_sem, ht, eq_self]; done) | (apply Or.inr; rintro r rfl; rfl)) (m1) ?_; rintro _ nx_20 - rfl hnx_20; (try simp only [put_nx, withH_nx, begP_nx] at hnx_20); simp -implicitDefEqProofs (disch := omega) only [hd, go_sem, ht, eq_self]); (refine pCall_view (by simp -implicitDefEqProofs (disch := omega) only [hd, go_sem, ht, eq_self] <;> rfl) (by simp -implicitDefEqProofs (disch := omega) only [hd, go_sem, ht, eq_self]) (by first | (apply Or.inl; simp -implicitDefEqProofs (disch := omega) only [hd, go_sem, ht, eq_self]; done) | (apply Or.inr; rintro r rfl; rfl)) (l1) ?_; rintro _ nx_21 - rfl hnx_21; (try simp only [put_nx, withH_nx, begP_nx] at hnx_21); simp -implicitDefEqProofs (disch := omega) only [hd, go_sem, ht, eq_self]); (refine pCall_view (by simp -implicitDefEqProofs (disch := omega) only [hd, go_sem, ht, eq_self] <;> rfl) (by simp -implicitDefEqProofs (disch := omega) only [hd, go_sem, ht, eq_self]) (by first | (apply Or.inl; simp -implicitDefEqProofs (disch := omega) only [hd, go_sem, ht, eq_self]; done) | (apply Or.inr; rintro r rfl; rfl)) (lw1) ?_; rintro _ nx_22 - rfl hnx_22; (try simp only [put_nx, withH_nx, begP_nx] at hnx_22); simp -implicitDefEqProofs (disch := omega) only [hd, go_sem, ht, eq_self]))
    (refine end_treeM 2 ?_; simp -implicitDefEqProofs (disch := omega) only [go_sem, ht, eq_self])
/-- A fraction's text. -/
def rtxt (q : Rat) : ByteArray := if q.den = 1 then wtxt q.num else wtxt q.num ++ ⟨#[47]⟩ ++ txt q.den
theorem wtxt_le {k : Nat} {z : Int} (h : Z k z) : (wtxt z).size ≤ 10 * k + 2 := by
  have := txt_le h
  unfold wtxt
  split
  · rw [ByteArray.size_append]; have : (⟨#[45]⟩ : ByteArray).size = 1 := rfl; omega
  · omega
theorem rtextW (h : Fn b xs ds q k) (hk : k ≤ 100000) : PT Try.prog 60 [FX b xs ds] (isV (.val (.string (rtxt q)))) := by
  have t1 := rtrimW h
  have hq := h.zq
  have hb := bits_v (xs := D q.den) (.D hq.den (by omega)) (V_D _)
  have hb1 := bl_one q.den_nz
  have w1 := textW (Wn.C hq.num (by omega))
  have w2 := text_calls (xs := D q.den) (.D hq.den (by omega))
  rw [V_D] at w2
  have l1 := wtxt_le hq.num
  have l2 := txt_le hq.den
  have e47 : (#[47] : Array UInt8).size = 1 := rfl
  have e47' : (⟨#[47]⟩ : ByteArray).size = 1 := rfl
  unfold rtxt
  by_cases h1 : q.den = 1
  · rw [hb1.2 h1] at hb
    rw [if_pos h1]
    refine PCalls.enter (n := 20) (rs := [.tmp 2]) (tb := [(4, [(0, []), (1, []), (4, []), (5, []), (2, [4, 5]), (3, []), (6, [3]), (7, []), (8, [])])]) Try.func60 rfl rfl rfl (by kernel_rfl) (by kernel_rfl) (by simp) fun c hc ht => ?_
    simp -implicitDefEqProofs (disch := omega) only [go_sem, ht, eq_self]
    ((refine pCall_view (by simp -implicitDefEqProofs (disch := omega) only [go_sem, ht, eq_self] <;> rfl) (by simp -implicitDefEqProofs (disch := omega) only [go_sem, ht, eq_self]) (by first | (apply Or.inl; simp -implicitDefEqProofs (disch := omega) only [go_sem, ht, eq_self]; done) | (apply Or.inr; rintro r rfl; rfl)) (t1) ?_; rintro _ nx_23 - rfl hnx_23; (try simp only [put_nx, withH_nx, begP_nx] at hnx_23); simp -implicitDefEqProofs (disch := omega) only [go_sem, ht, eq_self]); (refine pCall_view (by simp -implicitDefEqProofs (disch := omega) only [go_sem, ht, eq_self] <;> rfl) (by simp -implicitDefEqProofs (disch := omega) only [go_sem, ht, eq_self]) (by first | (apply Or.inl; simp -implicitDefEqProofs (disch := omega) only [go_sem, ht, eq_self]; done) | (apply Or.inr; rintro r rfl; rfl)) (hb) ?_; rintro _ nx_24 - rfl hnx_24; (try simp only [put_nx, withH_nx, begP_nx] at hnx_24); simp -implicitDefEqProofs (disch := omega) only [go_sem, ht, eq_self]); (refine pCall_view (by simp -implicitDefEqProofs (disch := omega) only [go_sem, ht, eq_self] <;> rfl) (by simp -implicitDefEqProofs (disch := omega) only [go_sem, ht, eq_self]) (by first | (apply Or.inl; simp -implicitDefEqProofs (disch := omega) only [go_sem, ht, eq_self]; done) | (apply Or.inr; rintro r rfl; rfl)) (w1) ?_; rintro _ nx_25 - rfl hnx_25; (try simp only [put_nx, withH_nx, begP_nx] at hnx_25); simp -implicitDefEqProofs (disch := omega) only [go_sem, ht, eq_self]))
    (refine end_treeW 0 ?_; simp -implicitDefEqProofs (disch := omega) only [go_sem, ht, eq_self])
  · have hb2 : bl q.den ≠ 1 := fun hx => h1 (hb1.1 hx)
    rw [if_neg h1]
    generalize bl q.den = kb at *
    generalize wtxt q.num = tx at *
    generalize txt q.den = ty at *
    refine PCalls.enter (n := 20) (rs := [.tmp 2]) (tb := [(4, [(0, []), (1, []), (4, []), (5, []), (2, [4, 5]), (3, []), (6, [3]), (7, []), (8, [])])]) Try.func60 rfl rfl rfl (by kernel_rfl) (by kernel_rfl) (by simp) fun c hc ht => ?_
    simp -implicitDefEqProofs (disch := omega) only [go_sem, ht, eq_self]
    ((refine pCall_view (by simp -implicitDefEqProofs (disch := omega) only [go_sem, ht, eq_self] <;> rfl) (by simp -implicitDefEqProofs (disch := omega) only [go_sem, ht, eq_self]) (by first | (apply Or.inl; simp -implicitDefEqProofs (disch := omega) only [go_sem, ht, eq_self]; done) | (apply Or.inr; rintro r rfl; rfl)) (t1) ?_; rintro _ nx_26 - rfl hnx_26; (try simp only [put_nx, withH_nx, begP_nx] at hnx_26); simp -implicitDefEqProofs (disch := omega) only [go_sem, ht, eq_self]); (refine pCall_view (by simp -implicitDefEqProofs (disch := omega) only [go_sem, ht, eq_self] <;> rfl) (by simp -implicitDefEqProofs (disch := omega) only [go_sem, ht, eq_self]) (by first | (apply Or.inl; simp -implicitDefEqProofs (disch := omega) only [go_sem, ht, eq_self]; done) | (apply Or.inr; rintro r rfl; rfl)) (hb) ?_; rintro _ nx_27 - rfl hnx_27; (try simp only [put_nx, withH_nx, begP_nx] at hnx_27); simp -implicitDefEqProofs (disch := omega) only [go_sem, ht, eq_self]); (refine pCall_view (by simp -implicitDefEqProofs (disch := omega) only [go_sem, ht, eq_self] <;> rfl) (by simp -implicitDefEqProofs (disch := omega) only [go_sem, ht, eq_self]) (by first | (apply Or.inl; simp -implicitDefEqProofs (disch := omega) only [go_sem, ht, eq_self]; done) | (apply Or.inr; rintro r rfl; rfl)) (w1) ?_; rintro _ nx_28 - rfl hnx_28; (try simp only [put_nx, withH_nx, begP_nx] at hnx_28); simp -implicitDefEqProofs (disch := omega) only [go_sem, ht, eq_self]))
    refine ⟨by omega, ?_⟩
    ((refine pCall_view (by simp -implicitDefEqProofs (disch := omega) only [go_sem, ht, eq_self] <;> rfl) (by simp -implicitDefEqProofs (disch := omega) only [go_sem, ht, eq_self]) (by first | (apply Or.inl; simp -implicitDefEqProofs (disch := omega) only [go_sem, ht, eq_self]; done) | (apply Or.inr; rintro r rfl; rfl)) (w2) ?_; rintro _ nx_29 - rfl hnx_29; (try simp only [put_nx, withH_nx, begP_nx] at hnx_29); simp -implicitDefEqProofs (disch := omega) only [go_sem, ht, eq_self]))
    refine ⟨by omega, by omega, ?_⟩
    (refine end_treeW 0 ?_; simp -implicitDefEqProofs (disch := omega) only [go_sem, ht, eq_self])
theorem len_ratio (hx : xs.length ≤ 35184372087808) (hd : ds.length ≤ 35184372087808) : PT Try.prog 30 [FX b xs ds] (isV (.val (.int .i64 (1 + xs.length + ds.length : Nat)))) := by
  have h1 := len_whole (b := b) hx
  refine PCalls.enter (n := 10) (rs := [.tmp 2]) (tb := [(1, [(0, []), (1, []), (3, []), (4, []), (5, []), (2, [3, 4, 5]), (6, []), (7, [])])]) Try.func30 rfl rfl rfl (by kernel_rfl) (by kernel_rfl) (by simp) fun c hc ht => ?_
  simp -implicitDefEqProofs (disch := omega) only [go_sem, ht, eq_self]
  ((refine pCall_view (by simp -implicitDefEqProofs (disch := omega) only [go_sem, ht, eq_self] <;> rfl) (by simp -implicitDefEqProofs (disch := omega) only [go_sem, ht, eq_self]) (by first | (apply Or.inl; simp -implicitDefEqProofs (disch := omega) only [go_sem, ht, eq_self]; done) | (apply Or.inr; rintro r rfl; rfl)) (h1) ?_; rintro _ nx_30 - rfl hnx_30; (try simp only [put_nx, withH_nx, begP_nx] at hnx_30); simp -implicitDefEqProofs (disch := omega) only [go_sem, ht, eq_self]))
  (refine end_treeW 0 ?_; simp -implicitDefEqProofs (disch := omega) only [go_sem, ht, eq_self])
theorem same_ratio (hq : Zq k q) (hp : Zq k p) (hk : k ≤ 1000000) : PT Try.prog 18 [FC q, FC p] (isV (.val (.bool (decide (q = p))))) := by
  have s1 := sameC hq.num hp.num (by omega)
  have s2 := same_D (a := q.den) (b := p.den) (.D hq.den (by omega)) (.D hp.den (by omega))
  by_cases h1 : q.num = p.num
  · rw [decide_eq_true h1] at s1
    have e : decide (q.den = p.den) = decide (q = p) := by
      rw [decide_eq_decide]
      exact ⟨fun h2 => Rat.ext h1 h2, fun h => by rw [h]⟩
    rw [e] at s2
    generalize decide (q = p) = bb at *
    refine PCalls.enter (n := 17) (rs := [.tmp 4]) (tb := []) Try.func18 rfl rfl rfl (by kernel_rfl) (by kernel_rfl) (by simp) fun c hc ht => ?_
    simp -implicitDefEqProofs (disch := omega) only [go_sem, ht, eq_self]
    ((refine pCall_view (by simp -implicitDefEqProofs (disch := omega) only [go_sem, ht, eq_self] <;> rfl) (by simp -implicitDefEqProofs (disch := omega) only [go_sem, ht, eq_self]) (by first | (apply Or.inl; simp -implicitDefEqProofs (disch := omega) only [go_sem, ht, eq_self]; done) | (apply Or.inr; rintro r rfl; rfl)) (s1) ?_; rintro _ nx_31 - rfl hnx_31; (try simp only [put_nx, withH_nx, begP_nx] at hnx_31); simp -implicitDefEqProofs (disch := omega) only [go_sem, ht, eq_self]); (refine pCall_view (by simp -implicitDefEqProofs (disch := omega) only [go_sem, ht, eq_self] <;> rfl) (by simp -implicitDefEqProofs (disch := omega) only [go_sem, ht, eq_self]) (by first | (apply Or.inl; simp -implicitDefEqProofs (disch := omega) only [go_sem, ht, eq_self]; done) | (apply Or.inr; rintro r rfl; rfl)) (s2) ?_; rintro _ nx_32 - rfl hnx_32; (try simp only [put_nx, withH_nx, begP_nx] at hnx_32); simp -implicitDefEqProofs (disch := omega) only [go_sem, ht, eq_self]))
    (refine end_treeW 0 ?_; simp -implicitDefEqProofs (disch := omega) only [go_sem, ht, eq_self])
  · rw [decide_eq_false h1] at s1
    rw [decide_eq_false (fun h => h1 (by rw [h]))]
    refine PCalls.enter (n := 17) (rs := [.tmp 4]) (tb := []) Try.func18 rfl rfl rfl (by kernel_rfl) (by kernel_rfl) (by simp) fun c hc ht => ?_
    simp -implicitDefEqProofs (disch := omega) only [go_sem, ht, eq_self]
    ((refine pCall_view (by simp -implicitDefEqProofs (disch := omega) only [go_sem, ht, eq_self] <;> rfl) (by simp -implicitDefEqProofs (disch := omega) only [go_sem, ht, eq_self]) (by first | (apply Or.inl; simp -implicitDefEqProofs (disch := omega) only [go_sem, ht, eq_self]; done) | (apply Or.inr; rintro r rfl; rfl)) (s1) ?_; rintro _ nx_33 - rfl hnx_33; (try simp only [put_nx, withH_nx, begP_nx] at hnx_33); simp -implicitDefEqProofs (disch := omega) only [go_sem, ht, eq_self]))
    (refine end_treeW 0 ?_; simp -implicitDefEqProofs (disch := omega) only [go_sem, ht, eq_self])
theorem same_rt (hq : Zq k q) (hk : k ≤ 1000000) (e : q = p) : PT Try.prog 18 [FC q, FC p] (isV (.val (.bool true))) := by
  subst e
  have := same_ratio hq hq hk
  rwa [decide_eq_true rfl] at this
theorem same_fz : PT Try.prog 18 [FZ, FZ] (isV (.val (.bool true))) := by
  have z0 : Z 1 0 := Z2 (by decide)
  have s1 := sameC z0 z0 (by omega)
  rw [WC0, decide_eq_true rfl] at s1
  have s2 := same_calls Ok.nil Ok.nil
  rw [decide_eq_true rfl] at s2
  refine PCalls.enter (n := 17) (rs := [.tmp 4]) (tb := []) Try.func18 rfl rfl rfl (by kernel_rfl) (by kernel_rfl) (by simp) fun c hc ht => ?_
  simp -implicitDefEqProofs (disch := omega) only [go_sem, ht, eq_self]
  ((refine pCall_view (by simp -implicitDefEqProofs (disch := omega) only [go_sem, ht, eq_self] <;> rfl) (by simp -implicitDefEqProofs (disch := omega) only [go_sem, ht, eq_self]) (by first | (apply Or.inl; simp -implicitDefEqProofs (disch := omega) only [go_sem, ht, eq_self]; done) | (apply Or.inr; rintro r rfl; rfl)) (s1) ?_; rintro _ nx_34 - rfl hnx_34; (try simp only [put_nx, withH_nx, begP_nx] at hnx_34); simp -implicitDefEqProofs (disch := omega) only [go_sem, ht, eq_self]); (refine pCall_view (by simp -implicitDefEqProofs (disch := omega) only [go_sem, ht, eq_self] <;> rfl) (by simp -implicitDefEqProofs (disch := omega) only [go_sem, ht, eq_self]) (by first | (apply Or.inl; simp -implicitDefEqProofs (disch := omega) only [go_sem, ht, eq_self]; done) | (apply Or.inr; rintro r rfl; rfl)) (s2) ?_; rintro _ nx_35 - rfl hnx_35; (try simp only [put_nx, withH_nx, begP_nx] at hnx_35); simp -implicitDefEqProofs (disch := omega) only [go_sem, ht, eq_self]))
  (refine end_treeW 0 ?_; simp -implicitDefEqProofs (disch := omega) only [go_sem, ht, eq_self])
end
theorem awake_rtxt : rtxt (mkRat (-3) 2) = ⟨#[45, 51, 47, 50]⟩ := by
  have h3 : digs 3 = [3] := by
    iterate 1 rw [digs_pos (by decide)]
    simp [digs_zero]
  have h2 : digs 2 = [2] := by
    iterate 1 rw [digs_pos (by decide)]
    simp [digs_zero]
  have e1 : (mkRat (-3) 2).num = -3 := by decide +kernel
  have e2 : (mkRat (-3) 2).den = 2 := by decide +kernel
  unfold rtxt wtxt
  rw [e1, e2, if_neg (by decide), if_pos (by decide), show (-3 : Int).natAbs = 3 from rfl, txt_pos (by decide), txt_pos (by decide), h3, h2]
  rfl
theorem awake_ratio : PT Try.prog 12 [] (isV (.val (.bool true))) := by
  have z6 : Z 1 6 := Z2 (by decide)
  have z4 : Z 1 (-4) := Z2 (by decide)
  have hf := rofW (Wn.C z6 (by omega)) (Wn.C z4 (by omega)) (by decide)
  have e : Rat.divInt 6 (-4) = mkRat (-3) 2 := by decide +kernel
  rw [e] at hf
  have zq : Zq 1 (mkRat (-3) 2) := .of (Nat.le_refl _) (Z2 (by decide)) (by decide)
  have htx := rtextW (Fn.C zq (by omega) (Nat.le_refl _)) (by omega)
  rw [awake_rtxt] at htx
  have a6 := small_whole (v := 6) (by decide) (by decide)
  have a4 := small_whole (v := -4) (by decide) (by decide)
  refine PCalls.enter (n := 16) (rs := [.tmp 0]) (tb := []) Try.func12 rfl rfl rfl (by kernel_rfl) (by kernel_rfl) (by simp) fun c hc ht => ?_
  simp -implicitDefEqProofs (disch := omega) only [go_sem, ht, eq_self]
  ((refine pCall_view (by simp -implicitDefEqProofs (disch := omega) only [go_sem, ht, eq_self] <;> rfl) (by simp -implicitDefEqProofs (disch := omega) only [go_sem, ht, eq_self]) (by first | (apply Or.inl; simp -implicitDefEqProofs (disch := omega) only [go_sem, ht, eq_self]; done) | (apply Or.inr; rintro r rfl; rfl)) (a6) ?_; rintro _ nx_36 - rfl hnx_36; (try simp only [put_nx, withH_nx, begP_nx] at hnx_36); simp -implicitDefEqProofs (disch := omega) only [go_sem, ht, eq_self]); (refine pCall_view (by simp -implicitDefEqProofs (disch := omega) only [go_sem, ht, eq_self] <;> rfl) (by simp -implicitDefEqProofs (disch := omega) only [go_sem, ht, eq_self]) (by first | (apply Or.inl; simp -implicitDefEqProofs (disch := omega) only [go_sem, ht, eq_self]; done) | (apply Or.inr; rintro r rfl; rfl)) (a4) ?_; rintro _ nx_37 - rfl hnx_37; (try simp only [put_nx, withH_nx, begP_nx] at hnx_37); simp -implicitDefEqProofs (disch := omega) only [go_sem, ht, eq_self]); (refine pCall_view (by simp -implicitDefEqProofs (disch := omega) only [go_sem, ht, eq_self] <;> rfl) (by simp -implicitDefEqProofs (disch := omega) only [go_sem, ht, eq_self]) (by first | (apply Or.inl; simp -implicitDefEqProofs (disch := omega) only [go_sem, ht, eq_self]; done) | (apply Or.inr; rintro r rfl; rfl)) (hf) ?_; rintro _ nx_38 - rfl hnx_38; (try simp only [put_nx, withH_nx, begP_nx] at hnx_38); simp -implicitDefEqProofs (disch := omega) only [go_sem, ht, eq_self]); (refine pCall_view (by simp -implicitDefEqProofs (disch := omega) only [go_sem, ht, eq_self] <;> rfl) (by simp -implicitDefEqProofs (disch := omega) only [go_sem, ht, eq_self]) (by first | (apply Or.inl; simp -implicitDefEqProofs (disch := omega) only [go_sem, ht, eq_self]; done) | (apply Or.inr; rintro r rfl; rfl)) (htx) ?_; rintro _ nx_39 - rfl hnx_39; (try simp only [put_nx, withH_nx, begP_nx] at hnx_39); simp -implicitDefEqProofs (disch := omega) only [go_sem, ht, eq_self]))
  (refine end_treeW 0 ?_; simp -implicitDefEqProofs (disch := omega) only [go_sem, ht, beq_self_eq_true, eq_self])
end Go.Proofs.Ytgebemjmckgomaa

namespace Go.Proofs.Ytgebemjmckgomaa

section
variable {q p t : Rat}
theorem cR_lt (h : q < p) : cR q p = -1 := cZ_lt ((Rat.lt_iff q p).1 h)
theorem cR_gt (h : p < q) : cR q p = 1 := cZ_gt ((Rat.lt_iff p q).1 h)
theorem cR_eq (h : q = p) : cR q p = 0 := cZ_eq (by rw [h])
theorem rat_tri (q p : Rat) : q < p ∨ q = p ∨ p < q := by
  by_cases h1 : q < p
  · exact .inl h1
  · by_cases h2 : p < q
    · exact .inr (.inr h2)
    · exact .inr (.inl (Rat.le_antisymm (Rat.not_lt.1 h2) (Rat.not_lt.1 h1)))
theorem cR_swap : cR p q = -cR q p := by
  rcases rat_tri q p with h | h | h
  · rw [cR_lt h, cR_gt h]; rfl
  · rw [cR_eq h, cR_eq h.symm]; rfl
  · rw [cR_gt h, cR_lt h]
theorem cR_add : cR (q + t) (p + t) = cR q p := by
  rcases rat_tri q p with h | h | h
  · rw [cR_lt h, cR_lt (Rat.add_lt_add_right.2 h)]
  · rw [cR_eq h, cR_eq (by rw [h])]
  · rw [cR_gt h, cR_gt (Rat.add_lt_add_right.2 h)]
theorem cR_num : cZ q.num 0 = cR q 0 := by
  unfold cR
  rw [Rat.zero_num, Rat.zero_den, Int.zero_mul]
  simp
theorem cR_sub : cR (q - p) 0 = cR q p := by
  rcases rat_tri q p with h | h | h
  · rw [cR_lt h, cR_lt]
    have := (Rat.lt_iff_sub_pos q p).1 h
    have h2 := Rat.neg_lt_neg this
    rwa [Rat.neg_sub, Rat.neg_zero] at h2
  · rw [cR_eq h, cR_eq (by rw [h, Rat.sub_self])]
  · rw [cR_gt h, cR_gt ((Rat.lt_iff_sub_pos p q).1 h)]
theorem cR_mul : cR (q * t) (p * t) = cR q p * cR t 0 := by
  rcases rat_tri t 0 with ht | ht | ht
  · have hn : 0 < -t := by have := Rat.neg_lt_neg ht; rwa [Rat.neg_zero] at this
    have key : ∀ a b : Rat, a < b → b * t < a * t := fun a b hab => by
      have h1 := (Rat.mul_lt_mul_right hn).2 hab
      rw [Rat.mul_neg, Rat.mul_neg] at h1
      have h2 := Rat.neg_lt_neg h1
      rwa [Rat.neg_neg, Rat.neg_neg] at h2
    rw [cR_lt ht]
    rcases rat_tri q p with h | h | h
    · rw [cR_lt h, cR_gt (key _ _ h)]; rfl
    · rw [cR_eq h, cR_eq (by rw [h])]; rfl
    · rw [cR_gt h, cR_lt (key _ _ h)]; rfl
  · rw [ht, cR_eq rfl, Int.mul_zero, cR_eq (by rw [Rat.mul_zero, Rat.mul_zero])]
  · rw [cR_gt ht, Int.mul_one]
    rcases rat_tri q p with h | h | h
    · rw [cR_lt h, cR_lt ((Rat.mul_lt_mul_right ht).2 h)]
    · rw [cR_eq h, cR_eq (by rw [h])]
    · rw [cR_gt h, cR_gt ((Rat.mul_lt_mul_right ht).2 h)]
theorem cR_eq0 : cR q p = 0 ↔ q = p := by
  rcases rat_tri q p with h | h | h
  · rw [cR_lt h]; exact ⟨fun e => by omega, fun e => absurd e (Rat.ne_of_lt h)⟩
  · rw [cR_eq h]; exact ⟨fun _ => h, fun _ => rfl⟩
  · rw [cR_gt h]; exact ⟨fun e => by omega, fun e => absurd e.symm (Rat.ne_of_lt h)⟩
theorem cR_trans (h1 : ¬ 0 < cR q p) (h2 : ¬ 0 < cR p t) : cR q t ≤ 0 := by
  have a : q ≤ p := by
    rw [← Rat.not_lt]; intro h; rw [cR_gt h] at h1; omega
  have b : p ≤ t := by
    rw [← Rat.not_lt]; intro h; rw [cR_gt h] at h2; omega
  have c := Rat.le_trans a b
  rcases rat_tri q t with h | h | h
  · rw [cR_lt h]; omega
  · rw [cR_eq h]; omega
  · exact absurd h (Rat.not_lt.2 c)
theorem cR_bnd : -1 ≤ cR q p ∧ cR q p ≤ 1 := by
  rcases rat_tri q p with h | h | h
  · rw [cR_lt h]; omega
  · rw [cR_eq h]; omega
  · rw [cR_gt h]; omega
theorem floor_of {z : Int} (h1 : (z : Rat) ≤ q) (h2 : q < ((z + 1 : Int) : Rat)) : q.num / q.den = z := by
  have a := (Rat.le_iff _ _).1 h1
  have b := (Rat.lt_iff _ _).1 h2
  rw [Rat.num_intCast, Rat.den_intCast] at a b
  have hd := q.den_pos
  refine (ediv_of (y := q.den) (q := z) (r := q.num - q.den * z) (by omega) ?_ ?_).1
  · rw [Int.mul_comm] at a; omega
  · rw [Int.add_mul, Int.mul_comm z] at b; omega
theorem floor_le : ((q.num / q.den : Int) : Rat) ≤ q := by
  rw [Rat.le_iff, Rat.num_intCast, Rat.den_intCast]
  have := Int.ediv_mul_le q.num (b := q.den) (by have := q.den_nz; omega)
  simpa using this
theorem lt_floor : q < ((q.num / q.den + 1 : Int) : Rat) := by
  rw [Rat.lt_iff, Rat.num_intCast, Rat.den_intCast]
  have h1 := Int.lt_ediv_add_one_mul_self q.num (b := q.den) (by have := q.den_pos; omega)
  simpa using h1
theorem floor_add {v : Int} : (q + (v : Rat)).num / (q + (v : Rat)).den = q.num / q.den + v := by
  refine floor_of ?_ ?_
  · rw [Rat.intCast_add]
    exact Rat.add_le_add_right.2 floor_le
  · have e : q.num / (q.den : Int) + v + 1 = q.num / (q.den : Int) + 1 + v := by omega
    rw [e, Rat.intCast_add]
    exact Rat.add_lt_add_right.2 lt_floor
theorem floor_whole : ((q.num / q.den : Int) : Rat) = q ↔ q.den = 1 := by
  constructor
  · intro h
    have := congrArg Rat.den h
    rw [Rat.den_intCast] at this
    exact this.symm
  · intro h
    refine Rat.ext ?_ ?_
    · rw [Rat.num_intCast, h]; simp
    · rw [Rat.den_intCast, h]
end
end Go.Proofs.Ytgebemjmckgomaa
