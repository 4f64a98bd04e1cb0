/- The document's answers on whole numbers: layer 2. -/
import Derived.Test.YtfbmdbgjfnkmiaaRefF
set_option maxRecDepth 100000
set_option linter.unusedVariables false
set_option linter.unusedSimpArgs false
namespace Go.Proofs.Ytfbmdbgjfnkmiaa.Ref

section
variable {b d : Bool} {xs ys : List Nat} {x y : Int} {k : Nat}
theorem ofW (p : Wn b xs x k) : PT Try.prog 59 [WX b xs] (isV (NZ x)) := by
  have := p.len
  have := p.hk
  have h := of_z (b := b) p.ok.lm (by omega)
  rwa [p.val] at h
theorem r2trim (p : Wn b xs x k) : PT Try.prog 39 [WX b xs] (isV (WC x)) := by
  have h1 := ofW p
  have h2 := told_z p.z p.hk
  refine PCalls.enter (n := 6) (rs := [.cell 2 28]) (tb := []) Try.func39 rfl rfl rfl (by kernel_rfl) (by kernel_rfl) (by simp) fun c hc ht => ?_
  simp -implicitDefEqProofs (disch := omega) only [go_sem, ht, eq_self]
  ((refine pCall_view (by simp -implicitDefEqProofs (disch := omega) only [go_sem, ht, eq_self] <;> rfl) (by simp -implicitDefEqProofs (disch := omega) only [go_sem, ht, eq_self]) (by first | (apply Or.inl; simp -implicitDefEqProofs (disch := omega) only [go_sem, ht, eq_self]; done) | (apply Or.inr; rintro r rfl; rfl)) (h1) ?_; rintro _ nx_1 - rfl hnx_1; (try simp only [put_nx, withH_nx, begP_nx] at hnx_1); simp -implicitDefEqProofs (disch := omega) only [go_sem, ht, eq_self]); (refine pCall_view (by simp -implicitDefEqProofs (disch := omega) only [go_sem, ht, eq_self] <;> rfl) (by simp -implicitDefEqProofs (disch := omega) only [go_sem, ht, eq_self]) (by first | (apply Or.inl; simp -implicitDefEqProofs (disch := omega) only [go_sem, ht, eq_self]; done) | (apply Or.inr; rintro r rfl; rfl)) (h2) ?_; rintro _ nx_2 - rfl hnx_2; (try simp only [put_nx, withH_nx, begP_nx] at hnx_2); simp -implicitDefEqProofs (disch := omega) only [go_sem, ht, eq_self]))
  (refine end_treeM 2 ?_; simp -implicitDefEqProofs (disch := omega) only [go_sem, ht, eq_self])
theorem r2sign (p : Wn b xs x k) : PT Try.prog 37 [WX b xs] (isV (.val (.int .i64 (cZ x 0)))) := by
  have h1 := ofW p
  have h2 := sign_z (okZ p.z p.hk)
  generalize cZ x 0 = c0 at *
  refine PCalls.enter (n := 6) (rs := [.tmp 2]) (tb := []) Try.func37 rfl rfl rfl (by kernel_rfl) (by kernel_rfl) (by simp) fun c hc ht => ?_
  simp -implicitDefEqProofs (disch := omega) only [go_sem, ht, eq_self]
  ((refine pCall_view (by simp -implicitDefEqProofs (disch := omega) only [go_sem, ht, eq_self] <;> rfl) (by simp -implicitDefEqProofs (disch := omega) only [go_sem, ht, eq_self]) (by first | (apply Or.inl; simp -implicitDefEqProofs (disch := omega) only [go_sem, ht, eq_self]; done) | (apply Or.inr; rintro r rfl; rfl)) (h1) ?_; rintro _ nx_3 - rfl hnx_3; (try simp only [put_nx, withH_nx, begP_nx] at hnx_3); simp -implicitDefEqProofs (disch := omega) only [go_sem, ht, eq_self]); (refine pCall_view (by simp -implicitDefEqProofs (disch := omega) only [go_sem, ht, eq_self] <;> rfl) (by simp -implicitDefEqProofs (disch := omega) only [go_sem, ht, eq_self]) (by first | (apply Or.inl; simp -implicitDefEqProofs (disch := omega) only [go_sem, ht, eq_self]; done) | (apply Or.inr; rintro r rfl; rfl)) (h2) ?_; rintro _ nx_4 - rfl hnx_4; (try simp only [put_nx, withH_nx, begP_nx] at hnx_4); simp -implicitDefEqProofs (disch := omega) only [go_sem, ht, eq_self]))
  (refine end_treeW 0 ?_; simp -implicitDefEqProofs (disch := omega) only [go_sem, ht, eq_self])
theorem r2limbs (p : Wn b xs x k) : PT Try.prog 38 [WX b xs] (isV (.val (.int .i64 (Ytfbmdbgjfnkmiaa.D x.natAbs).length))) := by
  have h1 := ofW p
  have h2 := long_z p.z p.hk
  refine PCalls.enter (n := 6) (rs := [.tmp 2]) (tb := []) Try.func38 rfl rfl rfl (by kernel_rfl) (by kernel_rfl) (by simp) fun c hc ht => ?_
  simp -implicitDefEqProofs (disch := omega) only [go_sem, ht, eq_self]
  ((refine pCall_view (by simp -implicitDefEqProofs (disch := omega) only [go_sem, ht, eq_self] <;> rfl) (by simp -implicitDefEqProofs (disch := omega) only [go_sem, ht, eq_self]) (by first | (apply Or.inl; simp -implicitDefEqProofs (disch := omega) only [go_sem, ht, eq_self]; done) | (apply Or.inr; rintro r rfl; rfl)) (h1) ?_; rintro _ nx_5 - rfl hnx_5; (try simp only [put_nx, withH_nx, begP_nx] at hnx_5); simp -implicitDefEqProofs (disch := omega) only [go_sem, ht, eq_self]); (refine pCall_view (by simp -implicitDefEqProofs (disch := omega) only [go_sem, ht, eq_self] <;> rfl) (by simp -implicitDefEqProofs (disch := omega) only [go_sem, ht, eq_self]) (by first | (apply Or.inl; simp -implicitDefEqProofs (disch := omega) only [go_sem, ht, eq_self]; done) | (apply Or.inr; rintro r rfl; rfl)) (h2) ?_; rintro _ nx_6 - rfl hnx_6; (try simp only [put_nx, withH_nx, begP_nx] at hnx_6); simp -implicitDefEqProofs (disch := omega) only [go_sem, ht, eq_self]))
  (refine end_treeW 0 ?_; simp -implicitDefEqProofs (disch := omega) only [go_sem, ht, eq_self])
theorem r2cmp (p : Wn b xs x k) (q : Wn d ys y k) : PT Try.prog 45 [WX b xs, WX d ys] (isV (.val (.int .i64 (cZ x y)))) := by
  have h1 := ofW p
  have h2 := ofW q
  have h3 := ncmp_z (okZ p.z p.hk) (okZ q.z q.hk)
  generalize cZ x y = c0 at *
  refine PCalls.enter (n := 10) (rs := [.tmp 4]) (tb := [(1, [(0, []), (2, []), (1, [2]), (3, []), (4, []), (5, [])])]) Try.func45 rfl rfl rfl (by kernel_rfl) (by kernel_rfl) (by simp) fun c hc ht => ?_
  simp -implicitDefEqProofs (disch := omega) only [go_sem, ht, eq_self]
  ((refine pCall_view (by simp -implicitDefEqProofs (disch := omega) only [go_sem, ht, eq_self] <;> rfl) (by simp -implicitDefEqProofs (disch := omega) only [go_sem, ht, eq_self]) (by first | (apply Or.inl; simp -implicitDefEqProofs (disch := omega) only [go_sem, ht, eq_self]; done) | (apply Or.inr; rintro r rfl; rfl)) (h1) ?_; rintro _ nx_7 - rfl hnx_7; (try simp only [put_nx, withH_nx, begP_nx] at hnx_7); simp -implicitDefEqProofs (disch := omega) only [go_sem, ht, eq_self]); (refine pCall_view (by simp -implicitDefEqProofs (disch := omega) only [go_sem, ht, eq_self] <;> rfl) (by simp -implicitDefEqProofs (disch := omega) only [go_sem, ht, eq_self]) (by first | (apply Or.inl; simp -implicitDefEqProofs (disch := omega) only [go_sem, ht, eq_self]; done) | (apply Or.inr; rintro r rfl; rfl)) (h2) ?_; rintro _ nx_8 - rfl hnx_8; (try simp only [put_nx, withH_nx, begP_nx] at hnx_8); simp -implicitDefEqProofs (disch := omega) only [go_sem, ht, eq_self]); (refine pCall_view (by simp -implicitDefEqProofs (disch := omega) only [go_sem, ht, eq_self] <;> rfl) (by simp -implicitDefEqProofs (disch := omega) only [go_sem, ht, eq_self]) (by first | (apply Or.inl; simp -implicitDefEqProofs (disch := omega) only [go_sem, ht, eq_self]; done) | (apply Or.inr; rintro r rfl; rfl)) (h3) ?_; rintro _ nx_9 - rfl hnx_9; (try simp only [put_nx, withH_nx, begP_nx] at hnx_9); simp -implicitDefEqProofs (disch := omega) only [go_sem, ht, eq_self]))
  (refine end_treeW 0 ?_; simp -implicitDefEqProofs (disch := omega) only [go_sem, ht, eq_self])
theorem r2neg (p : Wn b xs x k) : PT Try.prog 44 [WX b xs] (isV (WC (-x))) := by
  have h1 := ofW p
  have h2 := minus_z (okZ p.z p.hk)
  have h3 := told_z p.z.neg p.hk
  generalize -x = x' at *
  refine PCalls.enter (n := 7) (rs := [.cell 2 28]) (tb := []) Try.func44 rfl rfl rfl (by kernel_rfl) (by kernel_rfl) (by simp) fun c hc ht => ?_
  simp -implicitDefEqProofs (disch := omega) only [go_sem, ht, eq_self]
  ((refine pCall_view (by simp -implicitDefEqProofs (disch := omega) only [go_sem, ht, eq_self] <;> rfl) (by simp -implicitDefEqProofs (disch := omega) only [go_sem, ht, eq_self]) (by first | (apply Or.inl; simp -implicitDefEqProofs (disch := omega) only [go_sem, ht, eq_self]; done) | (apply Or.inr; rintro r rfl; rfl)) (h1) ?_; rintro _ nx_10 - rfl hnx_10; (try simp only [put_nx, withH_nx, begP_nx] at hnx_10); simp -implicitDefEqProofs (disch := omega) only [go_sem, ht, eq_self]); (refine pCall_view (by simp -implicitDefEqProofs (disch := omega) only [go_sem, ht, eq_self] <;> rfl) (by simp -implicitDefEqProofs (disch := omega) only [go_sem, ht, eq_self]) (by first | (apply Or.inl; simp -implicitDefEqProofs (disch := omega) only [go_sem, ht, eq_self]; done) | (apply Or.inr; rintro r rfl; rfl)) (h2) ?_; rintro _ nx_11 - rfl hnx_11; (try simp only [put_nx, withH_nx, begP_nx] at hnx_11); simp -implicitDefEqProofs (disch := omega) only [go_sem, ht, eq_self]); (refine pCall_view (by simp -implicitDefEqProofs (disch := omega) only [go_sem, ht, eq_self] <;> rfl) (by simp -implicitDefEqProofs (disch := omega) only [go_sem, ht, eq_self]) (by first | (apply Or.inl; simp -implicitDefEqProofs (disch := omega) only [go_sem, ht, eq_self]; done) | (apply Or.inr; rintro r rfl; rfl)) (h3) ?_; rintro _ nx_12 - rfl hnx_12; (try simp only [put_nx, withH_nx, begP_nx] at hnx_12); simp -implicitDefEqProofs (disch := omega) only [go_sem, ht, eq_self]))
  (refine end_treeM 2 ?_; simp -implicitDefEqProofs (disch := omega) only [go_sem, ht, eq_self])
theorem okAdd (p : Wn b xs x k) (q : Wn d ys y k) (hk : k ≤ 100000) : Ok (D (x.natAbs + y.natAbs)) :=
  okZ (k := k + 1) (z := ((x.natAbs + y.natAbs : Nat) : Int)) (lt_add p.z q.z) (by omega)
theorem r2add (p : Wn b xs x k) (q : Wn d ys y k) (hk : k ≤ 100000) : PT Try.prog 41 [WX b xs, WX d ys] (isV (WC (x + y))) := by
  have h1 := ofW p
  have h2 := ofW q
  have h3 := nadd_z (okZ p.z p.hk) (okZ q.z q.hk) (okAdd p q hk)
  have h4 := told_z (p.z.add q.z) (by omega)
  generalize x + y = s at *
  refine PCalls.enter (n := 11) (rs := [.cell 4 28]) (tb := [(1, [(0, []), (2, []), (1, [2]), (3, []), (4, []), (5, []), (6, [])])]) Try.func41 rfl rfl rfl (by kernel_rfl) (by kernel_rfl) (by simp) fun c hc ht => ?_
  simp -implicitDefEqProofs (disch := omega) only [go_sem, ht, eq_self]
  ((refine pCall_view (by simp -implicitDefEqProofs (disch := omega) only [go_sem, ht, eq_self] <;> rfl) (by simp -implicitDefEqProofs (disch := omega) only [go_sem, ht, eq_self]) (by first | (apply Or.inl; simp -implicitDefEqProofs (disch := omega) only [go_sem, ht, eq_self]; done) | (apply Or.inr; rintro r rfl; rfl)) (h1) ?_; rintro _ nx_13 - rfl hnx_13; (try simp only [put_nx, withH_nx, begP_nx] at hnx_13); simp -implicitDefEqProofs (disch := omega) only [go_sem, ht, eq_self]); (refine pCall_view (by simp -implicitDefEqProofs (disch := omega) only [go_sem, ht, eq_self] <;> rfl) (by simp -implicitDefEqProofs (disch := omega) only [go_sem, ht, eq_self]) (by first | (apply Or.inl; simp -implicitDefEqProofs (disch := omega) only [go_sem, ht, eq_self]; done) | (apply Or.inr; rintro r rfl; rfl)) (h2) ?_; rintro _ nx_14 - rfl hnx_14; (try simp only [put_nx, withH_nx, begP_nx] at hnx_14); simp -implicitDefEqProofs (disch := omega) only [go_sem, ht, eq_self]); (refine pCall_view (by simp -implicitDefEqProofs (disch := omega) only [go_sem, ht, eq_self] <;> rfl) (by simp -implicitDefEqProofs (disch := omega) only [go_sem, ht, eq_self]) (by first | (apply Or.inl; simp -implicitDefEqProofs (disch := omega) only [go_sem, ht, eq_self]; done) | (apply Or.inr; rintro r rfl; rfl)) (h3) ?_; rintro _ nx_15 - rfl hnx_15; (try simp only [put_nx, withH_nx, begP_nx] at hnx_15); simp -implicitDefEqProofs (disch := omega) only [go_sem, ht, eq_self]); (refine pCall_view (by simp -implicitDefEqProofs (disch := omega) only [go_sem, ht, eq_self] <;> rfl) (by simp -implicitDefEqProofs (disch := omega) only [go_sem, ht, eq_self]) (by first | (apply Or.inl; simp -implicitDefEqProofs (disch := omega) only [go_sem, ht, eq_self]; done) | (apply Or.inr; rintro r rfl; rfl)) (h4) ?_; rintro _ nx_16 - rfl hnx_16; (try simp only [put_nx, withH_nx, begP_nx] at hnx_16); simp -implicitDefEqProofs (disch := omega) only [go_sem, ht, eq_self]))
  (refine end_treeM 2 ?_; simp -implicitDefEqProofs (disch := omega) only [go_sem, ht, eq_self])
theorem r2sub (p : Wn b xs x k) (q : Wn d ys y k) (hk : k ≤ 100000) : PT Try.prog 42 [WX b xs, WX d ys] (isV (WC (x - y))) := by
  have h1 := ofW p
  have h2 := ofW q
  have h3 := nsub_z (okZ p.z p.hk) (okZ q.z q.hk) (okAdd p q hk)
  have h4 := told_z (p.z.sub q.z) (by omega)
  generalize x - y = s at *
  refine PCalls.enter (n := 11) (rs := [.cell 4 28]) (tb := [(1, [(0, []), (2, []), (1, [2]), (3, []), (4, []), (5, []), (6, [])])]) Try.func42 rfl rfl rfl (by kernel_rfl) (by kernel_rfl) (by simp) fun c hc ht => ?_
  simp -implicitDefEqProofs (disch := omega) only [go_sem, ht, eq_self]
  ((refine pCall_view (by simp -implicitDefEqProofs (disch := omega) only [go_sem, ht, eq_self] <;> rfl) (by simp -implicitDefEqProofs (disch := omega) only [go_sem, ht, eq_self]) (by first | (apply Or.inl; simp -implicitDefEqProofs (disch := omega) only [go_sem, ht, eq_self]; done) | (apply Or.inr; rintro r rfl; rfl)) (h1) ?_; rintro _ nx_17 - rfl hnx_17; (try simp only [put_nx, withH_nx, begP_nx] at hnx_17); simp -implicitDefEqProofs (disch := omega) only [go_sem, ht, eq_self]); (refine pCall_view (by simp -implicitDefEqProofs (disch := omega) only [go_sem, ht, eq_self] <;> rfl) (by simp -implicitDefEqProofs (disch := omega) only [go_sem, ht, eq_self]) (by first | (apply Or.inl; simp -implicitDefEqProofs (disch := omega) only [go_sem, ht, eq_self]; done) | (apply Or.inr; rintro r rfl; rfl)) (h2) ?_; rintro _ nx_18 - rfl hnx_18; (try simp only [put_nx, withH_nx, begP_nx] at hnx_18); simp -implicitDefEqProofs (disch := omega) only [go_sem, ht, eq_self]); (refine pCall_view (by simp -implicitDefEqProofs (disch := omega) only [go_sem, ht, eq_self] <;> rfl) (by simp -implicitDefEqProofs (disch := omega) only [go_sem, ht, eq_self]) (by first | (apply Or.inl; simp -implicitDefEqProofs (disch := omega) only [go_sem, ht, eq_self]; done) | (apply Or.inr; rintro r rfl; rfl)) (h3) ?_; rintro _ nx_19 - rfl hnx_19; (try simp only [put_nx, withH_nx, begP_nx] at hnx_19); simp -implicitDefEqProofs (disch := omega) only [go_sem, ht, eq_self]); (refine pCall_view (by simp -implicitDefEqProofs (disch := omega) only [go_sem, ht, eq_self] <;> rfl) (by simp -implicitDefEqProofs (disch := omega) only [go_sem, ht, eq_self]) (by first | (apply Or.inl; simp -implicitDefEqProofs (disch := omega) only [go_sem, ht, eq_self]; done) | (apply Or.inr; rintro r rfl; rfl)) (h4) ?_; rintro _ nx_20 - rfl hnx_20; (try simp only [put_nx, withH_nx, begP_nx] at hnx_20); simp -implicitDefEqProofs (disch := omega) only [go_sem, ht, eq_self]))
  (refine end_treeM 2 ?_; simp -implicitDefEqProofs (disch := omega) only [go_sem, ht, eq_self])
theorem r2mul (p : Wn b xs x k) (q : Wn d ys y k) (hk : k ≤ 100000) : PT Try.prog 43 [WX b xs, WX d ys] (isV (WC (x * y))) := by
  have h1 := ofW p
  have h2 := ofW q
  have h3 := nmul_z (okZ p.z p.hk) (okZ q.z q.hk) (by have := lenZ p.z; have := lenZ q.z; omega)
  have h4 := told_z (p.z.mul q.z) (by omega)
  generalize x * y = s at *
  refine PCalls.enter (n := 11) (rs := [.cell 4 28]) (tb := [(1, [(0, []), (2, []), (1, [2]), (3, []), (4, []), (5, []), (6, [])])]) Try.func43 rfl rfl rfl (by kernel_rfl) (by kernel_rfl) (by simp) fun c hc ht => ?_
  simp -implicitDefEqProofs (disch := omega) only [go_sem, ht, eq_self]
  ((refine pCall_view (by simp -implicitDefEqProofs (disch := omega) only [go_sem, ht, eq_self] <;> rfl) (by simp -implicitDefEqProofs (disch := omega) only [go_sem, ht, eq_self]) (by first | (apply Or.inl; simp -implicitDefEqProofs (disch := omega) only [go_sem, ht, eq_self]; done) | (apply Or.inr; rintro r rfl; rfl)) (h1) ?_; rintro _ nx_21 - rfl hnx_21; (try simp only [put_nx, withH_nx, begP_nx] at hnx_21); simp -implicitDefEqProofs (disch := omega) only [go_sem, ht, eq_self]); (refine pCall_view (by simp -implicitDefEqProofs (disch := omega) only [go_sem, ht, eq_self] <;> rfl) (by simp -implicitDefEqProofs (disch := omega) only [go_sem, ht, eq_self]) (by first | (apply Or.inl; simp -implicitDefEqProofs (disch := omega) only [go_sem, ht, eq_self]; done) | (apply Or.inr; rintro r rfl; rfl)) (h2) ?_; rintro _ nx_22 - rfl hnx_22; (try simp only [put_nx, withH_nx, begP_nx] at hnx_22); simp -implicitDefEqProofs (disch := omega) only [go_sem, ht, eq_self]); (refine pCall_view (by simp -implicitDefEqProofs (disch := omega) only [go_sem, ht, eq_self] <;> rfl) (by simp -implicitDefEqProofs (disch := omega) only [go_sem, ht, eq_self]) (by first | (apply Or.inl; simp -implicitDefEqProofs (disch := omega) only [go_sem, ht, eq_self]; done) | (apply Or.inr; rintro r rfl; rfl)) (h3) ?_; rintro _ nx_23 - rfl hnx_23; (try simp only [put_nx, withH_nx, begP_nx] at hnx_23); simp -implicitDefEqProofs (disch := omega) only [go_sem, ht, eq_self]); (refine pCall_view (by simp -implicitDefEqProofs (disch := omega) only [go_sem, ht, eq_self] <;> rfl) (by simp -implicitDefEqProofs (disch := omega) only [go_sem, ht, eq_self]) (by first | (apply Or.inl; simp -implicitDefEqProofs (disch := omega) only [go_sem, ht, eq_self]; done) | (apply Or.inr; rintro r rfl; rfl)) (h4) ?_; rintro _ nx_24 - rfl hnx_24; (try simp only [put_nx, withH_nx, begP_nx] at hnx_24); simp -implicitDefEqProofs (disch := omega) only [go_sem, ht, eq_self]))
  (refine end_treeM 2 ?_; simp -implicitDefEqProofs (disch := omega) only [go_sem, ht, eq_self])
theorem r2gcd (p : Wn b xs x k) (q : Wn d ys y k) (hk : k ≤ 100000) : PT Try.prog 49 [WX b xs, WX d ys] (isV (WC (Int.gcd x y : Nat))) := by
  have h1 := ofW p
  have h2 := ofW q
  have h3 := gcd_z p.z q.z hk
  have zg : Z k (Int.gcd x y : Nat) := by
    by_cases hx0 : x = 0
    · subst hx0; rw [Int.gcd_zero_left]; exact Z.le q.z (by omega)
    · exact Z.le p.z (Nat.le_of_dvd (by omega) (Nat.gcd_dvd_left x.natAbs y.natAbs))
  have h4 := told_z zg (by omega)
  generalize ((Int.gcd x y : Nat) : Int) = s at *
  refine PCalls.enter (n := 11) (rs := [.cell 4 28]) (tb := [(1, [(0, []), (2, []), (1, [2]), (3, []), (4, []), (5, []), (6, [])])]) Try.func49 rfl rfl rfl (by kernel_rfl) (by kernel_rfl) (by simp) fun c hc ht => ?_
  simp -implicitDefEqProofs (disch := omega) only [go_sem, ht, eq_self]
  ((refine pCall_view (by simp -implicitDefEqProofs (disch := omega) only [go_sem, ht, eq_self] <;> rfl) (by simp -implicitDefEqProofs (disch := omega) only [go_sem, ht, eq_self]) (by first | (apply Or.inl; simp -implicitDefEqProofs (disch := omega) only [go_sem, ht, eq_self]; done) | (apply Or.inr; rintro r rfl; rfl)) (h1) ?_; rintro _ nx_25 - rfl hnx_25; (try simp only [put_nx, withH_nx, begP_nx] at hnx_25); simp -implicitDefEqProofs (disch := omega) only [go_sem, ht, eq_self]); (refine pCall_view (by simp -implicitDefEqProofs (disch := omega) only [go_sem, ht, eq_self] <;> rfl) (by simp -implicitDefEqProofs (disch := omega) only [go_sem, ht, eq_self]) (by first | (apply Or.inl; simp -implicitDefEqProofs (disch := omega) only [go_sem, ht, eq_self]; done) | (apply Or.inr; rintro r rfl; rfl)) (h2) ?_; rintro _ nx_26 - rfl hnx_26; (try simp only [put_nx, withH_nx, begP_nx] at hnx_26); simp -implicitDefEqProofs (disch := omega) only [go_sem, ht, eq_self]); (refine pCall_view (by simp -implicitDefEqProofs (disch := omega) only [go_sem, ht, eq_self] <;> rfl) (by simp -implicitDefEqProofs (disch := omega) only [go_sem, ht, eq_self]) (by first | (apply Or.inl; simp -implicitDefEqProofs (disch := omega) only [go_sem, ht, eq_self]; done) | (apply Or.inr; rintro r rfl; rfl)) (h3) ?_; rintro _ nx_27 - rfl hnx_27; (try simp only [put_nx, withH_nx, begP_nx] at hnx_27); simp -implicitDefEqProofs (disch := omega) only [go_sem, ht, eq_self]); (refine pCall_view (by simp -implicitDefEqProofs (disch := omega) only [go_sem, ht, eq_self] <;> rfl) (by simp -implicitDefEqProofs (disch := omega) only [go_sem, ht, eq_self]) (by first | (apply Or.inl; simp -implicitDefEqProofs (disch := omega) only [go_sem, ht, eq_self]; done) | (apply Or.inr; rintro r rfl; rfl)) (h4) ?_; rintro _ nx_28 - rfl hnx_28; (try simp only [put_nx, withH_nx, begP_nx] at hnx_28); simp -implicitDefEqProofs (disch := omega) only [go_sem, ht, eq_self]))
  (refine end_treeM 2 ?_; simp -implicitDefEqProofs (disch := omega) only [go_sem, ht, eq_self])
theorem r2div_zero (q : Wn d ys 0 k) : PT Try.prog 48 [WX b xs, WX d ys] (isV (.tup [WC 0, WC 0, .val (.bool false)])) := by
  have h2 := ofW q
  have h3 := sign_z (okZ q.z q.hk)
  rw [cZ_eq rfl] at h3
  rw [WC0]
  refine PCalls.enter (n := 28) (rs := [.cell 4 28, .cell 5 28, .tmp 6]) (tb := [(4, [(0, []), (2, []), (1, [2]), (3, []), (4, []), (5, []), (6, []), (7, [0, 2, 4, 5, 6]), (8, [0, 2, 4, 5, 6]), (9, [6]), (10, [])]), (5, [(0, []), (2, []), (1, [2]), (3, []), (4, []), (5, []), (6, [])])]) Try.func48 rfl rfl rfl (by kernel_rfl) (by kernel_rfl) (by simp) fun c hc ht => ?_
  simp -implicitDefEqProofs (disch := omega) only [go_sem, ht, eq_self]
  ((refine pCall_view (by simp -implicitDefEqProofs (disch := omega) only [go_sem, ht, eq_self] <;> rfl) (by simp -implicitDefEqProofs (disch := omega) only [go_sem, ht, eq_self]) (by first | (apply Or.inl; simp -implicitDefEqProofs (disch := omega) only [go_sem, ht, eq_self]; done) | (apply Or.inr; rintro r rfl; rfl)) (h2) ?_; rintro _ nx_29 - rfl hnx_29; (try simp only [put_nx, withH_nx, begP_nx] at hnx_29); simp -implicitDefEqProofs (disch := omega) only [go_sem, ht, eq_self]); (refine pCall_view (by simp -implicitDefEqProofs (disch := omega) only [go_sem, ht, eq_self] <;> rfl) (by simp -implicitDefEqProofs (disch := omega) only [go_sem, ht, eq_self]) (by first | (apply Or.inl; simp -implicitDefEqProofs (disch := omega) only [go_sem, ht, eq_self]; done) | (apply Or.inr; rintro r rfl; rfl)) (h3) ?_; rintro _ nx_30 - rfl hnx_30; (try simp only [put_nx, withH_nx, begP_nx] at hnx_30); simp -implicitDefEqProofs (disch := omega) only [go_sem, ht, eq_self]))
  (refine end_treeM 2 ?_; simp -implicitDefEqProofs (disch := omega) only [go_sem, ht, eq_self])
theorem r2div (p : Wn b xs x k) (q : Wn d ys y k) (hk : k ≤ 100000) (hy : y ≠ 0) : PT Try.prog 48 [WX b xs, WX d ys] (isV (.tup [WC (x / y), WC (x % y), .val (.bool true)])) := by
  have h1 := ofW p
  have h2 := ofW q
  have h3 := sign_z (okZ q.z q.hk)
  have hy0 : cZ y 0 ≠ 0 := by unfold cZ; split <;> (try split) <;> omega
  have h4 := ndivmod_z p.z q.z hk hy
  have h5 := told_z (p.z.div (y := y)) (by omega)
  have h6 := told_z (Z.mod (x := x) q.z hy) (by omega)
  generalize x / y = s at *
  generalize x % y = t at *
  generalize cZ y 0 = c0 at *
  refine PCalls.enter (n := 28) (rs := [.cell 4 28, .cell 5 28, .tmp 6]) (tb := [(4, [(0, []), (2, []), (1, [2]), (3, []), (4, []), (5, []), (6, []), (7, [0, 2, 4, 5, 6]), (8, [0, 2, 4, 5, 6]), (9, [6]), (10, [])]), (5, [(0, []), (2, []), (1, [2]), (3, []), (4, []), (5, []), (6, [])])]) Try.func48 rfl rfl rfl (by kernel_rfl) (by kernel_rfl) (by simp) fun c hc ht => ?_
  simp -implicitDefEqProofs (disch := omega) only [go_sem, ht, eq_self]
  ((refine pCall_view (by simp -implicitDefEqProofs (disch := omega) only [go_sem, ht, eq_self] <;> rfl) (by simp -implicitDefEqProofs (disch := omega) only [go_sem, ht, eq_self]) (by first | (apply Or.inl; simp -implicitDefEqProofs (disch := omega) only [go_sem, ht, eq_self]; done) | (apply Or.inr; rintro r rfl; rfl)) (h2) ?_; rintro _ nx_31 - rfl hnx_31; (try simp only [put_nx, withH_nx, begP_nx] at hnx_31); simp -implicitDefEqProofs (disch := omega) only [go_sem, ht, eq_self]); (refine pCall_view (by simp -implicitDefEqProofs (disch := omega) only [go_sem, ht, eq_self] <;> rfl) (by simp -implicitDefEqProofs (disch := omega) only [go_sem, ht, eq_self]) (by first | (apply Or.inl; simp -implicitDefEqProofs (disch := omega) only [go_sem, ht, eq_self]; done) | (apply Or.inr; rintro r rfl; rfl)) (h3) ?_; rintro _ nx_32 - rfl hnx_32; (try simp only [put_nx, withH_nx, begP_nx] at hnx_32); simp -implicitDefEqProofs (disch := omega) only [go_sem, ht, eq_self]); (refine pCall_view (by simp -implicitDefEqProofs (disch := omega) only [go_sem, ht, eq_self] <;> rfl) (by simp -implicitDefEqProofs (disch := omega) only [go_sem, ht, eq_self]) (by first | (apply Or.inl; simp -implicitDefEqProofs (disch := omega) only [go_sem, ht, eq_self]; done) | (apply Or.inr; rintro r rfl; rfl)) (h1) ?_; rintro _ nx_33 - rfl hnx_33; (try simp only [put_nx, withH_nx, begP_nx] at hnx_33); simp -implicitDefEqProofs (disch := omega) only [go_sem, ht, eq_self]); (refine pCall_view (by simp -implicitDefEqProofs (disch := omega) only [go_sem, ht, eq_self] <;> rfl) (by simp -implicitDefEqProofs (disch := omega) only [go_sem, ht, eq_self]) (by first | (apply Or.inl; simp -implicitDefEqProofs (disch := omega) only [go_sem, ht, eq_self]; done) | (apply Or.inr; rintro r rfl; rfl)) (h4) ?_; rintro _ nx_34 - rfl hnx_34; (try simp only [put_nx, withH_nx, begP_nx] at hnx_34); simp -implicitDefEqProofs (disch := omega) only [go_sem, ht, eq_self]); (refine pCall_view (by simp -implicitDefEqProofs (disch := omega) only [go_sem, ht, eq_self] <;> rfl) (by simp -implicitDefEqProofs (disch := omega) only [go_sem, ht, eq_self]) (by first | (apply Or.inl; simp -implicitDefEqProofs (disch := omega) only [go_sem, ht, eq_self]; done) | (apply Or.inr; rintro r rfl; rfl)) (h5) ?_; rintro _ nx_35 - rfl hnx_35; (try simp only [put_nx, withH_nx, begP_nx] at hnx_35); simp -implicitDefEqProofs (disch := omega) only [go_sem, ht, eq_self]); (refine pCall_view (by simp -implicitDefEqProofs (disch := omega) only [go_sem, ht, eq_self] <;> rfl) (by simp -implicitDefEqProofs (disch := omega) only [go_sem, ht, eq_self]) (by first | (apply Or.inl; simp -implicitDefEqProofs (disch := omega) only [go_sem, ht, eq_self]; done) | (apply Or.inr; rintro r rfl; rfl)) (h6) ?_; rintro _ nx_36 - rfl hnx_36; (try simp only [put_nx, withH_nx, begP_nx] at hnx_36); simp -implicitDefEqProofs (disch := omega) only [go_sem, ht, eq_self]))
  (refine end_treeM 2 ?_; simp -implicitDefEqProofs (disch := omega) only [go_sem, ht, eq_self])
end
end Go.Proofs.Ytfbmdbgjfnkmiaa.Ref

namespace Go.Proofs.Ytfbmdbgjfnkmiaa.Ref

theorem r2int {b : Bool} {xs : List Nat} {x : Int} {k : Nat} (p : Wn b xs x k) (hk : k ≤ 100000) : PT Try.prog 34 [WX b xs] (isV (intP x)) := by
  have h1 := ofW p
  have i1 := int_z (v := -9223372036854775807) (by omega) (by omega)
  have i2 := int_z (v := 1) (by omega) (by omega)
  have i3 := int_z (v := 9223372036854775807) (by omega) (by omega)
  have z1 : Z 2 (-9223372036854775807) := by unfold Z; decide
  have z2 : Z 2 1 := by unfold Z; decide
  have z3 : Z 2 (-9223372036854775808) := by unfold Z; decide
  have z4 : Z 2 9223372036854775807 := by unfold Z; decide
  have s1 := nsub_z (okZ z1 (by omega)) (okZ z2 (by omega)) (okZ (z := 9223372036854775808) (k := 2) (by unfold Z; decide) (by omega))
  rw [show (-9223372036854775807 : Int) - 1 = -9223372036854775808 by decide] at s1
  have c1 := ncmp_z (okZ p.z p.hk) (okZ z3 (by omega))
  have c2 := ncmp_z (okZ p.z p.hk) (okZ z4 (by omega))
  have hlen := (okZ p.z p.hk).len
  have e1 : cZ x (-9223372036854775808) < 0 ↔ x < -9223372036854775808 := by unfold cZ; split <;> (try split) <;> omega
  have e2 : 0 < cZ x 9223372036854775807 ↔ 9223372036854775807 < x := by unfold cZ; split <;> (try split) <;> omega
  unfold intP
  by_cases hlo : x < -9223372036854775808
  · have hc1 := e1.2 hlo
    rw [if_neg (by omega)]
    generalize cZ x (-9223372036854775808) = k1 at *
    refine PCalls.enter (n := 50) (rs := [.tmp 2, .tmp 3]) (tb := [(3, [(0, []), (1, []), (2, []), (3, []), (4, []), (5, []), (6, [5]), (7, []), (8, []), (9, [])])]) Try.func34 rfl rfl rfl (by kernel_rfl) (by kernel_rfl) (by simp) fun c hc ht => ?_
    simp -implicitDefEqProofs (disch := omega) only [go_sem, ht, eq_self]
    ((refine pCall_view (by simp -implicitDefEqProofs (disch := omega) only [go_sem, ht, eq_self] <;> rfl) (by simp -implicitDefEqProofs (disch := omega) only [go_sem, ht, eq_self]) (by first | (apply Or.inl; simp -implicitDefEqProofs (disch := omega) only [go_sem, ht, eq_self]; done) | (apply Or.inr; rintro r rfl; rfl)) (h1) ?_; rintro _ nx_37 - rfl hnx_37; (try simp only [put_nx, withH_nx, begP_nx] at hnx_37); simp -implicitDefEqProofs (disch := omega) only [go_sem, ht, eq_self]); (refine pCall_view (by simp -implicitDefEqProofs (disch := omega) only [go_sem, ht, eq_self] <;> rfl) (by simp -implicitDefEqProofs (disch := omega) only [go_sem, ht, eq_self]) (by first | (apply Or.inl; simp -implicitDefEqProofs (disch := omega) only [go_sem, ht, eq_self]; done) | (apply Or.inr; rintro r rfl; rfl)) (i1) ?_; rintro _ nx_38 - rfl hnx_38; (try simp only [put_nx, withH_nx, begP_nx] at hnx_38); simp -implicitDefEqProofs (disch := omega) only [go_sem, ht, eq_self]); (refine pCall_view (by simp -implicitDefEqProofs (disch := omega) only [go_sem, ht, eq_self] <;> rfl) (by simp -implicitDefEqProofs (disch := omega) only [go_sem, ht, eq_self]) (by first | (apply Or.inl; simp -implicitDefEqProofs (disch := omega) only [go_sem, ht, eq_self]; done) | (apply Or.inr; rintro r rfl; rfl)) (i2) ?_; rintro _ nx_39 - rfl hnx_39; (try simp only [put_nx, withH_nx, begP_nx] at hnx_39); simp -implicitDefEqProofs (disch := omega) only [go_sem, ht, eq_self]); (refine pCall_view (by simp -implicitDefEqProofs (disch := omega) only [go_sem, ht, eq_self] <;> rfl) (by simp -implicitDefEqProofs (disch := omega) only [go_sem, ht, eq_self]) (by first | (apply Or.inl; simp -implicitDefEqProofs (disch := omega) only [go_sem, ht, eq_self]; done) | (apply Or.inr; rintro r rfl; rfl)) (s1) ?_; rintro _ nx_40 - rfl hnx_40; (try simp only [put_nx, withH_nx, begP_nx] at hnx_40); simp -implicitDefEqProofs (disch := omega) only [go_sem, ht, eq_self]); (refine pCall_view (by simp -implicitDefEqProofs (disch := omega) only [go_sem, ht, eq_self] <;> rfl) (by simp -implicitDefEqProofs (disch := omega) only [go_sem, ht, eq_self]) (by first | (apply Or.inl; simp -implicitDefEqProofs (disch := omega) only [go_sem, ht, eq_self]; done) | (apply Or.inr; rintro r rfl; rfl)) (c1) ?_; rintro _ nx_41 - rfl hnx_41; (try simp only [put_nx, withH_nx, begP_nx] at hnx_41); simp -implicitDefEqProofs (disch := omega) only [go_sem, ht, eq_self]))
    (refine end_treeW 0 ?_; simp -implicitDefEqProofs (disch := omega) only [go_sem, ht, eq_self])
  have hc1 : ¬ cZ x (-9223372036854775808) < 0 := fun h => hlo (e1.1 h)
  by_cases hhi : 9223372036854775807 < x
  · have hc2 := e2.2 hhi
    rw [if_neg (by omega)]
    generalize cZ x (-9223372036854775808) = k1 at *
    generalize cZ x 9223372036854775807 = k2 at *
    refine PCalls.enter (n := 50) (rs := [.tmp 2, .tmp 3]) (tb := [(3, [(0, []), (1, []), (2, []), (3, []), (4, []), (5, []), (6, [5]), (7, []), (8, []), (9, [])])]) Try.func34 rfl rfl rfl (by kernel_rfl) (by kernel_rfl) (by simp) fun c hc ht => ?_
    simp -implicitDefEqProofs (disch := omega) only [go_sem, ht, eq_self]
    ((refine pCall_view (by simp -implicitDefEqProofs (disch := omega) only [go_sem, ht, eq_self] <;> rfl) (by simp -implicitDefEqProofs (disch := omega) only [go_sem, ht, eq_self]) (by first | (apply Or.inl; simp -implicitDefEqProofs (disch := omega) only [go_sem, ht, eq_self]; done) | (apply Or.inr; rintro r rfl; rfl)) (h1) ?_; rintro _ nx_42 - rfl hnx_42; (try simp only [put_nx, withH_nx, begP_nx] at hnx_42); simp -implicitDefEqProofs (disch := omega) only [go_sem, ht, eq_self]); (refine pCall_view (by simp -implicitDefEqProofs (disch := omega) only [go_sem, ht, eq_self] <;> rfl) (by simp -implicitDefEqProofs (disch := omega) only [go_sem, ht, eq_self]) (by first | (apply Or.inl; simp -implicitDefEqProofs (disch := omega) only [go_sem, ht, eq_self]; done) | (apply Or.inr; rintro r rfl; rfl)) (i1) ?_; rintro _ nx_43 - rfl hnx_43; (try simp only [put_nx, withH_nx, begP_nx] at hnx_43); simp -implicitDefEqProofs (disch := omega) only [go_sem, ht, eq_self]); (refine pCall_view (by simp -implicitDefEqProofs (disch := omega) only [go_sem, ht, eq_self] <;> rfl) (by simp -implicitDefEqProofs (disch := omega) only [go_sem, ht, eq_self]) (by first | (apply Or.inl; simp -implicitDefEqProofs (disch := omega) only [go_sem, ht, eq_self]; done) | (apply Or.inr; rintro r rfl; rfl)) (i2) ?_; rintro _ nx_44 - rfl hnx_44; (try simp only [put_nx, withH_nx, begP_nx] at hnx_44); simp -implicitDefEqProofs (disch := omega) only [go_sem, ht, eq_self]); (refine pCall_view (by simp -implicitDefEqProofs (disch := omega) only [go_sem, ht, eq_self] <;> rfl) (by simp -implicitDefEqProofs (disch := omega) only [go_sem, ht, eq_self]) (by first | (apply Or.inl; simp -implicitDefEqProofs (disch := omega) only [go_sem, ht, eq_self]; done) | (apply Or.inr; rintro r rfl; rfl)) (s1) ?_; rintro _ nx_45 - rfl hnx_45; (try simp only [put_nx, withH_nx, begP_nx] at hnx_45); simp -implicitDefEqProofs (disch := omega) only [go_sem, ht, eq_self]); (refine pCall_view (by simp -implicitDefEqProofs (disch := omega) only [go_sem, ht, eq_self] <;> rfl) (by simp -implicitDefEqProofs (disch := omega) only [go_sem, ht, eq_self]) (by first | (apply Or.inl; simp -implicitDefEqProofs (disch := omega) only [go_sem, ht, eq_self]; done) | (apply Or.inr; rintro r rfl; rfl)) (c1) ?_; rintro _ nx_46 - rfl hnx_46; (try simp only [put_nx, withH_nx, begP_nx] at hnx_46); simp -implicitDefEqProofs (disch := omega) only [go_sem, ht, eq_self]); (refine pCall_view (by simp -implicitDefEqProofs (disch := omega) only [go_sem, ht, eq_self] <;> rfl) (by simp -implicitDefEqProofs (disch := omega) only [go_sem, ht, eq_self]) (by first | (apply Or.inl; simp -implicitDefEqProofs (disch := omega) only [go_sem, ht, eq_self]; done) | (apply Or.inr; rintro r rfl; rfl)) (i3) ?_; rintro _ nx_47 - rfl hnx_47; (try simp only [put_nx, withH_nx, begP_nx] at hnx_47); simp -implicitDefEqProofs (disch := omega) only [go_sem, ht, eq_self]); (refine pCall_view (by simp -implicitDefEqProofs (disch := omega) only [go_sem, ht, eq_self] <;> rfl) (by simp -implicitDefEqProofs (disch := omega) only [go_sem, ht, eq_self]) (by first | (apply Or.inl; simp -implicitDefEqProofs (disch := omega) only [go_sem, ht, eq_self]; done) | (apply Or.inr; rintro r rfl; rfl)) (c2) ?_; rintro _ nx_48 - rfl hnx_48; (try simp only [put_nx, withH_nx, begP_nx] at hnx_48); simp -implicitDefEqProofs (disch := omega) only [go_sem, ht, eq_self]))
    (refine end_treeW 0 ?_; simp -implicitDefEqProofs (disch := omega) only [go_sem, ht, eq_self])
  have hc2 : ¬ 0 < cZ x 9223372036854775807 := fun h => hhi (e2.1 h)
  rw [if_pos ⟨by omega, by omega⟩]
  clear e1 e2
  generalize cZ x (-9223372036854775808) = k1 at *
  generalize cZ x 9223372036854775807 = k2 at *
  have hva : V (D x.natAbs) = x.natAbs := V_D _
  have hlm : Lm (D x.natAbs) := Lm_D _
  have habs : x.natAbs ≤ 9223372036854775808 := by omega
  have hsx := @sg_self x
  refine PCalls.enter (n := 50) (rs := [.tmp 2, .tmp 3]) (tb := [(3, [(0, []), (1, []), (2, []), (3, []), (4, []), (5, []), (6, [5]), (7, []), (8, []), (9, [])])]) Try.func34 rfl rfl rfl (by kernel_rfl) (by kernel_rfl) (by simp) fun c hc ht => ?_
  simp -implicitDefEqProofs (disch := omega) only [go_sem, ht, eq_self]
  ((refine pCall_view (by simp -implicitDefEqProofs (disch := omega) only [go_sem, ht, eq_self] <;> rfl) (by simp -implicitDefEqProofs (disch := omega) only [go_sem, ht, eq_self]) (by first | (apply Or.inl; simp -implicitDefEqProofs (disch := omega) only [go_sem, ht, eq_self]; done) | (apply Or.inr; rintro r rfl; rfl)) (h1) ?_; rintro _ nx_49 - rfl hnx_49; (try simp only [put_nx, withH_nx, begP_nx] at hnx_49); simp -implicitDefEqProofs (disch := omega) only [go_sem, ht, eq_self]); (refine pCall_view (by simp -implicitDefEqProofs (disch := omega) only [go_sem, ht, eq_self] <;> rfl) (by simp -implicitDefEqProofs (disch := omega) only [go_sem, ht, eq_self]) (by first | (apply Or.inl; simp -implicitDefEqProofs (disch := omega) only [go_sem, ht, eq_self]; done) | (apply Or.inr; rintro r rfl; rfl)) (i1) ?_; rintro _ nx_50 - rfl hnx_50; (try simp only [put_nx, withH_nx, begP_nx] at hnx_50); simp -implicitDefEqProofs (disch := omega) only [go_sem, ht, eq_self]); (refine pCall_view (by simp -implicitDefEqProofs (disch := omega) only [go_sem, ht, eq_self] <;> rfl) (by simp -implicitDefEqProofs (disch := omega) only [go_sem, ht, eq_self]) (by first | (apply Or.inl; simp -implicitDefEqProofs (disch := omega) only [go_sem, ht, eq_self]; done) | (apply Or.inr; rintro r rfl; rfl)) (i2) ?_; rintro _ nx_51 - rfl hnx_51; (try simp only [put_nx, withH_nx, begP_nx] at hnx_51); simp -implicitDefEqProofs (disch := omega) only [go_sem, ht, eq_self]); (refine pCall_view (by simp -implicitDefEqProofs (disch := omega) only [go_sem, ht, eq_self] <;> rfl) (by simp -implicitDefEqProofs (disch := omega) only [go_sem, ht, eq_self]) (by first | (apply Or.inl; simp -implicitDefEqProofs (disch := omega) only [go_sem, ht, eq_self]; done) | (apply Or.inr; rintro r rfl; rfl)) (s1) ?_; rintro _ nx_52 - rfl hnx_52; (try simp only [put_nx, withH_nx, begP_nx] at hnx_52); simp -implicitDefEqProofs (disch := omega) only [go_sem, ht, eq_self]); (refine pCall_view (by simp -implicitDefEqProofs (disch := omega) only [go_sem, ht, eq_self] <;> rfl) (by simp -implicitDefEqProofs (disch := omega) only [go_sem, ht, eq_self]) (by first | (apply Or.inl; simp -implicitDefEqProofs (disch := omega) only [go_sem, ht, eq_self]; done) | (apply Or.inr; rintro r rfl; rfl)) (c1) ?_; rintro _ nx_53 - rfl hnx_53; (try simp only [put_nx, withH_nx, begP_nx] at hnx_53); simp -implicitDefEqProofs (disch := omega) only [go_sem, ht, eq_self]); (refine pCall_view (by simp -implicitDefEqProofs (disch := omega) only [go_sem, ht, eq_self] <;> rfl) (by simp -implicitDefEqProofs (disch := omega) only [go_sem, ht, eq_self]) (by first | (apply Or.inl; simp -implicitDefEqProofs (disch := omega) only [go_sem, ht, eq_self]; done) | (apply Or.inr; rintro r rfl; rfl)) (i3) ?_; rintro _ nx_54 - rfl hnx_54; (try simp only [put_nx, withH_nx, begP_nx] at hnx_54); simp -implicitDefEqProofs (disch := omega) only [go_sem, ht, eq_self]); (refine pCall_view (by simp -implicitDefEqProofs (disch := omega) only [go_sem, ht, eq_self] <;> rfl) (by simp -implicitDefEqProofs (disch := omega) only [go_sem, ht, eq_self]) (by first | (apply Or.inl; simp -implicitDefEqProofs (disch := omega) only [go_sem, ht, eq_self]; done) | (apply Or.inr; rintro r rfl; rfl)) (c2) ?_; rintro _ nx_55 - rfl hnx_55; (try simp only [put_nx, withH_nx, begP_nx] at hnx_55); simp -implicitDefEqProofs (disch := omega) only [go_sem, ht, eq_self]))
  generalize hxs : D x.natAbs = ds at *
  generalize decide (x < 0) = sx at *
  refine LW.loopW hc ht (by kernel_rfl) (fun t => ∃ r4, t.sl 4 = .ptr r4 0 ∧ t.H r4 = some [.val (.bool sx), .sl ds.length (ds.map I)] ∧ ∃ k : Nat, k ≤ ds.length ∧ t.sl 7 = .val (.int .i64 ((k : Int) - 1)) ∧ t.sl 6 = .val (.int .i64 (sg sx (V (ds.drop k)))))
      (fun t => match t.sl 7 with | .val (.int _ j) => (j + 1).toNat | _ => 0) ?_ ?_
  · simp -implicitDefEqProofs (disch := omega) only [go_sem, ht, eq_self]
    refine ⟨_, rfl, by simp -implicitDefEqProofs (disch := omega) only [go_sem, ht, eq_self], ds.length, Nat.le_refl _, rfl, ?_⟩
    rw [List.drop_length, V_nil]
    cases sx <;> rfl
  · rintro t ⟨r4, h4, hH, k, hkl, h7, h6⟩
    by_cases hk0 : k = 0
    · subst hk0
      rw [List.drop_zero, hva, hsx] at h6
      simp -implicitDefEqProofs (disch := omega) only [go_sem, ht, h4, h6, h7, hH, eq_self]
      (refine end_treeW 0 ?_; simp -implicitDefEqProofs (disch := omega) only [go_sem, ht, eq_self])
    · have e1 : ((k : Int) - 1).toNat = k - 1 := by omega
      have e2 : k - 1 + 1 = k := by omega
      have hg := hlm.get (k - 1)
      have hV := V_drop ds (i := k - 1) (by omega)
      rw [e2] at hV
      have hle : V (ds.drop (k - 1)) ≤ V ds := by
        have := V_split ds (i := k - 1) (by omega)
        have h1 : V (ds.drop (k - 1)) ≤ 10000 ^ (k - 1) * V (ds.drop (k - 1)) := Nat.le_mul_of_pos_left _ (Nat.pow_pos (by decide))
        omega
      rw [hva] at hle
      obtain ⟨w1, ew1⟩ : ∃ w1, V (ds.drop (k - 1)) = w1 := ⟨_, rfl⟩
      rw [ew1] at hV hle
      generalize V (ds.drop k) = w at *
      cases sx
      · rw [sg_f] at h6
        simp -implicitDefEqProofs (disch := omega) only [go_sem, ht, h4, h6, h7, hH, e1, eq_self]
        rw [sg_f] at hsx
        refine ⟨⟨by omega, by omega⟩, ⟨r4, rfl, hH, k - 1, by omega, rfl, ?_⟩, by omega⟩
        rw [ew1, sg_f]
        congr 2; omega
      · rw [sg_t] at h6
        simp -implicitDefEqProofs (disch := omega) only [go_sem, ht, h4, h6, h7, hH, e1, eq_self]
        rw [sg_t] at hsx
        refine ⟨⟨r4, rfl, hH, k - 1, by omega, rfl, ?_⟩, by omega⟩
        rw [ew1, sg_t]
        congr 2; omega
end Go.Proofs.Ytfbmdbgjfnkmiaa.Ref
