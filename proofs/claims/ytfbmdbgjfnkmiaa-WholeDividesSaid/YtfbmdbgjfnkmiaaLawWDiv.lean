/- The statement WholeDivides holds of the given program: for every two whole numbers the law answers true. Its conditions are those of the given statement, and no others. -/
import Derived.Test.YtfbmdbgjfnkmiaaRefH
import Derived.Test.YtfbmdbgjfnkmiaaLender
import Derived.Test.YtfbmdbgjfnkmiaaBookC
import Derived.Test.YtfbmdbgjfnkmiaaWholeD
set_option maxRecDepth 100000
set_option linter.unusedVariables false
set_option linter.unusedSimpArgs false
namespace Go.Proofs.Ytfbmdbgjfnkmiaa

/-- Quotient and rest; 0 and 0, where the divisor is 0. -/
theorem wdm_own {b d : Bool} {xs ys : List Nat} {x y : Int} {k : Nat} (px : Wn b xs x k) (py : Wn d ys y k) :
    PO2 Try.prog 46 [WX b xs, WX d ys] (mkQ (if y = 0 then 0 else x / y) (if y = 0 then 0 else x % y) (decide (y ≠ 0))) ((D (if y = 0 then 0 else x / y).natAbs).map U) ((D (if y = 0 then 0 else x % y).natAbs).map U) := by
  by_cases h0 : y = 0
  · rw [if_pos h0, if_pos h0, decide_eq_false (by simpa using h0)]
    have h1 : V ys = 0 := by rw [py.abs, h0]; rfl
    have := wdivmod_own0 (b := b) (d := d) px.ok py.ok h1
    rwa [show (Int.natAbs 0) = 0 from rfl, D_zero, List.map_nil]
  · rw [if_neg h0, if_neg h0, decide_eq_true (by simpa using h0)]
    have h1 : V ys ≠ 0 := by rw [py.abs]; omega
    have := wdivmod_own px.ok py.ok h1 (b := b) (d := d) (by have := px.len; have := px.hk; omega) (by have := py.len; have := py.hk; omega)
    rwa [px.val, py.val] at this
theorem gcd_Z {b d : Bool} {xs ys : List Nat} {x y : Int} {k : Nat} (px : Wn b xs x k) (py : Wn d ys y k) : Z k (Int.gcd x y : Nat) := by
  by_cases h0 : x = 0
  · subst h0
    rw [Int.gcd_zero_left]
    exact Z.le py.z (by simp)
  · refine Z.le px.z ?_
    rw [Int.natAbs_natCast]
    exact Nat.le_of_dvd (by omega) (Nat.gcd_dvd_left _ _)
theorem r2dm {b d : Bool} {xs ys : List Nat} {x y : Int} {k : Nat} (px : Wn b xs x k) (py : Wn d ys y k) (hk : k ≤ 100000) :
    PT Try.prog 48 [WX b xs, WX d ys] (isV (.tup [WC (if y = 0 then 0 else x / y), WC (if y = 0 then 0 else x % y), .val (.bool (decide (y ≠ 0)))])) := by
  by_cases h0 : y = 0
  · subst h0
    rw [if_pos rfl, if_pos rfl, decide_eq_false (by simp)]
    exact Ref.r2div_zero py
  · rw [if_neg h0, if_neg h0, decide_eq_true (by simpa using h0)]
    exact Ref.r2div px py hk h0
set_option maxHeartbeats 8000000 in
theorem wdiv_law {f g : Bool} {xs ys : List Nat} (hx : Lm xs) (hx' : xs.length ≤ 35184372087808) (hy : Lm ys) (hy' : ys.length ≤ 35184372087808) :
    PT Try.prog 8 [WX f xs, WX g ys] (isV (.val (.bool true))) := by
  have lx := len_whole (b := f) hx'
  have ly := len_whole (b := g) hy'
  refine PCalls.enter (n := 105) (rs := [.tmp 4]) (tb := [(3, [(0, []), (2, []), (1, [2]), (3, []), (4, []), (5, [])]), (6, [(0, []), (1, []), (2, []), (3, []), (4, [0, 1]), (5, []), (6, [0, 1, 2, 3, 5]), (7, [])]), (7, [(0, []), (1, []), (2, []), (3, []), (4, [0, 1]), (5, []), (6, [0, 1, 2, 3, 5]), (7, [])]), (12, [(0, []), (1, []), (2, []), (3, []), (4, []), (5, []), (6, []), (7, []), (8, []), (9, []), (10, []), (11, []), (12, []), (13, []), (14, []), (15, []), (16, []), (17, []), (18, []), (19, []), (20, []), (21, []), (22, []), (23, []), (24, []), (25, []), (26, []), (27, [24]), (28, []), (29, []), (30, []), (31, []), (32, []), (33, []), (34, []), (35, []), (36, []), (37, []), (38, []), (39, []), (40, []), (41, []), (42, []), (43, []), (44, []), (45, []), (46, []), (47, []), (48, []), (49, [])]), (1000012, [(0, []), (1, []), (3, []), (7, []), (15, []), (31, []), (63, []), (127, []), (255, []), (511, []), (511, []), (2047, []), (4095, []), (8191, []), (16383, []), (16383, []), (65535, []), (131071, []), (262143, []), (524287, []), (524287, []), (2097151, []), (4194303, []), (8388607, []), (16777215, []), (16777215, []), (16777215, []), (117440511, []), (268435455, []), (536870911, []), (1073741823, []), (2147483647, []), (2147483647, []), (8589934591, []), (17179869183, []), (34359738367, []), (68719476735, []), (68719476735, []), (274877906943, []), (549755813887, []), (1099511627775, []), (2199023255551, []), (2199023255551, []), (8796093022207, []), (17592186044415, []), (35184372088831, []), (70368744177663, []), (140737488355327, []), (281474976710655, []), (562949953421311, [])])]) Try.func8 rfl rfl rfl (by kernel_rfl) (by kernel_rfl) (by simp) fun c hc ht => ?_
  simp -implicitDefEqProofs (disch := omega) only [go_sem, ht, eq_self]
  ((refine pCall_view (by simp -implicitDefEqProofs (disch := omega) only [go_sem, ht, eq_self] <;> rfl) (by simp -implicitDefEqProofs (disch := omega) only [go_sem, ht, eq_self]) (by first | (apply Or.inl; simp -implicitDefEqProofs (disch := omega) only [go_sem, ht, eq_self]; done) | (apply Or.inr; rintro r rfl; rfl)) (awake_whole) ?_; rintro _ nx_1 - rfl hnx_1; (try simp only [put_nx, withH_nx, begP_nx] at hnx_1); simp -implicitDefEqProofs (disch := omega) only [go_sem, ht, eq_self]); (refine pCall_view (by simp -implicitDefEqProofs (disch := omega) only [go_sem, ht, eq_self] <;> rfl) (by simp -implicitDefEqProofs (disch := omega) only [go_sem, ht, eq_self]) (by first | (apply Or.inl; simp -implicitDefEqProofs (disch := omega) only [go_sem, ht, eq_self]; done) | (apply Or.inr; rintro r rfl; rfl)) (lx) ?_; rintro _ nx_2 - rfl hnx_2; (try simp only [put_nx, withH_nx, begP_nx] at hnx_2); simp -implicitDefEqProofs (disch := omega) only [go_sem, ht, eq_self]))
  by_cases hl : 1500 < 1 + xs.length + (1 + ys.length)
  · ((refine pCall_view (by simp -implicitDefEqProofs (disch := omega) only [go_sem, ht, eq_self] <;> rfl) (by simp -implicitDefEqProofs (disch := omega) only [go_sem, ht, eq_self]) (by first | (apply Or.inl; simp -implicitDefEqProofs (disch := omega) only [go_sem, ht, eq_self]; done) | (apply Or.inr; rintro r rfl; rfl)) (ly) ?_; rintro _ nx_3 - rfl hnx_3; (try simp only [put_nx, withH_nx, begP_nx] at hnx_3); simp -implicitDefEqProofs (disch := omega) only [go_sem, ht, eq_self]))
    (refine end_treeW 0 ?_; simp -implicitDefEqProofs (disch := omega) only [go_sem, ht, eq_self])
  obtain ⟨K, hK, kx, ky⟩ : ∃ K, K ≤ 1500 ∧ xs.length ≤ K ∧ ys.length ≤ K := ⟨1500, Nat.le_refl _, by omega, by omega⟩
  have px := Wn.raw (b := f) hx kx (by omega)
  have py := Wn.raw (b := g) hy ky (by omega)
  have mx := lent_mid xs
  have my := lent_mid ys
  have llx := lent_len xs
  have lly := lent_len ys
  have wdm := wdm_own px py
  have wgc := wgcd_calls (b := f) (d := g) px.ok py.ok (by rw [px.abs, py.abs]; exact (gcd_Z px py).ok (by omega))
  have eg : Nat.gcd (V xs) (V ys) = Int.gcd (WV f xs) (WV g ys) := by rw [px.abs, py.abs]; rfl
  rw [eg] at wgc
  have r1 := r2dm px py (by omega)
  have r2 := Ref.r2gcd px py (by omega)
  have zq : Z K (if WV g ys = 0 then 0 else WV f xs / WV g ys) := by
    split
    · exact Z.le px.z (by simp)
    · exact px.z.div
  have zr : Z K (if WV g ys = 0 then 0 else WV f xs % WV g ys) := by
    split
    · exact Z.le px.z (by simp)
    · exact Z.mod py.z (by assumption)
  have zg := gcd_Z px py
  generalize hx1 : WV f xs = x at *
  generalize hy1 : WV g ys = y at *
  generalize (if y = 0 then 0 else x / y) = q at *
  generalize (if y = 0 then 0 else x % y) = r at *
  generalize ((Int.gcd x y : Nat) : Int) = gg at *
  generalize decide (y ≠ 0) = ok at *
  have s1 := sameT zq (by omega) rfl
  have s2 := sameT zr (by omega) rfl
  have s3 := sameT zg (by omega) rfl
  have o1 := (zq.ok (by omega)).len
  have o2 := (zr.ok (by omega)).len
  have o3 := (zg.ok (by omega)).len
  have hok : (ok == ok) = true := by cases ok <;> rfl
  clear px py zq zr zg hx1 hy1 eg
  (refine pCall_view (by simp -implicitDefEqProofs (disch := omega) only [go_sem, ht, eq_self] <;> rfl) (by simp -implicitDefEqProofs (disch := omega) only [go_sem, ht, eq_self]) (by first | (apply Or.inl; simp -implicitDefEqProofs (disch := omega) only [go_sem, ht, eq_self]; done) | (apply Or.inr; rintro r rfl; rfl)) (ly) ?_; rintro _ nx - rfl hnx; (try simp only [put_nx, withH_nx, begP_nx] at hnx); simp -implicitDefEqProofs (disch := omega) only [go_sem, ht, eq_self])
  generalize nx = nb at *
  apply pCall_mem
  exact lend_calls hx (by omega) (by simp -implicitDefEqProofs (disch := omega) only [go_sem, ht, eq_self]) (by simp -implicitDefEqProofs (disch := omega) only [go_sem, ht, eq_self] <;> omega)
  rintro _ H1 n1 ⟨i1, hi1, hi1', rfl, hA1, hA2, hA3⟩ hn1
  simp only [put_nx, withH_nx, begP_nx] at hi1 hn1
  have hA0 : H1 0 = some [.val (.bool f), .sl xs.length (xs.map U)] := by rw [hA3 _ (by omega) (by omega)]; simp -implicitDefEqProofs (disch := omega) only [go_sem, ht, eq_self]
  have hAy : H1 1 = some [.val (.bool g), .sl ys.length (ys.map U)] := by rw [hA3 _ (by omega) (by omega)]; simp -implicitDefEqProofs (disch := omega) only [go_sem, ht, eq_self]
  have hA4 : H1 (nb + 1) = some [.val (.slice none 0 0), .val (.int .i64 0)] := by rw [hA3 _ (by omega) (by omega)]; simp -implicitDefEqProofs (disch := omega) only [go_sem, ht, eq_self]
  clear hA3
  simp -implicitDefEqProofs (disch := omega) only [go_sem, ht, hA0, hAy, eq_self]
  apply pCall_mem
  exact lend_calls hy (by omega) (by simp -implicitDefEqProofs (disch := omega) only [go_sem, ht, hA4, eq_self]) (by simp -implicitDefEqProofs (disch := omega) only [go_sem, ht, eq_self] <;> omega)
  rintro _ H2 n2 ⟨i2, hi2', hi2'', rfl, hB1, hB2, hB3⟩ hn2
  simp only [put_nx, withH_nx, begP_nx] at hi2' hn2
  have hB0 : H2 0 = some [.val (.bool f), .sl xs.length (xs.map U)] := by rw [hB3 _ (by omega) (by omega)]; simp -implicitDefEqProofs (disch := omega) only [go_sem, ht, hA0, eq_self]
  have hBy : H2 1 = some [.val (.bool g), .sl ys.length (ys.map U)] := by rw [hB3 _ (by omega) (by omega)]; simp -implicitDefEqProofs (disch := omega) only [go_sem, ht, hAy, eq_self]
  have hB4 : H2 nb = some [.ref i1 0 (xs.length + 10) (xs.length + 10) 1, .val (.int .i64 xs.length)] := by rw [hB3 _ (by omega) (by omega)]; simp -implicitDefEqProofs (disch := omega) only [go_sem, ht, hA1, eq_self]
  have hB5 : H2 i1 = some ((lent xs).map U) := by rw [hB3 _ (by omega) (by omega)]; simp -implicitDefEqProofs (disch := omega) only [go_sem, ht, hA2, eq_self]
  have hB6 : H2 n1 = some [.val (.bool f), .ref i1 5 xs.length (xs.length + 5) 1] := by rw [hB3 _ (by omega) (by omega)]; simp -implicitDefEqProofs (disch := omega) only [go_sem, ht, eq_self]
  clear hB3 hA1 hA2 hA4 hA0 hAy
  simp -implicitDefEqProofs (disch := omega) only [go_sem, ht, hB6, hBy, eq_self]
  (refine pCall_own2 (mk := mkQ q r ok) (mk_Q q r ok) (by simp -implicitDefEqProofs (disch := omega) only [hB0, hBy, hB1, hB2, hB4, hB5, hB6, mx, my, llx, lly, if_pos, go_sem, ht, eq_self] <;> rfl) (by simp -implicitDefEqProofs (disch := omega) only [hB0, hBy, hB1, hB2, hB4, hB5, hB6, mx, my, llx, lly, if_pos, go_sem, ht, eq_self]) (closedL_U _) (flatL_U _) (closedL_U _) (flatL_U _) (wdm) ?_; intro id1 cap1 rest1 jd1 dap1 sest1 nx1 hid1 hnx1 hjd1 hmx1 hne1 hcap1 hdap1; simp only [put_nx, withH_nx, begP_nx, List.length_map] at hid1 hjd1 hcap1 hdap1; simp -implicitDefEqProofs (disch := omega) only [hB0, hBy, hB1, hB2, hB4, hB5, hB6, mx, my, llx, lly, if_pos, go_sem, ht, eq_self])
  (refine pCall_own1 (mk := mkW gg) (mk_W gg) (by simp -implicitDefEqProofs (disch := omega) only [hB0, hBy, hB1, hB2, hB4, hB5, hB6, mx, my, llx, lly, if_pos, go_sem, ht, eq_self] <;> rfl) (by simp -implicitDefEqProofs (disch := omega) only [hB0, hBy, hB1, hB2, hB4, hB5, hB6, mx, my, llx, lly, if_pos, go_sem, ht, eq_self]) (closedL_U _) (flatL_U _) (wgc) ?_; intro id2 cap2 rest2 nx2 hid2 hnx2 hcap2; simp only [put_nx, withH_nx, begP_nx, List.length_map] at hid2 hcap2; simp -implicitDefEqProofs (disch := omega) only [hB0, hBy, hB1, hB2, hB4, hB5, hB6, mx, my, llx, lly, if_pos, go_sem, ht, eq_self])
  ((refine pCall_view (by simp -implicitDefEqProofs (disch := omega) only [hB0, hBy, hB1, hB2, hB4, hB5, hB6, mx, my, llx, lly, if_pos, go_sem, ht, eq_self] <;> rfl) (by simp -implicitDefEqProofs (disch := omega) only [hB0, hBy, hB1, hB2, hB4, hB5, hB6, mx, my, llx, lly, if_pos, go_sem, ht, eq_self]) (by first | (apply Or.inl; simp -implicitDefEqProofs (disch := omega) only [hB0, hBy, hB1, hB2, hB4, hB5, hB6, mx, my, llx, lly, if_pos, go_sem, ht, eq_self]; done) | (apply Or.inr; rintro r rfl; rfl)) (r1) ?_; rintro _ nx_4 - rfl hnx_4; (try simp only [put_nx, withH_nx, begP_nx] at hnx_4); simp -implicitDefEqProofs (disch := omega) only [hB0, hBy, hB1, hB2, hB4, hB5, hB6, mx, my, llx, lly, if_pos, go_sem, ht, eq_self]))
  apply pCall_mem
  exact back_calls (id := i1) hx (by omega) (by simp -implicitDefEqProofs (disch := omega) only [go_sem, ht, hB4, eq_self]) (by simp -implicitDefEqProofs (disch := omega) only [go_sem, ht, hB5, eq_self]) (by omega)
  rintro _ H4 n4 ⟨rfl, hC⟩ hn4
  simp only [put_nx, withH_nx, begP_nx] at hn4
  have hCy : H4 (nb + 1) = some [.ref i2 0 (ys.length + 10) (ys.length + 10) 1, .val (.int .i64 ys.length)] := by rw [hC _ (by omega)]; simp -implicitDefEqProofs (disch := omega) only [go_sem, ht, hB1, eq_self]
  have hCz : H4 i2 = some ((lent ys).map U) := by rw [hC _ (by omega)]; simp -implicitDefEqProofs (disch := omega) only [go_sem, ht, hB2, eq_self]
  have h4a0 : H4 0 = some [.val (.bool f), .sl xs.length (xs.map U)] := by rw [hC _ (by omega)]; simp -implicitDefEqProofs (disch := omega) only [go_sem, ht, hB0, hBy, eq_self]
  have h4a1 : H4 1 = some [.val (.bool g), .sl ys.length (ys.map U)] := by rw [hC _ (by omega)]; simp -implicitDefEqProofs (disch := omega) only [go_sem, ht, hB0, hBy, eq_self]
  have h4l1 : H4 id1 = some ((D q.natAbs).map U ++ rest1.map .val) := by rw [hC _ (by omega)]; simp -implicitDefEqProofs (disch := omega) only [go_sem, ht, hB0, hBy, eq_self]
  have h4l2 : H4 jd1 = some ((D r.natAbs).map U ++ sest1.map .val) := by rw [hC _ (by omega)]; simp -implicitDefEqProofs (disch := omega) only [go_sem, ht, hB0, hBy, eq_self]
  have h4l3 : H4 id2 = some ((D gg.natAbs).map U ++ rest2.map .val) := by rw [hC _ (by omega)]; simp -implicitDefEqProofs (disch := omega) only [go_sem, ht, hB0, hBy, eq_self]
  have h4c1 : H4 nx1 = some [.val (.bool (decide (q < 0))), .ref id1 0 (D q.natAbs).length cap1 1] := by rw [hC _ (by omega)]; simp -implicitDefEqProofs (disch := omega) only [go_sem, ht, hB0, hBy, eq_self]
  have h4c2 : H4 (nx1 + 1) = some [.val (.bool (decide (r < 0))), .ref jd1 0 (D r.natAbs).length dap1 1] := by rw [hC _ (by omega)]; simp -implicitDefEqProofs (disch := omega) only [go_sem, ht, hB0, hBy, eq_self]
  have h4c3 : H4 nx2 = some [.val (.bool (decide (gg < 0))), .ref id2 0 (D gg.natAbs).length cap2 1] := by rw [hC _ (by omega)]; simp -implicitDefEqProofs (disch := omega) only [go_sem, ht, hB0, hBy, eq_self]
  have h4w1 : H4 nx_4 = some [.val (.bool (decide (q < 0))), .sl (D q.natAbs).length ((D q.natAbs).map U)] := by rw [hC _ (by omega)]; simp -implicitDefEqProofs (disch := omega) only [go_sem, ht, hB0, hBy, eq_self]
  have h4w2 : H4 (nx_4 + 1) = some [.val (.bool (decide (r < 0))), .sl (D r.natAbs).length ((D r.natAbs).map U)] := by rw [hC _ (by omega)]; simp -implicitDefEqProofs (disch := omega) only [go_sem, ht, hB0, hBy, eq_self]
  have h4bk : H4 (nx_4 + 1 + 1) = some [.val (.slice none 0 0), .val (.slice none 0 0)] := by rw [hC _ (by omega)]; simp -implicitDefEqProofs (disch := omega) only [go_sem, ht, hB0, hBy, eq_self]
  clear hC hB0 hBy hB1 hB2 hB4 hB5 hB6
  simp -implicitDefEqProofs (disch := omega) only [go_sem, ht, h4a1, eq_self]
  apply pCall_mem
  exact back_calls (id := i2) hy (by omega) (by simp -implicitDefEqProofs (disch := omega) only [go_sem, ht, hCy, eq_self]) (by simp -implicitDefEqProofs (disch := omega) only [go_sem, ht, hCz, eq_self]) (by omega)
  rintro _ H5 n5 ⟨rfl, hE⟩ hn5
  simp only [put_nx, withH_nx, begP_nx] at hn5
  have h5a0 : H5 0 = some [.val (.bool f), .sl xs.length (xs.map U)] := by rw [hE _ (by omega)]; simp -implicitDefEqProofs (disch := omega) only [go_sem, ht, h4a0, eq_self]
  have h5a1 : H5 1 = some [.val (.bool g), .sl ys.length (ys.map U)] := by rw [hE _ (by omega)]; simp -implicitDefEqProofs (disch := omega) only [go_sem, ht, h4a1, eq_self]
  have h5l1 : H5 id1 = some ((D q.natAbs).map U ++ rest1.map .val) := by rw [hE _ (by omega)]; simp -implicitDefEqProofs (disch := omega) only [go_sem, ht, h4l1, eq_self]
  have h5l2 : H5 jd1 = some ((D r.natAbs).map U ++ sest1.map .val) := by rw [hE _ (by omega)]; simp -implicitDefEqProofs (disch := omega) only [go_sem, ht, h4l2, eq_self]
  have h5l3 : H5 id2 = some ((D gg.natAbs).map U ++ rest2.map .val) := by rw [hE _ (by omega)]; simp -implicitDefEqProofs (disch := omega) only [go_sem, ht, h4l3, eq_self]
  have h5c1 : H5 nx1 = some [.val (.bool (decide (q < 0))), .ref id1 0 (D q.natAbs).length cap1 1] := by rw [hE _ (by omega)]; simp -implicitDefEqProofs (disch := omega) only [go_sem, ht, h4c1, eq_self]
  have h5c2 : H5 (nx1 + 1) = some [.val (.bool (decide (r < 0))), .ref jd1 0 (D r.natAbs).length dap1 1] := by rw [hE _ (by omega)]; simp -implicitDefEqProofs (disch := omega) only [go_sem, ht, h4c2, eq_self]
  have h5c3 : H5 nx2 = some [.val (.bool (decide (gg < 0))), .ref id2 0 (D gg.natAbs).length cap2 1] := by rw [hE _ (by omega)]; simp -implicitDefEqProofs (disch := omega) only [go_sem, ht, h4c3, eq_self]
  have h5w1 : H5 nx_4 = some [.val (.bool (decide (q < 0))), .sl (D q.natAbs).length ((D q.natAbs).map U)] := by rw [hE _ (by omega)]; simp -implicitDefEqProofs (disch := omega) only [go_sem, ht, h4w1, eq_self]
  have h5w2 : H5 (nx_4 + 1) = some [.val (.bool (decide (r < 0))), .sl (D r.natAbs).length ((D r.natAbs).map U)] := by rw [hE _ (by omega)]; simp -implicitDefEqProofs (disch := omega) only [go_sem, ht, h4w2, eq_self]
  have h5bk : H5 (nx_4 + 1 + 1) = some [.val (.slice none 0 0), .val (.slice none 0 0)] := by rw [hE _ (by omega)]; simp -implicitDefEqProofs (disch := omega) only [go_sem, ht, h4bk, eq_self]
  clear hE hCy hCz h4a0 h4a1 h4l1 h4l2 h4l3 h4c1 h4c2 h4c3 h4w1 h4w2 h4bk
  simp -implicitDefEqProofs (disch := omega) only [go_sem, ht, h5a0, h5a1, hok, h5c1, h5w1, eq_self]
  ((refine pCall_view (by simp -implicitDefEqProofs (disch := omega) only [h5a0, h5a1, hok, h5c1, h5w1, h5c2, h5w2, h5c3, h5l1, h5l2, h5l3, if_pos, Nat.le_add_right, go_sem, ht, eq_self] <;> rfl) (by simp -implicitDefEqProofs (disch := omega) only [h5a0, h5a1, hok, h5c1, h5w1, h5c2, h5w2, h5c3, h5l1, h5l2, h5l3, if_pos, Nat.le_add_right, go_sem, ht, eq_self]) (by first | (apply Or.inl; simp -implicitDefEqProofs (disch := omega) only [h5a0, h5a1, hok, h5c1, h5w1, h5c2, h5w2, h5c3, h5l1, h5l2, h5l3, if_pos, Nat.le_add_right, go_sem, ht, eq_self]; done) | (apply Or.inr; rintro r rfl; rfl)) (s1) ?_; rintro _ nx_5 - rfl hnx_5; (try simp only [put_nx, withH_nx, begP_nx] at hnx_5); simp -implicitDefEqProofs (disch := omega) only [h5a0, h5a1, hok, h5c1, h5w1, h5c2, h5w2, h5c3, h5l1, h5l2, h5l3, if_pos, Nat.le_add_right, go_sem, ht, eq_self]); (refine pCall_view (by simp -implicitDefEqProofs (disch := omega) only [h5a0, h5a1, hok, h5c1, h5w1, h5c2, h5w2, h5c3, h5l1, h5l2, h5l3, if_pos, Nat.le_add_right, go_sem, ht, eq_self] <;> rfl) (by simp -implicitDefEqProofs (disch := omega) only [h5a0, h5a1, hok, h5c1, h5w1, h5c2, h5w2, h5c3, h5l1, h5l2, h5l3, if_pos, Nat.le_add_right, go_sem, ht, eq_self]) (by first | (apply Or.inl; simp -implicitDefEqProofs (disch := omega) only [h5a0, h5a1, hok, h5c1, h5w1, h5c2, h5w2, h5c3, h5l1, h5l2, h5l3, if_pos, Nat.le_add_right, go_sem, ht, eq_self]; done) | (apply Or.inr; rintro r rfl; rfl)) (s2) ?_; rintro _ nx_6 - rfl hnx_6; (try simp only [put_nx, withH_nx, begP_nx] at hnx_6); simp -implicitDefEqProofs (disch := omega) only [h5a0, h5a1, hok, h5c1, h5w1, h5c2, h5w2, h5c3, h5l1, h5l2, h5l3, if_pos, Nat.le_add_right, go_sem, ht, eq_self]); (refine pCall_view (by simp -implicitDefEqProofs (disch := omega) only [h5a0, h5a1, hok, h5c1, h5w1, h5c2, h5w2, h5c3, h5l1, h5l2, h5l3, if_pos, Nat.le_add_right, go_sem, ht, eq_self] <;> rfl) (by simp -implicitDefEqProofs (disch := omega) only [h5a0, h5a1, hok, h5c1, h5w1, h5c2, h5w2, h5c3, h5l1, h5l2, h5l3, if_pos, Nat.le_add_right, go_sem, ht, eq_self]) (by first | (apply Or.inl; simp -implicitDefEqProofs (disch := omega) only [h5a0, h5a1, hok, h5c1, h5w1, h5c2, h5w2, h5c3, h5l1, h5l2, h5l3, if_pos, Nat.le_add_right, go_sem, ht, eq_self]; done) | (apply Or.inr; rintro r rfl; rfl)) (r2) ?_; rintro _ nx_7 - rfl hnx_7; (try simp only [put_nx, withH_nx, begP_nx] at hnx_7); simp -implicitDefEqProofs (disch := omega) only [h5a0, h5a1, hok, h5c1, h5w1, h5c2, h5w2, h5c3, h5l1, h5l2, h5l3, if_pos, Nat.le_add_right, go_sem, ht, eq_self]); (refine pCall_view (by simp -implicitDefEqProofs (disch := omega) only [h5a0, h5a1, hok, h5c1, h5w1, h5c2, h5w2, h5c3, h5l1, h5l2, h5l3, if_pos, Nat.le_add_right, go_sem, ht, eq_self] <;> rfl) (by simp -implicitDefEqProofs (disch := omega) only [h5a0, h5a1, hok, h5c1, h5w1, h5c2, h5w2, h5c3, h5l1, h5l2, h5l3, if_pos, Nat.le_add_right, go_sem, ht, eq_self]) (by first | (apply Or.inl; simp -implicitDefEqProofs (disch := omega) only [h5a0, h5a1, hok, h5c1, h5w1, h5c2, h5w2, h5c3, h5l1, h5l2, h5l3, if_pos, Nat.le_add_right, go_sem, ht, eq_self]; done) | (apply Or.inr; rintro r rfl; rfl)) (s3) ?_; rintro _ nx_8 - rfl hnx_8; (try simp only [put_nx, withH_nx, begP_nx] at hnx_8); simp -implicitDefEqProofs (disch := omega) only [h5a0, h5a1, hok, h5c1, h5w1, h5c2, h5w2, h5c3, h5l1, h5l2, h5l3, if_pos, Nat.le_add_right, go_sem, ht, eq_self]))
  have hav : AV H5 nx_8 (fun j => j = nx_4 + 1 + 1) [(id1, (D q.natAbs).map U ++ rest1.map .val), (jd1, (D r.natAbs).map U ++ sest1.map .val), (nx1 + 1, [.val (.bool (decide (r < 0))), .ref jd1 0 (D r.natAbs).length dap1 1]), (id2, (D gg.natAbs).map U ++ rest2.map .val), (nx2, [.val (.bool (decide (gg < 0))), .ref id2 0 (D gg.natAbs).length cap2 1])] := by
    refine AV.cons (AV.cons (AV.cons (AV.cons (AV.cons AV.nil ?_ ?_ h5c3 ?_) ?_ ?_ h5l3 ?_) ?_ ?_ h5c2 ?_) ?_ ?_ h5l2 ?_) ?_ ?_ h5l1 ?_ <;> first | omega | (simp; done) | (simp; omega)
  have hbk : BK H5 nx_8 (nx_4 + 1 + 1) [] (fun j => j = nx_4 + 1 + 1) := BK.start h5bk (by omega)
  apply pCall_mem
  exact ownw_av (B := fun j => j = nx_4 + 1 + 1) (by simp -implicitDefEqProofs (disch := omega) only [go_sem, ht, eq_self]; exact hav) (by simp -implicitDefEqProofs (disch := omega) only [go_sem, ht, eq_self]; exact hbk) (by simp) (by simp; omega) (by omega)
  rintro _ H6 n6 ⟨rfl, B6, e6, hbk6, hav6⟩ hn6
  have h6c2 := hav6.tail.head
  simp -implicitDefEqProofs (disch := omega) only [go_sem, ht, h6c2, eq_self]
  apply pCall_mem
  exact ownw_av (B := B6) (by simp -implicitDefEqProofs (disch := omega) only [go_sem, ht, eq_self]; exact hav6) (by simp -implicitDefEqProofs (disch := omega) only [go_sem, ht, eq_self]; exact hbk6) (by simp) (by simp; omega) (by omega)
  rintro _ H7 n7 ⟨rfl, B7, e7, hbk7, hav7⟩ hn7
  have h7c3 := hav7.tail.tail.head
  simp -implicitDefEqProofs (disch := omega) only [go_sem, ht, h7c3, eq_self]
  apply pCall_mem
  exact ownw_av (B := B7) (by simp -implicitDefEqProofs (disch := omega) only [go_sem, ht, eq_self]; exact hav7.tail) (by simp -implicitDefEqProofs (disch := omega) only [go_sem, ht, eq_self]; exact hbk7) (by simp) (by simp; omega) (by omega)
  rintro _ H8 n8 ⟨rfl, B8, e8, hbk8, hav8⟩ hn8
  simp -implicitDefEqProofs (disch := omega) only [go_sem, ht, eq_self]
  apply pCall_mem
  exact done_calls (es := _) (B := B8) (by simp -implicitDefEqProofs (disch := omega) only [go_sem, ht, eq_self]; exact hbk8) (by simp)
  rintro _ _ _ ⟨rfl, rfl, rfl⟩ -
  simp -implicitDefEqProofs (disch := omega) only [go_sem, ht, eq_self]
  (refine end_treeW 0 ?_; simp -implicitDefEqProofs (disch := omega) only [go_sem, ht, eq_self])
open Go.ChangeShapes Go.WideShapes Go.ChangeAt Go.RowKit
set_option maxRecDepth 100000 in
theorem wholeDivides_lifted (os : Os) (started : os.Started) (H : Type) (enc : TypeId × Value → H) :
    ReturnsInHanded {} Try.checked os 8 .any (Rows.wholeDividesSpec.pre6 enc Try.prog Try.f8 Rows.wholeDividesRow.domain false) (Rows.wholeDividesSpec.post enc Try.prog Try.f8 false true false false) := by
  refine returnsInHanded_of_change_sized (C := Try.checked) law_own started (by kernel_rfl) Try.func8
    (ChangeSpec.witness6 (enc := enc) (C := Try.checked) false ⟨#[], #[.agg #[.bool false, .slice none 0 0], .agg #[.bool false, .slice none 0 0]], []⟩ 8 (by kernel_rfl) (by kernel_rfl) (by kernel_rfl) (by kernel_rfl)) ?_
  intro W base args ds gs before hval0 hW hcnd hsz0 _
  have hsz : (DataW.weightsEach Try.prog (Try.f8.params.toList ++ Rows.wholeDividesSpec.plain.varTypes Try.prog) (ds ++ gs)).all (· ≤ reachBytes) = true := hsz0
  have hval : ∀ (j : Nat) t v, Try.f8.params[j]? = some t → args[j]? = some v → Value.okWide Try.prog W .any base t v := hval0
  have hW' := hW
  obtain ⟨p, q, hA0, hV, rfl, hfz, hnd⟩ := hW
  have hA : DataW.TrodAll enc Try.prog W 0 (fun _ => true) true Try.f8.params.toList args.toList ds p := hA0
  rw [Try.params8] at hA hval hsz
  obtain ⟨v0, vs0, d0, ds0, p0, q0, hargs, rfl, rfl, h0, r0⟩ := trodAll_cons hA
  obtain ⟨v1, vs1, d1, ds1, p1, q1, rfl, rfl, rfl, h1, r1⟩ := trodAll_cons r0
  obtain ⟨rfl, rfl, rfl⟩ := trodAll_nil r1
  obtain rfl : args = #[v0, v1] := by cases args; simp_all
  obtain ⟨rfl, rfl⟩ := trodVars_none hV
  simp only [List.append_nil, List.cons_append, List.nil_append, DataW.weightsEach, List.all_append, Bool.and_eq_true] at hsz
  have lt0 : ∀ x ∈ p0, x.block < W.heap.size := by obtain ⟨m, hm⟩ := h0; exact DataW.trod_lt m _ _ _ hm
  obtain ⟨f0, x0, lm0, len0, rep0⟩ := arg_whole Try.underlying28 (by kernel_rfl) rfl rfl (by kernel_rfl) (by kernel_rfl) Try.underlying4 Try.underlying26 Try.underlying54 (by kernel_rfl) (by kernel_rfl) (by kernel_rfl) (hval 0 28 v0 rfl rfl) h0 hsz.1
  have lt1 : ∀ x ∈ p1, x.block < W.heap.size := by obtain ⟨m, hm⟩ := h1; exact DataW.trod_lt m _ _ _ hm
  obtain ⟨f1, x1, lm1, len1, rep1⟩ := arg_whole Try.underlying28 (by kernel_rfl) rfl rfl (by kernel_rfl) (by kernel_rfl) Try.underlying4 Try.underlying26 Try.underlying54 (by kernel_rfl) (by kernel_rfl) (by kernel_rfl) (hval 1 28 v1 rfl rfl) h1 hsz.2.1
  refine (law_run (wdiv_law lm0 len0 lm1 len1) (vs := [v0, v1]) (by simp only [RepL]; exact ⟨rep0, ⟨rep1, trivial⟩⟩)).mono fun e W' ⟨⟨v, r, he, hr, hx⟩, bel⟩ => ?_
  subst he; rw [hx _ hr]
  exact ⟨_, rfl, _, _, _, [], _, [], hW', trodAll_mk1 (shut_bool Try.underlying4 _), (trodAll_cons_mk (Below.trod law_laidOut (by kernel_rfl) (of_decide_eq_true (by kernel_rfl)) h0 bel lt0) (trodAll_cons_mk (Below.trod law_laidOut (by kernel_rfl) (of_decide_eq_true (by kernel_rfl)) h1 bel lt1) trodAll_mk0)), rfl, bel.frame _, fun h => by cases h⟩
theorem wholeDivides_holds : Rows.WholeDividesSaid :=
  OpenClaim.holds_of_wide 8 Try.f8 rfl rfl rfl rfl rfl rfl rfl ⟨rfl, rfl, rfl, rfl, rfl⟩ rfl rfl rfl rfl rfl (by kernel_rfl) Try.func8 (by kernel_rfl)
    (of_decide_eq_true (by kernel_rfl)) (by unfold Func.isWrapper; first | (rw [if_pos (by decide +kernel)]; kernel_rfl) | (rw [if_neg (by decide +kernel)]; exact ⟨rfl, rfl⟩))
    (fun os started H enc _ => wholeDivides_lifted os started H enc)
end Go.Proofs.Ytfbmdbgjfnkmiaa
