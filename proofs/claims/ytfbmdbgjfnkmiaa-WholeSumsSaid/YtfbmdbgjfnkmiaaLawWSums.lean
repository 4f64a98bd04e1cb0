/- The statement WholeSums holds of the given program: for every two whole numbers the law answers true. Its conditions are those of the given statement, and no others. -/
import Derived.Test.YtfbmdbgjfnkmiaaRefG
import Derived.Test.YtfbmdbgjfnkmiaaLender
import Derived.Test.YtfbmdbgjfnkmiaaBookW
set_option maxRecDepth 100000
set_option linter.unusedVariables false
set_option linter.unusedSimpArgs false
namespace Go.Proofs.Ytfbmdbgjfnkmiaa

set_option maxHeartbeats 8000000 in
theorem wsums_law {f g : Bool} {xs ys : List Nat} (hx : Lm xs) (hx' : xs.length ≤ 35184372087808) (hy : Lm ys) (hy' : ys.length ≤ 35184372087808) :
    PT Try.prog 7 [WX f xs, WX g ys] (isV (.val (.bool true))) := by
  have lx := len_whole (b := f) hx'
  have ly := len_whole (b := g) hy'
  refine PCalls.enter (n := 136) (rs := [.tmp 4]) (tb := [(3, [(0, []), (2, []), (1, [2]), (3, []), (4, []), (5, [])]), (6, [(0, []), (1, []), (3, []), (4, []), (6, []), (7, []), (9, []), (2, [3, 4, 6, 7, 9]), (5, [6, 7, 9]), (8, [9]), (10, []), (11, [0, 1, 3, 4, 6, 7, 9]), (12, [0, 1, 3, 4, 6, 7, 9]), (13, [0, 1, 3, 4, 6, 7, 9]), (14, [0, 1, 3, 4, 6, 7, 9]), (15, []), (16, []), (17, []), (18, [])]), (1000006, [(0, []), (0, []), (3, []), (0, []), (0, []), (31, []), (0, []), (0, []), (255, []), (0, []), (1023, []), (0, []), (0, []), (0, []), (0, []), (32767, []), (65535, []), (131071, []), (262143, [])]), (11, [(0, []), (1, []), (2, []), (3, []), (4, [0, 1]), (5, []), (6, [0, 1, 2, 3, 5]), (7, [])]), (12, [(0, []), (1, []), (2, []), (3, []), (4, [0, 1]), (5, []), (6, [0, 1, 2, 3, 5]), (7, [])]), (13, [(0, []), (1, []), (3, []), (4, []), (6, []), (7, []), (9, []), (2, [3, 4, 6, 7, 9]), (5, [6, 7, 9]), (8, [9]), (10, []), (11, [0, 1, 3, 4, 6, 7, 9]), (12, [0, 1, 3, 4, 6, 7, 9]), (13, [0, 1, 3, 4, 6, 7, 9]), (14, [0, 1, 3, 4, 6, 7, 9]), (15, []), (16, []), (17, []), (18, [])]), (1000013, [(0, []), (0, []), (3, []), (0, []), (0, []), (31, []), (0, []), (0, []), (255, []), (0, []), (1023, []), (0, []), (0, []), (0, []), (0, []), (32767, []), (65535, []), (131071, []), (262143, [])])]) Try.func7 rfl rfl rfl (by kernel_rfl) (by kernel_rfl) (by simp) fun c hc ht => ?_
  simp -implicitDefEqProofs (disch := omega) only [go_sem, ht, eq_self]
  ((refine pCall_view (by simp -implicitDefEqProofs (disch := omega) only [go_sem, ht, eq_self] <;> rfl) (by simp -implicitDefEqProofs (disch := omega) only [go_sem, ht, eq_self]) (by first | (apply Or.inl; simp -implicitDefEqProofs (disch := omega) only [go_sem, ht, eq_self]; done) | (apply Or.inr; rintro r rfl; rfl)) (awake_whole) ?_; rintro _ nx_1 - rfl hnx_1; (try simp only [put_nx, withH_nx, begP_nx] at hnx_1); simp -implicitDefEqProofs (disch := omega) only [go_sem, ht, eq_self]); (refine pCall_view (by simp -implicitDefEqProofs (disch := omega) only [go_sem, ht, eq_self] <;> rfl) (by simp -implicitDefEqProofs (disch := omega) only [go_sem, ht, eq_self]) (by first | (apply Or.inl; simp -implicitDefEqProofs (disch := omega) only [go_sem, ht, eq_self]; done) | (apply Or.inr; rintro r rfl; rfl)) (lx) ?_; rintro _ nx_2 - rfl hnx_2; (try simp only [put_nx, withH_nx, begP_nx] at hnx_2); simp -implicitDefEqProofs (disch := omega) only [go_sem, ht, eq_self]))
  by_cases hl : 1500 < 1 + xs.length + (1 + ys.length)
  · ((refine pCall_view (by simp -implicitDefEqProofs (disch := omega) only [go_sem, ht, eq_self] <;> rfl) (by simp -implicitDefEqProofs (disch := omega) only [go_sem, ht, eq_self]) (by first | (apply Or.inl; simp -implicitDefEqProofs (disch := omega) only [go_sem, ht, eq_self]; done) | (apply Or.inr; rintro r rfl; rfl)) (ly) ?_; rintro _ nx_3 - rfl hnx_3; (try simp only [put_nx, withH_nx, begP_nx] at hnx_3); simp -implicitDefEqProofs (disch := omega) only [go_sem, ht, eq_self]))
    (refine end_treeW 0 ?_; simp -implicitDefEqProofs (disch := omega) only [go_sem, ht, eq_self])
  obtain ⟨K, hK, kx, ky⟩ : ∃ K, K ≤ 1500 ∧ xs.length ≤ K ∧ ys.length ≤ K := ⟨1500, Nat.le_refl _, by omega, by omega⟩
  have px := Wn.raw (b := f) hx kx (by omega)
  have py := Wn.raw (b := g) hy ky (by omega)
  have oadd : Ok (D (V xs + V ys)) := by rw [px.abs, py.abs]; exact .D (lt_add px.z py.z) (by omega)
  have omul : Ok (D (V xs * V ys)) := by rw [px.abs, py.abs]; exact .D (lt_mul px.z py.z) (by omega)
  have mx := lent_mid xs
  have my := lent_mid ys
  have llx := lent_len xs
  have lly := lent_len ys
  have wad := wadd_calls (b := f) (d := g) px.ok py.ok oadd
  have wsu := wsub_calls (b := f) (d := g) px.ok py.ok oadd
  have wmu := wmul_calls (b := f) (d := g) px.ok py.ok omul
  have wne := wneg_calls (b := f) px.ok
  generalize WV f xs = x at *
  generalize WV g ys = y at *
  have r1 := Ref.r2add px py (by omega)
  have r2 := Ref.r2sub px py (by omega)
  have r3 := Ref.r2mul px py (by omega)
  have r4 := Ref.r2neg px
  have r5 := Ref.r2cmp px py
  have ccm := cmpW px py
  have zs := px.z.add py.z
  have zd := px.z.sub py.z
  have zm := px.z.mul py.z
  have zn := px.z.neg
  have s1 := sameT zs (by omega) rfl
  have s2 := sameT zd (by omega) rfl
  have s3 := sameT zm (by omega) rfl
  have s4 := sameT zn (by omega) rfl
  have o1 := (zs.ok (by omega)).len
  have o2 := (zd.ok (by omega)).len
  have o3 := (zm.ok (by omega)).len
  have o4 := (zn.ok (by omega)).len
  clear px py oadd omul zs zd zm zn
  generalize x + y = sm at *
  generalize x - y = df at *
  generalize x * y = pr at *
  generalize -x = ng at *
  generalize cZ x y = kc at *
  (refine pCall_view (by simp -implicitDefEqProofs (disch := omega) only [go_sem, ht, eq_self] <;> rfl) (by simp -implicitDefEqProofs (disch := omega) only [go_sem, ht, eq_self]) (by first | (apply Or.inl; simp -implicitDefEqProofs (disch := omega) only [go_sem, ht, eq_self]; done) | (apply Or.inr; rintro r rfl; rfl)) (ly) ?_; rintro _ nx - rfl hnx; (try simp only [put_nx, withH_nx, begP_nx] at hnx); simp -implicitDefEqProofs (disch := omega) only [go_sem, ht, eq_self])
  generalize nx = nb at *
  ((refine pCall_view (by simp -implicitDefEqProofs (disch := omega) only [go_sem, ht, eq_self] <;> rfl) (by simp -implicitDefEqProofs (disch := omega) only [go_sem, ht, eq_self]) (by first | (apply Or.inl; simp -implicitDefEqProofs (disch := omega) only [go_sem, ht, eq_self]; done) | (apply Or.inr; rintro r rfl; rfl)) (r1) ?_; rintro _ nx_4 - rfl hnx_4; (try simp only [put_nx, withH_nx, begP_nx] at hnx_4); simp -implicitDefEqProofs (disch := omega) only [go_sem, ht, eq_self]); (refine pCall_view (by simp -implicitDefEqProofs (disch := omega) only [go_sem, ht, eq_self] <;> rfl) (by simp -implicitDefEqProofs (disch := omega) only [go_sem, ht, eq_self]) (by first | (apply Or.inl; simp -implicitDefEqProofs (disch := omega) only [go_sem, ht, eq_self]; done) | (apply Or.inr; rintro r rfl; rfl)) (r2) ?_; rintro _ nx_5 - rfl hnx_5; (try simp only [put_nx, withH_nx, begP_nx] at hnx_5); simp -implicitDefEqProofs (disch := omega) only [go_sem, ht, eq_self]); (refine pCall_view (by simp -implicitDefEqProofs (disch := omega) only [go_sem, ht, eq_self] <;> rfl) (by simp -implicitDefEqProofs (disch := omega) only [go_sem, ht, eq_self]) (by first | (apply Or.inl; simp -implicitDefEqProofs (disch := omega) only [go_sem, ht, eq_self]; done) | (apply Or.inr; rintro r rfl; rfl)) (r3) ?_; rintro _ nx_6 - rfl hnx_6; (try simp only [put_nx, withH_nx, begP_nx] at hnx_6); simp -implicitDefEqProofs (disch := omega) only [go_sem, ht, eq_self]))
  (refine pCall_view (by simp -implicitDefEqProofs (disch := omega) only [go_sem, ht, eq_self] <;> rfl) (by simp -implicitDefEqProofs (disch := omega) only [go_sem, ht, eq_self]) (by first | (apply Or.inl; simp -implicitDefEqProofs (disch := omega) only [go_sem, ht, eq_self]; done) | (apply Or.inr; rintro r rfl; rfl)) (r4) ?_; rintro _ nx - rfl hnx; (try simp only [put_nx, withH_nx, begP_nx] at hnx); simp -implicitDefEqProofs (disch := omega) only [go_sem, ht, eq_self])
  generalize nx = na at *
  refine LW.loopW hc ht (by kernel_rfl) (fun t => t.sl 2 = .ptr 0 0 ∧ t.sl 3 = .ptr 1 0 ∧ t.sl 5 = .ptr nb 0 ∧ t.sl 6 = .ptr na 0 ∧ t.sl 7 = .ptr (na + 1) 0 ∧ t.sl 8 = .ptr (na + 1 + 1) 0 ∧ t.sl 9 = .ptr (na + 1 + 1 + 1) 0 ∧ na + 4 ≤ t.nx ∧
      t.H 0 = some [.val (.bool f), .sl xs.length (xs.map U)] ∧ t.H 1 = some [.val (.bool g), .sl ys.length (ys.map U)] ∧ t.H na = some [.val (.bool (decide (sm < 0))), .sl (D sm.natAbs).length ((D sm.natAbs).map U)] ∧ t.H (na + 1) = some [.val (.bool (decide (df < 0))), .sl (D df.natAbs).length ((D df.natAbs).map U)] ∧ t.H (na + 1 + 1) = some [.val (.bool (decide (pr < 0))), .sl (D pr.natAbs).length ((D pr.natAbs).map U)] ∧ t.H (na + 1 + 1 + 1) = some [.val (.bool (decide (ng < 0))), .sl (D ng.natAbs).length ((D ng.natAbs).map U)] ∧
      ∃ i : Nat, i ≤ 2 ∧ t.sl 10 = .val (.int .i64 i) ∧ ∃ es B, BK t.H t.nx nb es B ∧ es.length = 4 * i ∧ ∀ j, j < na + 4 → j ≠ nb → ¬ B j)
      (fun t => match t.sl 10 with | .val (.int _ i) => 2 - i.toNat | _ => 0) ?_ ?_
  · simp -implicitDefEqProofs (disch := omega) only [go_sem, ht, eq_self]
    refine ⟨by omega, 0, by omega, rfl, [], _, BK.start (by simp -implicitDefEqProofs (disch := omega) only [go_sem, ht, eq_self]) (by omega), rfl, fun j hj hne h => hne h⟩
  · rintro t ⟨h2, h3, h5, h6, h7, h8, h9, hnn, c0, c1, c6, c7, c8, c9, i, hi, h10, es, B, hB, hel, hnB⟩
    by_cases hi2 : i = 2
    · simp -implicitDefEqProofs (disch := omega) only [go_sem, ht, h2, h3, h5, h6, h7, h8, h9, h10, eq_self]
      apply pCall_mem
      exact done_calls (es := es) (B := B) (by simp -implicitDefEqProofs (disch := omega) only [go_sem, ht, eq_self]; exact hB) (by omega)
      rintro _ _ _ ⟨rfl, rfl, rfl⟩ -
      simp -implicitDefEqProofs (disch := omega) only [go_sem, ht, eq_self]
      (refine end_treeW 0 ?_; simp -implicitDefEqProofs (disch := omega) only [go_sem, ht, eq_self])
    · obtain ⟨n0, en⟩ : ∃ n0, t.nx = n0 := ⟨_, rfl⟩
      rw [en] at hB hnn
      have hib := hB.lt _ hB.self
      have hBlt := hB.lt
      simp -implicitDefEqProofs (disch := omega) only [go_sem, ht, h2, h3, h5, h6, h7, h8, h9, h10, c0, c1, en, eq_self]
      apply pCall_mem
      exact lend_calls hx (by omega) (by simp -implicitDefEqProofs (disch := omega) only [go_sem, ht, en, eq_self]) (by simp -implicitDefEqProofs (disch := omega) only [go_sem, ht, en, eq_self] <;> omega)
      rintro _ H1 n1 ⟨i1, hi1, hi1', rfl, hA1, hA2, hA3⟩ hn1
      simp only [put_nx, withH_nx, en] at hi1 hn1
      have hA4 : H1 (n0 + 1) = some [.val (.slice none 0 0), .val (.int .i64 0)] := by rw [hA3 _ (by omega) (by omega)]; simp -implicitDefEqProofs (disch := omega) only [go_sem, ht, en, eq_self]
      have hAF : ∀ j, j < n0 → H1 j = t.H j := fun j hj => by rw [hA3 _ (by omega) (by omega)]; simp -implicitDefEqProofs (disch := omega) only [go_sem, ht, en, eq_self]
      have hA0 := (hAF 0 (by omega)).trans c0
      have hAy := (hAF 1 (by omega)).trans c1
      clear hA3
      simp -implicitDefEqProofs (disch := omega) only [go_sem, ht, h2, h3, h5, h6, h7, h8, h9, h10, hA0, hAy, eq_self]
      apply pCall_mem
      exact lend_calls hy (by omega) (by simp -implicitDefEqProofs (disch := omega) only [go_sem, ht, hA4, eq_self]) (by simp -implicitDefEqProofs (disch := omega) only [go_sem, ht, eq_self] <;> omega)
      rintro _ H2 n2 ⟨i2, hi2', hi2'', rfl, hB1, hB2, hB3⟩ hn2
      simp only [put_nx, withH_nx] at hi2' hn2
      have hB4 : H2 n0 = some [.ref i1 0 (xs.length + 10) (xs.length + 10) 1, .val (.int .i64 xs.length)] := by rw [hB3 _ (by omega) (by omega)]; simp -implicitDefEqProofs (disch := omega) only [go_sem, ht, hA1, eq_self]
      have hB5 : H2 i1 = some ((lent xs).map U) := by rw [hB3 _ (by omega) (by omega)]; simp -implicitDefEqProofs (disch := omega) only [go_sem, ht, hA2, eq_self]
      have hBF : ∀ j, j < n0 → H2 j = t.H j := fun j hj => by rw [hB3 _ (by omega) (by omega)]; simp -implicitDefEqProofs (disch := omega) only [go_sem, ht, eq_self]; exact hAF j hj
      have hB6 : H2 n1 = some [.val (.bool f), .ref i1 5 xs.length (xs.length + 5) 1] := by rw [hB3 _ (by omega) (by omega)]; simp -implicitDefEqProofs (disch := omega) only [go_sem, ht, eq_self]
      have hB8 := (hBF 1 (by omega)).trans c1
      have hB9 := (hBF 0 (by omega)).trans c0
      clear hB3 hA1 hA2 hA4 hAF hA0 hAy
      simp -implicitDefEqProofs (disch := omega) only [go_sem, ht, h2, h3, h5, h6, h7, h8, h9, hB6, hB8, eq_self]
      (refine pCall_own1 (mk := mkW sm) (mk_W sm) (by simp -implicitDefEqProofs (disch := omega) only [hB1, hB2, hB4, hB5, hB6, mx, my, llx, lly, if_pos, h2, h3, h5, h6, h7, h8, h9, go_sem, ht, eq_self] <;> rfl) (by simp -implicitDefEqProofs (disch := omega) only [hB1, hB2, hB4, hB5, hB6, mx, my, llx, lly, if_pos, h2, h3, h5, h6, h7, h8, h9, go_sem, ht, eq_self]) (closedL_U _) (flatL_U _) (wad) ?_; intro id1 cap1 rest1 nx1 hid1 hnx1 hcap1; simp only [put_nx, withH_nx, begP_nx, List.length_map] at hid1 hcap1; simp -implicitDefEqProofs (disch := omega) only [hB1, hB2, hB4, hB5, hB6, mx, my, llx, lly, if_pos, h2, h3, h5, h6, h7, h8, h9, go_sem, ht, eq_self])
      (refine pCall_own1 (mk := mkW df) (mk_W df) (by simp -implicitDefEqProofs (disch := omega) only [hB1, hB2, hB4, hB5, hB6, mx, my, llx, lly, if_pos, h2, h3, h5, h6, h7, h8, h9, go_sem, ht, eq_self] <;> rfl) (by simp -implicitDefEqProofs (disch := omega) only [hB1, hB2, hB4, hB5, hB6, mx, my, llx, lly, if_pos, h2, h3, h5, h6, h7, h8, h9, go_sem, ht, eq_self]) (closedL_U _) (flatL_U _) (wsu) ?_; intro id2 cap2 rest2 nx2 hid2 hnx2 hcap2; simp only [put_nx, withH_nx, begP_nx, List.length_map] at hid2 hcap2; simp -implicitDefEqProofs (disch := omega) only [hB1, hB2, hB4, hB5, hB6, mx, my, llx, lly, if_pos, h2, h3, h5, h6, h7, h8, h9, go_sem, ht, eq_self])
      (refine pCall_own1 (mk := mkW pr) (mk_W pr) (by simp -implicitDefEqProofs (disch := omega) only [hB1, hB2, hB4, hB5, hB6, mx, my, llx, lly, if_pos, h2, h3, h5, h6, h7, h8, h9, go_sem, ht, eq_self] <;> rfl) (by simp -implicitDefEqProofs (disch := omega) only [hB1, hB2, hB4, hB5, hB6, mx, my, llx, lly, if_pos, h2, h3, h5, h6, h7, h8, h9, go_sem, ht, eq_self]) (closedL_U _) (flatL_U _) (wmu) ?_; intro id3 cap3 rest3 nx3 hid3 hnx3 hcap3; simp only [put_nx, withH_nx, begP_nx, List.length_map] at hid3 hcap3; simp -implicitDefEqProofs (disch := omega) only [hB1, hB2, hB4, hB5, hB6, mx, my, llx, lly, if_pos, h2, h3, h5, h6, h7, h8, h9, go_sem, ht, eq_self])
      (refine pCall_own1 (mk := mkW ng) (mk_W ng) (by simp -implicitDefEqProofs (disch := omega) only [hB1, hB2, hB4, hB5, hB6, mx, my, llx, lly, if_pos, h2, h3, h5, h6, h7, h8, h9, go_sem, ht, eq_self] <;> rfl) (by simp -implicitDefEqProofs (disch := omega) only [hB1, hB2, hB4, hB5, hB6, mx, my, llx, lly, if_pos, h2, h3, h5, h6, h7, h8, h9, go_sem, ht, eq_self]) (closedL_U _) (flatL_U _) (wne) ?_; intro id4 cap4 rest4 nx4 hid4 hnx4 hcap4; simp only [put_nx, withH_nx, begP_nx, List.length_map] at hid4 hcap4; simp -implicitDefEqProofs (disch := omega) only [hB1, hB2, hB4, hB5, hB6, mx, my, llx, lly, if_pos, h2, h3, h5, h6, h7, h8, h9, go_sem, ht, eq_self])
      (refine pCall_view (by simp -implicitDefEqProofs (disch := omega) only [hB9, hB8, hB1, hB2, hB4, hB5, hB6, mx, my, llx, lly, if_pos, h2, h3, h5, h6, h7, h8, h9, go_sem, ht, eq_self] <;> rfl) (by simp -implicitDefEqProofs (disch := omega) only [hB9, hB8, hB1, hB2, hB4, hB5, hB6, mx, my, llx, lly, if_pos, h2, h3, h5, h6, h7, h8, h9, go_sem, ht, eq_self]) (by first | (apply Or.inl; simp -implicitDefEqProofs (disch := omega) only [hB9, hB8, hB1, hB2, hB4, hB5, hB6, mx, my, llx, lly, if_pos, h2, h3, h5, h6, h7, h8, h9, go_sem, ht, eq_self]; done) | (apply Or.inr; rintro r rfl; rfl)) (ccm) ?_; rintro _ nx - rfl hnx; (try simp only [put_nx, withH_nx, begP_nx] at hnx); simp -implicitDefEqProofs (disch := omega) only [hB9, hB8, hB1, hB2, hB4, hB5, hB6, mx, my, llx, lly, if_pos, h2, h3, h5, h6, h7, h8, h9, go_sem, ht, eq_self])
      apply pCall_mem
      exact back_calls (id := i1) hx (by omega) (by simp -implicitDefEqProofs (disch := omega) only [go_sem, ht, hB4, eq_self]) (by simp -implicitDefEqProofs (disch := omega) only [go_sem, ht, hB5, eq_self]) (by omega)
      rintro _ H4 n4 ⟨rfl, hC⟩ hn4
      simp only [put_nx, withH_nx, begP_nx] at hn4
      have hC1 : H4 (n0 + 1) = some [.ref i2 0 (ys.length + 10) (ys.length + 10) 1, .val (.int .i64 ys.length)] := by rw [hC _ (by omega)]; simp -implicitDefEqProofs (disch := omega) only [go_sem, ht, hB1, eq_self]
      have hC2 : H4 i2 = some ((lent ys).map U) := by rw [hC _ (by omega)]; simp -implicitDefEqProofs (disch := omega) only [go_sem, ht, hB2, eq_self]
      have hCi1 : H4 id1 = some ((D sm.natAbs).map U ++ rest1.map .val) := by rw [hC _ (by omega)]; simp -implicitDefEqProofs (disch := omega) only [go_sem, ht, eq_self]
      have hCc1 : H4 (nx4) = some [.val (.bool (decide (sm < 0))), .ref id1 0 (D sm.natAbs).length cap1 1] := by rw [hC _ (by omega)]; simp -implicitDefEqProofs (disch := omega) only [go_sem, ht, eq_self]
      have hCi2 : H4 id2 = some ((D df.natAbs).map U ++ rest2.map .val) := by rw [hC _ (by omega)]; simp -implicitDefEqProofs (disch := omega) only [go_sem, ht, eq_self]
      have hCc2 : H4 (nx4 + 1) = some [.val (.bool (decide (df < 0))), .ref id2 0 (D df.natAbs).length cap2 1] := by rw [hC _ (by omega)]; simp -implicitDefEqProofs (disch := omega) only [go_sem, ht, eq_self]
      have hCi3 : H4 id3 = some ((D pr.natAbs).map U ++ rest3.map .val) := by rw [hC _ (by omega)]; simp -implicitDefEqProofs (disch := omega) only [go_sem, ht, eq_self]
      have hCc3 : H4 (nx4 + 1 + 1) = some [.val (.bool (decide (pr < 0))), .ref id3 0 (D pr.natAbs).length cap3 1] := by rw [hC _ (by omega)]; simp -implicitDefEqProofs (disch := omega) only [go_sem, ht, eq_self]
      have hCi4 : H4 id4 = some ((D ng.natAbs).map U ++ rest4.map .val) := by rw [hC _ (by omega)]; simp -implicitDefEqProofs (disch := omega) only [go_sem, ht, eq_self]
      have hCc4 : H4 (nx4 + 1 + 1 + 1) = some [.val (.bool (decide (ng < 0))), .ref id4 0 (D ng.natAbs).length cap4 1] := by rw [hC _ (by omega)]; simp -implicitDefEqProofs (disch := omega) only [go_sem, ht, eq_self]
      have hCF : ∀ j, j < n0 → H4 j = t.H j := fun j hj => by rw [hC _ (by omega)]; simp -implicitDefEqProofs (disch := omega) only [go_sem, ht, eq_self]; exact hBF j hj
      have hCy := (hCF 1 (by omega)).trans c1
      clear hC hB1 hB2 hB4 hB5 hB6 hB8 hB9 hBF
      simp -implicitDefEqProofs (disch := omega) only [go_sem, ht, h2, h3, h5, h6, h7, h8, h9, hCy, eq_self]
      apply pCall_mem
      exact back_calls (id := i2) hy (by omega) (by simp -implicitDefEqProofs (disch := omega) only [go_sem, ht, hC1, eq_self]) (by simp -implicitDefEqProofs (disch := omega) only [go_sem, ht, hC2, eq_self]) (by omega)
      rintro _ H5 n5 ⟨rfl, hE⟩ hn5
      simp only [put_nx, withH_nx, begP_nx] at hn5
      have hEi1 : H5 id1 = some ((D sm.natAbs).map U ++ rest1.map .val) := by rw [hE _ (by omega)]; simp -implicitDefEqProofs (disch := omega) only [go_sem, ht, hCi1, eq_self]
      have hEc1 : H5 (nx4) = some [.val (.bool (decide (sm < 0))), .ref id1 0 (D sm.natAbs).length cap1 1] := by rw [hE _ (by omega)]; simp -implicitDefEqProofs (disch := omega) only [go_sem, ht, hCc1, eq_self]
      have hEi2 : H5 id2 = some ((D df.natAbs).map U ++ rest2.map .val) := by rw [hE _ (by omega)]; simp -implicitDefEqProofs (disch := omega) only [go_sem, ht, hCi2, eq_self]
      have hEc2 : H5 (nx4 + 1) = some [.val (.bool (decide (df < 0))), .ref id2 0 (D df.natAbs).length cap2 1] := by rw [hE _ (by omega)]; simp -implicitDefEqProofs (disch := omega) only [go_sem, ht, hCc2, eq_self]
      have hEi3 : H5 id3 = some ((D pr.natAbs).map U ++ rest3.map .val) := by rw [hE _ (by omega)]; simp -implicitDefEqProofs (disch := omega) only [go_sem, ht, hCi3, eq_self]
      have hEc3 : H5 (nx4 + 1 + 1) = some [.val (.bool (decide (pr < 0))), .ref id3 0 (D pr.natAbs).length cap3 1] := by rw [hE _ (by omega)]; simp -implicitDefEqProofs (disch := omega) only [go_sem, ht, hCc3, eq_self]
      have hEi4 : H5 id4 = some ((D ng.natAbs).map U ++ rest4.map .val) := by rw [hE _ (by omega)]; simp -implicitDefEqProofs (disch := omega) only [go_sem, ht, hCi4, eq_self]
      have hEc4 : H5 (nx4 + 1 + 1 + 1) = some [.val (.bool (decide (ng < 0))), .ref id4 0 (D ng.natAbs).length cap4 1] := by rw [hE _ (by omega)]; simp -implicitDefEqProofs (disch := omega) only [go_sem, ht, hCc4, eq_self]
      have hEF : ∀ j, j < n0 → H5 j = t.H j := fun j hj => by rw [hE _ (by omega)]; simp -implicitDefEqProofs (disch := omega) only [go_sem, ht, eq_self]; exact hCF j hj
      clear hE hC1 hC2 hCF hCy hCi1 hCc1 hCi2 hCc2 hCi3 hCc3 hCi4 hCc4
      have e0 := (hEF 0 (by omega)).trans c0
      have e1 := (hEF 1 (by omega)).trans c1
      have e6 := (hEF (na) (by omega)).trans c6
      have e7 := (hEF (na + 1) (by omega)).trans c7
      have e8 := (hEF (na + 1 + 1) (by omega)).trans c8
      have e9 := (hEF (na + 1 + 1 + 1) (by omega)).trans c9
      simp -implicitDefEqProofs (disch := omega) only [go_sem, ht, h2, h3, h5, h6, h7, h8, h9, e0, e1, eq_self]
      ((refine pCall_view (by simp -implicitDefEqProofs (disch := omega) only [h2, h3, h5, h6, h7, h8, h9, e0, e1, e6, e7, e8, e9, hEi1, hEc1, hEi2, hEc2, hEi3, hEc3, hEi4, hEc4, if_pos, Nat.le_add_right, go_sem, ht, eq_self] <;> rfl) (by simp -implicitDefEqProofs (disch := omega) only [h2, h3, h5, h6, h7, h8, h9, e0, e1, e6, e7, e8, e9, hEi1, hEc1, hEi2, hEc2, hEi3, hEc3, hEi4, hEc4, if_pos, Nat.le_add_right, go_sem, ht, eq_self]) (by first | (apply Or.inl; simp -implicitDefEqProofs (disch := omega) only [h2, h3, h5, h6, h7, h8, h9, e0, e1, e6, e7, e8, e9, hEi1, hEc1, hEi2, hEc2, hEi3, hEc3, hEi4, hEc4, if_pos, Nat.le_add_right, go_sem, ht, eq_self]; done) | (apply Or.inr; rintro r rfl; rfl)) (r5) ?_; rintro _ nx_7 - rfl hnx_7; (try simp only [put_nx, withH_nx, begP_nx] at hnx_7); simp -implicitDefEqProofs (disch := omega) only [h2, h3, h5, h6, h7, h8, h9, e0, e1, e6, e7, e8, e9, hEi1, hEc1, hEi2, hEc2, hEi3, hEc3, hEi4, hEc4, if_pos, Nat.le_add_right, go_sem, ht, eq_self]); (refine pCall_view (by simp -implicitDefEqProofs (disch := omega) only [h2, h3, h5, h6, h7, h8, h9, e0, e1, e6, e7, e8, e9, hEi1, hEc1, hEi2, hEc2, hEi3, hEc3, hEi4, hEc4, if_pos, Nat.le_add_right, go_sem, ht, eq_self] <;> rfl) (by simp -implicitDefEqProofs (disch := omega) only [h2, h3, h5, h6, h7, h8, h9, e0, e1, e6, e7, e8, e9, hEi1, hEc1, hEi2, hEc2, hEi3, hEc3, hEi4, hEc4, if_pos, Nat.le_add_right, go_sem, ht, eq_self]) (by first | (apply Or.inl; simp -implicitDefEqProofs (disch := omega) only [h2, h3, h5, h6, h7, h8, h9, e0, e1, e6, e7, e8, e9, hEi1, hEc1, hEi2, hEc2, hEi3, hEc3, hEi4, hEc4, if_pos, Nat.le_add_right, go_sem, ht, eq_self]; done) | (apply Or.inr; rintro r rfl; rfl)) (s1) ?_; rintro _ nx_8 - rfl hnx_8; (try simp only [put_nx, withH_nx, begP_nx] at hnx_8); simp -implicitDefEqProofs (disch := omega) only [h2, h3, h5, h6, h7, h8, h9, e0, e1, e6, e7, e8, e9, hEi1, hEc1, hEi2, hEc2, hEi3, hEc3, hEi4, hEc4, if_pos, Nat.le_add_right, go_sem, ht, eq_self]); (refine pCall_view (by simp -implicitDefEqProofs (disch := omega) only [h2, h3, h5, h6, h7, h8, h9, e0, e1, e6, e7, e8, e9, hEi1, hEc1, hEi2, hEc2, hEi3, hEc3, hEi4, hEc4, if_pos, Nat.le_add_right, go_sem, ht, eq_self] <;> rfl) (by simp -implicitDefEqProofs (disch := omega) only [h2, h3, h5, h6, h7, h8, h9, e0, e1, e6, e7, e8, e9, hEi1, hEc1, hEi2, hEc2, hEi3, hEc3, hEi4, hEc4, if_pos, Nat.le_add_right, go_sem, ht, eq_self]) (by first | (apply Or.inl; simp -implicitDefEqProofs (disch := omega) only [h2, h3, h5, h6, h7, h8, h9, e0, e1, e6, e7, e8, e9, hEi1, hEc1, hEi2, hEc2, hEi3, hEc3, hEi4, hEc4, if_pos, Nat.le_add_right, go_sem, ht, eq_self]; done) | (apply Or.inr; rintro r rfl; rfl)) (s2) ?_; rintro _ nx_9 - rfl hnx_9; (try simp only [put_nx, withH_nx, begP_nx] at hnx_9); simp -implicitDefEqProofs (disch := omega) only [h2, h3, h5, h6, h7, h8, h9, e0, e1, e6, e7, e8, e9, hEi1, hEc1, hEi2, hEc2, hEi3, hEc3, hEi4, hEc4, if_pos, Nat.le_add_right, go_sem, ht, eq_self]); (refine pCall_view (by simp -implicitDefEqProofs (disch := omega) only [h2, h3, h5, h6, h7, h8, h9, e0, e1, e6, e7, e8, e9, hEi1, hEc1, hEi2, hEc2, hEi3, hEc3, hEi4, hEc4, if_pos, Nat.le_add_right, go_sem, ht, eq_self] <;> rfl) (by simp -implicitDefEqProofs (disch := omega) only [h2, h3, h5, h6, h7, h8, h9, e0, e1, e6, e7, e8, e9, hEi1, hEc1, hEi2, hEc2, hEi3, hEc3, hEi4, hEc4, if_pos, Nat.le_add_right, go_sem, ht, eq_self]) (by first | (apply Or.inl; simp -implicitDefEqProofs (disch := omega) only [h2, h3, h5, h6, h7, h8, h9, e0, e1, e6, e7, e8, e9, hEi1, hEc1, hEi2, hEc2, hEi3, hEc3, hEi4, hEc4, if_pos, Nat.le_add_right, go_sem, ht, eq_self]; done) | (apply Or.inr; rintro r rfl; rfl)) (s3) ?_; rintro _ nx_10 - rfl hnx_10; (try simp only [put_nx, withH_nx, begP_nx] at hnx_10); simp -implicitDefEqProofs (disch := omega) only [h2, h3, h5, h6, h7, h8, h9, e0, e1, e6, e7, e8, e9, hEi1, hEc1, hEi2, hEc2, hEi3, hEc3, hEi4, hEc4, if_pos, Nat.le_add_right, go_sem, ht, eq_self]); (refine pCall_view (by simp -implicitDefEqProofs (disch := omega) only [h2, h3, h5, h6, h7, h8, h9, e0, e1, e6, e7, e8, e9, hEi1, hEc1, hEi2, hEc2, hEi3, hEc3, hEi4, hEc4, if_pos, Nat.le_add_right, go_sem, ht, eq_self] <;> rfl) (by simp -implicitDefEqProofs (disch := omega) only [h2, h3, h5, h6, h7, h8, h9, e0, e1, e6, e7, e8, e9, hEi1, hEc1, hEi2, hEc2, hEi3, hEc3, hEi4, hEc4, if_pos, Nat.le_add_right, go_sem, ht, eq_self]) (by first | (apply Or.inl; simp -implicitDefEqProofs (disch := omega) only [h2, h3, h5, h6, h7, h8, h9, e0, e1, e6, e7, e8, e9, hEi1, hEc1, hEi2, hEc2, hEi3, hEc3, hEi4, hEc4, if_pos, Nat.le_add_right, go_sem, ht, eq_self]; done) | (apply Or.inr; rintro r rfl; rfl)) (s4) ?_; rintro _ nx_11 - rfl hnx_11; (try simp only [put_nx, withH_nx, begP_nx] at hnx_11); simp -implicitDefEqProofs (disch := omega) only [h2, h3, h5, h6, h7, h8, h9, e0, e1, e6, e7, e8, e9, hEi1, hEc1, hEi2, hEc2, hEi3, hEc3, hEi4, hEc4, if_pos, Nat.le_add_right, go_sem, ht, eq_self]))
      obtain ⟨N, eN⟩ : ∃ N, nx_11 = N := ⟨_, rfl⟩
      have hB5 := hB.mono (H' := H5) (nx' := nx_11) (by omega) (fun j hj => hEF j hj)
      have bn : ∀ j, n0 ≤ j → ¬ B j := fun j hj h => by have := hBlt j h; omega
      have hf0 : ∀ j, j < N → ¬ B j → H5 j = H5 j := fun j _ _ => rfl
      have hb0 : ∀ j, j < N → B j → B j := fun j _ h => h
      have hm0 : n5 ≤ nx_11 := by omega
      apply pCall_mem
      exact ownw_calls (B := B) (cells := (D sm.natAbs).map U ++ rest1.map .val) (by simp -implicitDefEqProofs (disch := omega) only [go_sem, ht, eq_self]; exact hB5) (by omega) (fun h => by
        exact bn _ (by omega) h) (by simp -implicitDefEqProofs (disch := omega) only [go_sem, ht, eq_self] <;> omega) (by simp -implicitDefEqProofs (disch := omega) only [go_sem, ht, hEi1, eq_self]) (by simp; omega) (by omega)
      rintro _ H6 n6 ⟨rfl, B1, hB6, hb', hF⟩ hn6
      simp only [put_nx, withH_nx, begP_nx] at hn6 hb'
      have hb1 : ∀ j, j < N → B1 j → B j ∨ j = id1 := fun j hj h => by
        rcases hb' j h with h | h | h
        · exact .inl h
        · exact .inr (by omega)
        · omega
      have hf1 : ∀ j, j < N → ¬ B j → j ≠ id1 → H6 j = H5 j := fun j hj hn' d1 => by
        rw [hF j (fun h => by
          exact hn' h) d1 (by simp -implicitDefEqProofs (disch := omega) only [go_sem, ht, eq_self] <;> omega)]
        refine Eq.trans (b := H5 j) (by simp -implicitDefEqProofs (disch := omega) only [go_sem, ht, eq_self]) ?_
        exact hf0 j hj hn'
      clear hF hb'
      have hEc2_1 : H6 (nx4 + 1) = some [.val (.bool (decide (df < 0))), .ref id2 0 (D df.natAbs).length cap2 1] := by rw [hf1 _ (by omega) (bn _ (by omega)) (by omega)]; exact hEc2
      have hEc3_1 : H6 (nx4 + 1 + 1) = some [.val (.bool (decide (pr < 0))), .ref id3 0 (D pr.natAbs).length cap3 1] := by rw [hf1 _ (by omega) (bn _ (by omega)) (by omega)]; exact hEc3
      have hEc4_1 : H6 (nx4 + 1 + 1 + 1) = some [.val (.bool (decide (ng < 0))), .ref id4 0 (D ng.natAbs).length cap4 1] := by rw [hf1 _ (by omega) (bn _ (by omega)) (by omega)]; exact hEc4
      simp -implicitDefEqProofs (disch := omega) only [go_sem, ht, h2, h3, h5, h6, h7, h8, h9, hEc2_1, hEc3_1, hEc4_1, eq_self]
      apply pCall_mem
      exact ownw_calls (B := B1) (cells := (D df.natAbs).map U ++ rest2.map .val) (by simp -implicitDefEqProofs (disch := omega) only [go_sem, ht, eq_self]; exact hB6) (by simp; omega) (fun h => by
        rcases hb1 _ (by omega) h with h | h
        · exact bn _ (by omega) h
        · omega
        ) (by simp -implicitDefEqProofs (disch := omega) only [go_sem, ht, eq_self] <;> omega) (Eq.trans (b := H6 id2) (by simp -implicitDefEqProofs (disch := omega) only [go_sem, ht, eq_self]) ((hf1 _ (by omega) (bn _ (by omega)) (by omega)).trans hEi2)) (by simp; omega) (by omega)
      rintro _ H7 n7 ⟨rfl, B2, hB7, hb', hF⟩ hn7
      simp only [put_nx, withH_nx, begP_nx] at hn7 hb'
      have hb2 : ∀ j, j < N → B2 j → B j ∨ j = id1 ∨ j = id2 := fun j hj h => by
        rcases hb' j h with h | h | h
        · rcases hb1 j hj h with h | h
          · exact .inl h
          · exact .inr (by omega)
        · exact .inr (by omega)
        · omega
      have hf2 : ∀ j, j < N → ¬ B j → j ≠ id1 → j ≠ id2 → H7 j = H5 j := fun j hj hn' d1 d2 => by
        rw [hF j (fun h => by
          rcases hb1 j hj h with h | h
          · exact hn' h
          · exact d1 h
          ) d2 (by simp -implicitDefEqProofs (disch := omega) only [go_sem, ht, eq_self] <;> omega)]
        refine Eq.trans (b := H6 j) (by simp -implicitDefEqProofs (disch := omega) only [go_sem, ht, eq_self]) ?_
        exact hf1 j hj hn' d1
      clear hF hb'
      have hEc3_2 : H7 (nx4 + 1 + 1) = some [.val (.bool (decide (pr < 0))), .ref id3 0 (D pr.natAbs).length cap3 1] := by rw [hf2 _ (by omega) (bn _ (by omega)) (by omega) (by omega)]; exact hEc3
      have hEc4_2 : H7 (nx4 + 1 + 1 + 1) = some [.val (.bool (decide (ng < 0))), .ref id4 0 (D ng.natAbs).length cap4 1] := by rw [hf2 _ (by omega) (bn _ (by omega)) (by omega) (by omega)]; exact hEc4
      simp -implicitDefEqProofs (disch := omega) only [go_sem, ht, h2, h3, h5, h6, h7, h8, h9, hEc3_2, hEc4_2, eq_self]
      apply pCall_mem
      exact ownw_calls (B := B2) (cells := (D pr.natAbs).map U ++ rest3.map .val) (by simp -implicitDefEqProofs (disch := omega) only [go_sem, ht, eq_self]; exact hB7) (by simp; omega) (fun h => by
        rcases hb2 _ (by omega) h with h | h | h
        · exact bn _ (by omega) h
        · omega
        · omega
        ) (by simp -implicitDefEqProofs (disch := omega) only [go_sem, ht, eq_self] <;> omega) (Eq.trans (b := H7 id3) (by simp -implicitDefEqProofs (disch := omega) only [go_sem, ht, eq_self]) ((hf2 _ (by omega) (bn _ (by omega)) (by omega) (by omega)).trans hEi3)) (by simp; omega) (by omega)
      rintro _ H8 n8 ⟨rfl, B3, hB8, hb', hF⟩ hn8
      simp only [put_nx, withH_nx, begP_nx] at hn8 hb'
      have hb3 : ∀ j, j < N → B3 j → B j ∨ j = id1 ∨ j = id2 ∨ j = id3 := fun j hj h => by
        rcases hb' j h with h | h | h
        · rcases hb2 j hj h with h | h | h
          · exact .inl h
          · exact .inr (by omega)
          · exact .inr (by omega)
        · exact .inr (by omega)
        · omega
      have hf3 : ∀ j, j < N → ¬ B j → j ≠ id1 → j ≠ id2 → j ≠ id3 → H8 j = H5 j := fun j hj hn' d1 d2 d3 => by
        rw [hF j (fun h => by
          rcases hb2 j hj h with h | h | h
          · exact hn' h
          · exact d1 h
          · exact d2 h
          ) d3 (by simp -implicitDefEqProofs (disch := omega) only [go_sem, ht, eq_self] <;> omega)]
        refine Eq.trans (b := H7 j) (by simp -implicitDefEqProofs (disch := omega) only [go_sem, ht, eq_self]) ?_
        exact hf2 j hj hn' d1 d2
      clear hF hb'
      have hEc4_3 : H8 (nx4 + 1 + 1 + 1) = some [.val (.bool (decide (ng < 0))), .ref id4 0 (D ng.natAbs).length cap4 1] := by rw [hf3 _ (by omega) (bn _ (by omega)) (by omega) (by omega) (by omega)]; exact hEc4
      simp -implicitDefEqProofs (disch := omega) only [go_sem, ht, h2, h3, h5, h6, h7, h8, h9, hEc4_3, eq_self]
      apply pCall_mem
      exact ownw_calls (B := B3) (cells := (D ng.natAbs).map U ++ rest4.map .val) (by simp -implicitDefEqProofs (disch := omega) only [go_sem, ht, eq_self]; exact hB8) (by simp; omega) (fun h => by
        rcases hb3 _ (by omega) h with h | h | h | h
        · exact bn _ (by omega) h
        · omega
        · omega
        · omega
        ) (by simp -implicitDefEqProofs (disch := omega) only [go_sem, ht, eq_self] <;> omega) (Eq.trans (b := H8 id4) (by simp -implicitDefEqProofs (disch := omega) only [go_sem, ht, eq_self]) ((hf3 _ (by omega) (bn _ (by omega)) (by omega) (by omega) (by omega)).trans hEi4)) (by simp; omega) (by omega)
      rintro _ H9 n9 ⟨rfl, B4, hB9, hb', hF⟩ hn9
      simp only [put_nx, withH_nx, begP_nx] at hn9 hb'
      have hb4 : ∀ j, j < N → B4 j → B j ∨ j = id1 ∨ j = id2 ∨ j = id3 ∨ j = id4 := fun j hj h => by
        rcases hb' j h with h | h | h
        · rcases hb3 j hj h with h | h | h | h
          · exact .inl h
          · exact .inr (by omega)
          · exact .inr (by omega)
          · exact .inr (by omega)
        · exact .inr (by omega)
        · omega
      have hf4 : ∀ j, j < N → ¬ B j → j ≠ id1 → j ≠ id2 → j ≠ id3 → j ≠ id4 → H9 j = H5 j := fun j hj hn' d1 d2 d3 d4 => by
        rw [hF j (fun h => by
          rcases hb3 j hj h with h | h | h | h
          · exact hn' h
          · exact d1 h
          · exact d2 h
          · exact d3 h
          ) d4 (by simp -implicitDefEqProofs (disch := omega) only [go_sem, ht, eq_self] <;> omega)]
        refine Eq.trans (b := H8 j) (by simp -implicitDefEqProofs (disch := omega) only [go_sem, ht, eq_self]) ?_
        exact hf3 j hj hn' d1 d2 d3
      clear hF hb'
      have fin : ∀ j, j < na + 4 → j ≠ nb → H9 j = H5 j := fun j hj hne => hf4 j (by omega) (hnB j hj hne) (by omega) (by omega) (by omega) (by omega)
      have f0 := (fin (0) (by omega) (by omega)).trans e0
      have f1 := (fin (1) (by omega) (by omega)).trans e1
      have f6 := (fin (na) (by omega) (by omega)).trans e6
      have f7 := (fin (na + 1) (by omega) (by omega)).trans e7
      have f8 := (fin (na + 1 + 1) (by omega) (by omega)).trans e8
      have f9 := (fin (na + 1 + 1 + 1) (by omega) (by omega)).trans e9
      simp -implicitDefEqProofs (disch := omega) only [go_sem, ht, h2, h3, h5, h6, h7, h8, h9, h10, f0, f1, f6, f7, f8, f9, eq_self]
      exact ⟨⟨by omega, i + 1, by omega, rfl, _, B4, hB9, by simp; omega, fun j hj hne h => by
        rcases hb4 j (by omega) h with h | h | h | h | h
        · exact hnB j hj hne h
        · omega
        · omega
        · omega
        · omega
        ⟩, by omega⟩
open Go.ChangeShapes Go.WideShapes Go.ChangeAt Go.RowKit
set_option maxRecDepth 100000 in
theorem wholeSums_lifted (os : Os) (started : os.Started) (H : Type) (enc : TypeId × Value → H) :
    ReturnsInHanded {} Try.checked os 7 .any (Rows.wholeSumsSpec.pre6 enc Try.prog Try.f7 Rows.wholeSumsRow.domain false) (Rows.wholeSumsSpec.post enc Try.prog Try.f7 false true false false) := by
  refine returnsInHanded_of_change_sized (C := Try.checked) law_own started (by kernel_rfl) Try.func7
    (ChangeSpec.witness6 (enc := enc) (C := Try.checked) false ⟨#[], #[.agg #[.bool false, .slice none 0 0], .agg #[.bool false, .slice none 0 0]], []⟩ 8 (by kernel_rfl) (by kernel_rfl) (by kernel_rfl) (by kernel_rfl)) ?_
  intro W base args ds gs before hval0 hW hcnd hsz0 _
  have hsz : (DataW.weightsEach Try.prog (Try.f7.params.toList ++ Rows.wholeSumsSpec.plain.varTypes Try.prog) (ds ++ gs)).all (· ≤ reachBytes) = true := hsz0
  have hval : ∀ (j : Nat) t v, Try.f7.params[j]? = some t → args[j]? = some v → Value.okWide Try.prog W .any base t v := hval0
  have hW' := hW
  obtain ⟨p, q, hA0, hV, rfl, hfz, hnd⟩ := hW
  have hA : DataW.TrodAll enc Try.prog W 0 (fun _ => true) true Try.f7.params.toList args.toList ds p := hA0
  rw [Try.params7] at hA hval hsz
  obtain ⟨v0, vs0, d0, ds0, p0, q0, hargs, rfl, rfl, h0, r0⟩ := trodAll_cons hA
  obtain ⟨v1, vs1, d1, ds1, p1, q1, rfl, rfl, rfl, h1, r1⟩ := trodAll_cons r0
  obtain ⟨rfl, rfl, rfl⟩ := trodAll_nil r1
  obtain rfl : args = #[v0, v1] := by cases args; simp_all
  obtain ⟨rfl, rfl⟩ := trodVars_none hV
  simp only [List.append_nil, List.cons_append, List.nil_append, DataW.weightsEach, List.all_append, Bool.and_eq_true] at hsz
  have lt0 : ∀ x ∈ p0, x.block < W.heap.size := by obtain ⟨m, hm⟩ := h0; exact DataW.trod_lt m _ _ _ hm
  obtain ⟨f0, x0, lm0, len0, rep0⟩ := arg_whole Try.underlying28 (by kernel_rfl) rfl rfl (by kernel_rfl) (by kernel_rfl) Try.underlying4 Try.underlying26 Try.underlying54 (by kernel_rfl) (by kernel_rfl) (by kernel_rfl) (hval 0 28 v0 rfl rfl) h0 hsz.1
  have lt1 : ∀ x ∈ p1, x.block < W.heap.size := by obtain ⟨m, hm⟩ := h1; exact DataW.trod_lt m _ _ _ hm
  obtain ⟨f1, x1, lm1, len1, rep1⟩ := arg_whole Try.underlying28 (by kernel_rfl) rfl rfl (by kernel_rfl) (by kernel_rfl) Try.underlying4 Try.underlying26 Try.underlying54 (by kernel_rfl) (by kernel_rfl) (by kernel_rfl) (hval 1 28 v1 rfl rfl) h1 hsz.2.1
  refine (law_run (wsums_law lm0 len0 lm1 len1) (vs := [v0, v1]) (by simp only [RepL]; exact ⟨rep0, ⟨rep1, trivial⟩⟩)).mono fun e W' ⟨⟨v, r, he, hr, hx⟩, bel⟩ => ?_
  subst he; rw [hx _ hr]
  exact ⟨_, rfl, _, _, _, [], _, [], hW', trodAll_mk1 (shut_bool Try.underlying4 _), (trodAll_cons_mk (Below.trod law_laidOut (by kernel_rfl) (of_decide_eq_true (by kernel_rfl)) h0 bel lt0) (trodAll_cons_mk (Below.trod law_laidOut (by kernel_rfl) (of_decide_eq_true (by kernel_rfl)) h1 bel lt1) trodAll_mk0)), rfl, bel.frame _, fun h => by cases h⟩
theorem wholeSums_holds : Rows.WholeSumsSaid :=
  OpenClaim.holds_of_wide 7 Try.f7 rfl rfl rfl rfl rfl rfl rfl ⟨rfl, rfl, rfl, rfl, rfl⟩ rfl rfl rfl rfl rfl (by kernel_rfl) Try.func7 (by kernel_rfl)
    (of_decide_eq_true (by kernel_rfl)) (by unfold Func.isWrapper; first | (rw [if_pos (by decide +kernel)]; kernel_rfl) | (rw [if_neg (by decide +kernel)]; exact ⟨rfl, rfl⟩))
    (fun os started H enc _ => wholeSums_lifted os started H enc)
end Go.Proofs.Ytfbmdbgjfnkmiaa
