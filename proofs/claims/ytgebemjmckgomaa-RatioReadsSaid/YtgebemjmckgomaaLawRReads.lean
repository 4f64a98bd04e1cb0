/- The statement RatioReads holds of the given program: for every fraction the law answers true. Its conditions are those of the given statement, and no others. -/
import Derived.Test.YtgebemjmckgomaaRatioL
import Derived.Test.YtgebemjmckgomaaBookR
set_option maxRecDepth 100000
set_option linter.unusedVariables false
set_option linter.unusedSimpArgs false
namespace Go.Proofs.Ytgebemjmckgomaa

set_option maxHeartbeats 16000000 in
theorem rreads_law {f : Bool} {xs ds : List Nat} (hx : Lm xs) (hx' : xs.length ≤ 35184372087808) (hd : Lm ds) (hd' : ds.length ≤ 35184372087808) :
    PT Try.prog 6 [FX f xs ds] (isV (.val (.bool true))) := by
  have lx := len_ratio (b := f) hx' hd'
  refine PCalls.enter (n := 118) (rs := [.tmp 2]) (tb := [(17, [(0, []), (1, []), (2, [0]), (3, []), (4, []), (5, []), (6, []), (7, [5]), (8, []), (9, []), (10, []), (11, []), (12, []), (13, [11]), (14, []), (15, []), (16, []), (17, []), (18, []), (19, []), (20, []), (21, []), (22, []), (23, []), (24, []), (25, []), (26, []), (27, []), (28, []), (29, []), (30, []), (31, []), (32, []), (33, []), (34, []), (35, []), (36, []), (37, []), (38, []), (39, []), (40, []), (41, []), (42, []), (43, []), (44, []), (45, [])]), (1000017, [(0, []), (0, []), (2, []), (7, []), (15, []), (31, []), (31, []), (95, []), (255, []), (511, []), (1023, []), (2047, []), (2047, []), (6143, []), (16383, []), (32767, []), (65535, []), (131071, []), (131071, []), (524287, []), (1048575, []), (2097151, []), (4194303, []), (4194303, []), (16777215, []), (33554431, []), (67108863, []), (134217727, []), (134217727, []), (536870911, []), (1073741823, []), (2147483647, []), (4294967295, []), (4294967295, []), (17179869183, []), (34359738367, []), (68719476735, []), (137438953471, []), (137438953471, []), (549755813887, []), (1099511627775, []), (2199023255551, []), (4398046511103, []), (8796093022207, []), (17592186044415, []), (35184372088831, [])])]) Try.func6 rfl rfl rfl (by kernel_rfl) (by kernel_rfl) (by simp) fun c hc ht => ?_
  simp -implicitDefEqProofs (disch := omega) only [go_sem, ht, eq_self]
  ((refine pCall_view (by simp -implicitDefEqProofs (disch := omega) only [go_sem, ht, eq_self] <;> rfl) (by simp -implicitDefEqProofs (disch := omega) only [go_sem, ht, eq_self]) (by first | (apply Or.inl; simp -implicitDefEqProofs (disch := omega) only [go_sem, ht, eq_self]; done) | (apply Or.inr; rintro r rfl; rfl)) (awake_ratio) ?_; rintro _ nx_1 - rfl hnx_1; (try simp only [put_nx, withH_nx, begP_nx] at hnx_1); simp -implicitDefEqProofs (disch := omega) only [go_sem, ht, eq_self]))
  by_cases hl : 1500 < 1 + xs.length + ds.length
  · ((refine pCall_view (by simp -implicitDefEqProofs (disch := omega) only [go_sem, ht, eq_self] <;> rfl) (by simp -implicitDefEqProofs (disch := omega) only [go_sem, ht, eq_self]) (by first | (apply Or.inl; simp -implicitDefEqProofs (disch := omega) only [go_sem, ht, eq_self]; done) | (apply Or.inr; rintro r rfl; rfl)) (lx) ?_; rintro _ nx_2 - rfl hnx_2; (try simp only [put_nx, withH_nx, begP_nx] at hnx_2); simp -implicitDefEqProofs (disch := omega) only [go_sem, ht, eq_self]))
    (refine end_treeW 0 ?_; simp -implicitDefEqProofs (disch := omega) only [go_sem, ht, eq_self])
  obtain ⟨K, hK, hK1, kx, kd⟩ : ∃ K, K ≤ 1500 ∧ 1 ≤ K ∧ xs.length ≤ K ∧ ds.length ≤ K := ⟨1500, Nat.le_refl _, by omega, by omega, by omega⟩
  have px := Fn.raw (b := f) hx hd kx kd (by omega) hK1
  generalize FV f xs ds = q at *
  have hq := px.zq
  have mx := lent_mid xs
  have md := lent_mid ds
  have llx := lent_len xs
  have lld := lent_len ds
  have c1 := rtrimF px
  have c2 := rfloorF px (by omega)
  have c3 := rnegF px
  have c4 := rwholeF px (by omega)
  have c5 := rsignW px
  have c6 := rlimbsW px
  have c7 := Ref.r3whole px (by omega)
  have c8 := Ref.r3sign px (by omega)
  have c9 := Ref.r3limbs px (by omega)
  have c10 := Ref.r3trim px (by omega)
  have c11 := Ref.r3floor px (by omega)
  have c12 := Ref.r3neg px (by omega)
  have zf : Z K (q.num / q.den) := hq.num.div
  have zw : Z K (if q.den = 1 then q.num else 0) := by
    split
    · exact hq.num
    · exact Z.le hq.num (by simp)
  have zm : Zq K (-q) := ⟨hq.num.neg, hq.den⟩
  have s1 := same_rt hq (by omega) rfl
  have s2 := sameT zf (by omega) rfl
  have s3 := same_rt zm (by omega) rfl
  have s4 := sameT zw (by omega) rfl
  have o1 := (hq.num.ok (by omega)).len
  have o2 := (Ok.D hq.den (by omega)).len
  have o3 := (zm.num.ok (by omega)).len
  have o4 := (Ok.D zm.den (by omega)).len
  have o5 := (zf.ok (by omega)).len
  have o6 := (zw.ok (by omega)).len
  clear px zf zw zm hq
  generalize q.num / (q.den : Int) = fv at *
  generalize (if q.den = 1 then q.num else 0) = wz at *
  generalize decide (q.den = 1) = ok at *
  generalize cZ q.num 0 = sg at *
  generalize max (D q.num.natAbs).length (D q.den).length = nl at *
  have hok : (ok != ok) = false := by cases ok <;> rfl
  (refine pCall_view (by simp -implicitDefEqProofs (disch := omega) only [go_sem, ht, eq_self] <;> rfl) (by simp -implicitDefEqProofs (disch := omega) only [go_sem, ht, eq_self]) (by first | (apply Or.inl; simp -implicitDefEqProofs (disch := omega) only [go_sem, ht, eq_self]; done) | (apply Or.inr; rintro r rfl; rfl)) (lx) ?_; rintro _ nx - rfl hnx; (try simp only [put_nx, withH_nx, begP_nx] at hnx); simp -implicitDefEqProofs (disch := omega) only [go_sem, ht, eq_self])
  generalize nx = nb at *
  apply pCall_mem
  exact lent2_calls (b := f) hx (by omega) hd (by omega) (by simp -implicitDefEqProofs (disch := omega) only [go_sem, ht, eq_self]) (by simp -implicitDefEqProofs (disch := omega) only [go_sem, ht, eq_self]) (by simp -implicitDefEqProofs (disch := omega) only [go_sem, ht, eq_self] <;> omega) (by simp -implicitDefEqProofs (disch := omega) only [go_sem, ht, eq_self] <;> omega) (by omega)
  rintro _ H1 n1 ⟨i1, i2, hi1, hi12, hi2, rfl, hA1, hA2, hA3, hA4, hAF⟩ hn1
  simp only [put_nx, withH_nx, begP_nx] at hi1 hi2 hn1
  have hA0 : H1 0 = some [.val (.bool f), .sl xs.length (xs.map U), .sl ds.length (ds.map U)] := by rw [hAF _ (by simp -implicitDefEqProofs (disch := omega) only [go_sem, ht, eq_self] <;> omega) (by omega) (by omega)]; simp -implicitDefEqProofs (disch := omega) only [go_sem, ht, eq_self]
  clear hAF
  simp -implicitDefEqProofs (disch := omega) only [go_sem, ht, hA0, eq_self]
  (refine pCall_own2 (mk := mkF q) (mk_F q) (by simp -implicitDefEqProofs (disch := omega) only [hA0, hA1, hA2, hA3, hA4, mx, md, llx, lld, if_pos, go_sem, ht, eq_self] <;> rfl) (by simp -implicitDefEqProofs (disch := omega) only [hA0, hA1, hA2, hA3, hA4, mx, md, llx, lld, if_pos, go_sem, ht, eq_self]) (closedL_U _) (flatL_U _) (closedL_U _) (flatL_U _) (c1) ?_; intro id1 cap1 rest1 jd1 dap1 sest1 nx1 hid1 hnx1 hjd1 hmx1 hne1 hcap1 hdap1; simp only [put_nx, withH_nx, begP_nx, List.length_map] at hid1 hjd1 hcap1 hdap1; simp -implicitDefEqProofs (disch := omega) only [hA0, hA1, hA2, hA3, hA4, mx, md, llx, lld, if_pos, go_sem, ht, eq_self])
  (refine pCall_own1 (mk := mkW fv) (mk_W fv) (by simp -implicitDefEqProofs (disch := omega) only [hA0, hA1, hA2, hA3, hA4, mx, md, llx, lld, if_pos, go_sem, ht, eq_self] <;> rfl) (by simp -implicitDefEqProofs (disch := omega) only [hA0, hA1, hA2, hA3, hA4, mx, md, llx, lld, if_pos, go_sem, ht, eq_self]) (closedL_U _) (flatL_U _) (c2) ?_; intro id2 cap2 rest2 nx2 hid2 hnx2 hcap2; simp only [put_nx, withH_nx, begP_nx, List.length_map] at hid2 hcap2; simp -implicitDefEqProofs (disch := omega) only [hA0, hA1, hA2, hA3, hA4, mx, md, llx, lld, if_pos, go_sem, ht, eq_self])
  (refine pCall_own2 (mk := mkF (-q)) (mk_F (-q)) (by simp -implicitDefEqProofs (disch := omega) only [hA0, hA1, hA2, hA3, hA4, mx, md, llx, lld, if_pos, go_sem, ht, eq_self] <;> rfl) (by simp -implicitDefEqProofs (disch := omega) only [hA0, hA1, hA2, hA3, hA4, mx, md, llx, lld, if_pos, go_sem, ht, eq_self]) (closedL_U _) (flatL_U _) (closedL_U _) (flatL_U _) (c3) ?_; intro id3 cap3 rest3 jd3 dap3 sest3 nx3 hid3 hnx3 hjd3 hmx3 hne3 hcap3 hdap3; simp only [put_nx, withH_nx, begP_nx, List.length_map] at hid3 hjd3 hcap3 hdap3; simp -implicitDefEqProofs (disch := omega) only [hA0, hA1, hA2, hA3, hA4, mx, md, llx, lld, if_pos, go_sem, ht, eq_self])
  (refine pCall_ownW (mk := mkWB wz ok) (mk_WB wz ok) (by simp -implicitDefEqProofs (disch := omega) only [hA0, hA1, hA2, hA3, hA4, mx, md, llx, lld, if_pos, go_sem, ht, eq_self] <;> rfl) (by simp -implicitDefEqProofs (disch := omega) only [hA0, hA1, hA2, hA3, hA4, mx, md, llx, lld, if_pos, go_sem, ht, eq_self]) (closedL_U _) (flatL_U _) (c4) ?_; intro id4 cap4 rest4 nx4 hid4 hnx4 hcap4; simp only [put_nx, withH_nx, begP_nx, List.length_map] at hid4 hcap4; simp -implicitDefEqProofs (disch := omega) only [hA0, hA1, hA2, hA3, hA4, mx, md, llx, lld, if_pos, go_sem, ht, eq_self])
  ((refine pCall_view (by simp -implicitDefEqProofs (disch := omega) only [hA0, hA1, hA2, hA3, hA4, mx, md, llx, lld, if_pos, go_sem, ht, eq_self] <;> rfl) (by simp -implicitDefEqProofs (disch := omega) only [hA0, hA1, hA2, hA3, hA4, mx, md, llx, lld, if_pos, go_sem, ht, eq_self]) (by first | (apply Or.inl; simp -implicitDefEqProofs (disch := omega) only [hA0, hA1, hA2, hA3, hA4, mx, md, llx, lld, if_pos, go_sem, ht, eq_self]; done) | (apply Or.inr; rintro r rfl; rfl)) (c5) ?_; rintro _ nx_3 - rfl hnx_3; (try simp only [put_nx, withH_nx, begP_nx] at hnx_3); simp -implicitDefEqProofs (disch := omega) only [hA0, hA1, hA2, hA3, hA4, mx, md, llx, lld, if_pos, go_sem, ht, eq_self]); (refine pCall_view (by simp -implicitDefEqProofs (disch := omega) only [hA0, hA1, hA2, hA3, hA4, mx, md, llx, lld, if_pos, go_sem, ht, eq_self] <;> rfl) (by simp -implicitDefEqProofs (disch := omega) only [hA0, hA1, hA2, hA3, hA4, mx, md, llx, lld, if_pos, go_sem, ht, eq_self]) (by first | (apply Or.inl; simp -implicitDefEqProofs (disch := omega) only [hA0, hA1, hA2, hA3, hA4, mx, md, llx, lld, if_pos, go_sem, ht, eq_self]; done) | (apply Or.inr; rintro r rfl; rfl)) (c6) ?_; rintro _ nx_4 - rfl hnx_4; (try simp only [put_nx, withH_nx, begP_nx] at hnx_4); simp -implicitDefEqProofs (disch := omega) only [hA0, hA1, hA2, hA3, hA4, mx, md, llx, lld, if_pos, go_sem, ht, eq_self]); (refine pCall_view (by simp -implicitDefEqProofs (disch := omega) only [hA0, hA1, hA2, hA3, hA4, mx, md, llx, lld, if_pos, go_sem, ht, eq_self] <;> rfl) (by simp -implicitDefEqProofs (disch := omega) only [hA0, hA1, hA2, hA3, hA4, mx, md, llx, lld, if_pos, go_sem, ht, eq_self]) (by first | (apply Or.inl; simp -implicitDefEqProofs (disch := omega) only [hA0, hA1, hA2, hA3, hA4, mx, md, llx, lld, if_pos, go_sem, ht, eq_self]; done) | (apply Or.inr; rintro r rfl; rfl)) (c7) ?_; rintro _ nx_5 - rfl hnx_5; (try simp only [put_nx, withH_nx, begP_nx] at hnx_5); simp -implicitDefEqProofs (disch := omega) only [hA0, hA1, hA2, hA3, hA4, mx, md, llx, lld, if_pos, go_sem, ht, eq_self]))
  apply pCall_mem
  exact back_calls (id := i1) hx (by omega) (by simp -implicitDefEqProofs (disch := omega) only [go_sem, ht, hA1, eq_self]) (by simp -implicitDefEqProofs (disch := omega) only [go_sem, ht, hA2, eq_self]) (by omega)
  rintro _ H4 n4 ⟨rfl, hC⟩ hn4
  simp only [put_nx, withH_nx, begP_nx] at hn4
  have hCy : H4 (nb + 1) = some [.ref i2 0 (ds.length + 10) (ds.length + 10) 1, .val (.int .i64 ds.length)] := by rw [hC _ (by omega)]; simp -implicitDefEqProofs (disch := omega) only [go_sem, ht, hA3, eq_self]
  have hCz : H4 i2 = some ((lent ds).map U) := by rw [hC _ (by omega)]; simp -implicitDefEqProofs (disch := omega) only [go_sem, ht, hA4, eq_self]
  have h4r : H4 0 = some [.val (.bool f), .sl xs.length (xs.map U), .sl ds.length (ds.map U)] := by rw [hC _ (by omega)]; simp -implicitDefEqProofs (disch := omega) only [go_sem, ht, hA0, eq_self]
  have h4tn : H4 id1 = some ((D q.num.natAbs).map U ++ rest1.map .val) := by rw [hC _ (by omega)]; simp -implicitDefEqProofs (disch := omega) only [go_sem, ht, hA0, eq_self]
  have h4td : H4 jd1 = some ((D q.den).map U ++ sest1.map .val) := by rw [hC _ (by omega)]; simp -implicitDefEqProofs (disch := omega) only [go_sem, ht, hA0, eq_self]
  have h4fl : H4 id2 = some ((D fv.natAbs).map U ++ rest2.map .val) := by rw [hC _ (by omega)]; simp -implicitDefEqProofs (disch := omega) only [go_sem, ht, hA0, eq_self]
  have h4mn : H4 id3 = some ((D (-q).num.natAbs).map U ++ rest3.map .val) := by rw [hC _ (by omega)]; simp -implicitDefEqProofs (disch := omega) only [go_sem, ht, hA0, eq_self]
  have h4md : H4 jd3 = some ((D (-q).den).map U ++ sest3.map .val) := by rw [hC _ (by omega)]; simp -implicitDefEqProofs (disch := omega) only [go_sem, ht, hA0, eq_self]
  have h4wn : H4 id4 = some ((D wz.natAbs).map U ++ rest4.map .val) := by rw [hC _ (by omega)]; simp -implicitDefEqProofs (disch := omega) only [go_sem, ht, hA0, eq_self]
  have h4tc : H4 nx1 = some [.val (.bool (decide (q.num < 0))), .ref id1 0 (D q.num.natAbs).length cap1 1, .ref jd1 0 (D q.den).length dap1 1] := by rw [hC _ (by omega)]; simp -implicitDefEqProofs (disch := omega) only [go_sem, ht, hA0, eq_self]
  have h4fc : H4 nx2 = some [.val (.bool (decide (fv < 0))), .ref id2 0 (D fv.natAbs).length cap2 1] := by rw [hC _ (by omega)]; simp -implicitDefEqProofs (disch := omega) only [go_sem, ht, hA0, eq_self]
  have h4mc : H4 nx3 = some [.val (.bool (decide ((-q).num < 0))), .ref id3 0 (D (-q).num.natAbs).length cap3 1, .ref jd3 0 (D (-q).den).length dap3 1] := by rw [hC _ (by omega)]; simp -implicitDefEqProofs (disch := omega) only [go_sem, ht, hA0, eq_self]
  have h4wc : H4 nx4 = some [.val (.bool (decide (wz < 0))), .ref id4 0 (D wz.natAbs).length cap4 1] := by rw [hC _ (by omega)]; simp -implicitDefEqProofs (disch := omega) only [go_sem, ht, hA0, eq_self]
  have h4wr : H4 nx_5 = some [.val (.bool (decide (wz < 0))), .sl (D wz.natAbs).length ((D wz.natAbs).map U)] := by rw [hC _ (by omega)]; simp -implicitDefEqProofs (disch := omega) only [go_sem, ht, hA0, eq_self]
  clear hC hA0 hA1 hA2 hA3 hA4
  simp -implicitDefEqProofs (disch := omega) only [go_sem, ht, h4r, eq_self]
  apply pCall_mem
  exact back_calls (id := i2) hd (by omega) (by simp -implicitDefEqProofs (disch := omega) only [go_sem, ht, hCy, eq_self]) (by simp -implicitDefEqProofs (disch := omega) only [go_sem, ht, hCz, eq_self]) (by omega)
  rintro _ H5 n5 ⟨rfl, hE⟩ hn5
  simp only [put_nx, withH_nx, begP_nx] at hn5
  have h5r : H5 0 = some [.val (.bool f), .sl xs.length (xs.map U), .sl ds.length (ds.map U)] := by rw [hE _ (by omega)]; simp -implicitDefEqProofs (disch := omega) only [go_sem, ht, h4r, eq_self]
  have h5tn : H5 id1 = some ((D q.num.natAbs).map U ++ rest1.map .val) := by rw [hE _ (by omega)]; simp -implicitDefEqProofs (disch := omega) only [go_sem, ht, h4tn, eq_self]
  have h5td : H5 jd1 = some ((D q.den).map U ++ sest1.map .val) := by rw [hE _ (by omega)]; simp -implicitDefEqProofs (disch := omega) only [go_sem, ht, h4td, eq_self]
  have h5fl : H5 id2 = some ((D fv.natAbs).map U ++ rest2.map .val) := by rw [hE _ (by omega)]; simp -implicitDefEqProofs (disch := omega) only [go_sem, ht, h4fl, eq_self]
  have h5mn : H5 id3 = some ((D (-q).num.natAbs).map U ++ rest3.map .val) := by rw [hE _ (by omega)]; simp -implicitDefEqProofs (disch := omega) only [go_sem, ht, h4mn, eq_self]
  have h5md : H5 jd3 = some ((D (-q).den).map U ++ sest3.map .val) := by rw [hE _ (by omega)]; simp -implicitDefEqProofs (disch := omega) only [go_sem, ht, h4md, eq_self]
  have h5wn : H5 id4 = some ((D wz.natAbs).map U ++ rest4.map .val) := by rw [hE _ (by omega)]; simp -implicitDefEqProofs (disch := omega) only [go_sem, ht, h4wn, eq_self]
  have h5tc : H5 nx1 = some [.val (.bool (decide (q.num < 0))), .ref id1 0 (D q.num.natAbs).length cap1 1, .ref jd1 0 (D q.den).length dap1 1] := by rw [hE _ (by omega)]; simp -implicitDefEqProofs (disch := omega) only [go_sem, ht, h4tc, eq_self]
  have h5fc : H5 nx2 = some [.val (.bool (decide (fv < 0))), .ref id2 0 (D fv.natAbs).length cap2 1] := by rw [hE _ (by omega)]; simp -implicitDefEqProofs (disch := omega) only [go_sem, ht, h4fc, eq_self]
  have h5mc : H5 nx3 = some [.val (.bool (decide ((-q).num < 0))), .ref id3 0 (D (-q).num.natAbs).length cap3 1, .ref jd3 0 (D (-q).den).length dap3 1] := by rw [hE _ (by omega)]; simp -implicitDefEqProofs (disch := omega) only [go_sem, ht, h4mc, eq_self]
  have h5wc : H5 nx4 = some [.val (.bool (decide (wz < 0))), .ref id4 0 (D wz.natAbs).length cap4 1] := by rw [hE _ (by omega)]; simp -implicitDefEqProofs (disch := omega) only [go_sem, ht, h4wc, eq_self]
  have h5wr : H5 nx_5 = some [.val (.bool (decide (wz < 0))), .sl (D wz.natAbs).length ((D wz.natAbs).map U)] := by rw [hE _ (by omega)]; simp -implicitDefEqProofs (disch := omega) only [go_sem, ht, h4wr, eq_self]
  clear hE hCy hCz h4r h4tn h4td h4fl h4mn h4md h4wn h4tc h4fc h4mc h4wc h4wr
  simp -implicitDefEqProofs (disch := omega) only [go_sem, ht, h5r, hok, eq_self]
  ((refine pCall_view (by simp -implicitDefEqProofs (disch := omega) only [h5r, hok, go_sem, ht, eq_self] <;> rfl) (by simp -implicitDefEqProofs (disch := omega) only [h5r, hok, go_sem, ht, eq_self]) (by first | (apply Or.inl; simp -implicitDefEqProofs (disch := omega) only [h5r, hok, go_sem, ht, eq_self]; done) | (apply Or.inr; rintro r rfl; rfl)) (c8) ?_; rintro _ nx_6 - rfl hnx_6; (try simp only [put_nx, withH_nx, begP_nx] at hnx_6); simp -implicitDefEqProofs (disch := omega) only [h5r, hok, go_sem, ht, eq_self]); (refine pCall_view (by simp -implicitDefEqProofs (disch := omega) only [h5r, hok, go_sem, ht, eq_self] <;> rfl) (by simp -implicitDefEqProofs (disch := omega) only [h5r, hok, go_sem, ht, eq_self]) (by first | (apply Or.inl; simp -implicitDefEqProofs (disch := omega) only [h5r, hok, go_sem, ht, eq_self]; done) | (apply Or.inr; rintro r rfl; rfl)) (c9) ?_; rintro _ nx_7 - rfl hnx_7; (try simp only [put_nx, withH_nx, begP_nx] at hnx_7); simp -implicitDefEqProofs (disch := omega) only [h5r, hok, go_sem, ht, eq_self]))
  simp -implicitDefEqProofs (disch := omega) only [go_sem, ht, h5r, h5tc, hok, eq_self]
  ((refine pCall_view (by simp -implicitDefEqProofs (disch := omega) only [h5r, h5tn, h5td, h5fl, h5mn, h5md, h5wn, h5tc, h5fc, h5mc, h5wc, h5wr, hok, if_pos, Nat.le_add_right, go_sem, ht, eq_self] <;> rfl) (by simp -implicitDefEqProofs (disch := omega) only [h5r, h5tn, h5td, h5fl, h5mn, h5md, h5wn, h5tc, h5fc, h5mc, h5wc, h5wr, hok, if_pos, Nat.le_add_right, go_sem, ht, eq_self]) (by first | (apply Or.inl; simp -implicitDefEqProofs (disch := omega) only [h5r, h5tn, h5td, h5fl, h5mn, h5md, h5wn, h5tc, h5fc, h5mc, h5wc, h5wr, hok, if_pos, Nat.le_add_right, go_sem, ht, eq_self]; done) | (apply Or.inr; rintro r rfl; rfl)) (c10) ?_; rintro _ nx_8 - rfl hnx_8; (try simp only [put_nx, withH_nx, begP_nx] at hnx_8); simp -implicitDefEqProofs (disch := omega) only [h5r, h5tn, h5td, h5fl, h5mn, h5md, h5wn, h5tc, h5fc, h5mc, h5wc, h5wr, hok, if_pos, Nat.le_add_right, go_sem, ht, eq_self]); (refine pCall_view (by simp -implicitDefEqProofs (disch := omega) only [h5r, h5tn, h5td, h5fl, h5mn, h5md, h5wn, h5tc, h5fc, h5mc, h5wc, h5wr, hok, if_pos, Nat.le_add_right, go_sem, ht, eq_self] <;> rfl) (by simp -implicitDefEqProofs (disch := omega) only [h5r, h5tn, h5td, h5fl, h5mn, h5md, h5wn, h5tc, h5fc, h5mc, h5wc, h5wr, hok, if_pos, Nat.le_add_right, go_sem, ht, eq_self]) (by first | (apply Or.inl; simp -implicitDefEqProofs (disch := omega) only [h5r, h5tn, h5td, h5fl, h5mn, h5md, h5wn, h5tc, h5fc, h5mc, h5wc, h5wr, hok, if_pos, Nat.le_add_right, go_sem, ht, eq_self]; done) | (apply Or.inr; rintro r rfl; rfl)) (s1) ?_; rintro _ nx_9 - rfl hnx_9; (try simp only [put_nx, withH_nx, begP_nx] at hnx_9); simp -implicitDefEqProofs (disch := omega) only [h5r, h5tn, h5td, h5fl, h5mn, h5md, h5wn, h5tc, h5fc, h5mc, h5wc, h5wr, hok, if_pos, Nat.le_add_right, go_sem, ht, eq_self]); (refine pCall_view (by simp -implicitDefEqProofs (disch := omega) only [h5r, h5tn, h5td, h5fl, h5mn, h5md, h5wn, h5tc, h5fc, h5mc, h5wc, h5wr, hok, if_pos, Nat.le_add_right, go_sem, ht, eq_self] <;> rfl) (by simp -implicitDefEqProofs (disch := omega) only [h5r, h5tn, h5td, h5fl, h5mn, h5md, h5wn, h5tc, h5fc, h5mc, h5wc, h5wr, hok, if_pos, Nat.le_add_right, go_sem, ht, eq_self]) (by first | (apply Or.inl; simp -implicitDefEqProofs (disch := omega) only [h5r, h5tn, h5td, h5fl, h5mn, h5md, h5wn, h5tc, h5fc, h5mc, h5wc, h5wr, hok, if_pos, Nat.le_add_right, go_sem, ht, eq_self]; done) | (apply Or.inr; rintro r rfl; rfl)) (c11) ?_; rintro _ nx_10 - rfl hnx_10; (try simp only [put_nx, withH_nx, begP_nx] at hnx_10); simp -implicitDefEqProofs (disch := omega) only [h5r, h5tn, h5td, h5fl, h5mn, h5md, h5wn, h5tc, h5fc, h5mc, h5wc, h5wr, hok, if_pos, Nat.le_add_right, go_sem, ht, eq_self]); (refine pCall_view (by simp -implicitDefEqProofs (disch := omega) only [h5r, h5tn, h5td, h5fl, h5mn, h5md, h5wn, h5tc, h5fc, h5mc, h5wc, h5wr, hok, if_pos, Nat.le_add_right, go_sem, ht, eq_self] <;> rfl) (by simp -implicitDefEqProofs (disch := omega) only [h5r, h5tn, h5td, h5fl, h5mn, h5md, h5wn, h5tc, h5fc, h5mc, h5wc, h5wr, hok, if_pos, Nat.le_add_right, go_sem, ht, eq_self]) (by first | (apply Or.inl; simp -implicitDefEqProofs (disch := omega) only [h5r, h5tn, h5td, h5fl, h5mn, h5md, h5wn, h5tc, h5fc, h5mc, h5wc, h5wr, hok, if_pos, Nat.le_add_right, go_sem, ht, eq_self]; done) | (apply Or.inr; rintro r rfl; rfl)) (s2) ?_; rintro _ nx_11 - rfl hnx_11; (try simp only [put_nx, withH_nx, begP_nx] at hnx_11); simp -implicitDefEqProofs (disch := omega) only [h5r, h5tn, h5td, h5fl, h5mn, h5md, h5wn, h5tc, h5fc, h5mc, h5wc, h5wr, hok, if_pos, Nat.le_add_right, go_sem, ht, eq_self]); (refine pCall_view (by simp -implicitDefEqProofs (disch := omega) only [h5r, h5tn, h5td, h5fl, h5mn, h5md, h5wn, h5tc, h5fc, h5mc, h5wc, h5wr, hok, if_pos, Nat.le_add_right, go_sem, ht, eq_self] <;> rfl) (by simp -implicitDefEqProofs (disch := omega) only [h5r, h5tn, h5td, h5fl, h5mn, h5md, h5wn, h5tc, h5fc, h5mc, h5wc, h5wr, hok, if_pos, Nat.le_add_right, go_sem, ht, eq_self]) (by first | (apply Or.inl; simp -implicitDefEqProofs (disch := omega) only [h5r, h5tn, h5td, h5fl, h5mn, h5md, h5wn, h5tc, h5fc, h5mc, h5wc, h5wr, hok, if_pos, Nat.le_add_right, go_sem, ht, eq_self]; done) | (apply Or.inr; rintro r rfl; rfl)) (c12) ?_; rintro _ nx_12 - rfl hnx_12; (try simp only [put_nx, withH_nx, begP_nx] at hnx_12); simp -implicitDefEqProofs (disch := omega) only [h5r, h5tn, h5td, h5fl, h5mn, h5md, h5wn, h5tc, h5fc, h5mc, h5wc, h5wr, hok, if_pos, Nat.le_add_right, go_sem, ht, eq_self]); (refine pCall_view (by simp -implicitDefEqProofs (disch := omega) only [h5r, h5tn, h5td, h5fl, h5mn, h5md, h5wn, h5tc, h5fc, h5mc, h5wc, h5wr, hok, if_pos, Nat.le_add_right, go_sem, ht, eq_self] <;> rfl) (by simp -implicitDefEqProofs (disch := omega) only [h5r, h5tn, h5td, h5fl, h5mn, h5md, h5wn, h5tc, h5fc, h5mc, h5wc, h5wr, hok, if_pos, Nat.le_add_right, go_sem, ht, eq_self]) (by first | (apply Or.inl; simp -implicitDefEqProofs (disch := omega) only [h5r, h5tn, h5td, h5fl, h5mn, h5md, h5wn, h5tc, h5fc, h5mc, h5wc, h5wr, hok, if_pos, Nat.le_add_right, go_sem, ht, eq_self]; done) | (apply Or.inr; rintro r rfl; rfl)) (s3) ?_; rintro _ nx_13 - rfl hnx_13; (try simp only [put_nx, withH_nx, begP_nx] at hnx_13); simp -implicitDefEqProofs (disch := omega) only [h5r, h5tn, h5td, h5fl, h5mn, h5md, h5wn, h5tc, h5fc, h5mc, h5wc, h5wr, hok, if_pos, Nat.le_add_right, go_sem, ht, eq_self]); (refine pCall_view (by simp -implicitDefEqProofs (disch := omega) only [h5r, h5tn, h5td, h5fl, h5mn, h5md, h5wn, h5tc, h5fc, h5mc, h5wc, h5wr, hok, if_pos, Nat.le_add_right, go_sem, ht, eq_self] <;> rfl) (by simp -implicitDefEqProofs (disch := omega) only [h5r, h5tn, h5td, h5fl, h5mn, h5md, h5wn, h5tc, h5fc, h5mc, h5wc, h5wr, hok, if_pos, Nat.le_add_right, go_sem, ht, eq_self]) (by first | (apply Or.inl; simp -implicitDefEqProofs (disch := omega) only [h5r, h5tn, h5td, h5fl, h5mn, h5md, h5wn, h5tc, h5fc, h5mc, h5wc, h5wr, hok, if_pos, Nat.le_add_right, go_sem, ht, eq_self]; done) | (apply Or.inr; rintro r rfl; rfl)) (s4) ?_; rintro _ nx_14 - rfl hnx_14; (try simp only [put_nx, withH_nx, begP_nx] at hnx_14); simp -implicitDefEqProofs (disch := omega) only [h5r, h5tn, h5td, h5fl, h5mn, h5md, h5wn, h5tc, h5fc, h5mc, h5wc, h5wr, hok, if_pos, Nat.le_add_right, go_sem, ht, eq_self]))
  have hbk : BK (upd H5 nx_7 (some [.val (.slice none 0 0), .val (.slice none 0 0)])) nx_14 nx_7 [] (fun j => j = nx_7) := BK.start (upd_self _ _ _) (by omega)
  have hav : AV (upd H5 nx_7 (some [.val (.slice none 0 0), .val (.slice none 0 0)])) nx_14 (fun j => j = nx_7) [(id1, (D q.num.natAbs).map U ++ rest1.map .val), (jd1, (D q.den).map U ++ sest1.map .val),
      (nx3, [.val (.bool (decide ((-q).num < 0))), .ref id3 0 (D (-q).num.natAbs).length cap3 1, .ref jd3 0 (D (-q).den).length dap3 1]), (id3, (D (-q).num.natAbs).map U ++ rest3.map .val), (jd3, (D (-q).den).map U ++ sest3.map .val),
      (nx2, [.val (.bool (decide (fv < 0))), .ref id2 0 (D fv.natAbs).length cap2 1]), (id2, (D fv.natAbs).map U ++ rest2.map .val),
      (nx4, [.val (.bool (decide (wz < 0))), .ref id4 0 (D wz.natAbs).length cap4 1]), (id4, (D wz.natAbs).map U ++ rest4.map .val)] := by
    refine AV.cons (AV.cons (AV.cons (AV.cons (AV.cons (AV.cons (AV.cons (AV.cons (AV.cons AV.nil ?_ ?_ ((upd_ne _ _ ?_).trans h5wn) ?_) ?_ ?_ ((upd_ne _ _ ?_).trans h5wc) ?_) ?_ ?_ ((upd_ne _ _ ?_).trans h5fl) ?_) ?_ ?_ ((upd_ne _ _ ?_).trans h5fc) ?_) ?_ ?_ ((upd_ne _ _ ?_).trans h5md) ?_) ?_ ?_ ((upd_ne _ _ ?_).trans h5mn) ?_) ?_ ?_ ((upd_ne _ _ ?_).trans h5mc) ?_) ?_ ?_ ((upd_ne _ _ ?_).trans h5td) ?_) ?_ ?_ ((upd_ne _ _ ?_).trans h5tn) ?_ <;> first | omega | (simp; done) | (simp; omega)
  apply pCall_mem
  exact ownr_av (B := fun j => j = nx_7) (by simp -implicitDefEqProofs (disch := omega) only [go_sem, ht, eq_self]; exact hav) (by simp -implicitDefEqProofs (disch := omega) only [go_sem, ht, eq_self]; exact hbk) (by simp) (by simp; omega) (by omega) (by simp; omega) (by omega)
  rintro _ H6 n6 ⟨rfl, B6, e6, e6', hbk6, hav6⟩ hn6
  have h6c := hav6.head
  simp -implicitDefEqProofs (disch := omega) only [go_sem, ht, h6c, eq_self]
  apply pCall_mem
  exact ownr_av (B := B6) (by simp -implicitDefEqProofs (disch := omega) only [go_sem, ht, eq_self]; exact hav6.tail) (by simp -implicitDefEqProofs (disch := omega) only [go_sem, ht, eq_self]; exact hbk6) (by simp) (by rw [List.length_append, List.length_map, List.length_map]; exact hcap3) (by omega) (by rw [List.length_append, List.length_map, List.length_map]; exact hdap3) (by omega)
  rintro _ H7 n7 ⟨rfl, B7, e7, e7', hbk7, hav7⟩ hn7
  have h7c := hav7.head
  simp -implicitDefEqProofs (disch := omega) only [go_sem, ht, h7c, eq_self]
  apply pCall_mem
  exact ownw_av (B := B7) (by simp -implicitDefEqProofs (disch := omega) only [go_sem, ht, eq_self]; exact hav7.tail) (by simp -implicitDefEqProofs (disch := omega) only [go_sem, ht, eq_self]; exact hbk7) (by simp) (by simp; omega) (by omega)
  rintro _ H8 n8 ⟨rfl, B8, e8, hbk8, hav8⟩ hn8
  have h8c := hav8.head
  simp -implicitDefEqProofs (disch := omega) only [go_sem, ht, h8c, eq_self]
  apply pCall_mem
  exact ownw_av (B := B8) (by simp -implicitDefEqProofs (disch := omega) only [go_sem, ht, eq_self]; exact hav8.tail) (by simp -implicitDefEqProofs (disch := omega) only [go_sem, ht, eq_self]; exact hbk8) (by simp) (by simp; omega) (by omega)
  rintro _ H9 n9 ⟨rfl, B9, e9, hbk9, hav9⟩ hn9
  simp -implicitDefEqProofs (disch := omega) only [go_sem, ht, eq_self]
  apply pCall_mem
  exact done_calls (es := _) (B := B9) (by simp -implicitDefEqProofs (disch := omega) only [go_sem, ht, eq_self]; exact hbk9) (by simp)
  rintro _ _ _ ⟨rfl, rfl, rfl⟩ -
  simp -implicitDefEqProofs (disch := omega) only [go_sem, ht, eq_self]
  (refine end_treeW 0 ?_; simp -implicitDefEqProofs (disch := omega) only [go_sem, ht, eq_self])
open Go.ChangeShapes Go.WideShapes Go.ChangeAt Go.RowKit
set_option maxRecDepth 100000 in
theorem ratioReads_lifted (os : Os) (started : os.Started) (H : Type) (enc : TypeId × Value → H) :
    ReturnsInHanded {} Try.checked os 6 .any (Rows.ratioReadsSpec.pre6 enc Try.prog Try.f6 Rows.ratioReadsRow.domain false) (Rows.ratioReadsSpec.post enc Try.prog Try.f6 false true false false) := by
  refine returnsInHanded_of_change_sized (C := Try.checked) law_own started (by kernel_rfl) Try.func6
    (ChangeSpec.witness6 (enc := enc) (C := Try.checked) false ⟨#[], #[.agg #[.bool false, .slice none 0 0, .slice none 0 0]], []⟩ 8 (by kernel_rfl) (by kernel_rfl) (by kernel_rfl) (by kernel_rfl)) ?_
  intro W base args ds gs before hval0 hW hcnd hsz0 _
  have hsz : (DataW.weightsEach Try.prog (Try.f6.params.toList ++ Rows.ratioReadsSpec.plain.varTypes Try.prog) (ds ++ gs)).all (· ≤ reachBytes) = true := hsz0
  have hval : ∀ (j : Nat) t v, Try.f6.params[j]? = some t → args[j]? = some v → Value.okWide Try.prog W .any base t v := hval0
  have hW' := hW
  obtain ⟨p, q, hA0, hV, rfl, hfz, hnd⟩ := hW
  have hA : DataW.TrodAll enc Try.prog W 0 (fun _ => true) true Try.f6.params.toList args.toList ds p := hA0
  rw [Try.params6] at hA hval hsz
  obtain ⟨v0, vs0, d0, ds0, p0, q0, hargs, rfl, rfl, h0, r0⟩ := trodAll_cons hA
  obtain ⟨rfl, rfl, rfl⟩ := trodAll_nil r0
  obtain rfl : args = #[v0] := by cases args; simp_all
  obtain ⟨rfl, rfl⟩ := trodVars_none hV
  simp only [List.append_nil, List.cons_append, List.nil_append, DataW.weightsEach, List.all_append, Bool.and_eq_true] at hsz
  have lt0 : ∀ x ∈ p0, x.block < W.heap.size := by obtain ⟨m, hm⟩ := h0; exact DataW.trod_lt m _ _ _ hm
  obtain ⟨f0, x0, y0, lm0, len0, ln0, lem0, rep0⟩ := arg_ratio Try.underlying28 (by kernel_rfl) rfl rfl (by kernel_rfl) (by kernel_rfl) Try.underlying24 (by kernel_rfl) rfl rfl (by kernel_rfl) (by kernel_rfl) Try.underlying4 Try.underlying22 Try.underlying22 Try.underlying39 (by kernel_rfl) (by kernel_rfl) (by kernel_rfl) (hval 0 28 v0 rfl rfl) h0 hsz.1
  refine (law_run (rreads_law lm0 len0 ln0 lem0) (vs := [v0]) (by simp only [RepL]; exact ⟨rep0, trivial⟩)).mono fun e W' ⟨⟨v, r, he, hr, hx⟩, bel⟩ => ?_
  subst he; rw [hx _ hr]
  exact ⟨_, rfl, _, _, _, [], _, [], hW', trodAll_mk1 (shut_bool Try.underlying4 _), (trodAll_cons_mk (Below.trod law_laidOut (by kernel_rfl) (of_decide_eq_true (by kernel_rfl)) h0 bel lt0) trodAll_mk0), rfl, bel.frame _, fun h => by cases h⟩
theorem ratioReads_holds : Rows.RatioReadsSaid :=
  OpenClaim.holds_of_wide 6 Try.f6 rfl rfl rfl rfl rfl rfl rfl ⟨rfl, rfl, rfl, rfl, rfl⟩ rfl rfl rfl rfl rfl (by kernel_rfl) Try.func6 (by kernel_rfl)
    (of_decide_eq_true (by kernel_rfl)) (by unfold Func.isWrapper; first | (rw [if_pos (by decide +kernel)]; kernel_rfl) | (rw [if_neg (by decide +kernel)]; exact ⟨rfl, rfl⟩))
    (fun os started H enc _ => ratioReads_lifted os started H enc)
end Go.Proofs.Ytgebemjmckgomaa
