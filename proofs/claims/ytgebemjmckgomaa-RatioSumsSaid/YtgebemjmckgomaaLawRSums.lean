/- The statement RatioSums holds of the given program: for every two fractions the law answers true. Its conditions are those of the given statement, and no others. -/
import Derived.Test.YtgebemjmckgomaaRefT
import Derived.Test.YtgebemjmckgomaaRatioD
import Derived.Test.YtgebemjmckgomaaBookR
set_option maxRecDepth 100000
set_option linter.unusedVariables false
set_option linter.unusedSimpArgs false
namespace Go.Proofs.Ytgebemjmckgomaa

/-- A quotient, whatever it is: what the program tells and what the document tells. -/
theorem rdiv_all {b d : Bool} {xs ds ys es : List Nat} {q p : Rat} {k : Nat} (h : Fn b xs ds q k) (g : Fn d ys es p k) (hk : 3 * k ≤ 100000) :
    ∃ (dneg : Bool) (la lb : List Nat) (e : Nat), la.length ≤ 1099511627776 ∧ lb.length ≤ 1099511627776 ∧ e ≤ 100 ∧ PO2 Try.prog 36 [FX b xs ds, FX d ys es] (fun p1 p2 => .tup [.agg [.val (.bool dneg), p1, p2], .val (.int .i64 e)]) (la.map U) (lb.map U) ∧
      PT Try.prog 51 [FX b xs ds, FX d ys es] (isV (.tup [.agg [.val (.bool dneg), .sl la.length (la.map U), .sl lb.length (lb.map U)], .val (.int .i64 e)])) ∧
      PT Try.prog 18 [.agg [.val (.bool dneg), .sl la.length (la.map U), .sl lb.length (lb.map U)], .agg [.val (.bool dneg), .sl la.length (la.map U), .sl lb.length (lb.map U)]] (isV (.val (.bool true))) := by
  have hk1 := h.hk1
  by_cases hp : p = 0
  · subst hp
    refine ⟨false, [], [], 20, by simp, by simp, by omega, ?_, ?_, same_fz⟩
    · have := rdivF_zero (b := b) (xs := xs) (ds := ds) g
      have e : mkFE 0 20 = fun p1 p2 => .tup [.agg [.val (.bool false), p1, p2], .val (.int .i64 (20 : Nat))] := by
        funext p1 p2
        rw [mkFE_def, Rat.zero_num]; rfl
      rw [e] at this
      exact this
    · have := Ref.r3div_zero (b := b) (xs := xs) (ds := ds) g (by omega)
      exact this
  · have z : Zq (3 * k) (q / p) := by
      have hq := h.zq
      have hz := g.zq
      have hp0 : p.num ≠ 0 := fun e => hp (Rat.num_eq_zero.1 e)
      rw [← rat_div hp0]
      have z1 : Z (2 * k) (q.num * p.den) := by rw [Nat.two_mul]; exact hq.num.mul (show Z k (p.den : Int) from hz.den)
      refine .of (by omega) ?_ (lt_mono (lt_mul hq.den hz.num) (by omega))
      split
      · exact z1.neg.mono (by omega)
      · exact z1.mono (by omega)
    refine ⟨decide ((q / p).num < 0), D (q / p).num.natAbs, D (q / p).den, 0, (z.num.ok (by omega)).len, (Ok.D z.den (by omega)).len, by omega, rdivF h g hp hk, Ref.r3div h g hp hk, same_rt z (by omega) rfl⟩
set_option maxHeartbeats 40000000 in
theorem rsums_law {f g : Bool} {xs ds ys es : List Nat} (hx : Lm xs) (hx' : xs.length ≤ 35184372087808) (hd : Lm ds) (hd' : ds.length ≤ 35184372087808) (hy : Lm ys) (hy' : ys.length ≤ 35184372087808) (he : Lm es) (he' : es.length ≤ 35184372087808) :
    PT Try.prog 8 [FX f xs ds, FX g ys es] (isV (.val (.bool true))) := by
  have lx := len_ratio (b := f) hx' hd'
  have ly := len_ratio (b := g) hy' he'
  refine PCalls.enter (n := 152) (rs := [.tmp 4]) (tb := [(3, [(0, []), (2, []), (1, [2]), (3, []), (4, []), (5, [])]), (13, [(0, []), (1, []), (3, []), (4, []), (6, []), (7, []), (2, [3, 4, 6, 7]), (5, [6, 7]), (8, []), (9, [0, 1, 3, 4, 6, 7]), (10, [0, 1, 3, 4, 6, 7]), (11, [0, 1, 3, 4, 6, 7]), (12, []), (13, []), (14, [])]), (1000013, [(0, []), (0, []), (3, []), (0, []), (0, []), (31, []), (0, []), (0, []), (255, []), (0, []), (0, []), (0, []), (4095, []), (8191, []), (16383, [])]), (18, [(0, []), (1, []), (2, []), (3, [0]), (4, []), (5, []), (6, []), (7, []), (8, []), (9, []), (10, [7]), (11, []), (12, []), (13, []), (14, []), (15, []), (16, []), (17, []), (18, [15]), (19, []), (20, []), (21, []), (22, []), (23, []), (24, []), (25, []), (26, []), (27, [])]), (1000018, [(0, []), (0, []), (0, []), (6, []), (15, []), (31, []), (63, []), (127, []), (127, []), (127, []), (895, []), (2047, []), (4095, []), (8191, []), (16383, []), (32767, []), (32767, []), (32767, []), (229375, []), (524287, []), (1048575, []), (2097151, []), (4194303, []), (8388607, []), (8388607, []), (33554431, []), (67108863, []), (134217727, [])])]) Try.func8 rfl rfl rfl (by kernel_rfl) (by kernel_rfl) (by simp) fun c hc ht => ?_
  simp -implicitDefEqProofs (disch := omega) only [go_sem, ht, eq_self]
  ((refine pCall_view (by simp -implicitDefEqProofs (disch := omega) only [go_sem, ht, eq_self] <;> rfl) (by simp -implicitDefEqProofs (disch := omega) only [go_sem, ht, eq_self]) (by first | (apply Or.inl; simp -implicitDefEqProofs (disch := omega) only [go_sem, ht, eq_self]; done) | (apply Or.inr; rintro r rfl; rfl)) (awake_ratio) ?_; rintro _ nx_1 - rfl hnx_1; (try simp only [put_nx, withH_nx, begP_nx] at hnx_1); simp -implicitDefEqProofs (disch := omega) only [go_sem, ht, eq_self]); (refine pCall_view (by simp -implicitDefEqProofs (disch := omega) only [go_sem, ht, eq_self] <;> rfl) (by simp -implicitDefEqProofs (disch := omega) only [go_sem, ht, eq_self]) (by first | (apply Or.inl; simp -implicitDefEqProofs (disch := omega) only [go_sem, ht, eq_self]; done) | (apply Or.inr; rintro r rfl; rfl)) (lx) ?_; rintro _ nx_2 - rfl hnx_2; (try simp only [put_nx, withH_nx, begP_nx] at hnx_2); simp -implicitDefEqProofs (disch := omega) only [go_sem, ht, eq_self]))
  by_cases hl : 1500 < 1 + xs.length + ds.length + (1 + ys.length + es.length)
  · ((refine pCall_view (by simp -implicitDefEqProofs (disch := omega) only [go_sem, ht, eq_self] <;> rfl) (by simp -implicitDefEqProofs (disch := omega) only [go_sem, ht, eq_self]) (by first | (apply Or.inl; simp -implicitDefEqProofs (disch := omega) only [go_sem, ht, eq_self]; done) | (apply Or.inr; rintro r rfl; rfl)) (ly) ?_; rintro _ nx_3 - rfl hnx_3; (try simp only [put_nx, withH_nx, begP_nx] at hnx_3); simp -implicitDefEqProofs (disch := omega) only [go_sem, ht, eq_self]))
    (refine end_treeW 0 ?_; simp -implicitDefEqProofs (disch := omega) only [go_sem, ht, eq_self])
  obtain ⟨K, hK, hK1, kx, kd, ky, ke⟩ : ∃ K, K ≤ 1500 ∧ 1 ≤ K ∧ xs.length ≤ K ∧ ds.length ≤ K ∧ ys.length ≤ K ∧ es.length ≤ K := ⟨1500, Nat.le_refl _, by omega, by omega, by omega, by omega, by omega⟩
  have px := Fn.raw (b := f) hx hd kx kd (by omega) hK1
  have py := Fn.raw (b := g) hy he ky ke (by omega) hK1
  generalize FV f xs ds = q at *
  generalize FV g ys es = p at *
  have hq := px.zq
  have hp := py.zq
  have mx := lent_mid xs
  have md := lent_mid ds
  have my := lent_mid ys
  have me := lent_mid es
  have llx := lent_len xs
  have lld := lent_len ds
  have lly := lent_len ys
  have lle := lent_len es
  have c1 := raddF px py (by omega)
  have c2 := rsubF px py (by omega)
  have c3 := rmulF px py (by omega)
  obtain ⟨dneg, la, lb, e, hla, hlb, hee, c4, r4, s4⟩ := rdiv_all px py (by omega)
  have c5 := rcmpW px py (by omega)
  have r1 := Ref.r3add px py (by omega)
  have r2 := Ref.r3sub px py (by omega)
  have r3 := Ref.r3mul px py (by omega)
  have r5 := Ref.r3cmp px py (by omega)
  have r6 := Ref.num_calls (s := e) (by omega) (by omega)
  have z1 := hq.add hp hK1
  have z2 : Zq (2 * K + 1) (q - p) := by rw [Rat.sub_eq_add_neg]; exact hq.add (p := -p) ⟨hp.num.neg, hp.den⟩ hK1
  have z3 := Zq.mul px py
  have s1 := same_rt z1 (by omega) rfl
  have s2 := same_rt z2 (by omega) rfl
  have s3 := same_rt z3 (by omega) rfl
  have o1 := (z1.num.ok (by omega)).len
  have o2 := (Ok.D z1.den (by omega)).len
  have o3 := (z2.num.ok (by omega)).len
  have o4 := (Ok.D z2.den (by omega)).len
  have o5 := (z3.num.ok (by omega)).len
  have o6 := (Ok.D z3.den (by omega)).len
  clear px py hq hp z1 z2 z3
  generalize q + p = sm at *
  generalize q - p = df at *
  generalize q * p = pr at *
  generalize cR q p = kc at *
  (refine pCall_view (by simp -implicitDefEqProofs (disch := omega) only [go_sem, ht, eq_self] <;> rfl) (by simp -implicitDefEqProofs (disch := omega) only [go_sem, ht, eq_self]) (by first | (apply Or.inl; simp -implicitDefEqProofs (disch := omega) only [go_sem, ht, eq_self]; done) | (apply Or.inr; rintro r rfl; rfl)) (ly) ?_; rintro _ nx - rfl hnx; (try simp only [put_nx, withH_nx, begP_nx] at hnx); simp -implicitDefEqProofs (disch := omega) only [go_sem, ht, eq_self])
  generalize nx = nl at *
  (refine pCall_view (by simp -implicitDefEqProofs (disch := omega) only [go_sem, ht, eq_self] <;> rfl) (by simp -implicitDefEqProofs (disch := omega) only [go_sem, ht, eq_self]) (by first | (apply Or.inl; simp -implicitDefEqProofs (disch := omega) only [go_sem, ht, eq_self]; done) | (apply Or.inr; rintro r rfl; rfl)) (r4) ?_; rintro _ nx - rfl hnx; (try simp only [put_nx, withH_nx, begP_nx] at hnx); simp -implicitDefEqProofs (disch := omega) only [go_sem, ht, eq_self])
  generalize nx = nd at *
  have hmk4 : Mk2 (fun p1 p2 => .tup [.agg [.val (.bool dneg), p1, p2], .val (.int .i64 e)]) := mk_fv _ _
  refine LW.loopW hc ht (by kernel_rfl) (fun t => t.sl 2 = .ptr 0 0 ∧ t.sl 3 = .ptr 1 0 ∧ t.sl 5 = .ptr nd 0 ∧ t.sl 6 = .val (.int .i64 e) ∧ t.sl 7 = .ptr (nd + 1) 0 ∧ nd + 2 ≤ t.nx ∧
      ∃ i : Nat, i ≤ 2 ∧ t.sl 8 = .val (.int .i64 i) ∧ ∃ bs B, BK t.H t.nx (nd + 1) bs B ∧ bs.length = 8 * i ∧ AV t.H t.nx B [(0, [.val (.bool f), .sl xs.length (xs.map U), .sl ds.length (ds.map U)]), (1, [.val (.bool g), .sl ys.length (ys.map U), .sl es.length (es.map U)]), (nd, [.val (.bool dneg), .sl la.length (la.map U), .sl lb.length (lb.map U)])])
      (fun t => match t.sl 8 with | .val (.int _ i) => 2 - i.toNat | _ => 0) ?_ ?_
  · simp -implicitDefEqProofs (disch := omega) only [go_sem, ht, eq_self]
    refine ⟨by omega, 0, by omega, rfl, [], (fun j => j = nd + 1), BK.start (by simp -implicitDefEqProofs (disch := omega) only [go_sem, ht, eq_self]) (by omega), rfl, ?_⟩
    refine AV.cons (AV.cons (AV.cons AV.nil ?_ ?_ (by simp -implicitDefEqProofs (disch := omega) only [go_sem, ht, eq_self]) ?_) ?_ ?_ (by simp -implicitDefEqProofs (disch := omega) only [go_sem, ht, eq_self]) ?_) ?_ ?_ (by simp -implicitDefEqProofs (disch := omega) only [go_sem, ht, eq_self]) ?_ <;> first | omega | (simp; done) | (simp; omega)
  · rintro t ⟨h2, h3, h5, h6, h7, hnn, i, hi, h8, bs, B, hB, hbl, hA⟩
    by_cases hi2 : i = 2
    · simp -implicitDefEqProofs (disch := omega) only [go_sem, ht, h2, h3, h5, h6, h7, h8, eq_self]
      apply pCall_mem
      exact done_calls (es := bs) (B := B) (by simp -implicitDefEqProofs (disch := omega) only [go_sem, ht, eq_self]; exact hB) (by omega)
      rintro _ _ _ ⟨rfl, rfl, rfl⟩ -
      simp -implicitDefEqProofs (disch := omega) only [go_sem, ht, eq_self]
      (refine end_treeW 0 ?_; simp -implicitDefEqProofs (disch := omega) only [go_sem, ht, eq_self])
    · obtain ⟨n0, en⟩ : ∃ n0, t.nx = n0 := ⟨_, rfl⟩
      rw [en] at hB hA hnn
      have hBlt := hB.lt
      have t0 := hA.head
      have t1 := hA.tail.head
      have td := hA.tail.tail.head
      simp -implicitDefEqProofs (disch := omega) only [go_sem, ht, h2, h3, h5, h6, h7, h8, t0, en, eq_self]
      apply pCall_mem
      exact lent2_calls (b := f) hx (by omega) hd (by omega) (by simp -implicitDefEqProofs (disch := omega) only [go_sem, ht, en, eq_self]) (by simp -implicitDefEqProofs (disch := omega) only [go_sem, ht, en, eq_self]) (by simp -implicitDefEqProofs (disch := omega) only [go_sem, ht, en, eq_self] <;> omega) (by simp -implicitDefEqProofs (disch := omega) only [go_sem, ht, en, eq_self] <;> omega) (by omega)
      rintro _ H1 n1 ⟨i1, i2, hi1, hi12, hi2', rfl, hA1, hA2, hA3, hA4, hAF⟩ hn1
      simp only [put_nx, withH_nx, begP_nx, en] at hi1 hi2' hn1
      have hAc : H1 (n0 + 1 + 1) = some [.val (.slice none 0 0), .val (.int .i64 0)] := by rw [hAF _ (by simp -implicitDefEqProofs (disch := omega) only [go_sem, ht, en, eq_self] <;> omega) (by omega) (by omega)]; simp -implicitDefEqProofs (disch := omega) only [go_sem, ht, en, eq_self]
      have hAd : H1 (n0 + 1 + 1 + 1) = some [.val (.slice none 0 0), .val (.int .i64 0)] := by rw [hAF _ (by simp -implicitDefEqProofs (disch := omega) only [go_sem, ht, en, eq_self] <;> omega) (by omega) (by omega)]; simp -implicitDefEqProofs (disch := omega) only [go_sem, ht, en, eq_self]
      have hAL : ∀ j, j < n0 → H1 j = t.H j := fun j hj => by rw [hAF _ (by simp -implicitDefEqProofs (disch := omega) only [go_sem, ht, en, eq_self] <;> omega) (by omega) (by omega)]; simp -implicitDefEqProofs (disch := omega) only [go_sem, ht, en, eq_self]
      have a1 := (hAL 1 (by omega)).trans t1
      clear hAF
      simp -implicitDefEqProofs (disch := omega) only [go_sem, ht, h2, h3, h5, h6, h7, h8, a1, eq_self]
      apply pCall_mem
      exact lent2_calls (b := g) hy (by omega) he (by omega) (by simp -implicitDefEqProofs (disch := omega) only [go_sem, ht, hAc, eq_self]) (by simp -implicitDefEqProofs (disch := omega) only [go_sem, ht, hAd, eq_self]) (by simp -implicitDefEqProofs (disch := omega) only [go_sem, ht, eq_self] <;> omega) (by simp -implicitDefEqProofs (disch := omega) only [go_sem, ht, eq_self] <;> omega) (by omega)
      rintro _ H2 n2 ⟨i3, i4, hi3, hi34, hi4', rfl, hB1, hB2, hB3, hB4, hBF⟩ hn2
      simp only [put_nx, withH_nx, begP_nx] at hi3 hi4' hn2
      have hBa : H2 n0 = some [.ref i1 0 (xs.length + 10) (xs.length + 10) 1, .val (.int .i64 xs.length)] := by rw [hBF _ (by simp -implicitDefEqProofs (disch := omega) only [go_sem, ht, eq_self] <;> omega) (by omega) (by omega)]; simp -implicitDefEqProofs (disch := omega) only [go_sem, ht, hA1, eq_self]
      have hBb : H2 i1 = some ((lent xs).map U) := by rw [hBF _ (by simp -implicitDefEqProofs (disch := omega) only [go_sem, ht, eq_self] <;> omega) (by omega) (by omega)]; simp -implicitDefEqProofs (disch := omega) only [go_sem, ht, hA2, eq_self]
      have hBc : H2 (n0 + 1) = some [.ref i2 0 (ds.length + 10) (ds.length + 10) 1, .val (.int .i64 ds.length)] := by rw [hBF _ (by simp -implicitDefEqProofs (disch := omega) only [go_sem, ht, eq_self] <;> omega) (by omega) (by omega)]; simp -implicitDefEqProofs (disch := omega) only [go_sem, ht, hA3, eq_self]
      have hBd : H2 i2 = some ((lent ds).map U) := by rw [hBF _ (by simp -implicitDefEqProofs (disch := omega) only [go_sem, ht, eq_self] <;> omega) (by omega) (by omega)]; simp -implicitDefEqProofs (disch := omega) only [go_sem, ht, hA4, eq_self]
      have hBx : H2 n1 = some [.val (.bool f), .ref i1 5 xs.length (xs.length + 5) 1, .ref i2 5 ds.length (ds.length + 5) 1] := by rw [hBF _ (by simp -implicitDefEqProofs (disch := omega) only [go_sem, ht, eq_self] <;> omega) (by omega) (by omega)]; simp -implicitDefEqProofs (disch := omega) only [go_sem, ht, eq_self]
      have hBL : ∀ j, j < n0 → H2 j = t.H j := fun j hj => by rw [hBF _ (by simp -implicitDefEqProofs (disch := omega) only [go_sem, ht, eq_self] <;> omega) (by omega) (by omega)]; simp -implicitDefEqProofs (disch := omega) only [go_sem, ht, eq_self]; exact hAL j hj
      have b0 := (hBL 0 (by omega)).trans t0
      have b1 := (hBL 1 (by omega)).trans t1
      have bd := (hBL nd (by omega)).trans td
      clear hBF hA1 hA2 hA3 hA4 hAc hAd hAL a1
      simp -implicitDefEqProofs (disch := omega) only [go_sem, ht, h2, h3, h5, h6, h7, h8, hBx, eq_self]
      (refine pCall_own2 (mk := mkF sm) (mk_F sm) (by simp -implicitDefEqProofs (disch := omega) only [h2, h3, h5, h6, h7, h8, hBx, hBa, hBb, hBc, hBd, hB1, hB2, hB3, hB4, mx, md, my, me, llx, lld, lly, lle, if_pos, go_sem, ht, eq_self] <;> rfl) (by simp -implicitDefEqProofs (disch := omega) only [h2, h3, h5, h6, h7, h8, hBx, hBa, hBb, hBc, hBd, hB1, hB2, hB3, hB4, mx, md, my, me, llx, lld, lly, lle, if_pos, go_sem, ht, eq_self]) (closedL_U _) (flatL_U _) (closedL_U _) (flatL_U _) (c1) ?_; intro id1 cap1 rest1 jd1 dap1 sest1 nx1 hid1 hnx1 hjd1 hmx1 hne1 hcap1 hdap1; simp only [put_nx, withH_nx, begP_nx, List.length_map] at hid1 hjd1 hcap1 hdap1; simp -implicitDefEqProofs (disch := omega) only [h2, h3, h5, h6, h7, h8, hBx, hBa, hBb, hBc, hBd, hB1, hB2, hB3, hB4, mx, md, my, me, llx, lld, lly, lle, if_pos, go_sem, ht, eq_self])
      (refine pCall_own2 (mk := mkF df) (mk_F df) (by simp -implicitDefEqProofs (disch := omega) only [h2, h3, h5, h6, h7, h8, hBx, hBa, hBb, hBc, hBd, hB1, hB2, hB3, hB4, mx, md, my, me, llx, lld, lly, lle, if_pos, go_sem, ht, eq_self] <;> rfl) (by simp -implicitDefEqProofs (disch := omega) only [h2, h3, h5, h6, h7, h8, hBx, hBa, hBb, hBc, hBd, hB1, hB2, hB3, hB4, mx, md, my, me, llx, lld, lly, lle, if_pos, go_sem, ht, eq_self]) (closedL_U _) (flatL_U _) (closedL_U _) (flatL_U _) (c2) ?_; intro id2 cap2 rest2 jd2 dap2 sest2 nx2 hid2 hnx2 hjd2 hmx2 hne2 hcap2 hdap2; simp only [put_nx, withH_nx, begP_nx, List.length_map] at hid2 hjd2 hcap2 hdap2; simp -implicitDefEqProofs (disch := omega) only [h2, h3, h5, h6, h7, h8, hBx, hBa, hBb, hBc, hBd, hB1, hB2, hB3, hB4, mx, md, my, me, llx, lld, lly, lle, if_pos, go_sem, ht, eq_self])
      (refine pCall_own2 (mk := mkF pr) (mk_F pr) (by simp -implicitDefEqProofs (disch := omega) only [h2, h3, h5, h6, h7, h8, hBx, hBa, hBb, hBc, hBd, hB1, hB2, hB3, hB4, mx, md, my, me, llx, lld, lly, lle, if_pos, go_sem, ht, eq_self] <;> rfl) (by simp -implicitDefEqProofs (disch := omega) only [h2, h3, h5, h6, h7, h8, hBx, hBa, hBb, hBc, hBd, hB1, hB2, hB3, hB4, mx, md, my, me, llx, lld, lly, lle, if_pos, go_sem, ht, eq_self]) (closedL_U _) (flatL_U _) (closedL_U _) (flatL_U _) (c3) ?_; intro id3 cap3 rest3 jd3 dap3 sest3 nx3 hid3 hnx3 hjd3 hmx3 hne3 hcap3 hdap3; simp only [put_nx, withH_nx, begP_nx, List.length_map] at hid3 hjd3 hcap3 hdap3; simp -implicitDefEqProofs (disch := omega) only [h2, h3, h5, h6, h7, h8, hBx, hBa, hBb, hBc, hBd, hB1, hB2, hB3, hB4, mx, md, my, me, llx, lld, lly, lle, if_pos, go_sem, ht, eq_self])
      (refine pCall_own2 (mk := (fun p1 p2 => .tup [.agg [.val (.bool dneg), p1, p2], .val (.int .i64 e)])) (hmk4) (by simp -implicitDefEqProofs (disch := omega) only [h2, h3, h5, h6, h7, h8, hBx, hBa, hBb, hBc, hBd, hB1, hB2, hB3, hB4, mx, md, my, me, llx, lld, lly, lle, if_pos, go_sem, ht, eq_self] <;> rfl) (by simp -implicitDefEqProofs (disch := omega) only [h2, h3, h5, h6, h7, h8, hBx, hBa, hBb, hBc, hBd, hB1, hB2, hB3, hB4, mx, md, my, me, llx, lld, lly, lle, if_pos, go_sem, ht, eq_self]) (closedL_U _) (flatL_U _) (closedL_U _) (flatL_U _) (c4) ?_; intro id4 cap4 rest4 jd4 dap4 sest4 nx4 hid4 hnx4 hjd4 hmx4 hne4 hcap4 hdap4; simp only [put_nx, withH_nx, begP_nx, List.length_map] at hid4 hjd4 hcap4 hdap4; simp -implicitDefEqProofs (disch := omega) only [h2, h3, h5, h6, h7, h8, hBx, hBa, hBb, hBc, hBd, hB1, hB2, hB3, hB4, mx, md, my, me, llx, lld, lly, lle, if_pos, go_sem, ht, eq_self])
      ((refine pCall_view (by simp -implicitDefEqProofs (disch := omega) only [h2, h3, h5, h6, h7, h8, hBx, hBa, hBb, hBc, hBd, hB1, hB2, hB3, hB4, b0, b1, mx, md, my, me, llx, lld, lly, lle, if_pos, go_sem, ht, eq_self] <;> rfl) (by simp -implicitDefEqProofs (disch := omega) only [h2, h3, h5, h6, h7, h8, hBx, hBa, hBb, hBc, hBd, hB1, hB2, hB3, hB4, b0, b1, mx, md, my, me, llx, lld, lly, lle, if_pos, go_sem, ht, eq_self]) (by first | (apply Or.inl; simp -implicitDefEqProofs (disch := omega) only [h2, h3, h5, h6, h7, h8, hBx, hBa, hBb, hBc, hBd, hB1, hB2, hB3, hB4, b0, b1, mx, md, my, me, llx, lld, lly, lle, if_pos, go_sem, ht, eq_self]; done) | (apply Or.inr; rintro r rfl; rfl)) (c5) ?_; rintro _ nx_4 - rfl hnx_4; (try simp only [put_nx, withH_nx, begP_nx] at hnx_4); simp -implicitDefEqProofs (disch := omega) only [h2, h3, h5, h6, h7, h8, hBx, hBa, hBb, hBc, hBd, hB1, hB2, hB3, hB4, b0, b1, mx, md, my, me, llx, lld, lly, lle, if_pos, go_sem, ht, eq_self]))
      apply pCall_mem
      exact back_calls (id := i1) hx (by omega) (by simp -implicitDefEqProofs (disch := omega) only [go_sem, ht, hBa, eq_self]) (by simp -implicitDefEqProofs (disch := omega) only [go_sem, ht, hBb, eq_self]) (by omega)
      rintro _ H4 n4 ⟨rfl, hC4⟩ hn4
      simp only [put_nx, withH_nx, begP_nx] at hn4
      have l42 : H4 (n0 + 1) = some [.ref i2 0 (ds.length + 10) (ds.length + 10) 1, .val (.int .i64 ds.length)] := by rw [hC4 _ (by omega)]; simp -implicitDefEqProofs (disch := omega) only [go_sem, ht, hBc, eq_self]
      have m42 : H4 i2 = some ((lent ds).map U) := by rw [hC4 _ (by omega)]; simp -implicitDefEqProofs (disch := omega) only [go_sem, ht, hBd, eq_self]
      have l43 : H4 (n0 + 1 + 1) = some [.ref i3 0 (ys.length + 10) (ys.length + 10) 1, .val (.int .i64 ys.length)] := by rw [hC4 _ (by omega)]; simp -implicitDefEqProofs (disch := omega) only [go_sem, ht, hB1, eq_self]
      have m43 : H4 i3 = some ((lent ys).map U) := by rw [hC4 _ (by omega)]; simp -implicitDefEqProofs (disch := omega) only [go_sem, ht, hB2, eq_self]
      have l44 : H4 (n0 + 1 + 1 + 1) = some [.ref i4 0 (es.length + 10) (es.length + 10) 1, .val (.int .i64 es.length)] := by rw [hC4 _ (by omega)]; simp -implicitDefEqProofs (disch := omega) only [go_sem, ht, hB3, eq_self]
      have m44 : H4 i4 = some ((lent es).map U) := by rw [hC4 _ (by omega)]; simp -implicitDefEqProofs (disch := omega) only [go_sem, ht, hB4, eq_self]
      have h4r : H4 0 = some [.val (.bool f), .sl xs.length (xs.map U), .sl ds.length (ds.map U)] := by rw [hC4 _ (by omega)]; simp -implicitDefEqProofs (disch := omega) only [go_sem, ht, b0, b1, bd, eq_self]
      have h4s : H4 1 = some [.val (.bool g), .sl ys.length (ys.map U), .sl es.length (es.map U)] := by rw [hC4 _ (by omega)]; simp -implicitDefEqProofs (disch := omega) only [go_sem, ht, b0, b1, bd, eq_self]
      have h4dv : H4 nd = some [.val (.bool dneg), .sl la.length (la.map U), .sl lb.length (lb.map U)] := by rw [hC4 _ (by omega)]; simp -implicitDefEqProofs (disch := omega) only [go_sem, ht, b0, b1, bd, eq_self]
      have h4an : H4 id1 = some ((D sm.num.natAbs).map U ++ rest1.map .val) := by rw [hC4 _ (by omega)]; simp -implicitDefEqProofs (disch := omega) only [go_sem, ht, b0, b1, bd, eq_self]
      have h4ad : H4 jd1 = some ((D sm.den).map U ++ sest1.map .val) := by rw [hC4 _ (by omega)]; simp -implicitDefEqProofs (disch := omega) only [go_sem, ht, b0, b1, bd, eq_self]
      have h4bn : H4 id2 = some ((D df.num.natAbs).map U ++ rest2.map .val) := by rw [hC4 _ (by omega)]; simp -implicitDefEqProofs (disch := omega) only [go_sem, ht, b0, b1, bd, eq_self]
      have h4bd : H4 jd2 = some ((D df.den).map U ++ sest2.map .val) := by rw [hC4 _ (by omega)]; simp -implicitDefEqProofs (disch := omega) only [go_sem, ht, b0, b1, bd, eq_self]
      have h4cn : H4 id3 = some ((D pr.num.natAbs).map U ++ rest3.map .val) := by rw [hC4 _ (by omega)]; simp -implicitDefEqProofs (disch := omega) only [go_sem, ht, b0, b1, bd, eq_self]
      have h4cd : H4 jd3 = some ((D pr.den).map U ++ sest3.map .val) := by rw [hC4 _ (by omega)]; simp -implicitDefEqProofs (disch := omega) only [go_sem, ht, b0, b1, bd, eq_self]
      have h4qn : H4 id4 = some (la.map U ++ rest4.map .val) := by rw [hC4 _ (by omega)]; simp -implicitDefEqProofs (disch := omega) only [go_sem, ht, b0, b1, bd, eq_self]
      have h4qd : H4 jd4 = some (lb.map U ++ sest4.map .val) := by rw [hC4 _ (by omega)]; simp -implicitDefEqProofs (disch := omega) only [go_sem, ht, b0, b1, bd, eq_self]
      have h4ac : H4 nx3 = some [.val (.bool (decide (sm.num < 0))), .ref id1 0 (D sm.num.natAbs).length cap1 1, .ref jd1 0 (D sm.den).length dap1 1] := by rw [hC4 _ (by omega)]; simp -implicitDefEqProofs (disch := omega) only [go_sem, ht, b0, b1, bd, eq_self]
      have h4bc : H4 (nx3 + 1) = some [.val (.bool (decide (df.num < 0))), .ref id2 0 (D df.num.natAbs).length cap2 1, .ref jd2 0 (D df.den).length dap2 1] := by rw [hC4 _ (by omega)]; simp -implicitDefEqProofs (disch := omega) only [go_sem, ht, b0, b1, bd, eq_self]
      have h4cc : H4 (nx3 + 1 + 1) = some [.val (.bool (decide (pr.num < 0))), .ref id3 0 (D pr.num.natAbs).length cap3 1, .ref jd3 0 (D pr.den).length dap3 1] := by rw [hC4 _ (by omega)]; simp -implicitDefEqProofs (disch := omega) only [go_sem, ht, b0, b1, bd, eq_self]
      have h4qc : H4 nx4 = some [.val (.bool dneg), .ref id4 0 la.length cap4 1, .ref jd4 0 lb.length dap4 1] := by rw [hC4 _ (by omega)]; simp -implicitDefEqProofs (disch := omega) only [go_sem, ht, b0, b1, bd, eq_self]
      have hL4 : ∀ j, j < n0 → H4 j = t.H j := fun j hj => by rw [hC4 _ (by omega)]; simp -implicitDefEqProofs (disch := omega) only [go_sem, ht, eq_self]; exact hBL j hj
      clear hC4 hBa hBb hBc hBd hBx hB1 hB2 hB3 hB4 b0 b1 bd hBL
      simp -implicitDefEqProofs (disch := omega) only [go_sem, ht, h2, h3, h5, h6, h7, h8, h4r, h4s, eq_self]
      apply pCall_mem
      exact back_calls (id := i2) hd (by omega) (by simp -implicitDefEqProofs (disch := omega) only [go_sem, ht, l42, eq_self]) (by simp -implicitDefEqProofs (disch := omega) only [go_sem, ht, m42, eq_self]) (by omega)
      rintro _ H5 n5 ⟨rfl, hC5⟩ hn5
      simp only [put_nx, withH_nx, begP_nx] at hn5
      have l53 : H5 (n0 + 1 + 1) = some [.ref i3 0 (ys.length + 10) (ys.length + 10) 1, .val (.int .i64 ys.length)] := by rw [hC5 _ (by omega)]; simp -implicitDefEqProofs (disch := omega) only [go_sem, ht, l43, eq_self]
      have m53 : H5 i3 = some ((lent ys).map U) := by rw [hC5 _ (by omega)]; simp -implicitDefEqProofs (disch := omega) only [go_sem, ht, m43, eq_self]
      have l54 : H5 (n0 + 1 + 1 + 1) = some [.ref i4 0 (es.length + 10) (es.length + 10) 1, .val (.int .i64 es.length)] := by rw [hC5 _ (by omega)]; simp -implicitDefEqProofs (disch := omega) only [go_sem, ht, l44, eq_self]
      have m54 : H5 i4 = some ((lent es).map U) := by rw [hC5 _ (by omega)]; simp -implicitDefEqProofs (disch := omega) only [go_sem, ht, m44, eq_self]
      have h5r : H5 0 = some [.val (.bool f), .sl xs.length (xs.map U), .sl ds.length (ds.map U)] := by rw [hC5 _ (by omega)]; simp -implicitDefEqProofs (disch := omega) only [go_sem, ht, h4r, eq_self]
      have h5s : H5 1 = some [.val (.bool g), .sl ys.length (ys.map U), .sl es.length (es.map U)] := by rw [hC5 _ (by omega)]; simp -implicitDefEqProofs (disch := omega) only [go_sem, ht, h4s, eq_self]
      have h5dv : H5 nd = some [.val (.bool dneg), .sl la.length (la.map U), .sl lb.length (lb.map U)] := by rw [hC5 _ (by omega)]; simp -implicitDefEqProofs (disch := omega) only [go_sem, ht, h4dv, eq_self]
      have h5an : H5 id1 = some ((D sm.num.natAbs).map U ++ rest1.map .val) := by rw [hC5 _ (by omega)]; simp -implicitDefEqProofs (disch := omega) only [go_sem, ht, h4an, eq_self]
      have h5ad : H5 jd1 = some ((D sm.den).map U ++ sest1.map .val) := by rw [hC5 _ (by omega)]; simp -implicitDefEqProofs (disch := omega) only [go_sem, ht, h4ad, eq_self]
      have h5bn : H5 id2 = some ((D df.num.natAbs).map U ++ rest2.map .val) := by rw [hC5 _ (by omega)]; simp -implicitDefEqProofs (disch := omega) only [go_sem, ht, h4bn, eq_self]
      have h5bd : H5 jd2 = some ((D df.den).map U ++ sest2.map .val) := by rw [hC5 _ (by omega)]; simp -implicitDefEqProofs (disch := omega) only [go_sem, ht, h4bd, eq_self]
      have h5cn : H5 id3 = some ((D pr.num.natAbs).map U ++ rest3.map .val) := by rw [hC5 _ (by omega)]; simp -implicitDefEqProofs (disch := omega) only [go_sem, ht, h4cn, eq_self]
      have h5cd : H5 jd3 = some ((D pr.den).map U ++ sest3.map .val) := by rw [hC5 _ (by omega)]; simp -implicitDefEqProofs (disch := omega) only [go_sem, ht, h4cd, eq_self]
      have h5qn : H5 id4 = some (la.map U ++ rest4.map .val) := by rw [hC5 _ (by omega)]; simp -implicitDefEqProofs (disch := omega) only [go_sem, ht, h4qn, eq_self]
      have h5qd : H5 jd4 = some (lb.map U ++ sest4.map .val) := by rw [hC5 _ (by omega)]; simp -implicitDefEqProofs (disch := omega) only [go_sem, ht, h4qd, eq_self]
      have h5ac : H5 nx3 = some [.val (.bool (decide (sm.num < 0))), .ref id1 0 (D sm.num.natAbs).length cap1 1, .ref jd1 0 (D sm.den).length dap1 1] := by rw [hC5 _ (by omega)]; simp -implicitDefEqProofs (disch := omega) only [go_sem, ht, h4ac, eq_self]
      have h5bc : H5 (nx3 + 1) = some [.val (.bool (decide (df.num < 0))), .ref id2 0 (D df.num.natAbs).length cap2 1, .ref jd2 0 (D df.den).length dap2 1] := by rw [hC5 _ (by omega)]; simp -implicitDefEqProofs (disch := omega) only [go_sem, ht, h4bc, eq_self]
      have h5cc : H5 (nx3 + 1 + 1) = some [.val (.bool (decide (pr.num < 0))), .ref id3 0 (D pr.num.natAbs).length cap3 1, .ref jd3 0 (D pr.den).length dap3 1] := by rw [hC5 _ (by omega)]; simp -implicitDefEqProofs (disch := omega) only [go_sem, ht, h4cc, eq_self]
      have h5qc : H5 nx4 = some [.val (.bool dneg), .ref id4 0 la.length cap4 1, .ref jd4 0 lb.length dap4 1] := by rw [hC5 _ (by omega)]; simp -implicitDefEqProofs (disch := omega) only [go_sem, ht, h4qc, eq_self]
      have hL5 : ∀ j, j < n0 → H5 j = t.H j := fun j hj => by rw [hC5 _ (by omega)]; simp -implicitDefEqProofs (disch := omega) only [go_sem, ht, eq_self]; exact hL4 j hj
      clear hC5 hL4 l42 m42 l43 m43 l44 m44 h4r h4s h4dv h4an h4ad h4bn h4bd h4cn h4cd h4qn h4qd h4ac h4bc h4cc h4qc
      simp -implicitDefEqProofs (disch := omega) only [go_sem, ht, h2, h3, h5, h6, h7, h8, h5r, h5s, eq_self]
      apply pCall_mem
      exact back_calls (id := i3) hy (by omega) (by simp -implicitDefEqProofs (disch := omega) only [go_sem, ht, l53, eq_self]) (by simp -implicitDefEqProofs (disch := omega) only [go_sem, ht, m53, eq_self]) (by omega)
      rintro _ H6 n6 ⟨rfl, hC6⟩ hn6
      simp only [put_nx, withH_nx, begP_nx] at hn6
      have l64 : H6 (n0 + 1 + 1 + 1) = some [.ref i4 0 (es.length + 10) (es.length + 10) 1, .val (.int .i64 es.length)] := by rw [hC6 _ (by omega)]; simp -implicitDefEqProofs (disch := omega) only [go_sem, ht, l54, eq_self]
      have m64 : H6 i4 = some ((lent es).map U) := by rw [hC6 _ (by omega)]; simp -implicitDefEqProofs (disch := omega) only [go_sem, ht, m54, eq_self]
      have h6r : H6 0 = some [.val (.bool f), .sl xs.length (xs.map U), .sl ds.length (ds.map U)] := by rw [hC6 _ (by omega)]; simp -implicitDefEqProofs (disch := omega) only [go_sem, ht, h5r, eq_self]
      have h6s : H6 1 = some [.val (.bool g), .sl ys.length (ys.map U), .sl es.length (es.map U)] := by rw [hC6 _ (by omega)]; simp -implicitDefEqProofs (disch := omega) only [go_sem, ht, h5s, eq_self]
      have h6dv : H6 nd = some [.val (.bool dneg), .sl la.length (la.map U), .sl lb.length (lb.map U)] := by rw [hC6 _ (by omega)]; simp -implicitDefEqProofs (disch := omega) only [go_sem, ht, h5dv, eq_self]
      have h6an : H6 id1 = some ((D sm.num.natAbs).map U ++ rest1.map .val) := by rw [hC6 _ (by omega)]; simp -implicitDefEqProofs (disch := omega) only [go_sem, ht, h5an, eq_self]
      have h6ad : H6 jd1 = some ((D sm.den).map U ++ sest1.map .val) := by rw [hC6 _ (by omega)]; simp -implicitDefEqProofs (disch := omega) only [go_sem, ht, h5ad, eq_self]
      have h6bn : H6 id2 = some ((D df.num.natAbs).map U ++ rest2.map .val) := by rw [hC6 _ (by omega)]; simp -implicitDefEqProofs (disch := omega) only [go_sem, ht, h5bn, eq_self]
      have h6bd : H6 jd2 = some ((D df.den).map U ++ sest2.map .val) := by rw [hC6 _ (by omega)]; simp -implicitDefEqProofs (disch := omega) only [go_sem, ht, h5bd, eq_self]
      have h6cn : H6 id3 = some ((D pr.num.natAbs).map U ++ rest3.map .val) := by rw [hC6 _ (by omega)]; simp -implicitDefEqProofs (disch := omega) only [go_sem, ht, h5cn, eq_self]
      have h6cd : H6 jd3 = some ((D pr.den).map U ++ sest3.map .val) := by rw [hC6 _ (by omega)]; simp -implicitDefEqProofs (disch := omega) only [go_sem, ht, h5cd, eq_self]
      have h6qn : H6 id4 = some (la.map U ++ rest4.map .val) := by rw [hC6 _ (by omega)]; simp -implicitDefEqProofs (disch := omega) only [go_sem, ht, h5qn, eq_self]
      have h6qd : H6 jd4 = some (lb.map U ++ sest4.map .val) := by rw [hC6 _ (by omega)]; simp -implicitDefEqProofs (disch := omega) only [go_sem, ht, h5qd, eq_self]
      have h6ac : H6 nx3 = some [.val (.bool (decide (sm.num < 0))), .ref id1 0 (D sm.num.natAbs).length cap1 1, .ref jd1 0 (D sm.den).length dap1 1] := by rw [hC6 _ (by omega)]; simp -implicitDefEqProofs (disch := omega) only [go_sem, ht, h5ac, eq_self]
      have h6bc : H6 (nx3 + 1) = some [.val (.bool (decide (df.num < 0))), .ref id2 0 (D df.num.natAbs).length cap2 1, .ref jd2 0 (D df.den).length dap2 1] := by rw [hC6 _ (by omega)]; simp -implicitDefEqProofs (disch := omega) only [go_sem, ht, h5bc, eq_self]
      have h6cc : H6 (nx3 + 1 + 1) = some [.val (.bool (decide (pr.num < 0))), .ref id3 0 (D pr.num.natAbs).length cap3 1, .ref jd3 0 (D pr.den).length dap3 1] := by rw [hC6 _ (by omega)]; simp -implicitDefEqProofs (disch := omega) only [go_sem, ht, h5cc, eq_self]
      have h6qc : H6 nx4 = some [.val (.bool dneg), .ref id4 0 la.length cap4 1, .ref jd4 0 lb.length dap4 1] := by rw [hC6 _ (by omega)]; simp -implicitDefEqProofs (disch := omega) only [go_sem, ht, h5qc, eq_self]
      have hL6 : ∀ j, j < n0 → H6 j = t.H j := fun j hj => by rw [hC6 _ (by omega)]; simp -implicitDefEqProofs (disch := omega) only [go_sem, ht, eq_self]; exact hL5 j hj
      clear hC6 hL5 l53 m53 l54 m54 h5r h5s h5dv h5an h5ad h5bn h5bd h5cn h5cd h5qn h5qd h5ac h5bc h5cc h5qc
      simp -implicitDefEqProofs (disch := omega) only [go_sem, ht, h2, h3, h5, h6, h7, h8, h6r, h6s, eq_self]
      apply pCall_mem
      exact back_calls (id := i4) he (by omega) (by simp -implicitDefEqProofs (disch := omega) only [go_sem, ht, l64, eq_self]) (by simp -implicitDefEqProofs (disch := omega) only [go_sem, ht, m64, eq_self]) (by omega)
      rintro _ H7 n7 ⟨rfl, hC7⟩ hn7
      simp only [put_nx, withH_nx, begP_nx] at hn7
      have h7r : H7 0 = some [.val (.bool f), .sl xs.length (xs.map U), .sl ds.length (ds.map U)] := by rw [hC7 _ (by omega)]; simp -implicitDefEqProofs (disch := omega) only [go_sem, ht, h6r, eq_self]
      have h7s : H7 1 = some [.val (.bool g), .sl ys.length (ys.map U), .sl es.length (es.map U)] := by rw [hC7 _ (by omega)]; simp -implicitDefEqProofs (disch := omega) only [go_sem, ht, h6s, eq_self]
      have h7dv : H7 nd = some [.val (.bool dneg), .sl la.length (la.map U), .sl lb.length (lb.map U)] := by rw [hC7 _ (by omega)]; simp -implicitDefEqProofs (disch := omega) only [go_sem, ht, h6dv, eq_self]
      have h7an : H7 id1 = some ((D sm.num.natAbs).map U ++ rest1.map .val) := by rw [hC7 _ (by omega)]; simp -implicitDefEqProofs (disch := omega) only [go_sem, ht, h6an, eq_self]
      have h7ad : H7 jd1 = some ((D sm.den).map U ++ sest1.map .val) := by rw [hC7 _ (by omega)]; simp -implicitDefEqProofs (disch := omega) only [go_sem, ht, h6ad, eq_self]
      have h7bn : H7 id2 = some ((D df.num.natAbs).map U ++ rest2.map .val) := by rw [hC7 _ (by omega)]; simp -implicitDefEqProofs (disch := omega) only [go_sem, ht, h6bn, eq_self]
      have h7bd : H7 jd2 = some ((D df.den).map U ++ sest2.map .val) := by rw [hC7 _ (by omega)]; simp -implicitDefEqProofs (disch := omega) only [go_sem, ht, h6bd, eq_self]
      have h7cn : H7 id3 = some ((D pr.num.natAbs).map U ++ rest3.map .val) := by rw [hC7 _ (by omega)]; simp -implicitDefEqProofs (disch := omega) only [go_sem, ht, h6cn, eq_self]
      have h7cd : H7 jd3 = some ((D pr.den).map U ++ sest3.map .val) := by rw [hC7 _ (by omega)]; simp -implicitDefEqProofs (disch := omega) only [go_sem, ht, h6cd, eq_self]
      have h7qn : H7 id4 = some (la.map U ++ rest4.map .val) := by rw [hC7 _ (by omega)]; simp -implicitDefEqProofs (disch := omega) only [go_sem, ht, h6qn, eq_self]
      have h7qd : H7 jd4 = some (lb.map U ++ sest4.map .val) := by rw [hC7 _ (by omega)]; simp -implicitDefEqProofs (disch := omega) only [go_sem, ht, h6qd, eq_self]
      have h7ac : H7 nx3 = some [.val (.bool (decide (sm.num < 0))), .ref id1 0 (D sm.num.natAbs).length cap1 1, .ref jd1 0 (D sm.den).length dap1 1] := by rw [hC7 _ (by omega)]; simp -implicitDefEqProofs (disch := omega) only [go_sem, ht, h6ac, eq_self]
      have h7bc : H7 (nx3 + 1) = some [.val (.bool (decide (df.num < 0))), .ref id2 0 (D df.num.natAbs).length cap2 1, .ref jd2 0 (D df.den).length dap2 1] := by rw [hC7 _ (by omega)]; simp -implicitDefEqProofs (disch := omega) only [go_sem, ht, h6bc, eq_self]
      have h7cc : H7 (nx3 + 1 + 1) = some [.val (.bool (decide (pr.num < 0))), .ref id3 0 (D pr.num.natAbs).length cap3 1, .ref jd3 0 (D pr.den).length dap3 1] := by rw [hC7 _ (by omega)]; simp -implicitDefEqProofs (disch := omega) only [go_sem, ht, h6cc, eq_self]
      have h7qc : H7 nx4 = some [.val (.bool dneg), .ref id4 0 la.length cap4 1, .ref jd4 0 lb.length dap4 1] := by rw [hC7 _ (by omega)]; simp -implicitDefEqProofs (disch := omega) only [go_sem, ht, h6qc, eq_self]
      have hL7 : ∀ j, j < n0 → H7 j = t.H j := fun j hj => by rw [hC7 _ (by omega)]; simp -implicitDefEqProofs (disch := omega) only [go_sem, ht, eq_self]; exact hL6 j hj
      clear hC7 hL6 l64 m64 h6r h6s h6dv h6an h6ad h6bn h6bd h6cn h6cd h6qn h6qd h6ac h6bc h6cc h6qc
      have hkc : (kc != kc) = false := by simp
      simp -implicitDefEqProofs (disch := omega) only [go_sem, ht, h2, h3, h5, h6, h7, h8, h7r, h7s, hkc, eq_self]
      ((refine pCall_view (by simp -implicitDefEqProofs (disch := omega) only [h2, h3, h5, h6, h7, h8, h7r, h7s, h7dv, h7ac, hkc, go_sem, ht, eq_self] <;> rfl) (by simp -implicitDefEqProofs (disch := omega) only [h2, h3, h5, h6, h7, h8, h7r, h7s, h7dv, h7ac, hkc, go_sem, ht, eq_self]) (by first | (apply Or.inl; simp -implicitDefEqProofs (disch := omega) only [h2, h3, h5, h6, h7, h8, h7r, h7s, h7dv, h7ac, hkc, go_sem, ht, eq_self]; done) | (apply Or.inr; rintro r rfl; rfl)) (r5) ?_; rintro _ nx_5 - rfl hnx_5; (try simp only [put_nx, withH_nx, begP_nx] at hnx_5); simp -implicitDefEqProofs (disch := omega) only [h2, h3, h5, h6, h7, h8, h7r, h7s, h7dv, h7ac, hkc, go_sem, ht, eq_self]); (refine pCall_view (by simp -implicitDefEqProofs (disch := omega) only [h2, h3, h5, h6, h7, h8, h7r, h7s, h7dv, h7ac, hkc, go_sem, ht, eq_self] <;> rfl) (by simp -implicitDefEqProofs (disch := omega) only [h2, h3, h5, h6, h7, h8, h7r, h7s, h7dv, h7ac, hkc, go_sem, ht, eq_self]) (by first | (apply Or.inl; simp -implicitDefEqProofs (disch := omega) only [h2, h3, h5, h6, h7, h8, h7r, h7s, h7dv, h7ac, hkc, go_sem, ht, eq_self]; done) | (apply Or.inr; rintro r rfl; rfl)) (r6) ?_; rintro _ nx_6 - rfl hnx_6; (try simp only [put_nx, withH_nx, begP_nx] at hnx_6); simp -implicitDefEqProofs (disch := omega) only [h2, h3, h5, h6, h7, h8, h7r, h7s, h7dv, h7ac, hkc, go_sem, ht, eq_self]))
      ((refine pCall_view (by simp -implicitDefEqProofs (disch := omega) only [h2, h3, h5, h6, h7, h8, h7r, h7s, h7dv, h7an, h7ad, h7bn, h7bd, h7cn, h7cd, h7qn, h7qd, h7ac, h7bc, h7cc, h7qc, if_pos, Nat.le_add_right, go_sem, ht, eq_self] <;> rfl) (by simp -implicitDefEqProofs (disch := omega) only [h2, h3, h5, h6, h7, h8, h7r, h7s, h7dv, h7an, h7ad, h7bn, h7bd, h7cn, h7cd, h7qn, h7qd, h7ac, h7bc, h7cc, h7qc, if_pos, Nat.le_add_right, go_sem, ht, eq_self]) (by first | (apply Or.inl; simp -implicitDefEqProofs (disch := omega) only [h2, h3, h5, h6, h7, h8, h7r, h7s, h7dv, h7an, h7ad, h7bn, h7bd, h7cn, h7cd, h7qn, h7qd, h7ac, h7bc, h7cc, h7qc, if_pos, Nat.le_add_right, go_sem, ht, eq_self]; done) | (apply Or.inr; rintro r rfl; rfl)) (r1) ?_; rintro _ nx_7 - rfl hnx_7; (try simp only [put_nx, withH_nx, begP_nx] at hnx_7); simp -implicitDefEqProofs (disch := omega) only [h2, h3, h5, h6, h7, h8, h7r, h7s, h7dv, h7an, h7ad, h7bn, h7bd, h7cn, h7cd, h7qn, h7qd, h7ac, h7bc, h7cc, h7qc, if_pos, Nat.le_add_right, go_sem, ht, eq_self]); (refine pCall_view (by simp -implicitDefEqProofs (disch := omega) only [h2, h3, h5, h6, h7, h8, h7r, h7s, h7dv, h7an, h7ad, h7bn, h7bd, h7cn, h7cd, h7qn, h7qd, h7ac, h7bc, h7cc, h7qc, if_pos, Nat.le_add_right, go_sem, ht, eq_self] <;> rfl) (by simp -implicitDefEqProofs (disch := omega) only [h2, h3, h5, h6, h7, h8, h7r, h7s, h7dv, h7an, h7ad, h7bn, h7bd, h7cn, h7cd, h7qn, h7qd, h7ac, h7bc, h7cc, h7qc, if_pos, Nat.le_add_right, go_sem, ht, eq_self]) (by first | (apply Or.inl; simp -implicitDefEqProofs (disch := omega) only [h2, h3, h5, h6, h7, h8, h7r, h7s, h7dv, h7an, h7ad, h7bn, h7bd, h7cn, h7cd, h7qn, h7qd, h7ac, h7bc, h7cc, h7qc, if_pos, Nat.le_add_right, go_sem, ht, eq_self]; done) | (apply Or.inr; rintro r rfl; rfl)) (s1) ?_; rintro _ nx_8 - rfl hnx_8; (try simp only [put_nx, withH_nx, begP_nx] at hnx_8); simp -implicitDefEqProofs (disch := omega) only [h2, h3, h5, h6, h7, h8, h7r, h7s, h7dv, h7an, h7ad, h7bn, h7bd, h7cn, h7cd, h7qn, h7qd, h7ac, h7bc, h7cc, h7qc, if_pos, Nat.le_add_right, go_sem, ht, eq_self]); (refine pCall_view (by simp -implicitDefEqProofs (disch := omega) only [h2, h3, h5, h6, h7, h8, h7r, h7s, h7dv, h7an, h7ad, h7bn, h7bd, h7cn, h7cd, h7qn, h7qd, h7ac, h7bc, h7cc, h7qc, if_pos, Nat.le_add_right, go_sem, ht, eq_self] <;> rfl) (by simp -implicitDefEqProofs (disch := omega) only [h2, h3, h5, h6, h7, h8, h7r, h7s, h7dv, h7an, h7ad, h7bn, h7bd, h7cn, h7cd, h7qn, h7qd, h7ac, h7bc, h7cc, h7qc, if_pos, Nat.le_add_right, go_sem, ht, eq_self]) (by first | (apply Or.inl; simp -implicitDefEqProofs (disch := omega) only [h2, h3, h5, h6, h7, h8, h7r, h7s, h7dv, h7an, h7ad, h7bn, h7bd, h7cn, h7cd, h7qn, h7qd, h7ac, h7bc, h7cc, h7qc, if_pos, Nat.le_add_right, go_sem, ht, eq_self]; done) | (apply Or.inr; rintro r rfl; rfl)) (r2) ?_; rintro _ nx_9 - rfl hnx_9; (try simp only [put_nx, withH_nx, begP_nx] at hnx_9); simp -implicitDefEqProofs (disch := omega) only [h2, h3, h5, h6, h7, h8, h7r, h7s, h7dv, h7an, h7ad, h7bn, h7bd, h7cn, h7cd, h7qn, h7qd, h7ac, h7bc, h7cc, h7qc, if_pos, Nat.le_add_right, go_sem, ht, eq_self]); (refine pCall_view (by simp -implicitDefEqProofs (disch := omega) only [h2, h3, h5, h6, h7, h8, h7r, h7s, h7dv, h7an, h7ad, h7bn, h7bd, h7cn, h7cd, h7qn, h7qd, h7ac, h7bc, h7cc, h7qc, if_pos, Nat.le_add_right, go_sem, ht, eq_self] <;> rfl) (by simp -implicitDefEqProofs (disch := omega) only [h2, h3, h5, h6, h7, h8, h7r, h7s, h7dv, h7an, h7ad, h7bn, h7bd, h7cn, h7cd, h7qn, h7qd, h7ac, h7bc, h7cc, h7qc, if_pos, Nat.le_add_right, go_sem, ht, eq_self]) (by first | (apply Or.inl; simp -implicitDefEqProofs (disch := omega) only [h2, h3, h5, h6, h7, h8, h7r, h7s, h7dv, h7an, h7ad, h7bn, h7bd, h7cn, h7cd, h7qn, h7qd, h7ac, h7bc, h7cc, h7qc, if_pos, Nat.le_add_right, go_sem, ht, eq_self]; done) | (apply Or.inr; rintro r rfl; rfl)) (s2) ?_; rintro _ nx_10 - rfl hnx_10; (try simp only [put_nx, withH_nx, begP_nx] at hnx_10); simp -implicitDefEqProofs (disch := omega) only [h2, h3, h5, h6, h7, h8, h7r, h7s, h7dv, h7an, h7ad, h7bn, h7bd, h7cn, h7cd, h7qn, h7qd, h7ac, h7bc, h7cc, h7qc, if_pos, Nat.le_add_right, go_sem, ht, eq_self]); (refine pCall_view (by simp -implicitDefEqProofs (disch := omega) only [h2, h3, h5, h6, h7, h8, h7r, h7s, h7dv, h7an, h7ad, h7bn, h7bd, h7cn, h7cd, h7qn, h7qd, h7ac, h7bc, h7cc, h7qc, if_pos, Nat.le_add_right, go_sem, ht, eq_self] <;> rfl) (by simp -implicitDefEqProofs (disch := omega) only [h2, h3, h5, h6, h7, h8, h7r, h7s, h7dv, h7an, h7ad, h7bn, h7bd, h7cn, h7cd, h7qn, h7qd, h7ac, h7bc, h7cc, h7qc, if_pos, Nat.le_add_right, go_sem, ht, eq_self]) (by first | (apply Or.inl; simp -implicitDefEqProofs (disch := omega) only [h2, h3, h5, h6, h7, h8, h7r, h7s, h7dv, h7an, h7ad, h7bn, h7bd, h7cn, h7cd, h7qn, h7qd, h7ac, h7bc, h7cc, h7qc, if_pos, Nat.le_add_right, go_sem, ht, eq_self]; done) | (apply Or.inr; rintro r rfl; rfl)) (r3) ?_; rintro _ nx_11 - rfl hnx_11; (try simp only [put_nx, withH_nx, begP_nx] at hnx_11); simp -implicitDefEqProofs (disch := omega) only [h2, h3, h5, h6, h7, h8, h7r, h7s, h7dv, h7an, h7ad, h7bn, h7bd, h7cn, h7cd, h7qn, h7qd, h7ac, h7bc, h7cc, h7qc, if_pos, Nat.le_add_right, go_sem, ht, eq_self]); (refine pCall_view (by simp -implicitDefEqProofs (disch := omega) only [h2, h3, h5, h6, h7, h8, h7r, h7s, h7dv, h7an, h7ad, h7bn, h7bd, h7cn, h7cd, h7qn, h7qd, h7ac, h7bc, h7cc, h7qc, if_pos, Nat.le_add_right, go_sem, ht, eq_self] <;> rfl) (by simp -implicitDefEqProofs (disch := omega) only [h2, h3, h5, h6, h7, h8, h7r, h7s, h7dv, h7an, h7ad, h7bn, h7bd, h7cn, h7cd, h7qn, h7qd, h7ac, h7bc, h7cc, h7qc, if_pos, Nat.le_add_right, go_sem, ht, eq_self]) (by first | (apply Or.inl; simp -implicitDefEqProofs (disch := omega) only [h2, h3, h5, h6, h7, h8, h7r, h7s, h7dv, h7an, h7ad, h7bn, h7bd, h7cn, h7cd, h7qn, h7qd, h7ac, h7bc, h7cc, h7qc, if_pos, Nat.le_add_right, go_sem, ht, eq_self]; done) | (apply Or.inr; rintro r rfl; rfl)) (s3) ?_; rintro _ nx_12 - rfl hnx_12; (try simp only [put_nx, withH_nx, begP_nx] at hnx_12); simp -implicitDefEqProofs (disch := omega) only [h2, h3, h5, h6, h7, h8, h7r, h7s, h7dv, h7an, h7ad, h7bn, h7bd, h7cn, h7cd, h7qn, h7qd, h7ac, h7bc, h7cc, h7qc, if_pos, Nat.le_add_right, go_sem, ht, eq_self]); (refine pCall_view (by simp -implicitDefEqProofs (disch := omega) only [h2, h3, h5, h6, h7, h8, h7r, h7s, h7dv, h7an, h7ad, h7bn, h7bd, h7cn, h7cd, h7qn, h7qd, h7ac, h7bc, h7cc, h7qc, if_pos, Nat.le_add_right, go_sem, ht, eq_self] <;> rfl) (by simp -implicitDefEqProofs (disch := omega) only [h2, h3, h5, h6, h7, h8, h7r, h7s, h7dv, h7an, h7ad, h7bn, h7bd, h7cn, h7cd, h7qn, h7qd, h7ac, h7bc, h7cc, h7qc, if_pos, Nat.le_add_right, go_sem, ht, eq_self]) (by first | (apply Or.inl; simp -implicitDefEqProofs (disch := omega) only [h2, h3, h5, h6, h7, h8, h7r, h7s, h7dv, h7an, h7ad, h7bn, h7bd, h7cn, h7cd, h7qn, h7qd, h7ac, h7bc, h7cc, h7qc, if_pos, Nat.le_add_right, go_sem, ht, eq_self]; done) | (apply Or.inr; rintro r rfl; rfl)) (s4) ?_; rintro _ nx_13 - rfl hnx_13; (try simp only [put_nx, withH_nx, begP_nx] at hnx_13); simp -implicitDefEqProofs (disch := omega) only [h2, h3, h5, h6, h7, h8, h7r, h7s, h7dv, h7an, h7ad, h7bn, h7bd, h7cn, h7cd, h7qn, h7qd, h7ac, h7bc, h7cc, h7qc, if_pos, Nat.le_add_right, go_sem, ht, eq_self]))
      have hB7 := hB.mono (H' := H7) (nx' := nx_13) (by omega) (fun j hj => hL7 j hj)
      have hAp := hA.mono (H' := H7) (nx' := nx_13) (by omega) (fun j hj _ => hL7 j hj)
      have bn : ∀ j, n0 ≤ j → ¬ B j := fun j hj h => by have := hBlt j h; omega
      have hav : AV H7 nx_13 B ([(id1, ((D sm.num.natAbs).map U ++ rest1.map .val)), (jd1, ((D sm.den).map U ++ sest1.map .val)), ((nx3 + 1), [.val (.bool (decide (df.num < 0))), .ref id2 0 (D df.num.natAbs).length cap2 1, .ref jd2 0 (D df.den).length dap2 1]), (id2, ((D df.num.natAbs).map U ++ rest2.map .val)), (jd2, ((D df.den).map U ++ sest2.map .val)), ((nx3 + 1 + 1), [.val (.bool (decide (pr.num < 0))), .ref id3 0 (D pr.num.natAbs).length cap3 1, .ref jd3 0 (D pr.den).length dap3 1]), (id3, ((D pr.num.natAbs).map U ++ rest3.map .val)), (jd3, ((D pr.den).map U ++ sest3.map .val)), (nx4, [.val (.bool dneg), .ref id4 0 la.length cap4 1, .ref jd4 0 lb.length dap4 1]), (id4, (la.map U ++ rest4.map .val)), (jd4, (lb.map U ++ sest4.map .val))] ++ [(0, [.val (.bool f), .sl xs.length (xs.map U), .sl ds.length (ds.map U)]), (1, [.val (.bool g), .sl ys.length (ys.map U), .sl es.length (es.map U)]), (nd, [.val (.bool dneg), .sl la.length (la.map U), .sl lb.length (lb.map U)])]) := by
        simp only [List.cons_append, List.nil_append]
        refine AV.cons (AV.cons (AV.cons (AV.cons (AV.cons (AV.cons (AV.cons (AV.cons (AV.cons (AV.cons (AV.cons (hAp) ?_ ?_ h7qd ?_) ?_ ?_ h7qn ?_) ?_ ?_ h7qc ?_) ?_ ?_ h7cd ?_) ?_ ?_ h7cn ?_) ?_ ?_ h7cc ?_) ?_ ?_ h7bd ?_) ?_ ?_ h7bn ?_) ?_ ?_ h7bc ?_) ?_ ?_ h7ad ?_) ?_ ?_ h7an ?_ <;> first | omega | (exact bn _ (by omega)) | (simp; done) | (simp; omega)
      simp only [List.cons_append, List.nil_append] at hav
      apply pCall_mem
      exact ownr_av (B := B) (by simp -implicitDefEqProofs (disch := omega) only [go_sem, ht, eq_self]; exact hav) (by simp -implicitDefEqProofs (disch := omega) only [go_sem, ht, eq_self]; exact hB7) (by omega) (by rw [List.length_append, List.length_map, List.length_map]; exact hcap1) (by omega) (by rw [List.length_append, List.length_map, List.length_map]; exact hdap1) (by omega)
      rintro _ H8 n8 ⟨rfl, B8, e8, e8', hbk8, hav8⟩ hn8
      have k8 := hav8.head
      simp -implicitDefEqProofs (disch := omega) only [go_sem, ht, h2, h3, h5, h6, h7, h8, k8, eq_self]
      apply pCall_mem
      exact ownr_av (B := B8) (by simp -implicitDefEqProofs (disch := omega) only [go_sem, ht, eq_self]; exact hav8.tail) (by simp -implicitDefEqProofs (disch := omega) only [go_sem, ht, eq_self]; exact hbk8) (by simp; omega) (by rw [List.length_append, List.length_map, List.length_map]; exact hcap2) (by omega) (by rw [List.length_append, List.length_map, List.length_map]; exact hdap2) (by omega)
      rintro _ H9 n9 ⟨rfl, B9, e9, e9', hbk9, hav9⟩ hn9
      have k9 := hav9.head
      simp -implicitDefEqProofs (disch := omega) only [go_sem, ht, h2, h3, h5, h6, h7, h8, k9, eq_self]
      apply pCall_mem
      exact ownr_av (B := B9) (by simp -implicitDefEqProofs (disch := omega) only [go_sem, ht, eq_self]; exact hav9.tail) (by simp -implicitDefEqProofs (disch := omega) only [go_sem, ht, eq_self]; exact hbk9) (by simp; omega) (by rw [List.length_append, List.length_map, List.length_map]; exact hcap3) (by omega) (by rw [List.length_append, List.length_map, List.length_map]; exact hdap3) (by omega)
      rintro _ H10 n10 ⟨rfl, B10, e10, e10', hbk10, hav10⟩ hn10
      have k10 := hav10.head
      simp -implicitDefEqProofs (disch := omega) only [go_sem, ht, h2, h3, h5, h6, h7, h8, k10, eq_self]
      apply pCall_mem
      exact ownr_av (B := B10) (by simp -implicitDefEqProofs (disch := omega) only [go_sem, ht, eq_self]; exact hav10.tail) (by simp -implicitDefEqProofs (disch := omega) only [go_sem, ht, eq_self]; exact hbk10) (by simp; omega) (by rw [List.length_append, List.length_map, List.length_map]; exact hcap4) (by omega) (by rw [List.length_append, List.length_map, List.length_map]; exact hdap4) (by omega)
      rintro _ H11 n11 ⟨rfl, B11, e11, e11', hbk11, hav11⟩ hn11
      simp only [put_nx, withH_nx, begP_nx] at hn8 hn9 hn10 hn11
      simp -implicitDefEqProofs (disch := omega) only [go_sem, ht, h2, h3, h5, h6, h7, h8, eq_self]
      exact ⟨⟨by omega, i + 1, by omega, rfl, _, B11, hbk11, by simp; omega, hav11⟩, by omega⟩
open Go.ChangeShapes Go.WideShapes Go.ChangeAt Go.RowKit
set_option maxRecDepth 100000 in
theorem ratioSums_lifted (os : Os) (started : os.Started) (H : Type) (enc : TypeId × Value → H) :
    ReturnsInHanded {} Try.checked os 8 .any (Rows.ratioSumsSpec.pre6 enc Try.prog Try.f8 Rows.ratioSumsRow.domain false) (Rows.ratioSumsSpec.post enc Try.prog Try.f8 false true false false) := by
  refine returnsInHanded_of_change_sized (C := Try.checked) law_own started (by kernel_rfl) Try.func8
    (ChangeSpec.witness6 (enc := enc) (C := Try.checked) false ⟨#[], #[.agg #[.bool false, .slice none 0 0, .slice none 0 0], .agg #[.bool false, .slice none 0 0, .slice none 0 0]], []⟩ 8 (by kernel_rfl) (by kernel_rfl) (by kernel_rfl) (by kernel_rfl)) ?_
  intro W base args ds gs before hval0 hW hcnd hsz0 _
  have hsz : (DataW.weightsEach Try.prog (Try.f8.params.toList ++ Rows.ratioSumsSpec.plain.varTypes Try.prog) (ds ++ gs)).all (· ≤ reachBytes) = true := hsz0
  have hval : ∀ (j : Nat) t v, Try.f8.params[j]? = some t → args[j]? = some v → Value.okWide Try.prog W .any base t v := hval0
  have hW' := hW
  obtain ⟨p, q, hA0, hV, rfl, hfz, hnd⟩ := hW
  have hA : DataW.TrodAll enc Try.prog W 0 (fun _ => true) true Try.f8.params.toList args.toList ds p := hA0
  rw [Try.params8] at hA hval hsz
  obtain ⟨v0, vs0, d0, ds0, p0, q0, hargs, rfl, rfl, h0, r0⟩ := trodAll_cons hA
  obtain ⟨v1, vs1, d1, ds1, p1, q1, rfl, rfl, rfl, h1, r1⟩ := trodAll_cons r0
  obtain ⟨rfl, rfl, rfl⟩ := trodAll_nil r1
  obtain rfl : args = #[v0, v1] := by cases args; simp_all
  obtain ⟨rfl, rfl⟩ := trodVars_none hV
  simp only [List.append_nil, List.cons_append, List.nil_append, DataW.weightsEach, List.all_append, Bool.and_eq_true] at hsz
  have lt0 : ∀ x ∈ p0, x.block < W.heap.size := by obtain ⟨m, hm⟩ := h0; exact DataW.trod_lt m _ _ _ hm
  obtain ⟨f0, x0, y0, lm0, len0, ln0, lem0, rep0⟩ := arg_ratio Try.underlying28 (by kernel_rfl) rfl rfl (by kernel_rfl) (by kernel_rfl) Try.underlying24 (by kernel_rfl) rfl rfl (by kernel_rfl) (by kernel_rfl) Try.underlying4 Try.underlying22 Try.underlying22 Try.underlying39 (by kernel_rfl) (by kernel_rfl) (by kernel_rfl) (hval 0 28 v0 rfl rfl) h0 hsz.1
  have lt1 : ∀ x ∈ p1, x.block < W.heap.size := by obtain ⟨m, hm⟩ := h1; exact DataW.trod_lt m _ _ _ hm
  obtain ⟨f1, x1, y1, lm1, len1, ln1, lem1, rep1⟩ := arg_ratio Try.underlying28 (by kernel_rfl) rfl rfl (by kernel_rfl) (by kernel_rfl) Try.underlying24 (by kernel_rfl) rfl rfl (by kernel_rfl) (by kernel_rfl) Try.underlying4 Try.underlying22 Try.underlying22 Try.underlying39 (by kernel_rfl) (by kernel_rfl) (by kernel_rfl) (hval 1 28 v1 rfl rfl) h1 hsz.2.1
  refine (law_run (rsums_law lm0 len0 ln0 lem0 lm1 len1 ln1 lem1) (vs := [v0, v1]) (by simp only [RepL]; exact ⟨rep0, ⟨rep1, trivial⟩⟩)).mono fun e W' ⟨⟨v, r, he, hr, hx⟩, bel⟩ => ?_
  subst he; rw [hx _ hr]
  exact ⟨_, rfl, _, _, _, [], _, [], hW', trodAll_mk1 (shut_bool Try.underlying4 _), (trodAll_cons_mk (Below.trod law_laidOut (by kernel_rfl) (of_decide_eq_true (by kernel_rfl)) h0 bel lt0) (trodAll_cons_mk (Below.trod law_laidOut (by kernel_rfl) (of_decide_eq_true (by kernel_rfl)) h1 bel lt1) trodAll_mk0)), rfl, bel.frame _, fun h => by cases h⟩
theorem ratioSums_holds : Rows.RatioSumsSaid :=
  OpenClaim.holds_of_wide 8 Try.f8 rfl rfl rfl rfl rfl rfl rfl ⟨rfl, rfl, rfl, rfl, rfl⟩ rfl rfl rfl rfl rfl (by kernel_rfl) Try.func8 (by kernel_rfl)
    (of_decide_eq_true (by kernel_rfl)) (by unfold Func.isWrapper; first | (rw [if_pos (by decide +kernel)]; kernel_rfl) | (rw [if_neg (by decide +kernel)]; exact ⟨rfl, rfl⟩))
    (fun os started H enc _ => ratioSums_lifted os started H enc)
end Go.Proofs.Ytgebemjmckgomaa
