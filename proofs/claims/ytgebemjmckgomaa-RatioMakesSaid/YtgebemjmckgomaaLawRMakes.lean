/- The statement RatioMakes holds of the given program: for every two whole numbers the law answers true. Its conditions are those of the given statement, and no others. -/
import Derived.Test.YtgebemjmckgomaaRefT
import Derived.Test.YtgebemjmckgomaaCopyW
set_option maxRecDepth 100000
set_option linter.unusedVariables false
set_option linter.unusedSimpArgs false
namespace Go.Proofs.Ytgebemjmckgomaa

set_option maxHeartbeats 4000000 in
theorem rmakes_law {f g : Bool} {xs ys : List Nat} (hx : Lm xs) (hx' : xs.length ≤ 35184372087808) (hy : Lm ys) (hy' : ys.length ≤ 35184372087808) :
    PT Try.prog 3 [WX f xs, WX g ys] (isV (.val (.bool true))) := by
  have lx := len_whole (b := f) hx'
  have ly := len_whole (b := g) hy'
  refine PCalls.enter (n := 48) (rs := [.tmp 4]) (tb := [(3, [(0, []), (2, []), (1, [2]), (3, []), (4, []), (5, [])]), (5, [(0, []), (2, []), (1, [2]), (3, []), (4, []), (5, []), (6, []), (7, []), (8, [0, 2, 5, 6, 7]), (9, [7]), (10, [])]), (7, [(0, []), (2, []), (1, [2]), (3, []), (4, []), (5, []), (6, []), (7, []), (8, []), (9, []), (10, []), (13, []), (11, [13]), (12, [13]), (14, []), (15, []), (16, []), (17, [])]), (1000007, [(0, []), (1, []), (0, []), (7, []), (15, []), (31, []), (31, []), (127, []), (255, []), (511, []), (1023, []), (2047, []), (4095, []), (1023, []), (16383, []), (32767, []), (65535, []), (131071, [])])]) Try.func3 rfl rfl rfl (by kernel_rfl) (by kernel_rfl) (by simp) fun c hc ht => ?_
  simp -implicitDefEqProofs (disch := omega) only [go_sem, ht, eq_self]
  ((refine pCall_view (by simp -implicitDefEqProofs (disch := omega) only [go_sem, ht, eq_self] <;> rfl) (by simp -implicitDefEqProofs (disch := omega) only [go_sem, ht, eq_self]) (by first | (apply Or.inl; simp -implicitDefEqProofs (disch := omega) only [go_sem, ht, eq_self]; done) | (apply Or.inr; rintro r rfl; rfl)) (awake_ratio) ?_; rintro _ nx_1 - rfl hnx_1; (try simp only [put_nx, withH_nx, begP_nx] at hnx_1); simp -implicitDefEqProofs (disch := omega) only [go_sem, ht, eq_self]); (refine pCall_view (by simp -implicitDefEqProofs (disch := omega) only [go_sem, ht, eq_self] <;> rfl) (by simp -implicitDefEqProofs (disch := omega) only [go_sem, ht, eq_self]) (by first | (apply Or.inl; simp -implicitDefEqProofs (disch := omega) only [go_sem, ht, eq_self]; done) | (apply Or.inr; rintro r rfl; rfl)) (lx) ?_; rintro _ nx_2 - rfl hnx_2; (try simp only [put_nx, withH_nx, begP_nx] at hnx_2); simp -implicitDefEqProofs (disch := omega) only [go_sem, ht, eq_self]))
  by_cases hl : 1500 < 1 + xs.length + (1 + ys.length)
  · ((refine pCall_view (by simp -implicitDefEqProofs (disch := omega) only [go_sem, ht, eq_self] <;> rfl) (by simp -implicitDefEqProofs (disch := omega) only [go_sem, ht, eq_self]) (by first | (apply Or.inl; simp -implicitDefEqProofs (disch := omega) only [go_sem, ht, eq_self]; done) | (apply Or.inr; rintro r rfl; rfl)) (ly) ?_; rintro _ nx_3 - rfl hnx_3; (try simp only [put_nx, withH_nx, begP_nx] at hnx_3); simp -implicitDefEqProofs (disch := omega) only [go_sem, ht, eq_self]))
    (refine end_treeW 0 ?_; simp -implicitDefEqProofs (disch := omega) only [go_sem, ht, eq_self])
  obtain ⟨K, hK, hK1, kx, ky⟩ : ∃ K, K ≤ 1500 ∧ 1 ≤ K ∧ xs.length ≤ K ∧ ys.length ≤ K := ⟨1500, Nat.le_refl _, by omega, by omega, by omega⟩
  have px := Wn.raw (b := f) hx kx (by omega)
  have py := Wn.raw (b := g) hy ky (by omega)
  have cx := copyw_calls (b := f) px.ok
  have cy := copyw_calls (b := g) py.ok
  have tx : ∀ l : List PV, List.take xs.length (xs.map U ++ l) = xs.map U := fun l => List.take_left' (by simp)
  have ty : ∀ l : List PV, List.take ys.length (ys.map U ++ l) = ys.map U := fun l => List.take_left' (by simp)
  generalize WV f xs = x at *
  generalize WV g ys = y at *
  have c3 := rfromW px
  have c4 := Ref.r3from px hK1 (by omega)
  have zf : Zq K (x : Rat) := ⟨px.z, one_lt_pow hK1⟩
  have c5 := same_rt zf (by omega) rfl
  ((refine pCall_view (by simp -implicitDefEqProofs (disch := omega) only [go_sem, ht, eq_self] <;> rfl) (by simp -implicitDefEqProofs (disch := omega) only [go_sem, ht, eq_self]) (by first | (apply Or.inl; simp -implicitDefEqProofs (disch := omega) only [go_sem, ht, eq_self]; done) | (apply Or.inr; rintro r rfl; rfl)) (ly) ?_; rintro _ nx_4 - rfl hnx_4; (try simp only [put_nx, withH_nx, begP_nx] at hnx_4); simp -implicitDefEqProofs (disch := omega) only [go_sem, ht, eq_self]))
  by_cases hy0 : y = 0
  · subst hy0
    have c1 := rof_zero (b := f) (xs := xs) py
    have c2 := Ref.r3of_zero (b := f) (xs := xs) py
    have c6 := same_fz
    have c7 := Ref.num_calls (s := 20) (by omega) (by omega)
    (refine pCall_own1 (mk := fun p => .agg [.val (.bool f), p]) (mk_w _) (by simp -implicitDefEqProofs (disch := omega) only [go_sem, ht, eq_self] <;> rfl) (by simp -implicitDefEqProofs (disch := omega) only [go_sem, ht, eq_self]) (closedL_U _) (flatL_U _) (cx) ?_; intro id1 cap1 rest1 nx1 hid1 hnx1 hcap1; simp only [put_nx, withH_nx, begP_nx, List.length_map] at hid1 hcap1; simp -implicitDefEqProofs (disch := omega) only [go_sem, ht, eq_self])
    (refine pCall_own1 (mk := fun p => .agg [.val (.bool g), p]) (mk_w _) (by simp -implicitDefEqProofs (disch := omega) only [go_sem, ht, eq_self] <;> rfl) (by simp -implicitDefEqProofs (disch := omega) only [go_sem, ht, eq_self]) (closedL_U _) (flatL_U _) (cy) ?_; intro id2 cap2 rest2 nx2 hid2 hnx2 hcap2; simp only [put_nx, withH_nx, begP_nx, List.length_map] at hid2 hcap2; simp -implicitDefEqProofs (disch := omega) only [go_sem, ht, eq_self])
    (refine pCall_frzAllD 2 (by simp -implicitDefEqProofs (disch := omega) only [tx, ty, if_pos, frz_ptr, go_sem, ht, eq_self] <;> rfl) (by simp -implicitDefEqProofs (disch := omega) only [tx, ty, if_pos, frz_ptr, go_sem, ht, eq_self]) (by simp -implicitDefEqProofs (disch := omega) only [tx, ty, if_pos, frz_ptr, go_sem, ht, eq_self] <;> rfl) (by simp -implicitDefEqProofs (disch := omega) only [tx, ty, if_pos, frz_ptr, go_sem, ht, eq_self]) (c1) ?_; rintro _ nx - rfl hnx; (try simp only [put_nx, withH_nx, begP_nx] at hnx); simp -implicitDefEqProofs (disch := omega) only [tx, ty, if_pos, frz_ptr, go_sem, ht, eq_self])
    ((refine pCall_view (by simp -implicitDefEqProofs (disch := omega) only [go_sem, ht, eq_self] <;> rfl) (by simp -implicitDefEqProofs (disch := omega) only [go_sem, ht, eq_self]) (by first | (apply Or.inl; simp -implicitDefEqProofs (disch := omega) only [go_sem, ht, eq_self]; done) | (apply Or.inr; rintro r rfl; rfl)) (c2) ?_; rintro _ nx_5 - rfl hnx_5; (try simp only [put_nx, withH_nx, begP_nx] at hnx_5); simp -implicitDefEqProofs (disch := omega) only [go_sem, ht, eq_self]); (refine pCall_view (by simp -implicitDefEqProofs (disch := omega) only [go_sem, ht, eq_self] <;> rfl) (by simp -implicitDefEqProofs (disch := omega) only [go_sem, ht, eq_self]) (by first | (apply Or.inl; simp -implicitDefEqProofs (disch := omega) only [go_sem, ht, eq_self]; done) | (apply Or.inr; rintro r rfl; rfl)) (c7) ?_; rintro _ nx_6 - rfl hnx_6; (try simp only [put_nx, withH_nx, begP_nx] at hnx_6); simp -implicitDefEqProofs (disch := omega) only [go_sem, ht, eq_self]); (refine pCall_view (by simp -implicitDefEqProofs (disch := omega) only [go_sem, ht, eq_self] <;> rfl) (by simp -implicitDefEqProofs (disch := omega) only [go_sem, ht, eq_self]) (by first | (apply Or.inl; simp -implicitDefEqProofs (disch := omega) only [go_sem, ht, eq_self]; done) | (apply Or.inr; rintro r rfl; rfl)) (c6) ?_; rintro _ nx_7 - rfl hnx_7; (try simp only [put_nx, withH_nx, begP_nx] at hnx_7); simp -implicitDefEqProofs (disch := omega) only [go_sem, ht, eq_self]))
    (refine pCall_own1 (mk := fun p => .agg [.val (.bool f), p]) (mk_w _) (by simp -implicitDefEqProofs (disch := omega) only [go_sem, ht, eq_self] <;> rfl) (by simp -implicitDefEqProofs (disch := omega) only [go_sem, ht, eq_self]) (closedL_U _) (flatL_U _) (cx) ?_; intro id3 cap3 rest3 nx3 hid3 hnx3 hcap3; simp only [put_nx, withH_nx, begP_nx, List.length_map] at hid3 hcap3; simp -implicitDefEqProofs (disch := omega) only [go_sem, ht, eq_self])
    (refine pCall_frzAllD 2 (by simp -implicitDefEqProofs (disch := omega) only [tx, ty, if_pos, frz_ptr, go_sem, ht, eq_self] <;> rfl) (by simp -implicitDefEqProofs (disch := omega) only [tx, ty, if_pos, frz_ptr, go_sem, ht, eq_self]) (by simp -implicitDefEqProofs (disch := omega) only [tx, ty, if_pos, frz_ptr, go_sem, ht, eq_self] <;> rfl) (by simp -implicitDefEqProofs (disch := omega) only [tx, ty, if_pos, frz_ptr, go_sem, ht, eq_self]) (c3) ?_; rintro _ nx - rfl hnx; (try simp only [put_nx, withH_nx, begP_nx] at hnx); simp -implicitDefEqProofs (disch := omega) only [tx, ty, if_pos, frz_ptr, go_sem, ht, eq_self])
    ((refine pCall_view (by simp -implicitDefEqProofs (disch := omega) only [go_sem, ht, eq_self] <;> rfl) (by simp -implicitDefEqProofs (disch := omega) only [go_sem, ht, eq_self]) (by first | (apply Or.inl; simp -implicitDefEqProofs (disch := omega) only [go_sem, ht, eq_self]; done) | (apply Or.inr; rintro r rfl; rfl)) (c4) ?_; rintro _ nx_8 - rfl hnx_8; (try simp only [put_nx, withH_nx, begP_nx] at hnx_8); simp -implicitDefEqProofs (disch := omega) only [go_sem, ht, eq_self]); (refine pCall_view (by simp -implicitDefEqProofs (disch := omega) only [go_sem, ht, eq_self] <;> rfl) (by simp -implicitDefEqProofs (disch := omega) only [go_sem, ht, eq_self]) (by first | (apply Or.inl; simp -implicitDefEqProofs (disch := omega) only [go_sem, ht, eq_self]; done) | (apply Or.inr; rintro r rfl; rfl)) (c5) ?_; rintro _ nx_9 - rfl hnx_9; (try simp only [put_nx, withH_nx, begP_nx] at hnx_9); simp -implicitDefEqProofs (disch := omega) only [go_sem, ht, eq_self]))
    (refine end_treeW 0 ?_; simp -implicitDefEqProofs (disch := omega) only [go_sem, ht, eq_self])
  · have c1 := rofW px py hy0
    have c2 := Ref.r3of px py hK1 (by omega) hy0
    have zr : Zq K (Rat.divInt x y) := by
      rw [← rat_over hy0]
      refine .of hK1 ?_ py.z
      split
      · exact px.z.neg
      · exact px.z
    have c6 := same_rt zr (by omega) rfl
    have c7 := Ref.num_calls (s := 0) (by omega) (by omega)
    generalize Rat.divInt x y = r at *
    (refine pCall_own1 (mk := fun p => .agg [.val (.bool f), p]) (mk_w _) (by simp -implicitDefEqProofs (disch := omega) only [go_sem, ht, eq_self] <;> rfl) (by simp -implicitDefEqProofs (disch := omega) only [go_sem, ht, eq_self]) (closedL_U _) (flatL_U _) (cx) ?_; intro id1 cap1 rest1 nx1 hid1 hnx1 hcap1; simp only [put_nx, withH_nx, begP_nx, List.length_map] at hid1 hcap1; simp -implicitDefEqProofs (disch := omega) only [go_sem, ht, eq_self])
    (refine pCall_own1 (mk := fun p => .agg [.val (.bool g), p]) (mk_w _) (by simp -implicitDefEqProofs (disch := omega) only [go_sem, ht, eq_self] <;> rfl) (by simp -implicitDefEqProofs (disch := omega) only [go_sem, ht, eq_self]) (closedL_U _) (flatL_U _) (cy) ?_; intro id2 cap2 rest2 nx2 hid2 hnx2 hcap2; simp only [put_nx, withH_nx, begP_nx, List.length_map] at hid2 hcap2; simp -implicitDefEqProofs (disch := omega) only [go_sem, ht, eq_self])
    (refine pCall_frzAllD 2 (by simp -implicitDefEqProofs (disch := omega) only [tx, ty, if_pos, frz_ptr, go_sem, ht, eq_self] <;> rfl) (by simp -implicitDefEqProofs (disch := omega) only [tx, ty, if_pos, frz_ptr, go_sem, ht, eq_self]) (by simp -implicitDefEqProofs (disch := omega) only [tx, ty, if_pos, frz_ptr, go_sem, ht, eq_self] <;> rfl) (by simp -implicitDefEqProofs (disch := omega) only [tx, ty, if_pos, frz_ptr, go_sem, ht, eq_self]) (c1) ?_; rintro _ nx - rfl hnx; (try simp only [put_nx, withH_nx, begP_nx] at hnx); simp -implicitDefEqProofs (disch := omega) only [tx, ty, if_pos, frz_ptr, go_sem, ht, eq_self])
    ((refine pCall_view (by simp -implicitDefEqProofs (disch := omega) only [go_sem, ht, eq_self] <;> rfl) (by simp -implicitDefEqProofs (disch := omega) only [go_sem, ht, eq_self]) (by first | (apply Or.inl; simp -implicitDefEqProofs (disch := omega) only [go_sem, ht, eq_self]; done) | (apply Or.inr; rintro r rfl; rfl)) (c2) ?_; rintro _ nx_10 - rfl hnx_10; (try simp only [put_nx, withH_nx, begP_nx] at hnx_10); simp -implicitDefEqProofs (disch := omega) only [go_sem, ht, eq_self]); (refine pCall_view (by simp -implicitDefEqProofs (disch := omega) only [go_sem, ht, eq_self] <;> rfl) (by simp -implicitDefEqProofs (disch := omega) only [go_sem, ht, eq_self]) (by first | (apply Or.inl; simp -implicitDefEqProofs (disch := omega) only [go_sem, ht, eq_self]; done) | (apply Or.inr; rintro r rfl; rfl)) (c7) ?_; rintro _ nx_11 - rfl hnx_11; (try simp only [put_nx, withH_nx, begP_nx] at hnx_11); simp -implicitDefEqProofs (disch := omega) only [go_sem, ht, eq_self]); (refine pCall_view (by simp -implicitDefEqProofs (disch := omega) only [go_sem, ht, eq_self] <;> rfl) (by simp -implicitDefEqProofs (disch := omega) only [go_sem, ht, eq_self]) (by first | (apply Or.inl; simp -implicitDefEqProofs (disch := omega) only [go_sem, ht, eq_self]; done) | (apply Or.inr; rintro r rfl; rfl)) (c6) ?_; rintro _ nx_12 - rfl hnx_12; (try simp only [put_nx, withH_nx, begP_nx] at hnx_12); simp -implicitDefEqProofs (disch := omega) only [go_sem, ht, eq_self]))
    (refine pCall_own1 (mk := fun p => .agg [.val (.bool f), p]) (mk_w _) (by simp -implicitDefEqProofs (disch := omega) only [go_sem, ht, eq_self] <;> rfl) (by simp -implicitDefEqProofs (disch := omega) only [go_sem, ht, eq_self]) (closedL_U _) (flatL_U _) (cx) ?_; intro id3 cap3 rest3 nx3 hid3 hnx3 hcap3; simp only [put_nx, withH_nx, begP_nx, List.length_map] at hid3 hcap3; simp -implicitDefEqProofs (disch := omega) only [go_sem, ht, eq_self])
    (refine pCall_frzAllD 2 (by simp -implicitDefEqProofs (disch := omega) only [tx, ty, if_pos, frz_ptr, go_sem, ht, eq_self] <;> rfl) (by simp -implicitDefEqProofs (disch := omega) only [tx, ty, if_pos, frz_ptr, go_sem, ht, eq_self]) (by simp -implicitDefEqProofs (disch := omega) only [tx, ty, if_pos, frz_ptr, go_sem, ht, eq_self] <;> rfl) (by simp -implicitDefEqProofs (disch := omega) only [tx, ty, if_pos, frz_ptr, go_sem, ht, eq_self]) (c3) ?_; rintro _ nx - rfl hnx; (try simp only [put_nx, withH_nx, begP_nx] at hnx); simp -implicitDefEqProofs (disch := omega) only [tx, ty, if_pos, frz_ptr, go_sem, ht, eq_self])
    ((refine pCall_view (by simp -implicitDefEqProofs (disch := omega) only [go_sem, ht, eq_self] <;> rfl) (by simp -implicitDefEqProofs (disch := omega) only [go_sem, ht, eq_self]) (by first | (apply Or.inl; simp -implicitDefEqProofs (disch := omega) only [go_sem, ht, eq_self]; done) | (apply Or.inr; rintro r rfl; rfl)) (c4) ?_; rintro _ nx_13 - rfl hnx_13; (try simp only [put_nx, withH_nx, begP_nx] at hnx_13); simp -implicitDefEqProofs (disch := omega) only [go_sem, ht, eq_self]); (refine pCall_view (by simp -implicitDefEqProofs (disch := omega) only [go_sem, ht, eq_self] <;> rfl) (by simp -implicitDefEqProofs (disch := omega) only [go_sem, ht, eq_self]) (by first | (apply Or.inl; simp -implicitDefEqProofs (disch := omega) only [go_sem, ht, eq_self]; done) | (apply Or.inr; rintro r rfl; rfl)) (c5) ?_; rintro _ nx_14 - rfl hnx_14; (try simp only [put_nx, withH_nx, begP_nx] at hnx_14); simp -implicitDefEqProofs (disch := omega) only [go_sem, ht, eq_self]))
    (refine end_treeW 0 ?_; simp -implicitDefEqProofs (disch := omega) only [go_sem, ht, eq_self])
open Go.ChangeShapes Go.WideShapes Go.ChangeAt Go.RowKit
set_option maxRecDepth 100000 in
theorem ratioMakes_lifted (os : Os) (started : os.Started) (H : Type) (enc : TypeId × Value → H) :
    ReturnsInHanded {} Try.checked os 3 .any (Rows.ratioMakesSpec.pre6 enc Try.prog Try.f3 Rows.ratioMakesRow.domain false) (Rows.ratioMakesSpec.post enc Try.prog Try.f3 false true false false) := by
  refine returnsInHanded_of_change_sized (C := Try.checked) law_own started (by kernel_rfl) Try.func3
    (ChangeSpec.witness6 (enc := enc) (C := Try.checked) false ⟨#[], #[.agg #[.bool false, .slice none 0 0], .agg #[.bool false, .slice none 0 0]], []⟩ 8 (by kernel_rfl) (by kernel_rfl) (by kernel_rfl) (by kernel_rfl)) ?_
  intro W base args ds gs before hval0 hW hcnd hsz0 _
  have hsz : (DataW.weightsEach Try.prog (Try.f3.params.toList ++ Rows.ratioMakesSpec.plain.varTypes Try.prog) (ds ++ gs)).all (· ≤ reachBytes) = true := hsz0
  have hval : ∀ (j : Nat) t v, Try.f3.params[j]? = some t → args[j]? = some v → Value.okWide Try.prog W .any base t v := hval0
  have hW' := hW
  obtain ⟨p, q, hA0, hV, rfl, hfz, hnd⟩ := hW
  have hA : DataW.TrodAll enc Try.prog W 0 (fun _ => true) true Try.f3.params.toList args.toList ds p := hA0
  rw [Try.params3] at hA hval hsz
  obtain ⟨v0, vs0, d0, ds0, p0, q0, hargs, rfl, rfl, h0, r0⟩ := trodAll_cons hA
  obtain ⟨v1, vs1, d1, ds1, p1, q1, rfl, rfl, rfl, h1, r1⟩ := trodAll_cons r0
  obtain ⟨rfl, rfl, rfl⟩ := trodAll_nil r1
  obtain rfl : args = #[v0, v1] := by cases args; simp_all
  obtain ⟨rfl, rfl⟩ := trodVars_none hV
  simp only [List.append_nil, List.cons_append, List.nil_append, DataW.weightsEach, List.all_append, Bool.and_eq_true] at hsz
  have lt0 : ∀ x ∈ p0, x.block < W.heap.size := by obtain ⟨m, hm⟩ := h0; exact DataW.trod_lt m _ _ _ hm
  obtain ⟨f0, x0, lm0, len0, rep0⟩ := arg_whole Try.underlying24 (by kernel_rfl) rfl rfl (by kernel_rfl) (by kernel_rfl) Try.underlying4 Try.underlying22 Try.underlying39 (by kernel_rfl) (by kernel_rfl) (by kernel_rfl) (hval 0 24 v0 rfl rfl) h0 hsz.1
  have lt1 : ∀ x ∈ p1, x.block < W.heap.size := by obtain ⟨m, hm⟩ := h1; exact DataW.trod_lt m _ _ _ hm
  obtain ⟨f1, x1, lm1, len1, rep1⟩ := arg_whole Try.underlying24 (by kernel_rfl) rfl rfl (by kernel_rfl) (by kernel_rfl) Try.underlying4 Try.underlying22 Try.underlying39 (by kernel_rfl) (by kernel_rfl) (by kernel_rfl) (hval 1 24 v1 rfl rfl) h1 hsz.2.1
  refine (law_run (rmakes_law lm0 len0 lm1 len1) (vs := [v0, v1]) (by simp only [RepL]; exact ⟨rep0, ⟨rep1, trivial⟩⟩)).mono fun e W' ⟨⟨v, r, he, hr, hx⟩, bel⟩ => ?_
  subst he; rw [hx _ hr]
  exact ⟨_, rfl, _, _, _, [], _, [], hW', trodAll_mk1 (shut_bool Try.underlying4 _), (trodAll_cons_mk (Below.trod law_laidOut (by kernel_rfl) (of_decide_eq_true (by kernel_rfl)) h0 bel lt0) (trodAll_cons_mk (Below.trod law_laidOut (by kernel_rfl) (of_decide_eq_true (by kernel_rfl)) h1 bel lt1) trodAll_mk0)), rfl, bel.frame _, fun h => by cases h⟩
theorem ratioMakes_holds : Rows.RatioMakesSaid :=
  OpenClaim.holds_of_wide 3 Try.f3 rfl rfl rfl rfl rfl rfl rfl ⟨rfl, rfl, rfl, rfl, rfl⟩ rfl rfl rfl rfl rfl (by kernel_rfl) Try.func3 (by kernel_rfl)
    (of_decide_eq_true (by kernel_rfl)) (by unfold Func.isWrapper; first | (rw [if_pos (by decide +kernel)]; kernel_rfl) | (rw [if_neg (by decide +kernel)]; exact ⟨rfl, rfl⟩))
    (fun os started H enc _ => ratioMakes_lifted os started H enc)
end Go.Proofs.Ytgebemjmckgomaa
