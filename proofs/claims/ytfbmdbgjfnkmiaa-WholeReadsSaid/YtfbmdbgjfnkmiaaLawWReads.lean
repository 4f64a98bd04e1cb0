/- The statement WholeReads holds of the given program: for every int and every whole number the law answers true. Its conditions are those of the given statement, and no others. -/
import Derived.Test.YtfbmdbgjfnkmiaaRefH
import Derived.Test.YtfbmdbgjfnkmiaaLender
set_option maxRecDepth 100000
set_option linter.unusedVariables false
set_option linter.unusedSimpArgs false
namespace Go.Proofs.Ytfbmdbgjfnkmiaa

set_option maxHeartbeats 4000000 in
theorem wreads_law {v : Int} {f : Bool} {xs : List Nat} (hv0 : -9223372036854775808 ≤ v) (hv1 : v ≤ 9223372036854775807) (hx : Lm xs) (hx' : xs.length ≤ 35184372087808) :
    PT Try.prog 6 [.val (.int .i64 v), WX f xs] (isV (.val (.bool true))) := by
  have lx := len_whole (b := f) hx'
  refine PCalls.enter (n := 79) (rs := [.tmp 4]) (tb := [(6, [(0, []), (1, []), (2, []), (3, []), (4, [0, 1]), (5, []), (6, [0, 1, 2, 3, 5]), (7, [])]), (12, [(0, []), (1, []), (2, []), (3, []), (4, []), (5, []), (6, []), (7, []), (8, []), (9, []), (10, []), (11, []), (12, []), (13, []), (14, []), (15, []), (16, [14]), (17, []), (18, []), (19, []), (20, []), (21, []), (22, [20]), (23, []), (24, []), (25, []), (26, []), (27, []), (28, [26]), (29, []), (30, []), (31, []), (32, []), (34, []), (33, [34]), (35, []), (36, []), (37, []), (38, [])]), (1000012, [(0, []), (1, []), (3, []), (7, []), (15, []), (15, []), (63, []), (127, []), (255, []), (511, []), (511, []), (2047, []), (4095, []), (8191, []), (16383, []), (16383, []), (49151, []), (131071, []), (262143, []), (524287, []), (1048575, []), (1048575, []), (3145727, []), (8388607, []), (16777215, []), (33554431, []), (67108863, []), (67108863, []), (201326591, []), (536870911, []), (1073741823, []), (2147483647, []), (4294967295, []), (8589934591, []), (4294967295, []), (34359738367, []), (68719476735, []), (137438953471, []), (274877906943, [])])]) Try.func6 rfl rfl rfl (by kernel_rfl) (by kernel_rfl) (by simp) fun c hc ht => ?_
  simp -implicitDefEqProofs (disch := omega) only [go_sem, ht, eq_self]
  ((refine pCall_view (by simp -implicitDefEqProofs (disch := omega) only [go_sem, ht, eq_self] <;> rfl) (by simp -implicitDefEqProofs (disch := omega) only [go_sem, ht, eq_self]) (by first | (apply Or.inl; simp -implicitDefEqProofs (disch := omega) only [go_sem, ht, eq_self]; done) | (apply Or.inr; rintro r rfl; rfl)) (awake_whole) ?_; rintro _ nx_1 - rfl hnx_1; (try simp only [put_nx, withH_nx, begP_nx] at hnx_1); simp -implicitDefEqProofs (disch := omega) only [go_sem, ht, eq_self]))
  by_cases hl : 1500 < 1 + xs.length
  · ((refine pCall_view (by simp -implicitDefEqProofs (disch := omega) only [go_sem, ht, eq_self] <;> rfl) (by simp -implicitDefEqProofs (disch := omega) only [go_sem, ht, eq_self]) (by first | (apply Or.inl; simp -implicitDefEqProofs (disch := omega) only [go_sem, ht, eq_self]; done) | (apply Or.inr; rintro r rfl; rfl)) (lx) ?_; rintro _ nx_2 - rfl hnx_2; (try simp only [put_nx, withH_nx, begP_nx] at hnx_2); simp -implicitDefEqProofs (disch := omega) only [go_sem, ht, eq_self]))
    (refine end_treeW 0 ?_; simp -implicitDefEqProofs (disch := omega) only [go_sem, ht, eq_self])
  obtain ⟨K, hK, kx⟩ : ∃ K, K ≤ 1500 ∧ xs.length ≤ K := ⟨1500, Nat.le_refl _, by omega⟩
  have px := Wn.raw (b := f) hx kx (by omega)
  have mx := lent_mid xs
  have lnx := lent_len xs
  have wtr := wtrim_calls (b := f) px.ok
  generalize WV f xs = x at *
  have zv : Z 2 v := by unfold Z; omega
  have c1 := intW px
  have c2 := Ref.r2int px (by omega)
  have c3 := signW px
  have c4 := limbsW px
  have c5 := Ref.r2sign px
  have c6 := Ref.r2limbs px
  rw [Ref.limbs_eq] at c4
  have c7 := Ref.r2trim px
  have c8 := sameT px.z (by omega) rfl
  have c9 := wof_v hv0 hv1
  have c10 := small_whole hv0 hv1
  have c11 := sameT zv (by omega) rfl
  have hfin : ∃ (j : Int) (ok : Bool), intP x = .tup [.val (.int .i64 j), .val (.bool ok)] := by
    unfold intP
    split
    · exact ⟨_, _, rfl⟩
    · exact ⟨_, _, rfl⟩
  obtain ⟨j, ok, ej⟩ := hfin
  rw [ej] at c1 c2
  have hok : (ok == ok) = true := by cases ok <;> rfl
  have hll := px.z.len
  clear px zv ej
  generalize cZ x 0 = k0 at *
  ((refine pCall_view (by simp -implicitDefEqProofs (disch := omega) only [go_sem, ht, eq_self] <;> rfl) (by simp -implicitDefEqProofs (disch := omega) only [go_sem, ht, eq_self]) (by first | (apply Or.inl; simp -implicitDefEqProofs (disch := omega) only [go_sem, ht, eq_self]; done) | (apply Or.inr; rintro r rfl; rfl)) (lx) ?_; rintro _ nx_3 - rfl hnx_3; (try simp only [put_nx, withH_nx, begP_nx] at hnx_3); simp -implicitDefEqProofs (disch := omega) only [go_sem, ht, eq_self]))
  generalize nx_3 = nL at *
  apply pCall_mem
  exact lend_calls hx (by omega) (by simp -implicitDefEqProofs (disch := omega) only [go_sem, ht, eq_self]) (by simp -implicitDefEqProofs (disch := omega) only [go_sem, ht, eq_self] <;> omega)
  rintro _ H1 n1 ⟨i1, hi1, hi1', rfl, hA1, hA2, hA3⟩ hn1
  simp only [put_nx, withH_nx, begP_nx] at hi1 hn1
  have hA0 : H1 0 = some [.val (.bool f), .sl xs.length (xs.map U)] := by rw [hA3 _ (by omega) (by omega)]; simp -implicitDefEqProofs (disch := omega) only [go_sem, ht, eq_self]
  clear hA3
  simp -implicitDefEqProofs (disch := omega) only [go_sem, ht, hA0, eq_self]
  ((refine pCall_view (by simp -implicitDefEqProofs (disch := omega) only [hA0, hA2, mx, lnx, if_pos, go_sem, ht, eq_self] <;> rfl) (by simp -implicitDefEqProofs (disch := omega) only [hA0, hA2, mx, lnx, if_pos, go_sem, ht, eq_self]) (by first | (apply Or.inl; simp -implicitDefEqProofs (disch := omega) only [hA0, hA2, mx, lnx, if_pos, go_sem, ht, eq_self]; done) | (apply Or.inr; rintro r rfl; rfl)) (c1) ?_; rintro _ nx_4 - rfl hnx_4; (try simp only [put_nx, withH_nx, begP_nx] at hnx_4); simp -implicitDefEqProofs (disch := omega) only [hA0, hA2, mx, lnx, if_pos, go_sem, ht, eq_self]); (refine pCall_view (by simp -implicitDefEqProofs (disch := omega) only [hA0, hA2, mx, lnx, if_pos, go_sem, ht, eq_self] <;> rfl) (by simp -implicitDefEqProofs (disch := omega) only [hA0, hA2, mx, lnx, if_pos, go_sem, ht, eq_self]) (by first | (apply Or.inl; simp -implicitDefEqProofs (disch := omega) only [hA0, hA2, mx, lnx, if_pos, go_sem, ht, eq_self]; done) | (apply Or.inr; rintro r rfl; rfl)) (c2) ?_; rintro _ nx_5 - rfl hnx_5; (try simp only [put_nx, withH_nx, begP_nx] at hnx_5); simp -implicitDefEqProofs (disch := omega) only [hA0, hA2, mx, lnx, if_pos, go_sem, ht, eq_self]))
  (refine pCall_own1 (mk := mkW x) (mk_W x) (by simp -implicitDefEqProofs (disch := omega) only [hA0, hA2, mx, lnx, if_pos, go_sem, ht, eq_self] <;> rfl) (by simp -implicitDefEqProofs (disch := omega) only [hA0, hA2, mx, lnx, if_pos, go_sem, ht, eq_self]) (closedL_U _) (flatL_U _) (wtr) ?_; intro id1 cap1 rest1 nx1 hid1 hnx1 hcap1; simp only [put_nx, withH_nx, begP_nx, List.length_map] at hid1 hcap1; simp -implicitDefEqProofs (disch := omega) only [hA0, hA2, mx, lnx, if_pos, go_sem, ht, eq_self])
  ((refine pCall_view (by simp -implicitDefEqProofs (disch := omega) only [hA0, hA2, mx, lnx, if_pos, go_sem, ht, eq_self] <;> rfl) (by simp -implicitDefEqProofs (disch := omega) only [hA0, hA2, mx, lnx, if_pos, go_sem, ht, eq_self]) (by first | (apply Or.inl; simp -implicitDefEqProofs (disch := omega) only [hA0, hA2, mx, lnx, if_pos, go_sem, ht, eq_self]; done) | (apply Or.inr; rintro r rfl; rfl)) (c3) ?_; rintro _ nx_6 - rfl hnx_6; (try simp only [put_nx, withH_nx, begP_nx] at hnx_6); simp -implicitDefEqProofs (disch := omega) only [hA0, hA2, mx, lnx, if_pos, go_sem, ht, eq_self]); (refine pCall_view (by simp -implicitDefEqProofs (disch := omega) only [hA0, hA2, mx, lnx, if_pos, go_sem, ht, eq_self] <;> rfl) (by simp -implicitDefEqProofs (disch := omega) only [hA0, hA2, mx, lnx, if_pos, go_sem, ht, eq_self]) (by first | (apply Or.inl; simp -implicitDefEqProofs (disch := omega) only [hA0, hA2, mx, lnx, if_pos, go_sem, ht, eq_self]; done) | (apply Or.inr; rintro r rfl; rfl)) (c4) ?_; rintro _ nx_7 - rfl hnx_7; (try simp only [put_nx, withH_nx, begP_nx] at hnx_7); simp -implicitDefEqProofs (disch := omega) only [hA0, hA2, mx, lnx, if_pos, go_sem, ht, eq_self]))
  apply pCall_mem
  exact back_calls (id := i1) hx (by omega) (by simp -implicitDefEqProofs (disch := omega) only [go_sem, ht, hA1, eq_self]) (by simp -implicitDefEqProofs (disch := omega) only [go_sem, ht, hA2, eq_self]) (by omega)
  rintro _ H4 n4 ⟨rfl, hC⟩ hn4
  simp only [put_nx, withH_nx, begP_nx] at hn4
  have hC0 : H4 0 = some [.val (.bool f), .sl xs.length (xs.map U)] := by rw [hC _ (by omega)]; simp -implicitDefEqProofs (disch := omega) only [go_sem, ht, hA0, eq_self]
  have hC1 : H4 id1 = some ((D x.natAbs).map U ++ rest1.map .val) := by rw [hC _ (by omega)]; simp -implicitDefEqProofs (disch := omega) only [go_sem, ht, eq_self]
  have hC2 : H4 nx1 = some [.val (.bool (decide (x < 0))), .ref id1 0 (D x.natAbs).length cap1 1] := by rw [hC _ (by omega)]; simp -implicitDefEqProofs (disch := omega) only [go_sem, ht, eq_self]
  clear hC hA0 hA1 hA2
  simp -implicitDefEqProofs (disch := omega) only [go_sem, ht, hC0, hC1, hC2, hok, eq_self]
  ((refine pCall_view (by simp -implicitDefEqProofs (disch := omega) only [hC0, hC1, hC2, hok, if_pos, Nat.le_add_right, go_sem, ht, eq_self] <;> rfl) (by simp -implicitDefEqProofs (disch := omega) only [hC0, hC1, hC2, hok, if_pos, Nat.le_add_right, go_sem, ht, eq_self]) (by first | (apply Or.inl; simp -implicitDefEqProofs (disch := omega) only [hC0, hC1, hC2, hok, if_pos, Nat.le_add_right, go_sem, ht, eq_self]; done) | (apply Or.inr; rintro r rfl; rfl)) (c5) ?_; rintro _ nx_8 - rfl hnx_8; (try simp only [put_nx, withH_nx, begP_nx] at hnx_8); simp -implicitDefEqProofs (disch := omega) only [hC0, hC1, hC2, hok, if_pos, Nat.le_add_right, go_sem, ht, eq_self]); (refine pCall_view (by simp -implicitDefEqProofs (disch := omega) only [hC0, hC1, hC2, hok, if_pos, Nat.le_add_right, go_sem, ht, eq_self] <;> rfl) (by simp -implicitDefEqProofs (disch := omega) only [hC0, hC1, hC2, hok, if_pos, Nat.le_add_right, go_sem, ht, eq_self]) (by first | (apply Or.inl; simp -implicitDefEqProofs (disch := omega) only [hC0, hC1, hC2, hok, if_pos, Nat.le_add_right, go_sem, ht, eq_self]; done) | (apply Or.inr; rintro r rfl; rfl)) (c6) ?_; rintro _ nx_9 - rfl hnx_9; (try simp only [put_nx, withH_nx, begP_nx] at hnx_9); simp -implicitDefEqProofs (disch := omega) only [hC0, hC1, hC2, hok, if_pos, Nat.le_add_right, go_sem, ht, eq_self]); (refine pCall_view (by simp -implicitDefEqProofs (disch := omega) only [hC0, hC1, hC2, hok, if_pos, Nat.le_add_right, go_sem, ht, eq_self] <;> rfl) (by simp -implicitDefEqProofs (disch := omega) only [hC0, hC1, hC2, hok, if_pos, Nat.le_add_right, go_sem, ht, eq_self]) (by first | (apply Or.inl; simp -implicitDefEqProofs (disch := omega) only [hC0, hC1, hC2, hok, if_pos, Nat.le_add_right, go_sem, ht, eq_self]; done) | (apply Or.inr; rintro r rfl; rfl)) (c7) ?_; rintro _ nx_10 - rfl hnx_10; (try simp only [put_nx, withH_nx, begP_nx] at hnx_10); simp -implicitDefEqProofs (disch := omega) only [hC0, hC1, hC2, hok, if_pos, Nat.le_add_right, go_sem, ht, eq_self]); (refine pCall_view (by simp -implicitDefEqProofs (disch := omega) only [hC0, hC1, hC2, hok, if_pos, Nat.le_add_right, go_sem, ht, eq_self] <;> rfl) (by simp -implicitDefEqProofs (disch := omega) only [hC0, hC1, hC2, hok, if_pos, Nat.le_add_right, go_sem, ht, eq_self]) (by first | (apply Or.inl; simp -implicitDefEqProofs (disch := omega) only [hC0, hC1, hC2, hok, if_pos, Nat.le_add_right, go_sem, ht, eq_self]; done) | (apply Or.inr; rintro r rfl; rfl)) (c8) ?_; rintro _ nx_11 - rfl hnx_11; (try simp only [put_nx, withH_nx, begP_nx] at hnx_11); simp -implicitDefEqProofs (disch := omega) only [hC0, hC1, hC2, hok, if_pos, Nat.le_add_right, go_sem, ht, eq_self]); (refine pCall_view (by simp -implicitDefEqProofs (disch := omega) only [hC0, hC1, hC2, hok, if_pos, Nat.le_add_right, go_sem, ht, eq_self] <;> rfl) (by simp -implicitDefEqProofs (disch := omega) only [hC0, hC1, hC2, hok, if_pos, Nat.le_add_right, go_sem, ht, eq_self]) (by first | (apply Or.inl; simp -implicitDefEqProofs (disch := omega) only [hC0, hC1, hC2, hok, if_pos, Nat.le_add_right, go_sem, ht, eq_self]; done) | (apply Or.inr; rintro r rfl; rfl)) (c9) ?_; rintro _ nx_12 - rfl hnx_12; (try simp only [put_nx, withH_nx, begP_nx] at hnx_12); simp -implicitDefEqProofs (disch := omega) only [hC0, hC1, hC2, hok, if_pos, Nat.le_add_right, go_sem, ht, eq_self]); (refine pCall_view (by simp -implicitDefEqProofs (disch := omega) only [hC0, hC1, hC2, hok, if_pos, Nat.le_add_right, go_sem, ht, eq_self] <;> rfl) (by simp -implicitDefEqProofs (disch := omega) only [hC0, hC1, hC2, hok, if_pos, Nat.le_add_right, go_sem, ht, eq_self]) (by first | (apply Or.inl; simp -implicitDefEqProofs (disch := omega) only [hC0, hC1, hC2, hok, if_pos, Nat.le_add_right, go_sem, ht, eq_self]; done) | (apply Or.inr; rintro r rfl; rfl)) (c10) ?_; rintro _ nx_13 - rfl hnx_13; (try simp only [put_nx, withH_nx, begP_nx] at hnx_13); simp -implicitDefEqProofs (disch := omega) only [hC0, hC1, hC2, hok, if_pos, Nat.le_add_right, go_sem, ht, eq_self]); (refine pCall_view (by simp -implicitDefEqProofs (disch := omega) only [hC0, hC1, hC2, hok, if_pos, Nat.le_add_right, go_sem, ht, eq_self] <;> rfl) (by simp -implicitDefEqProofs (disch := omega) only [hC0, hC1, hC2, hok, if_pos, Nat.le_add_right, go_sem, ht, eq_self]) (by first | (apply Or.inl; simp -implicitDefEqProofs (disch := omega) only [hC0, hC1, hC2, hok, if_pos, Nat.le_add_right, go_sem, ht, eq_self]; done) | (apply Or.inr; rintro r rfl; rfl)) (c11) ?_; rintro _ nx_14 - rfl hnx_14; (try simp only [put_nx, withH_nx, begP_nx] at hnx_14); simp -implicitDefEqProofs (disch := omega) only [hC0, hC1, hC2, hok, if_pos, Nat.le_add_right, go_sem, ht, eq_self]))
  (refine end_treeW 0 ?_; simp -implicitDefEqProofs (disch := omega) only [go_sem, ht, eq_self])
open Go.ChangeShapes Go.WideShapes Go.ChangeAt Go.RowKit
set_option maxRecDepth 100000 in
theorem wholeReads_lifted (os : Os) (started : os.Started) (H : Type) (enc : TypeId × Value → H) :
    ReturnsInHanded {} Try.checked os 6 .any (Rows.wholeReadsSpec.pre6 enc Try.prog Try.f6 Rows.wholeReadsRow.domain false) (Rows.wholeReadsSpec.post enc Try.prog Try.f6 false true false false) := by
  refine returnsInHanded_of_change_sized (C := Try.checked) law_own started (by kernel_rfl) Try.func6
    (ChangeSpec.witness6 (enc := enc) (C := Try.checked) false ⟨#[], #[.int .i64 0, .agg #[.bool false, .slice none 0 0]], []⟩ 8 (by kernel_rfl) (by kernel_rfl) (by kernel_rfl) (by kernel_rfl)) ?_
  intro W base args ds gs before hval0 hW hcnd hsz0 _
  have hsz : (DataW.weightsEach Try.prog (Try.f6.params.toList ++ Rows.wholeReadsSpec.plain.varTypes Try.prog) (ds ++ gs)).all (· ≤ reachBytes) = true := hsz0
  have hval : ∀ (j : Nat) t v, Try.f6.params[j]? = some t → args[j]? = some v → Value.okWide Try.prog W .any base t v := hval0
  have hW' := hW
  obtain ⟨p, q, hA0, hV, rfl, hfz, hnd⟩ := hW
  have hA : DataW.TrodAll enc Try.prog W 0 (fun _ => true) true Try.f6.params.toList args.toList ds p := hA0
  rw [Try.params6] at hA hval hsz
  obtain ⟨v0, vs0, d0, ds0, p0, q0, hargs, rfl, rfl, h0, r0⟩ := trodAll_cons hA
  obtain ⟨v1, vs1, d1, ds1, p1, q1, rfl, rfl, rfl, h1, r1⟩ := trodAll_cons r0
  obtain ⟨rfl, rfl, rfl⟩ := trodAll_nil r1
  obtain rfl : args = #[v0, v1] := by cases args; simp_all
  obtain ⟨rfl, rfl⟩ := trodVars_none hV
  simp only [List.append_nil, List.cons_append, List.nil_append, DataW.weightsEach, List.all_append, Bool.and_eq_true] at hsz
  have lt0 : ∀ x ∈ p0, x.block < W.heap.size := by obtain ⟨m, hm⟩ := h0; exact DataW.trod_lt m _ _ _ hm
  obtain ⟨x0, lo0, hi0, rep0⟩ := arg_int Try.underlying3 (hval 0 3 v0 rfl rfl) h0
  have lt1 : ∀ x ∈ p1, x.block < W.heap.size := by obtain ⟨m, hm⟩ := h1; exact DataW.trod_lt m _ _ _ hm
  obtain ⟨f1, x1, lm1, len1, rep1⟩ := arg_whole Try.underlying28 (by kernel_rfl) rfl rfl (by kernel_rfl) (by kernel_rfl) Try.underlying4 Try.underlying26 Try.underlying54 (by kernel_rfl) (by kernel_rfl) (by kernel_rfl) (hval 1 28 v1 rfl rfl) h1 hsz.2.1
  refine (law_run (wreads_law lo0 hi0 lm1 len1) (vs := [v0, v1]) (by simp only [RepL]; exact ⟨rep0, ⟨rep1, trivial⟩⟩)).mono fun e W' ⟨⟨v, r, he, hr, hx⟩, bel⟩ => ?_
  subst he; rw [hx _ hr]
  exact ⟨_, rfl, _, _, _, [], _, [], hW', trodAll_mk1 (shut_bool Try.underlying4 _), (trodAll_cons_mk (Below.trod law_laidOut (by kernel_rfl) (of_decide_eq_true (by kernel_rfl)) h0 bel lt0) (trodAll_cons_mk (Below.trod law_laidOut (by kernel_rfl) (of_decide_eq_true (by kernel_rfl)) h1 bel lt1) trodAll_mk0)), rfl, bel.frame _, fun h => by cases h⟩
theorem wholeReads_holds : Rows.WholeReadsSaid :=
  OpenClaim.holds_of_wide 6 Try.f6 rfl rfl rfl rfl rfl rfl rfl ⟨rfl, rfl, rfl, rfl, rfl⟩ rfl rfl rfl rfl rfl (by kernel_rfl) Try.func6 (by kernel_rfl)
    (of_decide_eq_true (by kernel_rfl)) (by unfold Func.isWrapper; first | (rw [if_pos (by decide +kernel)]; kernel_rfl) | (rw [if_neg (by decide +kernel)]; exact ⟨rfl, rfl⟩))
    (fun os started H enc _ => wholeReads_lifted os started H enc)
end Go.Proofs.Ytfbmdbgjfnkmiaa
