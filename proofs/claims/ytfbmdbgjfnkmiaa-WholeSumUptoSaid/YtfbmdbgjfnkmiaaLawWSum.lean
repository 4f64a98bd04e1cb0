/- The statement WholeSum holds of the given program in its second form: for every list of whole numbers, where what it holds is bounded, the law answers true. Its conditions are those of the given statement, and no others. -/
import Derived.Test.YtfbmdbgjfnkmiaaRefSum
import Derived.Test.YtfbmdbgjfnkmiaaBookC
import Derived.Test.YtfbmdbgjfnkmiaaLawS
set_option maxRecDepth 100000
set_option linter.unusedVariables false
set_option linter.unusedSimpArgs false
namespace Go.Proofs.Ytfbmdbgjfnkmiaa

set_option maxHeartbeats 8000000 in
theorem wsum_law {l : List (Bool × List Nat)} (hm : ∀ p ∈ l, Lm p.2) (hb : lenW l + 1 ≤ 1048576) :
    PT Try.prog 3 [SW l] (isV (.val (.bool true))) := by
  have hln := len_wholes (l := l) (by omega)
  refine PCalls.enter (n := 48) (rs := [.tmp 2]) (tb := [(9, [(0, []), (1, []), (2, [0]), (3, []), (4, []), (5, []), (6, []), (7, []), (8, []), (9, []), (10, []), (11, []), (12, []), (13, []), (14, []), (15, []), (16, []), (17, []), (18, []), (19, []), (20, []), (21, []), (22, []), (23, []), (24, []), (25, []), (26, []), (27, []), (28, [])]), (1000009, [(0, []), (0, []), (2, []), (7, []), (15, []), (31, []), (31, []), (127, []), (255, []), (511, []), (1023, []), (1023, []), (4095, []), (8191, []), (16383, []), (32767, []), (32767, []), (131071, []), (262143, []), (524287, []), (1048575, []), (1048575, []), (4194303, []), (8388607, []), (16777215, []), (33554431, []), (67108863, []), (134217727, []), (268435455, [])])]) Try.func3 rfl rfl rfl (by kernel_rfl) (by kernel_rfl) (by simp) fun c hc ht => ?_
  simp -implicitDefEqProofs (disch := omega) only [go_sem, ht, eq_self]
  ((refine pCall_view (by simp -implicitDefEqProofs (disch := omega) only [go_sem, ht, eq_self] <;> rfl) (by simp -implicitDefEqProofs (disch := omega) only [go_sem, ht, eq_self]) (by first | (apply Or.inl; simp -implicitDefEqProofs (disch := omega) only [go_sem, ht, eq_self]; done) | (apply Or.inr; rintro r rfl; rfl)) (awake_whole) ?_; rintro _ nx_1 - rfl hnx_1; (try simp only [put_nx, withH_nx, begP_nx] at hnx_1); simp -implicitDefEqProofs (disch := omega) only [go_sem, ht, eq_self]))
  by_cases hl : 1500 < lenW l
  · ((refine pCall_view (by simp -implicitDefEqProofs (disch := omega) only [go_sem, ht, eq_self] <;> rfl) (by simp -implicitDefEqProofs (disch := omega) only [go_sem, ht, eq_self]) (by first | (apply Or.inl; simp -implicitDefEqProofs (disch := omega) only [go_sem, ht, eq_self]; done) | (apply Or.inr; rintro r rfl; rfl)) (hln) ?_; rintro _ nx_2 - rfl hnx_2; (try simp only [put_nx, withH_nx, begP_nx] at hnx_2); simp -implicitDefEqProofs (disch := omega) only [go_sem, ht, eq_self]))
    (refine end_treeW 0 ?_; simp -implicitDefEqProofs (disch := omega) only [go_sem, ht, eq_self])
  have hlen := lenW_len l
  have hp : ∀ p ∈ l, Lm p.2 ∧ p.2.length ≤ 1500 := fun p h => ⟨hm p h, by have := lenW_mem h; omega⟩
  have hok : ∀ p ∈ l, Ok p.2 := fun p h => ⟨hm p h, by have := (hp p h).2; omega⟩
  have hcp := copy_wholes (l := l) hok (by omega)
  have hsw := same_wholes (l := l) (m := l) hok hok (by omega)
  rw [decide_eq_true rfl] at hsw
  have hsm := wsum_calls (l := l) (K := 1500) hp (by omega)
  have hz := sumW_Z (l := l) (K := 1500) (fun p h => .V (hp p h).1 (hp p h).2) l.length (Nat.le_refl _)
  rw [List.take_length] at hz
  have hrs := Ref.r2sum (l := l) (k := 1500) hp (by omega)
  have s1 := sameT hz (by omega) rfl
  have o1 := (hz.ok (by omega)).len
  clear hz
  generalize sumW l = s at *
  ((refine pCall_view (by simp -implicitDefEqProofs (disch := omega) only [go_sem, ht, eq_self] <;> rfl) (by simp -implicitDefEqProofs (disch := omega) only [go_sem, ht, eq_self]) (by first | (apply Or.inl; simp -implicitDefEqProofs (disch := omega) only [go_sem, ht, eq_self]; done) | (apply Or.inr; rintro r rfl; rfl)) (hln) ?_; rintro _ nx_3 - rfl hnx_3; (try simp only [put_nx, withH_nx, begP_nx] at hnx_3); simp -implicitDefEqProofs (disch := omega) only [go_sem, ht, eq_self]); (refine pCall_view (by simp -implicitDefEqProofs (disch := omega) only [go_sem, ht, eq_self] <;> rfl) (by simp -implicitDefEqProofs (disch := omega) only [go_sem, ht, eq_self]) (by first | (apply Or.inl; simp -implicitDefEqProofs (disch := omega) only [go_sem, ht, eq_self]; done) | (apply Or.inr; rintro r rfl; rfl)) (hcp) ?_; rintro _ nx_4 - rfl hnx_4; (try simp only [put_nx, withH_nx, begP_nx] at hnx_4); simp -implicitDefEqProofs (disch := omega) only [go_sem, ht, eq_self]))
  (refine pCall_own1 (mk := mkW s) (mk_W s) (by simp -implicitDefEqProofs (disch := omega) only [go_sem, ht, eq_self] <;> rfl) (by simp -implicitDefEqProofs (disch := omega) only [go_sem, ht, eq_self]) (closedL_U _) (flatL_U _) (hsm) ?_; intro id1 cap1 rest1 nx1 hid1 hnx1 hcap1; simp only [put_nx, withH_nx, begP_nx, List.length_map] at hid1 hcap1; simp -implicitDefEqProofs (disch := omega) only [go_sem, ht, eq_self])
  (refine pCall_own1 (mk := mkW s) (mk_W s) (by simp -implicitDefEqProofs (disch := omega) only [go_sem, ht, eq_self] <;> rfl) (by simp -implicitDefEqProofs (disch := omega) only [go_sem, ht, eq_self]) (closedL_U _) (flatL_U _) (hsm) ?_; intro id2 cap2 rest2 nx2 hid2 hnx2 hcap2; simp only [put_nx, withH_nx, begP_nx, List.length_map] at hid2 hcap2; simp -implicitDefEqProofs (disch := omega) only [go_sem, ht, eq_self])
  ((refine pCall_view (by simp -implicitDefEqProofs (disch := omega) only [if_pos, Nat.le_add_right, go_sem, ht, eq_self] <;> rfl) (by simp -implicitDefEqProofs (disch := omega) only [if_pos, Nat.le_add_right, go_sem, ht, eq_self]) (by first | (apply Or.inl; simp -implicitDefEqProofs (disch := omega) only [if_pos, Nat.le_add_right, go_sem, ht, eq_self]; done) | (apply Or.inr; rintro r rfl; rfl)) (hrs) ?_; rintro _ nx_5 - rfl hnx_5; (try simp only [put_nx, withH_nx, begP_nx] at hnx_5); simp -implicitDefEqProofs (disch := omega) only [if_pos, Nat.le_add_right, go_sem, ht, eq_self]); (refine pCall_view (by simp -implicitDefEqProofs (disch := omega) only [if_pos, Nat.le_add_right, go_sem, ht, eq_self] <;> rfl) (by simp -implicitDefEqProofs (disch := omega) only [if_pos, Nat.le_add_right, go_sem, ht, eq_self]) (by first | (apply Or.inl; simp -implicitDefEqProofs (disch := omega) only [if_pos, Nat.le_add_right, go_sem, ht, eq_self]; done) | (apply Or.inr; rintro r rfl; rfl)) (s1) ?_; rintro _ nx_6 - rfl hnx_6; (try simp only [put_nx, withH_nx, begP_nx] at hnx_6); simp -implicitDefEqProofs (disch := omega) only [if_pos, Nat.le_add_right, go_sem, ht, eq_self]); (refine pCall_view (by simp -implicitDefEqProofs (disch := omega) only [if_pos, Nat.le_add_right, go_sem, ht, eq_self] <;> rfl) (by simp -implicitDefEqProofs (disch := omega) only [if_pos, Nat.le_add_right, go_sem, ht, eq_self]) (by first | (apply Or.inl; simp -implicitDefEqProofs (disch := omega) only [if_pos, Nat.le_add_right, go_sem, ht, eq_self]; done) | (apply Or.inr; rintro r rfl; rfl)) (s1) ?_; rintro _ nx_7 - rfl hnx_7; (try simp only [put_nx, withH_nx, begP_nx] at hnx_7); simp -implicitDefEqProofs (disch := omega) only [if_pos, Nat.le_add_right, go_sem, ht, eq_self]); (refine pCall_view (by simp -implicitDefEqProofs (disch := omega) only [if_pos, Nat.le_add_right, go_sem, ht, eq_self] <;> rfl) (by simp -implicitDefEqProofs (disch := omega) only [if_pos, Nat.le_add_right, go_sem, ht, eq_self]) (by first | (apply Or.inl; simp -implicitDefEqProofs (disch := omega) only [if_pos, Nat.le_add_right, go_sem, ht, eq_self]; done) | (apply Or.inr; rintro r rfl; rfl)) (hsw) ?_; rintro _ nx_8 - rfl hnx_8; (try simp only [put_nx, withH_nx, begP_nx] at hnx_8); simp -implicitDefEqProofs (disch := omega) only [if_pos, Nat.le_add_right, go_sem, ht, eq_self]))
  apply pCall_mem
  exact ownw_av (es := []) (B := fun j => j = nx2 + 1) (cells := (D s.natAbs).map U ++ rest1.map .val) (L := [(id2, (D s.natAbs).map U ++ rest2.map .val), (nx2, [.val (.bool (decide (s < 0))), .ref id2 0 (D s.natAbs).length cap2 1])])
    (by
      simp -implicitDefEqProofs (disch := omega) only [go_sem, ht, eq_self]
      refine AV.cons (AV.cons (AV.cons AV.nil ?_ ?_ (by simp -implicitDefEqProofs (disch := omega) only [go_sem, ht, eq_self]) ?_) ?_ ?_ (by simp -implicitDefEqProofs (disch := omega) only [go_sem, ht, eq_self]) ?_) ?_ ?_ (by simp -implicitDefEqProofs (disch := omega) only [go_sem, ht, eq_self]) ?_ <;> first | omega | (simp; done) | (simp; omega))
    (by
      simp -implicitDefEqProofs (disch := omega) only [go_sem, ht, eq_self]
      exact BK.start (by simp -implicitDefEqProofs (disch := omega) only [go_sem, ht, eq_self]) (by omega)) (by simp) (by simp; omega) (by omega)
  rintro _ H6 n6 ⟨rfl, B6, e6, hbk6, hav6⟩ hn6
  have h6c := hav6.tail.head
  simp -implicitDefEqProofs (disch := omega) only [go_sem, ht, h6c, eq_self]
  apply pCall_mem
  exact ownw_av (B := B6) (by simp -implicitDefEqProofs (disch := omega) only [go_sem, ht, eq_self]; exact hav6) (by simp -implicitDefEqProofs (disch := omega) only [go_sem, ht, eq_self]; exact hbk6) (by simp) (by simp; omega) (by omega)
  rintro _ H7 n7 ⟨rfl, B7, e7, hbk7, hav7⟩ hn7
  simp -implicitDefEqProofs (disch := omega) only [go_sem, ht, eq_self]
  apply pCall_mem
  exact done_calls (es := _) (B := B7) (by simp -implicitDefEqProofs (disch := omega) only [go_sem, ht, eq_self]; exact hbk7) (by simp)
  rintro _ _ _ ⟨rfl, rfl, rfl⟩ -
  simp -implicitDefEqProofs (disch := omega) only [go_sem, ht, eq_self]
  (refine end_treeW 0 ?_; simp -implicitDefEqProofs (disch := omega) only [go_sem, ht, eq_self])
open Go.ChangeShapes Go.WideShapes Go.ChangeAt Go.RowKit
set_option maxRecDepth 100000 in
theorem wholeSum_lifted (os : Os) (started : os.Started) (H : Type) (enc : TypeId × Value → H) (F : Stop.Interp) :
    ReturnsInHanded {} Try.checked os 3 .any ((Rows.OpenSpec.upto Rows.wholeSumSpec).pre6 enc Try.prog Try.f3 Rows.wholeSumUptoRow.domain false) (((Rows.OpenSpec.upto Rows.wholeSumSpec).at F).post enc Try.prog Try.f3 false true false false) := by
  refine returnsInHanded_of_cond (C := Try.checked) (s := Rows.OpenSpec.upto Rows.wholeSumSpec) (k := Rows.uptoSmall) rfl law_own started (by kernel_rfl) Try.func3
    (OpenSpec.witness (enc := enc) (C := Try.checked) (s := Rows.OpenSpec.upto Rows.wholeSumSpec) (k := Rows.uptoSmall) rfl false ⟨#[], #[.slice none 0 0], []⟩ 8 (by kernel_rfl) (by kernel_rfl) (by kernel_rfl) (x := ([.nil], [], [])) (by kernel_rfl) rfl (by kernel_rfl)) ?_
  intro W base args ds gs before hval0 hW hcnd hk _
  have hval : ∀ (j : Nat) t v, Try.f3.params[j]? = some t → args[j]? = some v → Value.okWide Try.prog W .any base t v := hval0
  have hW' := hW
  obtain ⟨p, q, hA0, hV, rfl, hfz, hnd⟩ := hW
  have hA : DataW.TrodAll enc Try.prog W 0 (fun _ => true) true Try.f3.params.toList args.toList ds p := hA0
  rw [Try.params3] at hA hval
  obtain ⟨v0, vs0, d0, ds0, p0, q0, hargs, rfl, rfl, h0, r0⟩ := trodAll_cons hA
  obtain ⟨rfl, rfl, rfl⟩ := trodAll_nil r0
  obtain rfl : args = #[v0] := by cases args; simp_all
  obtain ⟨rfl, rfl⟩ := trodVars_none hV
  have hbk : Rows.uptoBulkAll [d0] ≤ 1048576 := of_decide_eq_true hk
  simp only [Rows.uptoBulkAll] at hbk
  have lt0 : ∀ x ∈ p0, x.block < W.heap.size := by obtain ⟨m, hm⟩ := h0; exact DataW.trod_lt m _ _ _ hm
  obtain ⟨fu0, g0⟩ := value_cells Try.underlying22 (hval 0 22 v0 rfl rfl) h0
  obtain ⟨l0, lm0, ln0, rep0⟩ := cell_wholesS Try.underlying22 Try.underlying28 (by kernel_rfl) rfl rfl (by kernel_rfl) (by kernel_rfl) Try.underlying4 Try.underlying26 Try.underlying54 (by kernel_rfl) g0
  have lb0 := Nat.le_trans ln0 (show Rows.uptoBulk d0 ≤ 1048576 by omega)
  refine (law_run (wsum_law lm0 lb0) (vs := [v0]) (by simp only [RepL]; exact ⟨rep0, trivial⟩)).mono fun e W' ⟨⟨v, r, he, hr, hx⟩, bel⟩ => ?_
  subst he; rw [hx _ hr]
  exact ⟨_, rfl, _, _, _, [], _, [], hW', trodAll_mk1 (shut_bool Try.underlying4 _), (trodAll_cons_mk (Below.trod law_laidOut (by kernel_rfl) (of_decide_eq_true (by kernel_rfl)) h0 bel lt0) trodAll_mk0), rfl, bel.frame _, fun h => by cases h⟩
theorem wholeSumUpto_holds : Rows.WholeSumUptoSaid :=
  OpenClaim.holds_of_cond 3 Try.f3 rfl rfl rfl rfl rfl rfl rfl ⟨rfl, rfl, rfl, rfl, rfl⟩ rfl rfl rfl rfl rfl (by kernel_rfl) Try.func3 (by kernel_rfl)
    (of_decide_eq_true (by kernel_rfl)) (by unfold Func.isWrapper; first | (rw [if_pos (by decide +kernel)]; kernel_rfl) | (rw [if_neg (by decide +kernel)]; exact ⟨rfl, rfl⟩))
    (fun os started H enc _ F => wholeSum_lifted os started H enc F)
end Go.Proofs.Ytfbmdbgjfnkmiaa
