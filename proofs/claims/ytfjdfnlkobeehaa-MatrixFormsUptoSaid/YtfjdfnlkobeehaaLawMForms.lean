/- The statement MatrixForms holds of the given program in its second form: for all rows and columns, where what they hold is bounded, the law answers true. Its conditions are those of the given statement, and no others. -/
import Derived.Test.YtfjdfnlkobeehaaKern
set_option maxRecDepth 100000
set_option linter.unusedVariables false
set_option linter.unusedSimpArgs false
namespace Go.Proofs.Ytfjdfnlkobeehaa

section
variable {m : List (List (Bool × List Nat))}
set_option maxHeartbeats 16000000 in
theorem forms_law {cn : Int} (hm : ∀ l ∈ m, ∀ p ∈ l, Lm p.2) (hb : lenM m + 1 ≤ 1048576) (lo : -9223372036854775808 ≤ cn) (hi : cn ≤ 9223372036854775807) :
    PT Try.prog 8 [SM m, .val (.int .i64 cn)] (isV (.val (.bool true))) := by
  have hlr := len_rows (m := m) (by omega)
  have hml := lenM_len m
  refine PCalls.enter (n := 150) (rs := [.tmp 4]) (tb := [(28, [(0, []), (1, []), (2, []), (3, []), (4, []), (5, []), (6, []), (7, []), (8, []), (9, []), (10, [])])]) Try.func8 rfl rfl rfl (by kernel_rfl) (by kernel_rfl) (by simp) fun c hc ht => ?_
  simp -implicitDefEqProofs (disch := omega) only [go_sem, ht, eq_self]
  ((refine pCall_view (by simp -implicitDefEqProofs (disch := omega) only [go_sem, ht, eq_self] <;> rfl) (by simp -implicitDefEqProofs (disch := omega) only [go_sem, ht, eq_self]) (by first | (apply Or.inl; simp -implicitDefEqProofs (disch := omega) only [go_sem, ht, eq_self]; done) | (apply Or.inr; rintro r rfl; rfl)) (awake_matrix) ?_; rintro _ nx_1 - rfl hnx_1; (try simp only [put_nx, withH_nx, begP_nx] at hnx_1); simp -implicitDefEqProofs (disch := omega) only [go_sem, ht, eq_self]))
  by_cases hl : 1500 < lenM m
  · ((refine pCall_view (by simp -implicitDefEqProofs (disch := omega) only [go_sem, ht, eq_self] <;> rfl) (by simp -implicitDefEqProofs (disch := omega) only [go_sem, ht, eq_self]) (by first | (apply Or.inl; simp -implicitDefEqProofs (disch := omega) only [go_sem, ht, eq_self]; done) | (apply Or.inr; rintro r rfl; rfl)) (hlr) ?_; rintro _ nx_2 - rfl hnx_2; (try simp only [put_nx, withH_nx, begP_nx] at hnx_2); simp -implicitDefEqProofs (disch := omega) only [go_sem, ht, eq_self]))
    (refine end_treeW 0 ?_; simp -implicitDefEqProofs (disch := omega) only [go_sem, ht, eq_self])
  have hMx : Mx m 1500 := ⟨hm, by omega, by omega⟩
  have hft := fits_calls (m := m) (cn := cn) (by omega)
  have hme := mech_calls hMx (cn := cn)
  by_cases hw : wrongM m cn = true
  · have e1 : mEch m cn = ([], 1) := by unfold mEch; rw [if_pos hw]
    rw [hw, Bool.not_true] at hft
    rw [e1] at hme
    simp only [List.map_nil] at hme
    ((refine pCall_view (by simp -implicitDefEqProofs (disch := omega) only [go_sem, ht, eq_self] <;> rfl) (by simp -implicitDefEqProofs (disch := omega) only [go_sem, ht, eq_self]) (by first | (apply Or.inl; simp -implicitDefEqProofs (disch := omega) only [go_sem, ht, eq_self]; done) | (apply Or.inr; rintro r rfl; rfl)) (hlr) ?_; rintro _ nx_3 - rfl hnx_3; (try simp only [put_nx, withH_nx, begP_nx] at hnx_3); simp -implicitDefEqProofs (disch := omega) only [go_sem, ht, eq_self]); (refine pCall_view (by simp -implicitDefEqProofs (disch := omega) only [go_sem, ht, eq_self] <;> rfl) (by simp -implicitDefEqProofs (disch := omega) only [go_sem, ht, eq_self]) (by first | (apply Or.inl; simp -implicitDefEqProofs (disch := omega) only [go_sem, ht, eq_self]; done) | (apply Or.inr; rintro r rfl; rfl)) (hme) ?_; rintro _ nx_4 - rfl hnx_4; (try simp only [put_nx, withH_nx, begP_nx] at hnx_4); simp -implicitDefEqProofs (disch := omega) only [go_sem, ht, eq_self]); (refine pCall_view (by simp -implicitDefEqProofs (disch := omega) only [go_sem, ht, eq_self] <;> rfl) (by simp -implicitDefEqProofs (disch := omega) only [go_sem, ht, eq_self]) (by first | (apply Or.inl; simp -implicitDefEqProofs (disch := omega) only [go_sem, ht, eq_self]; done) | (apply Or.inr; rintro r rfl; rfl)) (hft) ?_; rintro _ nx_5 - rfl hnx_5; (try simp only [put_nx, withH_nx, begP_nx] at hnx_5); simp -implicitDefEqProofs (disch := omega) only [go_sem, ht, eq_self]))
    (refine end_treeW 0 ?_; simp -implicitDefEqProofs (disch := omega) only [go_sem, ht, eq_self])
    rfl
  have hw' : wrongM m cn = false := by simpa using hw
  rw [hw', Bool.not_false] at hft
  obtain ⟨n, rfl, hn32, hm64, hlc⟩ := wrongM_false hw'
  have hkz : KZ m n 1501 := hMx.kz hlc
  have hmr := mrank_calls hMx (cn := n)
  have hmk := mker_calls (κ := 1501) hMx (cn := n) (fun n' e _ hlc' => by obtain rfl : n = n' := by omega
                                                                          exact hkz) (by omega) (by omega)
  obtain ⟨hRE, hsp1, hsp2⟩ := echT_RE hMx hlc
  obtain ⟨Q, hQ, hQn, hk1, hk2⟩ := kerT_RE hMx hlc hn32 hkz (by omega)
  have hdot := fun {u} (hu : Sp (rowsOf (echT (m.map vals) n)) u) => ker_dot hMx hlc hn32 hkz (by omega) hu
  have e1 : mEch m n = if longZ (echT (m.map vals) n) then ([], 2) else (echT (m.map vals) n, 0) := by unfold mEch; rw [hw', Int.toNat_natCast]; rfl
  have e2 : mRank m n = (((echW (m.map vals) n).2.length : Int), 0) := by unfold mRank; rw [hw', Int.toNat_natCast]; rfl
  have e3 : mKer m n = if longZ (kerT (m.map vals) n) then ([], 2) else (kerT (m.map vals) n, 0) := by unfold mKer; rw [hw', Int.toNat_natCast]; rfl
  rw [e1] at hme
  rw [e2] at hmr
  rw [e3] at hmk
  clear e1 e2 e3
  by_cases hT : longZ (echT (m.map vals) n) = true
  · rw [if_pos hT] at hme
    simp only [List.map_nil] at hme
    by_cases hK : longZ (kerT (m.map vals) n) = true
    · rw [if_pos hK] at hmk
      simp only [List.map_nil] at hmk
      ((refine pCall_view (by simp -implicitDefEqProofs (disch := omega) only [go_sem, ht, eq_self] <;> rfl) (by simp -implicitDefEqProofs (disch := omega) only [go_sem, ht, eq_self]) (by first | (apply Or.inl; simp -implicitDefEqProofs (disch := omega) only [go_sem, ht, eq_self]; done) | (apply Or.inr; rintro r rfl; rfl)) (hlr) ?_; rintro _ nx_6 - rfl hnx_6; (try simp only [put_nx, withH_nx, begP_nx] at hnx_6); simp -implicitDefEqProofs (disch := omega) only [go_sem, ht, eq_self]); (refine pCall_view (by simp -implicitDefEqProofs (disch := omega) only [go_sem, ht, eq_self] <;> rfl) (by simp -implicitDefEqProofs (disch := omega) only [go_sem, ht, eq_self]) (by first | (apply Or.inl; simp -implicitDefEqProofs (disch := omega) only [go_sem, ht, eq_self]; done) | (apply Or.inr; rintro r rfl; rfl)) (hme) ?_; rintro _ nx_7 - rfl hnx_7; (try simp only [put_nx, withH_nx, begP_nx] at hnx_7); simp -implicitDefEqProofs (disch := omega) only [go_sem, ht, eq_self]); (refine pCall_view (by simp -implicitDefEqProofs (disch := omega) only [go_sem, ht, eq_self] <;> rfl) (by simp -implicitDefEqProofs (disch := omega) only [go_sem, ht, eq_self]) (by first | (apply Or.inl; simp -implicitDefEqProofs (disch := omega) only [go_sem, ht, eq_self]; done) | (apply Or.inr; rintro r rfl; rfl)) (hft) ?_; rintro _ nx_8 - rfl hnx_8; (try simp only [put_nx, withH_nx, begP_nx] at hnx_8); simp -implicitDefEqProofs (disch := omega) only [go_sem, ht, eq_self]); (refine pCall_view (by simp -implicitDefEqProofs (disch := omega) only [go_sem, ht, eq_self] <;> rfl) (by simp -implicitDefEqProofs (disch := omega) only [go_sem, ht, eq_self]) (by first | (apply Or.inl; simp -implicitDefEqProofs (disch := omega) only [go_sem, ht, eq_self]; done) | (apply Or.inr; rintro r rfl; rfl)) (hmr) ?_; rintro _ nx_9 - rfl hnx_9; (try simp only [put_nx, withH_nx, begP_nx] at hnx_9); simp -implicitDefEqProofs (disch := omega) only [go_sem, ht, eq_self]); (refine pCall_view (by simp -implicitDefEqProofs (disch := omega) only [go_sem, ht, eq_self] <;> rfl) (by simp -implicitDefEqProofs (disch := omega) only [go_sem, ht, eq_self]) (by first | (apply Or.inl; simp -implicitDefEqProofs (disch := omega) only [go_sem, ht, eq_self]; done) | (apply Or.inr; rintro r rfl; rfl)) (hmk) ?_; rintro _ nx_10 - rfl hnx_10; (try simp only [put_nx, withH_nx, begP_nx] at hnx_10); simp -implicitDefEqProofs (disch := omega) only [go_sem, ht, eq_self]))
      (refine end_treeW 0 ?_; simp -implicitDefEqProofs (disch := omega) only [go_sem, ht, eq_self])
    · rw [if_neg hK] at hmk
      simp only at hmk
      generalize (kerT (m.map vals) n).map CZ = kk at *
      ((refine pCall_view (by simp -implicitDefEqProofs (disch := omega) only [go_sem, ht, eq_self] <;> rfl) (by simp -implicitDefEqProofs (disch := omega) only [go_sem, ht, eq_self]) (by first | (apply Or.inl; simp -implicitDefEqProofs (disch := omega) only [go_sem, ht, eq_self]; done) | (apply Or.inr; rintro r rfl; rfl)) (hlr) ?_; rintro _ nx_11 - rfl hnx_11; (try simp only [put_nx, withH_nx, begP_nx] at hnx_11); simp -implicitDefEqProofs (disch := omega) only [go_sem, ht, eq_self]); (refine pCall_view (by simp -implicitDefEqProofs (disch := omega) only [go_sem, ht, eq_self] <;> rfl) (by simp -implicitDefEqProofs (disch := omega) only [go_sem, ht, eq_self]) (by first | (apply Or.inl; simp -implicitDefEqProofs (disch := omega) only [go_sem, ht, eq_self]; done) | (apply Or.inr; rintro r rfl; rfl)) (hme) ?_; rintro _ nx_12 - rfl hnx_12; (try simp only [put_nx, withH_nx, begP_nx] at hnx_12); simp -implicitDefEqProofs (disch := omega) only [go_sem, ht, eq_self]); (refine pCall_view (by simp -implicitDefEqProofs (disch := omega) only [go_sem, ht, eq_self] <;> rfl) (by simp -implicitDefEqProofs (disch := omega) only [go_sem, ht, eq_self]) (by first | (apply Or.inl; simp -implicitDefEqProofs (disch := omega) only [go_sem, ht, eq_self]; done) | (apply Or.inr; rintro r rfl; rfl)) (hft) ?_; rintro _ nx_13 - rfl hnx_13; (try simp only [put_nx, withH_nx, begP_nx] at hnx_13); simp -implicitDefEqProofs (disch := omega) only [go_sem, ht, eq_self]); (refine pCall_view (by simp -implicitDefEqProofs (disch := omega) only [go_sem, ht, eq_self] <;> rfl) (by simp -implicitDefEqProofs (disch := omega) only [go_sem, ht, eq_self]) (by first | (apply Or.inl; simp -implicitDefEqProofs (disch := omega) only [go_sem, ht, eq_self]; done) | (apply Or.inr; rintro r rfl; rfl)) (hmr) ?_; rintro _ nx_14 - rfl hnx_14; (try simp only [put_nx, withH_nx, begP_nx] at hnx_14); simp -implicitDefEqProofs (disch := omega) only [go_sem, ht, eq_self]); (refine pCall_view (by simp -implicitDefEqProofs (disch := omega) only [go_sem, ht, eq_self] <;> rfl) (by simp -implicitDefEqProofs (disch := omega) only [go_sem, ht, eq_self]) (by first | (apply Or.inl; simp -implicitDefEqProofs (disch := omega) only [go_sem, ht, eq_self]; done) | (apply Or.inr; rintro r rfl; rfl)) (hmk) ?_; rintro _ nx_15 - rfl hnx_15; (try simp only [put_nx, withH_nx, begP_nx] at hnx_15); simp -implicitDefEqProofs (disch := omega) only [go_sem, ht, eq_self]))
      (refine end_treeW 0 ?_; simp -implicitDefEqProofs (disch := omega) only [go_sem, ht, eq_self])
  rw [if_neg hT] at hme
  simp only at hme
  by_cases hK : longZ (kerT (m.map vals) n) = true
  · rw [if_pos hK] at hmk
    simp only [List.map_nil] at hmk
    generalize (echT (m.map vals) n).map CZ = kk at *
    ((refine pCall_view (by simp -implicitDefEqProofs (disch := omega) only [go_sem, ht, eq_self] <;> rfl) (by simp -implicitDefEqProofs (disch := omega) only [go_sem, ht, eq_self]) (by first | (apply Or.inl; simp -implicitDefEqProofs (disch := omega) only [go_sem, ht, eq_self]; done) | (apply Or.inr; rintro r rfl; rfl)) (hlr) ?_; rintro _ nx_16 - rfl hnx_16; (try simp only [put_nx, withH_nx, begP_nx] at hnx_16); simp -implicitDefEqProofs (disch := omega) only [go_sem, ht, eq_self]); (refine pCall_view (by simp -implicitDefEqProofs (disch := omega) only [go_sem, ht, eq_self] <;> rfl) (by simp -implicitDefEqProofs (disch := omega) only [go_sem, ht, eq_self]) (by first | (apply Or.inl; simp -implicitDefEqProofs (disch := omega) only [go_sem, ht, eq_self]; done) | (apply Or.inr; rintro r rfl; rfl)) (hme) ?_; rintro _ nx_17 - rfl hnx_17; (try simp only [put_nx, withH_nx, begP_nx] at hnx_17); simp -implicitDefEqProofs (disch := omega) only [go_sem, ht, eq_self]); (refine pCall_view (by simp -implicitDefEqProofs (disch := omega) only [go_sem, ht, eq_self] <;> rfl) (by simp -implicitDefEqProofs (disch := omega) only [go_sem, ht, eq_self]) (by first | (apply Or.inl; simp -implicitDefEqProofs (disch := omega) only [go_sem, ht, eq_self]; done) | (apply Or.inr; rintro r rfl; rfl)) (hft) ?_; rintro _ nx_18 - rfl hnx_18; (try simp only [put_nx, withH_nx, begP_nx] at hnx_18); simp -implicitDefEqProofs (disch := omega) only [go_sem, ht, eq_self]); (refine pCall_view (by simp -implicitDefEqProofs (disch := omega) only [go_sem, ht, eq_self] <;> rfl) (by simp -implicitDefEqProofs (disch := omega) only [go_sem, ht, eq_self]) (by first | (apply Or.inl; simp -implicitDefEqProofs (disch := omega) only [go_sem, ht, eq_self]; done) | (apply Or.inr; rintro r rfl; rfl)) (hmr) ?_; rintro _ nx_19 - rfl hnx_19; (try simp only [put_nx, withH_nx, begP_nx] at hnx_19); simp -implicitDefEqProofs (disch := omega) only [go_sem, ht, eq_self]); (refine pCall_view (by simp -implicitDefEqProofs (disch := omega) only [go_sem, ht, eq_self] <;> rfl) (by simp -implicitDefEqProofs (disch := omega) only [go_sem, ht, eq_self]) (by first | (apply Or.inl; simp -implicitDefEqProofs (disch := omega) only [go_sem, ht, eq_self]; done) | (apply Or.inr; rintro r rfl; rfl)) (hmk) ?_; rintro _ nx_20 - rfl hnx_20; (try simp only [put_nx, withH_nx, begP_nx] at hnx_20); simp -implicitDefEqProofs (disch := omega) only [go_sem, ht, eq_self]))
    (refine end_treeW 0 ?_; simp -implicitDefEqProofs (disch := omega) only [go_sem, ht, eq_self])
  rw [if_neg hK] at hmk
  simp only at hmk
  have hTz := longZ_z (show longZ (echT (m.map vals) n) = false by simpa using hT)
  have hKz := longZ_z (show longZ (kerT (m.map vals) n) = false by simpa using hK)
  obtain ⟨hTM, hTc, hTl⟩ := hRE.mx hn32 hTz
  obtain ⟨hKM, hKc, hKl⟩ := hQ.mx hn32 hKz
  obtain ⟨hT1, hT2⟩ := hRE.own hTM
  have hTrn : ∀ l ∈ (echT (m.map vals) n).map CZ, Rn l 32 ∧ l.length = n := fun l hl => ⟨by
    obtain ⟨z, hz, rfl⟩ := List.mem_map.1 hl
    exact .C (hTz z hz) (by omega), hTc l hl⟩
  have hKrn : ∀ l ∈ (kerT (m.map vals) n).map CZ, Rn l 32 ∧ l.length = n := fun l hl => ⟨by
    obtain ⟨z, hz, rfl⟩ := List.mem_map.1 hl
    exact .C (hKz z hz) (by omega), hKc l hl⟩
  have l1 := lawech_calls (e := (echT (m.map vals) n).map CZ) (Pv := (echW (m.map vals) n).2) (cols := n) (by rw [map_vals_CZ]; exact hRE) hTrn (by omega) (by rw [List.length_map]; omega)
  have l2 := lawech_calls (e := (kerT (m.map vals) n).map CZ) (Pv := Q) (cols := n) (by rw [map_vals_CZ]; exact hQ) hKrn (by omega) (by rw [List.length_map]; omega)
  have hwT : wrongM ((echT (m.map vals) n).map CZ) n = false := decide_eq_false (by
    rintro (h | h | h | ⟨l, hl, hne⟩)
    · omega
    · omega
    · rw [List.length_map] at h; omega
    · exact hne (by rw [hTc l hl]))
  have hme2 := mech_calls hTM (cn := n)
  have e1 : mEch ((echT (m.map vals) n).map CZ) n = (echT (m.map vals) n, 0) := by
    unfold mEch
    rw [hwT, Int.toNat_natCast, map_vals_CZ, hT1, if_neg (by simp), if_neg hT]
  rw [e1] at hme2
  simp only at hme2
  have hsm := same_rows (m := (echT (m.map vals) n).map CZ) (m' := (echT (m.map vals) n).map CZ) (fun l hl => ⟨fun p hp => by have := ((hTrn l hl).1.ok p hp); exact ⟨this.1, by omega⟩, by rw [hTc l hl]; omega⟩) (fun l hl p hp => by have := ((hTrn l hl).1.ok p hp); exact ⟨this.1, by omega⟩) (by rw [List.length_map]; omega)
  rw [decide_eq_true rfl] at hsm
  have hlen1 : ((echT (m.map vals) n).map CZ).length = (echW (m.map vals) n).2.length := by rw [List.length_map]; exact hRE.len
  have hlen2 : ((kerT (m.map vals) n).map CZ).length = Q.length := by rw [List.length_map]; exact hQ.len
  have hins : ∀ l ∈ m, PT Try.prog 27 [SM ((echT (m.map vals) n).map CZ), .val (.int .i64 n), SW l] (isV (.tup [.val (.bool true), .val (.int .i64 0)])) := fun l hl => by
    have hi := mins_calls (k := 1500) (j := 32) (v := l) hTM (cn := n) (hMx.rn hl) (by rw [hlc l hl]; omega) (fun n' e _ _ => by
      obtain rfl : n = n' := by omega
      rw [map_vals_CZ, hT1]; exact hTz) (by omega)
    have e : mIns ((echT (m.map vals) n).map CZ) n l = (true, 0) := by
      unfold mIns
      rw [hwT, hlc l hl, Int.toNat_natCast, map_vals_CZ, hT1, hT2, (insB_sp hRE (v := vals l) (by rw [vals_len]; exact hlc l hl)).2 (hsp2 _ (rows_mem'.2 ⟨_, List.mem_map_of_mem hl, rfl⟩))]
      simp
    rw [e] at hi
    exact hi
  have hdt : ∀ l ∈ m, ∀ p ∈ (kerT (m.map vals) n).map CZ, PT Try.prog 39 [SW l, SW p] (isV (WC 0)) := fun l hl p hp => by
    have hd := dot_calls (a := 1500) (b := 32) (hMx.rn hl) (hKrn p hp).1 (by rw [hlc l hl, hKc p hp]) (by rw [hlc l hl]; omega)
    obtain ⟨z, hz, rfl⟩ := List.mem_map.1 hp
    rw [vals_CZ, hlc l hl, hdot (hsp2 _ (rows_mem'.2 ⟨_, List.mem_map_of_mem hl, rfl⟩)) z hz] at hd
    exact hd
  have hs0 := signW (Wn.C (k := 1) (Z.zero 1) (by omega))
  rw [cZ_eq rfl] at hs0
  clear hsp1 hsp2 hdot hk1 hk2 hT1 hT2 hTz hKz hTM hKM e1 hRE hQ hT hK hkz hTc
  generalize (kerT (m.map vals) n).map CZ = K at *
  generalize (echT (m.map vals) n).map CZ = E at *
  generalize (echW (m.map vals) n).2.length = r at *
  have hrk : (r : Int) + Q.length = n := by omega
  ((refine pCall_view (by simp -implicitDefEqProofs (disch := omega) only [hlen1, hlen2, hrk, go_sem, ht, eq_self] <;> rfl) (by simp -implicitDefEqProofs (disch := omega) only [hlen1, hlen2, hrk, go_sem, ht, eq_self]) (by first | (apply Or.inl; simp -implicitDefEqProofs (disch := omega) only [hlen1, hlen2, hrk, go_sem, ht, eq_self]; done) | (apply Or.inr; rintro r rfl; rfl)) (hlr) ?_; rintro _ nx_21 - rfl hnx_21; (try simp only [put_nx, withH_nx, begP_nx] at hnx_21); simp -implicitDefEqProofs (disch := omega) only [hlen1, hlen2, hrk, go_sem, ht, eq_self]); (refine pCall_view (by simp -implicitDefEqProofs (disch := omega) only [hlen1, hlen2, hrk, go_sem, ht, eq_self] <;> rfl) (by simp -implicitDefEqProofs (disch := omega) only [hlen1, hlen2, hrk, go_sem, ht, eq_self]) (by first | (apply Or.inl; simp -implicitDefEqProofs (disch := omega) only [hlen1, hlen2, hrk, go_sem, ht, eq_self]; done) | (apply Or.inr; rintro r rfl; rfl)) (hme) ?_; rintro _ nx_22 - rfl hnx_22; (try simp only [put_nx, withH_nx, begP_nx] at hnx_22); simp -implicitDefEqProofs (disch := omega) only [hlen1, hlen2, hrk, go_sem, ht, eq_self]); (refine pCall_view (by simp -implicitDefEqProofs (disch := omega) only [hlen1, hlen2, hrk, go_sem, ht, eq_self] <;> rfl) (by simp -implicitDefEqProofs (disch := omega) only [hlen1, hlen2, hrk, go_sem, ht, eq_self]) (by first | (apply Or.inl; simp -implicitDefEqProofs (disch := omega) only [hlen1, hlen2, hrk, go_sem, ht, eq_self]; done) | (apply Or.inr; rintro r rfl; rfl)) (hft) ?_; rintro _ nx_23 - rfl hnx_23; (try simp only [put_nx, withH_nx, begP_nx] at hnx_23); simp -implicitDefEqProofs (disch := omega) only [hlen1, hlen2, hrk, go_sem, ht, eq_self]); (refine pCall_view (by simp -implicitDefEqProofs (disch := omega) only [hlen1, hlen2, hrk, go_sem, ht, eq_self] <;> rfl) (by simp -implicitDefEqProofs (disch := omega) only [hlen1, hlen2, hrk, go_sem, ht, eq_self]) (by first | (apply Or.inl; simp -implicitDefEqProofs (disch := omega) only [hlen1, hlen2, hrk, go_sem, ht, eq_self]; done) | (apply Or.inr; rintro r rfl; rfl)) (hmr) ?_; rintro _ nx_24 - rfl hnx_24; (try simp only [put_nx, withH_nx, begP_nx] at hnx_24); simp -implicitDefEqProofs (disch := omega) only [hlen1, hlen2, hrk, go_sem, ht, eq_self]); (refine pCall_view (by simp -implicitDefEqProofs (disch := omega) only [hlen1, hlen2, hrk, go_sem, ht, eq_self] <;> rfl) (by simp -implicitDefEqProofs (disch := omega) only [hlen1, hlen2, hrk, go_sem, ht, eq_self]) (by first | (apply Or.inl; simp -implicitDefEqProofs (disch := omega) only [hlen1, hlen2, hrk, go_sem, ht, eq_self]; done) | (apply Or.inr; rintro r rfl; rfl)) (hmk) ?_; rintro _ nx_25 - rfl hnx_25; (try simp only [put_nx, withH_nx, begP_nx] at hnx_25); simp -implicitDefEqProofs (disch := omega) only [hlen1, hlen2, hrk, go_sem, ht, eq_self]))
  ((refine pCall_view (by simp -implicitDefEqProofs (disch := omega) only [hlen1, hlen2, go_sem, ht, eq_self] <;> rfl) (by simp -implicitDefEqProofs (disch := omega) only [hlen1, hlen2, go_sem, ht, eq_self]) (by first | (apply Or.inl; simp -implicitDefEqProofs (disch := omega) only [hlen1, hlen2, go_sem, ht, eq_self]; done) | (apply Or.inr; rintro r rfl; rfl)) (l1) ?_; rintro _ nx_26 - rfl hnx_26; (try simp only [put_nx, withH_nx, begP_nx] at hnx_26); simp -implicitDefEqProofs (disch := omega) only [hlen1, hlen2, go_sem, ht, eq_self]); (refine pCall_view (by simp -implicitDefEqProofs (disch := omega) only [hlen1, hlen2, go_sem, ht, eq_self] <;> rfl) (by simp -implicitDefEqProofs (disch := omega) only [hlen1, hlen2, go_sem, ht, eq_self]) (by first | (apply Or.inl; simp -implicitDefEqProofs (disch := omega) only [hlen1, hlen2, go_sem, ht, eq_self]; done) | (apply Or.inr; rintro r rfl; rfl)) (l2) ?_; rintro _ nx_27 - rfl hnx_27; (try simp only [put_nx, withH_nx, begP_nx] at hnx_27); simp -implicitDefEqProofs (disch := omega) only [hlen1, hlen2, go_sem, ht, eq_self]); (refine pCall_view (by simp -implicitDefEqProofs (disch := omega) only [hlen1, hlen2, go_sem, ht, eq_self] <;> rfl) (by simp -implicitDefEqProofs (disch := omega) only [hlen1, hlen2, go_sem, ht, eq_self]) (by first | (apply Or.inl; simp -implicitDefEqProofs (disch := omega) only [hlen1, hlen2, go_sem, ht, eq_self]; done) | (apply Or.inr; rintro r rfl; rfl)) (hme2) ?_; rintro _ nx_28 - rfl hnx_28; (try simp only [put_nx, withH_nx, begP_nx] at hnx_28); simp -implicitDefEqProofs (disch := omega) only [hlen1, hlen2, go_sem, ht, eq_self]); (refine pCall_view (by simp -implicitDefEqProofs (disch := omega) only [hlen1, hlen2, go_sem, ht, eq_self] <;> rfl) (by simp -implicitDefEqProofs (disch := omega) only [hlen1, hlen2, go_sem, ht, eq_self]) (by first | (apply Or.inl; simp -implicitDefEqProofs (disch := omega) only [hlen1, hlen2, go_sem, ht, eq_self]; done) | (apply Or.inr; rintro r rfl; rfl)) (hsm) ?_; rintro _ nx_29 - rfl hnx_29; (try simp only [put_nx, withH_nx, begP_nx] at hnx_29); simp -implicitDefEqProofs (disch := omega) only [hlen1, hlen2, go_sem, ht, eq_self]))
  refine LW.loopW hc ht (by kernel_rfl) (fun t => t.sl 0 = .sl m.length (m.map SW) ∧ t.sl 1 = .val (.int .i64 n) ∧ t.sl 5 = .sl r (E.map SW) ∧ t.sl 9 = .sl Q.length (K.map SW) ∧ ∃ i : Nat, i ≤ m.length ∧ t.sl 12 = .val (.int .i64 i))
    (fun t => match t.sl 12 with | .val (.int _ k) => m.length - k.toNat | _ => 0) ?_ ?_
  · simp -implicitDefEqProofs (disch := omega) only [go_sem, ht, eq_self]
    exact ⟨0, Nat.zero_le _, rfl⟩
  · rintro t ⟨h0, h1, h5, h9, i, hi, h12⟩
    by_cases hil : i = m.length
    · subst hil
      simp -implicitDefEqProofs (disch := omega) only [go_sem, ht, h0, h1, h5, h9, h12, eq_self]
      (refine end_treeW 0 ?_; simp -implicitDefEqProofs (disch := omega) only [go_sem, ht, eq_self])
    · have hlt : i < m.length := by omega
      have hgi := get_SM' hlt
      have hmi := getD_mem (d := []) hlt
      have hii := hins _ hmi
      have hdi := hdt _ hmi
      have hli := hlc _ hmi
      rw [SM_def, hlen1] at hii
      generalize m.getD i [] = l at *
      simp -implicitDefEqProofs (disch := omega) only [go_sem, ht, h0, h1, h5, h9, h12, hgi, eq_self]
      (refine pCall_view (by simp -implicitDefEqProofs (disch := omega) only [h0, h1, h5, h9, h12, hgi, go_sem, ht, eq_self] <;> rfl) (by simp -implicitDefEqProofs (disch := omega) only [h0, h1, h5, h9, h12, hgi, go_sem, ht, eq_self]) (by first | (apply Or.inl; simp -implicitDefEqProofs (disch := omega) only [h0, h1, h5, h9, h12, hgi, go_sem, ht, eq_self]; done) | (apply Or.inr; rintro r rfl; rfl)) (hii) ?_; rintro _ nx - rfl hnx; (try simp only [put_nx, withH_nx, begP_nx] at hnx); simp -implicitDefEqProofs (disch := omega) only [h0, h1, h5, h9, h12, hgi, go_sem, ht, eq_self])
      refine LW.loopW hc ht (by kernel_rfl) (fun s => s.sl 0 = .sl m.length (m.map SW) ∧ s.sl 1 = .val (.int .i64 n) ∧ s.sl 5 = .sl r (E.map SW) ∧ s.sl 9 = .sl Q.length (K.map SW) ∧ s.sl 12 = .val (.int .i64 i) ∧ ∃ j : Nat, j ≤ Q.length ∧ s.sl 15 = .val (.int .i64 j))
        (fun s => match s.sl 15 with | .val (.int _ k) => Q.length - k.toNat | _ => 0) ?_ ?_
      · simp -implicitDefEqProofs (disch := omega) only [go_sem, ht, h0, h1, h5, h9, h12, eq_self]
        exact ⟨0, Nat.zero_le _, rfl⟩
      · clear h0 h1 h5 h9 h12
        rintro s ⟨h0, h1, h5, h9, h12, j, hj, h15⟩
        by_cases hjl : j = Q.length
        · subst hjl
          simp -implicitDefEqProofs (disch := omega) only [go_sem, ht, h0, h1, h5, h9, h12, h15, eq_self]
          exact ⟨⟨i + 1, by omega, rfl⟩, by omega⟩
        · have hjlt : j < K.length := by omega
          have hgj := get_SM' hjlt
          have hmj := getD_mem (d := []) hjlt
          have hdj := hdi _ hmj
          generalize K.getD j [] = p at *
          simp -implicitDefEqProofs (disch := omega) only [go_sem, ht, h0, h1, h5, h9, h12, h15, hgi, hgj, eq_self]
          ((refine pCall_view (by simp -implicitDefEqProofs (disch := omega) only [h0, h1, h5, h9, h12, h15, hgi, hgj, go_sem, ht, eq_self] <;> rfl) (by simp -implicitDefEqProofs (disch := omega) only [h0, h1, h5, h9, h12, h15, hgi, hgj, go_sem, ht, eq_self]) (by first | (apply Or.inl; simp -implicitDefEqProofs (disch := omega) only [h0, h1, h5, h9, h12, h15, hgi, hgj, go_sem, ht, eq_self]; done) | (apply Or.inr; rintro r rfl; rfl)) (hdj) ?_; rintro _ nx_30 - rfl hnx_30; (try simp only [put_nx, withH_nx, begP_nx] at hnx_30); simp -implicitDefEqProofs (disch := omega) only [h0, h1, h5, h9, h12, h15, hgi, hgj, go_sem, ht, eq_self]); (refine pCall_view (by simp -implicitDefEqProofs (disch := omega) only [h0, h1, h5, h9, h12, h15, hgi, hgj, go_sem, ht, eq_self] <;> rfl) (by simp -implicitDefEqProofs (disch := omega) only [h0, h1, h5, h9, h12, h15, hgi, hgj, go_sem, ht, eq_self]) (by first | (apply Or.inl; simp -implicitDefEqProofs (disch := omega) only [h0, h1, h5, h9, h12, h15, hgi, hgj, go_sem, ht, eq_self]; done) | (apply Or.inr; rintro r rfl; rfl)) (hs0) ?_; rintro _ nx_31 - rfl hnx_31; (try simp only [put_nx, withH_nx, begP_nx] at hnx_31); simp -implicitDefEqProofs (disch := omega) only [h0, h1, h5, h9, h12, h15, hgi, hgj, go_sem, ht, eq_self]))
          exact ⟨⟨j + 1, by omega, rfl⟩, by omega⟩
end
end Go.Proofs.Ytfjdfnlkobeehaa
open Go.ChangeShapes Go.WideShapes Go.ChangeAt Go.RowKit
namespace Go.Proofs.Ytfjdfnlkobeehaa
set_option maxRecDepth 100000 in
theorem matrixForms_lifted (os : Os) (started : os.Started) (H : Type) (enc : TypeId × Value → H) (F : Stop.Interp) :
    ReturnsInHanded {} Try.checked os 8 .any ((Rows.OpenSpec.upto Rows.matrixFormsSpec).pre6 enc Try.prog Try.f8 Rows.matrixFormsUptoRow.domain false) (((Rows.OpenSpec.upto Rows.matrixFormsSpec).at F).post enc Try.prog Try.f8 false true false false) := by
  refine returnsInHanded_of_cond (C := Try.checked) (s := Rows.OpenSpec.upto Rows.matrixFormsSpec) (k := Rows.uptoSmall) rfl law_own started (by kernel_rfl) Try.func8
    (OpenSpec.witness (enc := enc) (C := Try.checked) (s := Rows.OpenSpec.upto Rows.matrixFormsSpec) (k := Rows.uptoSmall) rfl false ⟨#[], #[.slice none 0 0, .int .i64 0], []⟩ 8 (by kernel_rfl) (by kernel_rfl) (by kernel_rfl) (x := ([.nil, .lit (.int .i64 0)], [], [])) (by kernel_rfl) rfl (by kernel_rfl)) ?_
  intro W base args ds gs before hval0 hW hcnd hk _
  have hval : ∀ (j : Nat) t v, Try.f8.params[j]? = some t → args[j]? = some v → Value.okWide Try.prog W .any base t v := hval0
  have hW' := hW
  obtain ⟨p, q, hA0, hV, rfl, hfz, hnd⟩ := hW
  have hA : DataW.TrodAll enc Try.prog W 0 (fun _ => true) true Try.f8.params.toList args.toList ds p := hA0
  rw [Try.params8] at hA hval
  obtain ⟨v0, vs0, d0, ds0, p0, q0, hargs, rfl, rfl, h0, r0⟩ := trodAll_cons hA
  obtain ⟨v1, vs1, d1, ds1, p1, q1, rfl, rfl, rfl, h1, r1⟩ := trodAll_cons r0
  obtain ⟨rfl, rfl, rfl⟩ := trodAll_nil r1
  obtain rfl : args = #[v0, v1] := by cases args; simp_all
  obtain ⟨rfl, rfl⟩ := trodVars_none hV
  have hbk : Rows.uptoBulkAll [d0, d1] ≤ 1048576 := of_decide_eq_true hk
  simp only [Rows.uptoBulkAll] at hbk
  have lt0 : ∀ x ∈ p0, x.block < W.heap.size := by obtain ⟨m, hm⟩ := h0; exact DataW.trod_lt m _ _ _ hm
  obtain ⟨fu0, g0⟩ := value_cells Try.underlying22 (hval 0 22 v0 rfl rfl) h0
  obtain ⟨l0, lm0, ln0, rep0⟩ := cell_rowsS Try.underlying22 (by kernel_rfl) Try.underlying27 Try.underlying30 (by kernel_rfl) rfl rfl (by kernel_rfl) (by kernel_rfl) Try.underlying4 Try.underlying28 Try.underlying93 (by kernel_rfl) g0
  have lb0 := Nat.le_trans ln0 (show Rows.uptoBulk d0 ≤ 1048576 by omega)
  have lt1 : ∀ x ∈ p1, x.block < W.heap.size := by obtain ⟨m, hm⟩ := h1; exact DataW.trod_lt m _ _ _ hm
  obtain ⟨x1, lo1, hi1, rep1⟩ := arg_int Try.underlying3 (hval 1 3 v1 rfl rfl) h1
  refine (law_run (forms_law lm0 lb0 lo1 hi1) (vs := [v0, v1]) (by simp only [RepL]; exact ⟨rep0, ⟨rep1, trivial⟩⟩)).mono fun e W' ⟨⟨v, r, he, hr, hx⟩, bel⟩ => ?_
  subst he; rw [hx _ hr]
  exact ⟨_, rfl, _, _, _, [], _, [], hW', trodAll_mk1 (shut_bool Try.underlying4 _), (trodAll_cons_mk (Below.trod law_laidOut (by kernel_rfl) (of_decide_eq_true (by kernel_rfl)) h0 bel lt0) (trodAll_cons_mk (Below.trod law_laidOut (by kernel_rfl) (of_decide_eq_true (by kernel_rfl)) h1 bel lt1) trodAll_mk0)), rfl, bel.frame _, fun h => by cases h⟩
theorem matrixFormsUpto_holds : Rows.MatrixFormsUptoSaid :=
  OpenClaim.holds_of_cond 8 Try.f8 rfl rfl rfl rfl rfl rfl rfl ⟨rfl, rfl, rfl, rfl, rfl⟩ rfl rfl rfl rfl rfl (by kernel_rfl) Try.func8 (by kernel_rfl)
    (of_decide_eq_true (by kernel_rfl)) (by unfold Func.isWrapper; first | (rw [if_pos (by decide +kernel)]; kernel_rfl) | (rw [if_neg (by decide +kernel)]; exact ⟨rfl, rfl⟩))
    (fun os started H enc _ F => matrixForms_lifted os started H enc F)
end Go.Proofs.Ytfjdfnlkobeehaa
