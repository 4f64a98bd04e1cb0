/- The statement MatrixDual holds of the given program in its second form: for all rows, columns and rows of numbers, where what they hold is bounded, the law answers true. Its conditions are those of the given statement, and no others. -/
import Derived.Test.YtfjdfnlkobeehaaMDual
set_option maxRecDepth 100000
set_option linter.unusedVariables false
set_option linter.unusedSimpArgs false
namespace Go.Proofs.Ytfjdfnlkobeehaa

section
variable {m : List (List (Bool × List Nat))} {v : List (Bool × List Nat)}
set_option maxHeartbeats 16000000 in
theorem dual_law {cn : Int} (hm : ∀ l ∈ m, ∀ p ∈ l, Lm p.2) (hb : lenM m + 1 ≤ 1048576) (lo : -9223372036854775808 ≤ cn) (hi : cn ≤ 9223372036854775807) (hv : ∀ p ∈ v, Lm p.2) (hvb : lenW v + 1 ≤ 1048576) :
    PT Try.prog 9 [SM m, .val (.int .i64 cn), SW v] (isV (.val (.bool true))) := by
  have hlr := len_rows (m := m) (by omega)
  have hlw := len_wholes (l := v) (by omega)
  have hml := lenM_len m
  have hvl := lenW_len v
  refine PCalls.enter (n := 137) (rs := [.tmp 6]) (tb := []) Try.func9 rfl rfl rfl (by kernel_rfl) (by kernel_rfl) (by simp) fun c hc ht => ?_
  simp -implicitDefEqProofs (disch := omega) only [go_sem, ht, eq_self]
  ((refine pCall_view (by simp -implicitDefEqProofs (disch := omega) only [go_sem, ht, eq_self] <;> rfl) (by simp -implicitDefEqProofs (disch := omega) only [go_sem, ht, eq_self]) (by first | (apply Or.inl; simp -implicitDefEqProofs (disch := omega) only [go_sem, ht, eq_self]; done) | (apply Or.inr; rintro r rfl; rfl)) (awake_matrix) ?_; rintro _ nx_1 - rfl hnx_1; (try simp only [put_nx, withH_nx, begP_nx] at hnx_1); simp -implicitDefEqProofs (disch := omega) only [go_sem, ht, eq_self]))
  by_cases hl : 1500 < lenM m + lenW v
  · ((refine pCall_view (by simp -implicitDefEqProofs (disch := omega) only [go_sem, ht, eq_self] <;> rfl) (by simp -implicitDefEqProofs (disch := omega) only [go_sem, ht, eq_self]) (by first | (apply Or.inl; simp -implicitDefEqProofs (disch := omega) only [go_sem, ht, eq_self]; done) | (apply Or.inr; rintro r rfl; rfl)) (hlr) ?_; rintro _ nx_2 - rfl hnx_2; (try simp only [put_nx, withH_nx, begP_nx] at hnx_2); simp -implicitDefEqProofs (disch := omega) only [go_sem, ht, eq_self]); (refine pCall_view (by simp -implicitDefEqProofs (disch := omega) only [go_sem, ht, eq_self] <;> rfl) (by simp -implicitDefEqProofs (disch := omega) only [go_sem, ht, eq_self]) (by first | (apply Or.inl; simp -implicitDefEqProofs (disch := omega) only [go_sem, ht, eq_self]; done) | (apply Or.inr; rintro r rfl; rfl)) (hlw) ?_; rintro _ nx_3 - rfl hnx_3; (try simp only [put_nx, withH_nx, begP_nx] at hnx_3); simp -implicitDefEqProofs (disch := omega) only [go_sem, ht, eq_self]))
    (refine end_treeW 0 ?_; simp -implicitDefEqProofs (disch := omega) only [go_sem, ht, eq_self])
  have hMx : Mx m 1500 := ⟨hm, by omega, by omega⟩
  have hft := fits_calls (m := m) (cn := cn) (by omega)
  by_cases hw : wrongM m cn = true
  · rw [hw, Bool.not_true] at hft
    ((refine pCall_view (by simp -implicitDefEqProofs (disch := omega) only [go_sem, ht, eq_self] <;> rfl) (by simp -implicitDefEqProofs (disch := omega) only [go_sem, ht, eq_self]) (by first | (apply Or.inl; simp -implicitDefEqProofs (disch := omega) only [go_sem, ht, eq_self]; done) | (apply Or.inr; rintro r rfl; rfl)) (hlr) ?_; rintro _ nx_4 - rfl hnx_4; (try simp only [put_nx, withH_nx, begP_nx] at hnx_4); simp -implicitDefEqProofs (disch := omega) only [go_sem, ht, eq_self]); (refine pCall_view (by simp -implicitDefEqProofs (disch := omega) only [go_sem, ht, eq_self] <;> rfl) (by simp -implicitDefEqProofs (disch := omega) only [go_sem, ht, eq_self]) (by first | (apply Or.inl; simp -implicitDefEqProofs (disch := omega) only [go_sem, ht, eq_self]; done) | (apply Or.inr; rintro r rfl; rfl)) (hlw) ?_; rintro _ nx_5 - rfl hnx_5; (try simp only [put_nx, withH_nx, begP_nx] at hnx_5); simp -implicitDefEqProofs (disch := omega) only [go_sem, ht, eq_self]); (refine pCall_view (by simp -implicitDefEqProofs (disch := omega) only [go_sem, ht, eq_self] <;> rfl) (by simp -implicitDefEqProofs (disch := omega) only [go_sem, ht, eq_self]) (by first | (apply Or.inl; simp -implicitDefEqProofs (disch := omega) only [go_sem, ht, eq_self]; done) | (apply Or.inr; rintro r rfl; rfl)) (hft) ?_; rintro _ nx_6 - rfl hnx_6; (try simp only [put_nx, withH_nx, begP_nx] at hnx_6); simp -implicitDefEqProofs (disch := omega) only [go_sem, ht, eq_self]))
    (refine end_treeW 0 ?_; simp -implicitDefEqProofs (disch := omega) only [go_sem, ht, eq_self])
  have hw' : wrongM m cn = false := by simpa using hw
  rw [hw', Bool.not_false] at hft
  obtain ⟨n, rfl, hn32, hm64, hlc⟩ := wrongM_false hw'
  by_cases hvn' : ¬ v.length = n
  · ((refine pCall_view (by simp -implicitDefEqProofs (disch := omega) only [go_sem, ht, eq_self] <;> rfl) (by simp -implicitDefEqProofs (disch := omega) only [go_sem, ht, eq_self]) (by first | (apply Or.inl; simp -implicitDefEqProofs (disch := omega) only [go_sem, ht, eq_self]; done) | (apply Or.inr; rintro r rfl; rfl)) (hlr) ?_; rintro _ nx_7 - rfl hnx_7; (try simp only [put_nx, withH_nx, begP_nx] at hnx_7); simp -implicitDefEqProofs (disch := omega) only [go_sem, ht, eq_self]); (refine pCall_view (by simp -implicitDefEqProofs (disch := omega) only [go_sem, ht, eq_self] <;> rfl) (by simp -implicitDefEqProofs (disch := omega) only [go_sem, ht, eq_self]) (by first | (apply Or.inl; simp -implicitDefEqProofs (disch := omega) only [go_sem, ht, eq_self]; done) | (apply Or.inr; rintro r rfl; rfl)) (hlw) ?_; rintro _ nx_8 - rfl hnx_8; (try simp only [put_nx, withH_nx, begP_nx] at hnx_8); simp -implicitDefEqProofs (disch := omega) only [go_sem, ht, eq_self]); (refine pCall_view (by simp -implicitDefEqProofs (disch := omega) only [go_sem, ht, eq_self] <;> rfl) (by simp -implicitDefEqProofs (disch := omega) only [go_sem, ht, eq_self]) (by first | (apply Or.inl; simp -implicitDefEqProofs (disch := omega) only [go_sem, ht, eq_self]; done) | (apply Or.inr; rintro r rfl; rfl)) (hft) ?_; rintro _ nx_9 - rfl hnx_9; (try simp only [put_nx, withH_nx, begP_nx] at hnx_9); simp -implicitDefEqProofs (disch := omega) only [go_sem, ht, eq_self]))
    (refine end_treeW 0 ?_; simp -implicitDefEqProofs (disch := omega) only [go_sem, ht, eq_self])
  have hvn : v.length = n := by omega
  clear hvn'
  by_cases h64 : 64 ≤ m.length
  · ((refine pCall_view (by simp -implicitDefEqProofs (disch := omega) only [hvn, go_sem, ht, eq_self] <;> rfl) (by simp -implicitDefEqProofs (disch := omega) only [hvn, go_sem, ht, eq_self]) (by first | (apply Or.inl; simp -implicitDefEqProofs (disch := omega) only [hvn, go_sem, ht, eq_self]; done) | (apply Or.inr; rintro r rfl; rfl)) (hlr) ?_; rintro _ nx_10 - rfl hnx_10; (try simp only [put_nx, withH_nx, begP_nx] at hnx_10); simp -implicitDefEqProofs (disch := omega) only [hvn, go_sem, ht, eq_self]); (refine pCall_view (by simp -implicitDefEqProofs (disch := omega) only [hvn, go_sem, ht, eq_self] <;> rfl) (by simp -implicitDefEqProofs (disch := omega) only [hvn, go_sem, ht, eq_self]) (by first | (apply Or.inl; simp -implicitDefEqProofs (disch := omega) only [hvn, go_sem, ht, eq_self]; done) | (apply Or.inr; rintro r rfl; rfl)) (hlw) ?_; rintro _ nx_11 - rfl hnx_11; (try simp only [put_nx, withH_nx, begP_nx] at hnx_11); simp -implicitDefEqProofs (disch := omega) only [hvn, go_sem, ht, eq_self]); (refine pCall_view (by simp -implicitDefEqProofs (disch := omega) only [hvn, go_sem, ht, eq_self] <;> rfl) (by simp -implicitDefEqProofs (disch := omega) only [hvn, go_sem, ht, eq_self]) (by first | (apply Or.inl; simp -implicitDefEqProofs (disch := omega) only [hvn, go_sem, ht, eq_self]; done) | (apply Or.inr; rintro r rfl; rfl)) (hft) ?_; rintro _ nx_12 - rfl hnx_12; (try simp only [put_nx, withH_nx, begP_nx] at hnx_12); simp -implicitDefEqProofs (disch := omega) only [hvn, go_sem, ht, eq_self]))
    (refine end_treeW 0 ?_; simp -implicitDefEqProofs (disch := omega) only [go_sem, ht, eq_self])
  have hkz : KZ m n 1501 := hMx.kz hlc
  have hM' : Mx (m ++ [v]) 1501 := ⟨fun l hl p hp => by
    rcases List.mem_append.1 hl with hl | hl
    · exact hm l hl p hp
    · rw [List.mem_singleton.1 hl] at hp; exact hv p hp, by
    have : lenM (m ++ [v]) = lenM m + (1 + lenW v) := by simp [lenM]
    omega, by omega⟩
  have hlc' : ∀ l ∈ m ++ [v], l.length = n := fun l hl => by
    rcases List.mem_append.1 hl with hl | hl
    · exact hlc l hl
    · rw [List.mem_singleton.1 hl]; exact hvn
  have hwA : wrongM (m ++ [v]) n = false := decide_eq_false (by
    rintro (h | h | h | ⟨l, hl, hne⟩)
    · omega
    · omega
    · rw [List.length_append, List.length_singleton] at h; omega
    · exact hne (by rw [hlc' l hl]))
  have hvR : Rn v 1500 := ⟨fun p hp => ⟨hv p hp, by have := lenW_mem hp; omega⟩, by omega⟩
  have hme := mech_calls hMx (cn := n)
  have hmk := mker_calls (κ := 1501) hMx (cn := n) (fun n' e _ hlc' => by obtain rfl : n = n' := by omega
                                                                          exact hkz) (by omega) (by omega)
  have hin := mins_calls (k := 1500) (j := 1501) hMx (cn := n) hvR (by omega) (fun n' e _ _ => by
    obtain rfl : n = n' := by omega
    exact hMx.echZ hlc) (by omega)
  have hr1 := mrank_calls hMx (cn := n)
  have hr2 := mrank_calls hM' (cn := n)
  have hbr := ins_rank hMx hlc hM' hvn
  have e1 : mEch m n = if longZ (echT (m.map vals) n) then ([], 2) else (echT (m.map vals) n, 0) := by unfold mEch; rw [hw', Int.toNat_natCast]; rfl
  have e2 : mRank m n = (((echW (m.map vals) n).2.length : Int), 0) := by unfold mRank; rw [hw', Int.toNat_natCast]; rfl
  have e2' : mRank (m ++ [v]) n = (((echW ((m ++ [v]).map vals) n).2.length : Int), 0) := by unfold mRank; rw [hwA, Int.toNat_natCast]; rfl
  have e3 : mKer m n = if longZ (kerT (m.map vals) n) then ([], 2) else (kerT (m.map vals) n, 0) := by unfold mKer; rw [hw', Int.toNat_natCast]; rfl
  have e4 : mIns m n v = (insB (echT (m.map vals) n) (echW (m.map vals) n).2 (vals v), 0) := by unfold mIns; rw [hw', hvn, Int.toNat_natCast]; simp
  rw [e1] at hme
  rw [e2] at hr1
  rw [e2'] at hr2
  rw [e3] at hmk
  rw [e4] at hin
  obtain ⟨x1, hx1⟩ : ∃ x, (if longZ (echT (m.map vals) n) then (([], 2) : List (List Int) × Int) else (echT (m.map vals) n, 0)).2 = x := ⟨_, rfl⟩
  obtain ⟨x2, hx2⟩ : ∃ x, (if longZ (kerT (m.map vals) n) then (([], 2) : List (List Int) × Int) else (kerT (m.map vals) n, 0)).2 = x := ⟨_, rfl⟩
  obtain ⟨E, hE⟩ : ∃ x, (if longZ (echT (m.map vals) n) then (([], 2) : List (List Int) × Int) else (echT (m.map vals) n, 0)).1.map CZ = x := ⟨_, rfl⟩
  obtain ⟨K, hK⟩ : ∃ x, (if longZ (kerT (m.map vals) n) then (([], 2) : List (List Int) × Int) else (kerT (m.map vals) n, 0)).1.map CZ = x := ⟨_, rfl⟩
  rw [hx1, hE] at hme
  rw [hx2, hK] at hmk
  have hx1' : x1 = 0 ∨ x1 = 2 := by rw [← hx1]; split <;> simp
  have hx2' : x2 = 0 ∨ x2 = 2 := by rw [← hx2]; split <;> simp
  have hgood : x1 = 0 → x2 = 0 → ∃ (fb : Nat → Bool), fb 0 = true ∧ fb K.length = insB (echT (m.map vals) n) (echW (m.map vals) n).2 (vals v) ∧ E.length ≤ 32 ∧ K.length ≤ 32 ∧
      PT Try.prog 37 [SM K, .val (.int .i64 n)] (isV (.tup [SM E, .val (.int .i64 0)])) ∧ PT Try.prog 18 [SM E, SM E] (isV (.val (.bool true))) ∧
      ∀ j, j < K.length → ∃ s : Int, PT Try.prog 39 [SW v, SW (K.getD j [])] (isV (WC s)) ∧ PT Try.prog 33 [WC s] (isV (.val (.int .i64 (cZ s 0)))) ∧ fb (j + 1) = (fb j && decide (cZ s 0 = 0)) := by
    intro g1 g2
    by_cases hT : longZ (echT (m.map vals) n) = true
    · rw [if_pos hT] at hx1; simp at hx1; omega
    by_cases hKl : longZ (kerT (m.map vals) n) = true
    · rw [if_pos hKl] at hx2; simp at hx2; omega
    rw [if_neg hT] at hE
    rw [if_neg hKl] at hK
    simp only at hE hK
    subst hE hK
    obtain ⟨hRE, hsp1, hsp2⟩ := echT_RE hMx hlc
    obtain ⟨Q, hQ, hQn, hk1, hk2⟩ := kerT_RE hMx hlc hn32 hkz (by omega)
    have hTz := longZ_z (show longZ (echT (m.map vals) n) = false by simpa using hT)
    have hKz := longZ_z (show longZ (kerT (m.map vals) n) = false by simpa using hKl)
    obtain ⟨hTM, hTc, hTl⟩ := hRE.mx hn32 hTz
    obtain ⟨hKM, hKc, hKll⟩ := hQ.mx hn32 hKz
    have hkk := ker_ker hMx hlc hn32 hkz (by omega) hKz
    have hkz2 := hQ.kz hn32 hKz
    have l3 := mker_calls (κ := 1057) hKM (cn := n) (fun n' e _ _ => (show n = n' by omega) ▸ hkz2) (by omega) (by omega)
    have hwK : wrongM ((kerT (m.map vals) n).map CZ) n = false := decide_eq_false (by
      rintro (h | h | h | ⟨l, hl, hne⟩)
      · omega
      · omega
      · rw [List.length_map] at h; omega
      · exact hne (by rw [hKc l hl]))
    have e5 : mKer ((kerT (m.map vals) n).map CZ) n = (echT (m.map vals) n, 0) := by
      unfold mKer
      rw [hwK, Int.toNat_natCast, map_vals_CZ, hkk, if_neg (by simp), if_neg hT]
    rw [e5] at l3
    simp only at l3
    have hTrn : ∀ l ∈ (echT (m.map vals) n).map CZ, Rn l 32 ∧ l.length = n := fun l hl => ⟨by
      obtain ⟨z, hz, rfl⟩ := List.mem_map.1 hl
      exact .C (hTz z hz) (by omega), hTc l hl⟩
    have hKrn : ∀ l ∈ (kerT (m.map vals) n).map CZ, Rn l 32 ∧ l.length = n := fun l hl => ⟨by
      obtain ⟨z, hz, rfl⟩ := List.mem_map.1 hl
      exact .C (hKz z hz) (by omega), hKc l hl⟩
    have hsm := same_rows (m := (echT (m.map vals) n).map CZ) (m' := (echT (m.map vals) n).map CZ) (fun l hl => ⟨fun p hp => by have := ((hTrn l hl).1.ok p hp); exact ⟨this.1, by omega⟩, by rw [hTc l hl]; omega⟩) (fun l hl p hp => by have := ((hTrn l hl).1.ok p hp); exact ⟨this.1, by omega⟩) (by rw [List.length_map]; omega)
    rw [decide_eq_true rfl] at hsm
    have hvz : (vals v).length = n := by rw [vals_len]; exact hvn
    refine ⟨fun j => decide (∀ z ∈ (kerT (m.map vals) n).take j, dotI (vc (vals v)) (vc z) n = 0), by simp, ?_, by rw [List.length_map]; omega, by rw [List.length_map]; omega, l3, hsm, fun j hj => ?_⟩
    · show decide (∀ z ∈ (kerT (m.map vals) n).take ((kerT (m.map vals) n).map CZ).length, dotI (vc (vals v)) (vc z) n = 0) = _
      rw [Bool.eq_iff_iff, insB_sp hRE hvz, List.length_map, List.take_length]
      simp only [decide_eq_true_eq]
      exact ⟨fun hd => ker_spn hMx hlc hn32 hkz (by omega) hvz hd, fun hs => ker_dot hMx hlc hn32 hkz (by omega) hs⟩
    · have hmj := getD_mem (d := []) hj
      have hd := dot_calls (a := 1500) (b := 32) hvR (hKrn _ hmj).1 (by rw [hvn, hKc _ hmj]) (by omega)
      rw [List.length_map] at hj
      have eg : ((kerT (m.map vals) n).map CZ).getD j [] = CZ ((kerT (m.map vals) n).getD j []) := by simp [hj]
      rw [eg, vals_CZ, hvn] at hd
      rw [eg]
      have zd := dotI_z (u := vc (vals v)) (w := vc ((kerT (m.map vals) n).getD j [])) (a := 1500) (b := 32) (vc_z hvR.z) (vc_z (hKz _ (getD_mem hj))) n
      refine ⟨_, hd, signW (Wn.C zd (by omega)), ?_⟩
      have hst := getD_take (d := []) hj
      simp only
      rw [hst, Bool.eq_iff_iff]
      simp only [decide_eq_true_eq, Bool.and_eq_true, List.mem_append, List.mem_singleton]
      have hc0 : ∀ s : Int, cZ s 0 = 0 ↔ s = 0 := fun s => by unfold cZ; split <;> (try split) <;> omega
      rw [hc0]
      exact ⟨fun h => ⟨fun z hz => h z (.inl hz), h _ (.inr rfl)⟩, fun h z hz => hz.elim (h.1 z) (fun e => e ▸ h.2)⟩
  rw [hbr] at hin
  have hbl : ∀ g1 g2, (hgood g1 g2) = hgood g1 g2 := fun _ _ => rfl
  clear hbl
  rw [hbr] at hgood
  have hle1 : (echW (m.map vals) n).2.length ≤ 63 := by have := hMx.tle hlc; omega
  have hle2 : (echW ((m ++ [v]).map vals) n).2.length ≤ 64 := by have := hM'.tle hlc'; rw [List.length_append, List.length_singleton] at this; omega
  clear hbr e1 e2 e2' e3 e4 hx1 hx2 hE hK
  have hr2' : PT Try.prog 22 [.sl (m.length + 1) (m.map SW ++ [.sl n (SWc v)]), .val (.int .i64 n)] (isV (.tup [.val (.int .i64 ((echW ((m ++ [v]).map vals) n).2.length : Nat)), .val (.int .i64 0)])) := by
    rw [SM_def, List.map_append, List.length_append] at hr2
    simp only [List.map_cons, List.map_nil, SW_def v, hvn, List.length_singleton] at hr2
    exact hr2
  generalize (echW ((m ++ [v]).map vals) n).2.length = ra at *
  generalize (echW (m.map vals) n).2.length = rb at *
  have hfv := SWc_flat v
  have hfm := SM_flat m
  obtain ⟨b, hbe⟩ : ∃ b, decide (ra = rb) = b := ⟨_, rfl⟩
  have hbi : decide ((ra : Int) = rb) = b := by rw [← hbe, Bool.eq_iff_iff, decide_eq_true_iff, decide_eq_true_iff]; omega
  rw [hbe] at hin hgood
  ((refine pCall_view (by simp -implicitDefEqProofs (disch := omega) only [hvn, go_sem, ht, eq_self] <;> rfl) (by simp -implicitDefEqProofs (disch := omega) only [hvn, go_sem, ht, eq_self]) (by first | (apply Or.inl; simp -implicitDefEqProofs (disch := omega) only [hvn, go_sem, ht, eq_self]; done) | (apply Or.inr; rintro r rfl; rfl)) (hlr) ?_; rintro _ nx_13 - rfl hnx_13; (try simp only [put_nx, withH_nx, begP_nx] at hnx_13); simp -implicitDefEqProofs (disch := omega) only [hvn, go_sem, ht, eq_self]); (refine pCall_view (by simp -implicitDefEqProofs (disch := omega) only [hvn, go_sem, ht, eq_self] <;> rfl) (by simp -implicitDefEqProofs (disch := omega) only [hvn, go_sem, ht, eq_self]) (by first | (apply Or.inl; simp -implicitDefEqProofs (disch := omega) only [hvn, go_sem, ht, eq_self]; done) | (apply Or.inr; rintro r rfl; rfl)) (hlw) ?_; rintro _ nx_14 - rfl hnx_14; (try simp only [put_nx, withH_nx, begP_nx] at hnx_14); simp -implicitDefEqProofs (disch := omega) only [hvn, go_sem, ht, eq_self]); (refine pCall_view (by simp -implicitDefEqProofs (disch := omega) only [hvn, go_sem, ht, eq_self] <;> rfl) (by simp -implicitDefEqProofs (disch := omega) only [hvn, go_sem, ht, eq_self]) (by first | (apply Or.inl; simp -implicitDefEqProofs (disch := omega) only [hvn, go_sem, ht, eq_self]; done) | (apply Or.inr; rintro r rfl; rfl)) (hft) ?_; rintro _ nx_15 - rfl hnx_15; (try simp only [put_nx, withH_nx, begP_nx] at hnx_15); simp -implicitDefEqProofs (disch := omega) only [hvn, go_sem, ht, eq_self]); (refine pCall_view (by simp -implicitDefEqProofs (disch := omega) only [hvn, go_sem, ht, eq_self] <;> rfl) (by simp -implicitDefEqProofs (disch := omega) only [hvn, go_sem, ht, eq_self]) (by first | (apply Or.inl; simp -implicitDefEqProofs (disch := omega) only [hvn, go_sem, ht, eq_self]; done) | (apply Or.inr; rintro r rfl; rfl)) (hme) ?_; rintro _ nx_16 - rfl hnx_16; (try simp only [put_nx, withH_nx, begP_nx] at hnx_16); simp -implicitDefEqProofs (disch := omega) only [hvn, go_sem, ht, eq_self]); (refine pCall_view (by simp -implicitDefEqProofs (disch := omega) only [hvn, go_sem, ht, eq_self] <;> rfl) (by simp -implicitDefEqProofs (disch := omega) only [hvn, go_sem, ht, eq_self]) (by first | (apply Or.inl; simp -implicitDefEqProofs (disch := omega) only [hvn, go_sem, ht, eq_self]; done) | (apply Or.inr; rintro r rfl; rfl)) (hmk) ?_; rintro _ nx_17 - rfl hnx_17; (try simp only [put_nx, withH_nx, begP_nx] at hnx_17); simp -implicitDefEqProofs (disch := omega) only [hvn, go_sem, ht, eq_self]); (refine pCall_view (by simp -implicitDefEqProofs (disch := omega) only [hvn, go_sem, ht, eq_self] <;> rfl) (by simp -implicitDefEqProofs (disch := omega) only [hvn, go_sem, ht, eq_self]) (by first | (apply Or.inl; simp -implicitDefEqProofs (disch := omega) only [hvn, go_sem, ht, eq_self]; done) | (apply Or.inr; rintro r rfl; rfl)) (hin) ?_; rintro _ nx_18 - rfl hnx_18; (try simp only [put_nx, withH_nx, begP_nx] at hnx_18); simp -implicitDefEqProofs (disch := omega) only [hvn, go_sem, ht, eq_self]); (refine pCall_view (by simp -implicitDefEqProofs (disch := omega) only [hvn, go_sem, ht, eq_self] <;> rfl) (by simp -implicitDefEqProofs (disch := omega) only [hvn, go_sem, ht, eq_self]) (by first | (apply Or.inl; simp -implicitDefEqProofs (disch := omega) only [hvn, go_sem, ht, eq_self]; done) | (apply Or.inr; rintro r rfl; rfl)) (hr1) ?_; rintro _ nx_19 - rfl hnx_19; (try simp only [put_nx, withH_nx, begP_nx] at hnx_19); simp -implicitDefEqProofs (disch := omega) only [hvn, go_sem, ht, eq_self]))
  refine append_nil (e := 27) (b := 24) (m := m.length) (z := .slice none 0 0) (ys := m.map SW) T22_elem rfl T27_size T27_bytes T27_zero (by simp -implicitDefEqProofs (disch := omega) only [go_sem, ht, srcP_sl, eq_self]) (one_SM m) (by omega) (fun h00 => ?_) (fun cap1 rest1 hcap1 hpos => ?_)
  · have hm0 : m = [] := List.eq_nil_of_length_eq_zero h00
    have hr3 : PT Try.prog 22 [.sl 1 [.sl n (SWc v)], .val (.int .i64 n)] (isV (.tup [.val (.int .i64 ra), .val (.int .i64 0)])) := by
      rw [hm0] at hr2'; exact hr2'
    have hfv2 : flatL [PV.sl n (SWc v)] = true := by simp [flatL, flat, hfv]
    have hfz := fun H => frzL_flat (fun _ => true) H 0 hfv2
    simp -implicitDefEqProofs (disch := omega) only [go_sem, ht, eq_self]
    refine append_nil (e := 27) (b := 24) (m := 1) (z := .slice none 0 0) (ys := [.sl n (SWc v)]) T22_elem rfl T27_size T27_bytes T27_zero (by simp -implicitDefEqProofs (disch := omega) only [go_sem, ht, srcP_ref, eq_self] <;> rfl) (by rfl) (by omega) (fun h00 => by omega) (fun cap1 rest1 hcap1 hpos => ?_)
    simp -implicitDefEqProofs (disch := omega) only [go_sem, ht, eq_self]
    (refine pCall_frz (fun _ => true) 1 (by simp -implicitDefEqProofs (disch := omega) only [hfz, hfv2, if_pos, upd_self, hbi, bne_self_eq_false, go_sem, ht, eq_self] <;> rfl) (by simp -implicitDefEqProofs (disch := omega) only [hfz, hfv2, if_pos, upd_self, hbi, bne_self_eq_false, go_sem, ht, eq_self]) (by simp -implicitDefEqProofs (disch := omega) only [hfz, hfv2, if_pos, upd_self, hbi, bne_self_eq_false, go_sem, ht, eq_self] <;> rfl) (by simp -implicitDefEqProofs (disch := omega) only [hfz, hfv2, if_pos, upd_self, hbi, bne_self_eq_false, go_sem, ht, eq_self]) (hr3) ?_; rintro _ nx - rfl hnx; (try simp only [put_nx, withH_nx, begP_nx] at hnx); simp -implicitDefEqProofs (disch := omega) only [hfz, hfv2, if_pos, upd_self, hbi, bne_self_eq_false, go_sem, ht, eq_self])
    by_cases hx1 : x1 = 0
    · by_cases hx2 : x2 = 0
      · obtain ⟨fb, hf0, hbf, hElen, hKlen, l3, hsm, hdt⟩ := hgood hx1 hx2
        subst hx1 hx2
        simp -implicitDefEqProofs (disch := omega) only [go_sem, ht, eq_self]
        ((refine pCall_view (by simp -implicitDefEqProofs (disch := omega) only [go_sem, ht, eq_self] <;> rfl) (by simp -implicitDefEqProofs (disch := omega) only [go_sem, ht, eq_self]) (by first | (apply Or.inl; simp -implicitDefEqProofs (disch := omega) only [go_sem, ht, eq_self]; done) | (apply Or.inr; rintro r rfl; rfl)) (l3) ?_; rintro _ nx_20 - rfl hnx_20; (try simp only [put_nx, withH_nx, begP_nx] at hnx_20); simp -implicitDefEqProofs (disch := omega) only [go_sem, ht, eq_self]))
        refine LW.loopW hc ht (by kernel_rfl) (fun t => t.sl 2 = .sl v.length (SWc v) ∧ t.sl 7 = .sl E.length (E.map SW) ∧ t.sl 9 = .sl K.length (K.map SW) ∧ t.sl 11 = .val (.bool b) ∧ t.sl 17 = .sl E.length (E.map SW) ∧ t.sl 18 = .val (.int .i64 0) ∧ ∃ j : Nat, j ≤ K.length ∧ t.sl 20 = .val (.int .i64 j) ∧ t.sl 19 = .val (.bool (fb j)))
          (fun t => match t.sl 20 with | .val (.int _ k) => K.length - k.toNat | _ => 0) ?_ ?_
        · simp -implicitDefEqProofs (disch := omega) only [go_sem, ht, eq_self]
          exact ⟨by rw [hvn], 0, Nat.zero_le _, rfl, by rw [hf0]⟩
        · rintro t ⟨h2, h7, h9, h11, h17, h18, j, hj, h20, h19⟩
          by_cases hjl : j = K.length
          · subst hjl
            rw [hbf] at h19
            simp -implicitDefEqProofs (disch := omega) only [go_sem, ht, h2, h7, h9, h11, h17, h18, h19, h20, eq_self]
            ((refine pCall_view (by simp -implicitDefEqProofs (disch := omega) only [h2, h7, h9, h11, h17, h18, h19, h20, go_sem, ht, eq_self] <;> rfl) (by simp -implicitDefEqProofs (disch := omega) only [h2, h7, h9, h11, h17, h18, h19, h20, go_sem, ht, eq_self]) (by first | (apply Or.inl; simp -implicitDefEqProofs (disch := omega) only [h2, h7, h9, h11, h17, h18, h19, h20, go_sem, ht, eq_self]; done) | (apply Or.inr; rintro r rfl; rfl)) (hsm) ?_; rintro _ nx_21 - rfl hnx_21; (try simp only [put_nx, withH_nx, begP_nx] at hnx_21); simp -implicitDefEqProofs (disch := omega) only [h2, h7, h9, h11, h17, h18, h19, h20, go_sem, ht, eq_self]))
            (refine end_treeW 0 ?_; simp -implicitDefEqProofs (disch := omega) only [go_sem, ht, eq_self])
          · have hjlt : j < K.length := by omega
            have hgj := get_SM' hjlt
            obtain ⟨y, hd1, hd2, hst⟩ := hdt j hjlt
            by_cases hfj : fb j = true
            · rw [hfj] at h19
              generalize K.getD j [] = p at *
              simp -implicitDefEqProofs (disch := omega) only [go_sem, ht, h2, h7, h9, h11, h17, h18, h19, h20, hgj, eq_self]
              ((refine pCall_view (by simp -implicitDefEqProofs (disch := omega) only [h2, h7, h9, h11, h17, h18, h19, h20, hgj, go_sem, ht, eq_self] <;> rfl) (by simp -implicitDefEqProofs (disch := omega) only [h2, h7, h9, h11, h17, h18, h19, h20, hgj, go_sem, ht, eq_self]) (by first | (apply Or.inl; simp -implicitDefEqProofs (disch := omega) only [h2, h7, h9, h11, h17, h18, h19, h20, hgj, go_sem, ht, eq_self]; done) | (apply Or.inr; rintro r rfl; rfl)) (hd1) ?_; rintro _ nx_22 - rfl hnx_22; (try simp only [put_nx, withH_nx, begP_nx] at hnx_22); simp -implicitDefEqProofs (disch := omega) only [h2, h7, h9, h11, h17, h18, h19, h20, hgj, go_sem, ht, eq_self]); (refine pCall_view (by simp -implicitDefEqProofs (disch := omega) only [h2, h7, h9, h11, h17, h18, h19, h20, hgj, go_sem, ht, eq_self] <;> rfl) (by simp -implicitDefEqProofs (disch := omega) only [h2, h7, h9, h11, h17, h18, h19, h20, hgj, go_sem, ht, eq_self]) (by first | (apply Or.inl; simp -implicitDefEqProofs (disch := omega) only [h2, h7, h9, h11, h17, h18, h19, h20, hgj, go_sem, ht, eq_self]; done) | (apply Or.inr; rintro r rfl; rfl)) (hd2) ?_; rintro _ nx_23 - rfl hnx_23; (try simp only [put_nx, withH_nx, begP_nx] at hnx_23); simp -implicitDefEqProofs (disch := omega) only [h2, h7, h9, h11, h17, h18, h19, h20, hgj, go_sem, ht, eq_self]))
              exact ⟨⟨j + 1, by omega, rfl, by rw [hst, hfj, Bool.true_and]⟩, by omega⟩
            · have hfj' : fb j = false := by simpa using hfj
              rw [hfj'] at h19
              simp -implicitDefEqProofs (disch := omega) only [go_sem, ht, h2, h7, h9, h11, h17, h18, h19, h20, hgj, eq_self]
              exact ⟨⟨j + 1, by omega, rfl, by rw [hst, hfj', Bool.false_and]⟩, by omega⟩
      · have hx2 : x2 = 2 := by omega
        subst hx2
        simp -implicitDefEqProofs (disch := omega) only [go_sem, ht, eq_self]
        (refine end_treeW 0 ?_; simp -implicitDefEqProofs (disch := omega) only [go_sem, ht, eq_self])
    · have hx1 : x1 = 2 := by omega
      subst hx1
      simp -implicitDefEqProofs (disch := omega) only [go_sem, ht, eq_self]
      (refine end_treeW 0 ?_; simp -implicitDefEqProofs (disch := omega) only [go_sem, ht, eq_self])
  · simp -implicitDefEqProofs (disch := omega) only [go_sem, ht, eq_self]
    (refine append_own (by simp -implicitDefEqProofs (disch := omega) only [srcP_ref, srcP_sl, srcP_nil, Option.isSome_some, upd_self, go_sem, ht, eq_self] <;> rfl) (by simp -implicitDefEqProofs (disch := omega) only [srcP_ref, srcP_sl, srcP_nil, Option.isSome_some, upd_self, go_sem, ht, eq_self] <;> rfl) (by simp -implicitDefEqProofs (disch := omega) only [srcP_ref, srcP_sl, srcP_nil, Option.isSome_some, upd_self, go_sem, ht, eq_self] <;> rfl) (by simp -implicitDefEqProofs (disch := omega) only [srcP_ref, srcP_sl, srcP_nil, Option.isSome_some, upd_self, go_sem, ht, eq_self] <;> rfl) (by simp -implicitDefEqProofs (disch := omega) only [srcP_ref, srcP_sl, srcP_nil, Option.isSome_some, upd_self, go_sem, ht, eq_self] <;> rfl) (by simp -implicitDefEqProofs (disch := omega) only [srcP_ref, srcP_sl, srcP_nil, Option.isSome_some, upd_self, go_sem, ht, eq_self] <;> rfl) (by simp -implicitDefEqProofs (disch := omega) only [srcP_ref, srcP_sl, srcP_nil, Option.isSome_some, upd_self, go_sem, ht, eq_self] <;> rfl) (by simp -implicitDefEqProofs (disch := omega) only [srcP_ref, srcP_sl, srcP_nil, Option.isSome_some, upd_self, go_sem, ht, eq_self] <;> rfl) (by simp <;> omega) (by first | assumption | (simp <;> omega)) (by first | rfl | simp) (by first | omega | (simp <;> omega)) ?_; intro id2 cap2 rest2 H2 nx2 hH2 hcap2 hid2 hnx2 hfr2 hfs2; simp only [put_nx, withH_nx, put_H, withH_H] at hid2 hnx2 hfr2 hfs2; (try simp only [app_U, ← List.map_append] at hH2))
    simp -implicitDefEqProofs (disch := omega) only [go_sem, ht, eq_self]
    have hH2' : H2 id2 = some ((m.map SW ++ [.sl n (SWc v)]) ++ rest2.map .val) := hH2
    have htk : List.take (m.length + 1) ((m.map SW ++ [.sl n (SWc v)]) ++ rest2.map .val) = m.map SW ++ [.sl n (SWc v)] := by
      have e : (m.map SW ++ [PV.sl n (SWc v)]).length = m.length + 1 := by simp
      rw [← e, List.take_left]
    have hfl : flatL (m.map SW ++ [.sl n (SWc v)]) = true := flatL_app' hfm (by simp [flatL, flat, hfv])
    have hfz := frzL_flat (fun _ => true) H2 0 hfl
    (refine pCall_frz (fun _ => true) 1 (by simp -implicitDefEqProofs (disch := omega) only [hH2', htk, hfz, hfl, if_pos, hbi, bne_self_eq_false, go_sem, ht, eq_self] <;> rfl) (by simp -implicitDefEqProofs (disch := omega) only [hH2', htk, hfz, hfl, if_pos, hbi, bne_self_eq_false, go_sem, ht, eq_self]) (by simp -implicitDefEqProofs (disch := omega) only [hH2', htk, hfz, hfl, if_pos, hbi, bne_self_eq_false, go_sem, ht, eq_self] <;> rfl) (by simp -implicitDefEqProofs (disch := omega) only [hH2', htk, hfz, hfl, if_pos, hbi, bne_self_eq_false, go_sem, ht, eq_self]) (hr2') ?_; rintro _ nx - rfl hnx; (try simp only [put_nx, withH_nx, begP_nx] at hnx); simp -implicitDefEqProofs (disch := omega) only [hH2', htk, hfz, hfl, if_pos, hbi, bne_self_eq_false, go_sem, ht, eq_self])
    by_cases hx1 : x1 = 0
    · by_cases hx2 : x2 = 0
      · obtain ⟨fb, hf0, hbf, hElen, hKlen, l3, hsm, hdt⟩ := hgood hx1 hx2
        subst hx1 hx2
        simp -implicitDefEqProofs (disch := omega) only [go_sem, ht, eq_self]
        ((refine pCall_view (by simp -implicitDefEqProofs (disch := omega) only [go_sem, ht, eq_self] <;> rfl) (by simp -implicitDefEqProofs (disch := omega) only [go_sem, ht, eq_self]) (by first | (apply Or.inl; simp -implicitDefEqProofs (disch := omega) only [go_sem, ht, eq_self]; done) | (apply Or.inr; rintro r rfl; rfl)) (l3) ?_; rintro _ nx_24 - rfl hnx_24; (try simp only [put_nx, withH_nx, begP_nx] at hnx_24); simp -implicitDefEqProofs (disch := omega) only [go_sem, ht, eq_self]))
        refine LW.loopW hc ht (by kernel_rfl) (fun t => t.sl 2 = .sl v.length (SWc v) ∧ t.sl 7 = .sl E.length (E.map SW) ∧ t.sl 9 = .sl K.length (K.map SW) ∧ t.sl 11 = .val (.bool b) ∧ t.sl 17 = .sl E.length (E.map SW) ∧ t.sl 18 = .val (.int .i64 0) ∧ ∃ j : Nat, j ≤ K.length ∧ t.sl 20 = .val (.int .i64 j) ∧ t.sl 19 = .val (.bool (fb j)))
          (fun t => match t.sl 20 with | .val (.int _ k) => K.length - k.toNat | _ => 0) ?_ ?_
        · simp -implicitDefEqProofs (disch := omega) only [go_sem, ht, eq_self]
          exact ⟨by rw [hvn], 0, Nat.zero_le _, rfl, by rw [hf0]⟩
        · rintro t ⟨h2, h7, h9, h11, h17, h18, j, hj, h20, h19⟩
          by_cases hjl : j = K.length
          · subst hjl
            rw [hbf] at h19
            simp -implicitDefEqProofs (disch := omega) only [go_sem, ht, h2, h7, h9, h11, h17, h18, h19, h20, eq_self]
            ((refine pCall_view (by simp -implicitDefEqProofs (disch := omega) only [h2, h7, h9, h11, h17, h18, h19, h20, go_sem, ht, eq_self] <;> rfl) (by simp -implicitDefEqProofs (disch := omega) only [h2, h7, h9, h11, h17, h18, h19, h20, go_sem, ht, eq_self]) (by first | (apply Or.inl; simp -implicitDefEqProofs (disch := omega) only [h2, h7, h9, h11, h17, h18, h19, h20, go_sem, ht, eq_self]; done) | (apply Or.inr; rintro r rfl; rfl)) (hsm) ?_; rintro _ nx_25 - rfl hnx_25; (try simp only [put_nx, withH_nx, begP_nx] at hnx_25); simp -implicitDefEqProofs (disch := omega) only [h2, h7, h9, h11, h17, h18, h19, h20, go_sem, ht, eq_self]))
            (refine end_treeW 0 ?_; simp -implicitDefEqProofs (disch := omega) only [go_sem, ht, eq_self])
          · have hjlt : j < K.length := by omega
            have hgj := get_SM' hjlt
            obtain ⟨y, hd1, hd2, hst⟩ := hdt j hjlt
            by_cases hfj : fb j = true
            · rw [hfj] at h19
              generalize K.getD j [] = p at *
              simp -implicitDefEqProofs (disch := omega) only [go_sem, ht, h2, h7, h9, h11, h17, h18, h19, h20, hgj, eq_self]
              ((refine pCall_view (by simp -implicitDefEqProofs (disch := omega) only [h2, h7, h9, h11, h17, h18, h19, h20, hgj, go_sem, ht, eq_self] <;> rfl) (by simp -implicitDefEqProofs (disch := omega) only [h2, h7, h9, h11, h17, h18, h19, h20, hgj, go_sem, ht, eq_self]) (by first | (apply Or.inl; simp -implicitDefEqProofs (disch := omega) only [h2, h7, h9, h11, h17, h18, h19, h20, hgj, go_sem, ht, eq_self]; done) | (apply Or.inr; rintro r rfl; rfl)) (hd1) ?_; rintro _ nx_26 - rfl hnx_26; (try simp only [put_nx, withH_nx, begP_nx] at hnx_26); simp -implicitDefEqProofs (disch := omega) only [h2, h7, h9, h11, h17, h18, h19, h20, hgj, go_sem, ht, eq_self]); (refine pCall_view (by simp -implicitDefEqProofs (disch := omega) only [h2, h7, h9, h11, h17, h18, h19, h20, hgj, go_sem, ht, eq_self] <;> rfl) (by simp -implicitDefEqProofs (disch := omega) only [h2, h7, h9, h11, h17, h18, h19, h20, hgj, go_sem, ht, eq_self]) (by first | (apply Or.inl; simp -implicitDefEqProofs (disch := omega) only [h2, h7, h9, h11, h17, h18, h19, h20, hgj, go_sem, ht, eq_self]; done) | (apply Or.inr; rintro r rfl; rfl)) (hd2) ?_; rintro _ nx_27 - rfl hnx_27; (try simp only [put_nx, withH_nx, begP_nx] at hnx_27); simp -implicitDefEqProofs (disch := omega) only [h2, h7, h9, h11, h17, h18, h19, h20, hgj, go_sem, ht, eq_self]))
              exact ⟨⟨j + 1, by omega, rfl, by rw [hst, hfj, Bool.true_and]⟩, by omega⟩
            · have hfj' : fb j = false := by simpa using hfj
              rw [hfj'] at h19
              simp -implicitDefEqProofs (disch := omega) only [go_sem, ht, h2, h7, h9, h11, h17, h18, h19, h20, hgj, eq_self]
              exact ⟨⟨j + 1, by omega, rfl, by rw [hst, hfj', Bool.false_and]⟩, by omega⟩
      · have hx2 : x2 = 2 := by omega
        subst hx2
        simp -implicitDefEqProofs (disch := omega) only [go_sem, ht, eq_self]
        (refine end_treeW 0 ?_; simp -implicitDefEqProofs (disch := omega) only [go_sem, ht, eq_self])
    · have hx1 : x1 = 2 := by omega
      subst hx1
      simp -implicitDefEqProofs (disch := omega) only [go_sem, ht, eq_self]
      (refine end_treeW 0 ?_; simp -implicitDefEqProofs (disch := omega) only [go_sem, ht, eq_self])
end
end Go.Proofs.Ytfjdfnlkobeehaa
open Go.ChangeShapes Go.WideShapes Go.ChangeAt Go.RowKit
namespace Go.Proofs.Ytfjdfnlkobeehaa
set_option maxRecDepth 100000 in
theorem matrixDual_lifted (os : Os) (started : os.Started) (H : Type) (enc : TypeId × Value → H) (F : Stop.Interp) :
    ReturnsInHanded {} Try.checked os 9 .any ((Rows.OpenSpec.upto Rows.matrixDualSpec).pre6 enc Try.prog Try.f9 Rows.matrixDualUptoRow.domain false) (((Rows.OpenSpec.upto Rows.matrixDualSpec).at F).post enc Try.prog Try.f9 false true false false) := by
  refine returnsInHanded_of_cond (C := Try.checked) (s := Rows.OpenSpec.upto Rows.matrixDualSpec) (k := Rows.uptoSmall) rfl law_own started (by kernel_rfl) Try.func9
    (OpenSpec.witness (enc := enc) (C := Try.checked) (s := Rows.OpenSpec.upto Rows.matrixDualSpec) (k := Rows.uptoSmall) rfl false ⟨#[], #[.slice none 0 0, .int .i64 0, .slice none 0 0], []⟩ 8 (by kernel_rfl) (by kernel_rfl) (by kernel_rfl) (x := ([.nil, .lit (.int .i64 0), .nil], [], [])) (by kernel_rfl) rfl (by kernel_rfl)) ?_
  intro W base args ds gs before hval0 hW hcnd hk _
  have hval : ∀ (j : Nat) t v, Try.f9.params[j]? = some t → args[j]? = some v → Value.okWide Try.prog W .any base t v := hval0
  have hW' := hW
  obtain ⟨p, q, hA0, hV, rfl, hfz, hnd⟩ := hW
  have hA : DataW.TrodAll enc Try.prog W 0 (fun _ => true) true Try.f9.params.toList args.toList ds p := hA0
  rw [Try.params9] at hA hval
  obtain ⟨v0, vs0, d0, ds0, p0, q0, hargs, rfl, rfl, h0, r0⟩ := trodAll_cons hA
  obtain ⟨v1, vs1, d1, ds1, p1, q1, rfl, rfl, rfl, h1, r1⟩ := trodAll_cons r0
  obtain ⟨v2, vs2, d2, ds2, p2, q2, rfl, rfl, rfl, h2, r2⟩ := trodAll_cons r1
  obtain ⟨rfl, rfl, rfl⟩ := trodAll_nil r2
  obtain rfl : args = #[v0, v1, v2] := by cases args; simp_all
  obtain ⟨rfl, rfl⟩ := trodVars_none hV
  have hbk : Rows.uptoBulkAll [d0, d1, d2] ≤ 1048576 := of_decide_eq_true hk
  simp only [Rows.uptoBulkAll] at hbk
  have lt0 : ∀ x ∈ p0, x.block < W.heap.size := by obtain ⟨m, hm⟩ := h0; exact DataW.trod_lt m _ _ _ hm
  obtain ⟨fu0, g0⟩ := value_cells Try.underlying22 (hval 0 22 v0 rfl rfl) h0
  obtain ⟨l0, lm0, ln0, rep0⟩ := cell_rowsS Try.underlying22 (by kernel_rfl) Try.underlying27 Try.underlying30 (by kernel_rfl) rfl rfl (by kernel_rfl) (by kernel_rfl) Try.underlying4 Try.underlying28 Try.underlying93 (by kernel_rfl) g0
  have lb0 := Nat.le_trans ln0 (show Rows.uptoBulk d0 ≤ 1048576 by omega)
  have lt1 : ∀ x ∈ p1, x.block < W.heap.size := by obtain ⟨m, hm⟩ := h1; exact DataW.trod_lt m _ _ _ hm
  obtain ⟨x1, lo1, hi1, rep1⟩ := arg_int Try.underlying3 (hval 1 3 v1 rfl rfl) h1
  have lt2 : ∀ x ∈ p2, x.block < W.heap.size := by obtain ⟨m, hm⟩ := h2; exact DataW.trod_lt m _ _ _ hm
  obtain ⟨fu2, g2⟩ := value_cells Try.underlying27 (hval 2 27 v2 rfl rfl) h2
  obtain ⟨l2, lm2, ln2, rep2⟩ := cell_wholesS Try.underlying27 Try.underlying30 (by kernel_rfl) rfl rfl (by kernel_rfl) (by kernel_rfl) Try.underlying4 Try.underlying28 Try.underlying93 (by kernel_rfl) g2
  have lb2 := Nat.le_trans ln2 (show Rows.uptoBulk d2 ≤ 1048576 by omega)
  refine (law_run (dual_law lm0 lb0 lo1 hi1 lm2 lb2) (vs := [v0, v1, v2]) (by simp only [RepL]; exact ⟨rep0, ⟨rep1, ⟨rep2, trivial⟩⟩⟩)).mono fun e W' ⟨⟨v, r, he, hr, hx⟩, bel⟩ => ?_
  subst he; rw [hx _ hr]
  exact ⟨_, rfl, _, _, _, [], _, [], hW', trodAll_mk1 (shut_bool Try.underlying4 _), (trodAll_cons_mk (Below.trod law_laidOut (by kernel_rfl) (of_decide_eq_true (by kernel_rfl)) h0 bel lt0) (trodAll_cons_mk (Below.trod law_laidOut (by kernel_rfl) (of_decide_eq_true (by kernel_rfl)) h1 bel lt1) (trodAll_cons_mk (Below.trod law_laidOut (by kernel_rfl) (of_decide_eq_true (by kernel_rfl)) h2 bel lt2) trodAll_mk0))), rfl, bel.frame _, fun h => by cases h⟩
theorem matrixDualUpto_holds : Rows.MatrixDualUptoSaid :=
  OpenClaim.holds_of_cond 9 Try.f9 rfl rfl rfl rfl rfl rfl rfl ⟨rfl, rfl, rfl, rfl, rfl⟩ rfl rfl rfl rfl rfl (by kernel_rfl) Try.func9 (by kernel_rfl)
    (of_decide_eq_true (by kernel_rfl)) (by unfold Func.isWrapper; first | (rw [if_pos (by decide +kernel)]; kernel_rfl) | (rw [if_neg (by decide +kernel)]; exact ⟨rfl, rfl⟩))
    (fun os started H enc _ F => matrixDual_lifted os started H enc F)
end Go.Proofs.Ytfjdfnlkobeehaa
