/- The statement MatrixSpace holds of the given program in its second form: for all rows, columns and numbers, where what they hold is bounded, the law answers true. Its conditions are those of the given statement, and no others. -/
import Derived.Test.YtfjdfnlkobeehaaMSpace
set_option maxRecDepth 100000
set_option linter.unusedVariables false
set_option linter.unusedSimpArgs false
namespace Go.Proofs.Ytfjdfnlkobeehaa

theorem dropD_at (D : Nat → Bool) (H : Nat → Option (List PV)) (i : Nat) : dropH D H i = if D i = true then none else H i := rfl
theorem fits_calls {m : List (List (Bool × List Nat))} {cn : Int} (hm : m.length ≤ 1000000) : PT Try.prog 13 [SM m, .val (.int .i64 cn)] (isV (.val (.bool (!wrongM m cn)))) := by
  by_cases h1 : cn < 0
  · rw [show wrongM m cn = true from decide_eq_true (.inl h1)]
    refine PCalls.enter (n := 30) (rs := [.tmp 4]) (tb := []) Try.func13 rfl rfl rfl (by kernel_rfl) (by kernel_rfl) (by simp) fun c hc ht => ?_
    simp -implicitDefEqProofs (disch := omega) only [go_sem, ht, eq_self]
    (refine end_treeW 0 ?_; simp -implicitDefEqProofs (disch := omega) only [go_sem, ht, Bool.not_true, eq_self])
  by_cases h2 : 32 < cn
  · rw [show wrongM m cn = true from decide_eq_true (.inr (.inl h2))]
    refine PCalls.enter (n := 30) (rs := [.tmp 4]) (tb := []) Try.func13 rfl rfl rfl (by kernel_rfl) (by kernel_rfl) (by simp) fun c hc ht => ?_
    simp -implicitDefEqProofs (disch := omega) only [go_sem, ht, eq_self]
    (refine end_treeW 0 ?_; simp -implicitDefEqProofs (disch := omega) only [go_sem, ht, Bool.not_true, eq_self])
  by_cases h3 : 64 < m.length
  · rw [show wrongM m cn = true from decide_eq_true (.inr (.inr (.inl h3)))]
    refine PCalls.enter (n := 30) (rs := [.tmp 4]) (tb := []) Try.func13 rfl rfl rfl (by kernel_rfl) (by kernel_rfl) (by simp) fun c hc ht => ?_
    simp -implicitDefEqProofs (disch := omega) only [go_sem, ht, eq_self]
    (refine end_treeW 0 ?_; simp -implicitDefEqProofs (disch := omega) only [go_sem, ht, Bool.not_true, eq_self])
  refine PCalls.enter (n := 30) (rs := [.tmp 4]) (tb := []) Try.func13 rfl rfl rfl (by kernel_rfl) (by kernel_rfl) (by simp) fun c hc ht => ?_
  simp -implicitDefEqProofs (disch := omega) only [go_sem, ht, eq_self]
  refine LW.loopW hc ht (by kernel_rfl) (fun t => t.sl 0 = .sl m.length (m.map SW) ∧ t.sl 1 = .val (.int .i64 cn) ∧ ∃ i : Nat, i ≤ m.length ∧ t.sl 5 = .val (.int .i64 i) ∧ ∀ l ∈ m.take i, (l.length : Int) = cn)
    (fun t => match t.sl 5 with | .val (.int _ k) => m.length - k.toNat | _ => 0) ?_ ?_
  · simp -implicitDefEqProofs (disch := omega) only [go_sem, ht, eq_self]
    exact ⟨0, Nat.zero_le _, rfl, by simp⟩
  · rintro t ⟨h0, h1', i, hi, h5, hall⟩
    by_cases hil : i = m.length
    · subst hil
      rw [List.take_length] at hall
      rw [show wrongM m cn = false from decide_eq_false (by
        rintro (h | h | h | ⟨l, hl, hne⟩)
        · exact h1 h
        · exact h2 h
        · exact h3 h
        · exact hne (hall l hl))]
      simp -implicitDefEqProofs (disch := omega) only [go_sem, ht, h0, h1', h5, eq_self]
      (refine end_treeW 0 ?_; simp -implicitDefEqProofs (disch := omega) only [go_sem, ht, Bool.not_false, eq_self])
    · have hlt : i < m.length := by omega
      have hgi := get_SM' hlt
      have hmem := getD_mem (d := []) hlt
      have hst := getD_take (d := []) hlt
      by_cases he : ((m.getD i []).length : Int) = cn
      · generalize m.getD i [] = l0 at *
        simp -implicitDefEqProofs (disch := omega) only [go_sem, ht, h0, h1', h5, hgi, he, eq_self]
        refine ⟨⟨i + 1, by omega, rfl, fun l hl => ?_⟩, by omega⟩
        rw [hst] at hl
        rcases List.mem_append.1 hl with hl | hl
        · exact hall l hl
        · have : l = l0 := by simpa using hl
          rw [this]; exact he
      · rw [show wrongM m cn = true from decide_eq_true (.inr (.inr (.inr ⟨_, hmem, he⟩)))]
        generalize m.getD i [] = l0 at *
        simp -implicitDefEqProofs (disch := omega) only [go_sem, ht, h0, h1', h5, hgi, he, eq_self]
        (refine end_treeW 0 ?_; simp -implicitDefEqProofs (disch := omega) only [go_sem, ht, Bool.not_true, eq_self])
section
variable {m : List (List (Bool × List Nat))} {by' : List Int}
set_option maxHeartbeats 16000000 in
theorem space_law {cn : Int} (hm : ∀ l ∈ m, ∀ p ∈ l, Lm p.2) (hb : lenM m + 1 ≤ 1048576) (lo : -9223372036854775808 ≤ cn) (hi : cn ≤ 9223372036854775807) (hby : ∀ z ∈ by', -9223372036854775808 ≤ z ∧ z ≤ 9223372036854775807) (hbl : by'.length + 1 ≤ 1048576) :
    PT Try.prog 3 [SM m, .val (.int .i64 cn), .sl by'.length (by'.map vi)] (isV (.val (.bool true))) := by
  have hlr := len_rows (m := m) (by omega)
  have hml := lenM_len m
  refine PCalls.enter (n := 122) (rs := [.tmp 6]) (tb := [(22, [(0, []), (1, []), (2, []), (3, []), (4, []), (5, []), (6, []), (7, []), (8, []), (9, [0, 1, 2, 3, 4, 5, 6, 7]), (10, [0]), (11, [0]), (12, []), (13, [])]), (1000022, [(0, []), (0, []), (0, []), (6, []), (14, []), (0, []), (62, []), (126, []), (0, []), (256, []), (1022, []), (2046, []), (4095, []), (8191, [])]), (23, [(0, []), (1, []), (2, []), (3, []), (4, []), (5, []), (6, []), (7, []), (8, []), (9, []), (10, []), (11, []), (12, [0]), (13, [0]), (14, []), (15, [])]), (1000023, [(0, []), (0, []), (0, []), (6, []), (14, []), (0, []), (62, []), (126, []), (0, []), (0, []), (768, []), (1792, []), (4094, []), (8190, []), (16383, []), (32767, [])])]) Try.func3 rfl rfl rfl (by kernel_rfl) (by kernel_rfl) (by simp) fun c hc ht => ?_
  simp -implicitDefEqProofs (disch := omega) only [go_sem, ht, eq_self]
  ((refine pCall_view (by simp -implicitDefEqProofs (disch := omega) only [go_sem, ht, eq_self] <;> rfl) (by simp -implicitDefEqProofs (disch := omega) only [go_sem, ht, eq_self]) (by first | (apply Or.inl; simp -implicitDefEqProofs (disch := omega) only [go_sem, ht, eq_self]; done) | (apply Or.inr; rintro r rfl; rfl)) (awake_matrix) ?_; rintro _ nx_1 - rfl hnx_1; (try simp only [put_nx, withH_nx, begP_nx] at hnx_1); simp -implicitDefEqProofs (disch := omega) only [go_sem, ht, eq_self]))
  by_cases hl : 1500 < lenM m
  · ((refine pCall_view (by simp -implicitDefEqProofs (disch := omega) only [go_sem, ht, eq_self] <;> rfl) (by simp -implicitDefEqProofs (disch := omega) only [go_sem, ht, eq_self]) (by first | (apply Or.inl; simp -implicitDefEqProofs (disch := omega) only [go_sem, ht, eq_self]; done) | (apply Or.inr; rintro r rfl; rfl)) (hlr) ?_; rintro _ nx_2 - rfl hnx_2; (try simp only [put_nx, withH_nx, begP_nx] at hnx_2); simp -implicitDefEqProofs (disch := omega) only [go_sem, ht, eq_self]))
    (refine end_treeW 0 ?_; simp -implicitDefEqProofs (disch := omega) only [go_sem, ht, eq_self])
  have hft := fits_calls (m := m) (cn := cn) (by omega)
  by_cases hw : wrongM m cn = true
  · rw [hw, Bool.not_true] at hft
    ((refine pCall_view (by simp -implicitDefEqProofs (disch := omega) only [go_sem, ht, eq_self] <;> rfl) (by simp -implicitDefEqProofs (disch := omega) only [go_sem, ht, eq_self]) (by first | (apply Or.inl; simp -implicitDefEqProofs (disch := omega) only [go_sem, ht, eq_self]; done) | (apply Or.inr; rintro r rfl; rfl)) (hlr) ?_; rintro _ nx_3 - rfl hnx_3; (try simp only [put_nx, withH_nx, begP_nx] at hnx_3); simp -implicitDefEqProofs (disch := omega) only [go_sem, ht, eq_self]); (refine pCall_view (by simp -implicitDefEqProofs (disch := omega) only [go_sem, ht, eq_self] <;> rfl) (by simp -implicitDefEqProofs (disch := omega) only [go_sem, ht, eq_self]) (by first | (apply Or.inl; simp -implicitDefEqProofs (disch := omega) only [go_sem, ht, eq_self]; done) | (apply Or.inr; rintro r rfl; rfl)) (hft) ?_; rintro _ nx_4 - rfl hnx_4; (try simp only [put_nx, withH_nx, begP_nx] at hnx_4); simp -implicitDefEqProofs (disch := omega) only [go_sem, ht, eq_self]))
    (refine end_treeW 0 ?_; simp -implicitDefEqProofs (disch := omega) only [go_sem, ht, eq_self])
  have hw' : wrongM m cn = false := by simpa using hw
  rw [hw', Bool.not_false] at hft
  obtain ⟨n, rfl, hn32, hm64, hlc⟩ := wrongM_false hw'
  by_cases h00 : m.length = 0
  · ((refine pCall_view (by simp -implicitDefEqProofs (disch := omega) only [h00, go_sem, ht, eq_self] <;> rfl) (by simp -implicitDefEqProofs (disch := omega) only [h00, go_sem, ht, eq_self]) (by first | (apply Or.inl; simp -implicitDefEqProofs (disch := omega) only [h00, go_sem, ht, eq_self]; done) | (apply Or.inr; rintro r rfl; rfl)) (hlr) ?_; rintro _ nx_5 - rfl hnx_5; (try simp only [put_nx, withH_nx, begP_nx] at hnx_5); simp -implicitDefEqProofs (disch := omega) only [h00, go_sem, ht, eq_self]); (refine pCall_view (by simp -implicitDefEqProofs (disch := omega) only [h00, go_sem, ht, eq_self] <;> rfl) (by simp -implicitDefEqProofs (disch := omega) only [h00, go_sem, ht, eq_self]) (by first | (apply Or.inl; simp -implicitDefEqProofs (disch := omega) only [h00, go_sem, ht, eq_self]; done) | (apply Or.inr; rintro r rfl; rfl)) (hft) ?_; rintro _ nx_6 - rfl hnx_6; (try simp only [put_nx, withH_nx, begP_nx] at hnx_6); simp -implicitDefEqProofs (disch := omega) only [h00, go_sem, ht, eq_self]))
    (refine end_treeW 0 ?_; simp -implicitDefEqProofs (disch := omega) only [go_sem, ht, eq_self])
  by_cases h20 : 20 < m.length
  · ((refine pCall_view (by simp -implicitDefEqProofs (disch := omega) only [go_sem, ht, eq_self] <;> rfl) (by simp -implicitDefEqProofs (disch := omega) only [go_sem, ht, eq_self]) (by first | (apply Or.inl; simp -implicitDefEqProofs (disch := omega) only [go_sem, ht, eq_self]; done) | (apply Or.inr; rintro r rfl; rfl)) (hlr) ?_; rintro _ nx_7 - rfl hnx_7; (try simp only [put_nx, withH_nx, begP_nx] at hnx_7); simp -implicitDefEqProofs (disch := omega) only [go_sem, ht, eq_self]); (refine pCall_view (by simp -implicitDefEqProofs (disch := omega) only [go_sem, ht, eq_self] <;> rfl) (by simp -implicitDefEqProofs (disch := omega) only [go_sem, ht, eq_self]) (by first | (apply Or.inl; simp -implicitDefEqProofs (disch := omega) only [go_sem, ht, eq_self]; done) | (apply Or.inr; rintro r rfl; rfl)) (hft) ?_; rintro _ nx_8 - rfl hnx_8; (try simp only [put_nx, withH_nx, begP_nx] at hnx_8); simp -implicitDefEqProofs (disch := omega) only [go_sem, ht, eq_self]))
    (refine end_treeW 0 ?_; simp -implicitDefEqProofs (disch := omega) only [go_sem, ht, eq_self])
  have hkb : ∀ i, -9223372036854775808 ≤ kAt by' i ∧ kAt by' i ≤ 9223372036854775807 := by
    intro i
    unfold kAt
    split
    · omega
    · rename_i hne
      have hmd : i % by'.length < by'.length := Nat.mod_lt _ (by have := List.length_pos_iff.2 hne; omega)
      split
      · omega
      · exact hby _ (getD_mem hmd)
  have hkz : ∀ i, Z 2 (kAt by' i) := fun i => by have := hkb i; unfold Z; omega
  have hMx : Mx m 1500 := ⟨hm, by omega, by omega⟩
  ((refine pCall_view (by simp -implicitDefEqProofs (disch := omega) only [go_sem, ht, eq_self] <;> rfl) (by simp -implicitDefEqProofs (disch := omega) only [go_sem, ht, eq_self]) (by first | (apply Or.inl; simp -implicitDefEqProofs (disch := omega) only [go_sem, ht, eq_self]; done) | (apply Or.inr; rintro r rfl; rfl)) (hlr) ?_; rintro _ nx_9 - rfl hnx_9; (try simp only [put_nx, withH_nx, begP_nx] at hnx_9); simp -implicitDefEqProofs (disch := omega) only [go_sem, ht, eq_self]); (refine pCall_view (by simp -implicitDefEqProofs (disch := omega) only [go_sem, ht, eq_self] <;> rfl) (by simp -implicitDefEqProofs (disch := omega) only [go_sem, ht, eq_self]) (by first | (apply Or.inl; simp -implicitDefEqProofs (disch := omega) only [go_sem, ht, eq_self]; done) | (apply Or.inr; rintro r rfl; rfl)) (hft) ?_; rintro _ nx_10 - rfl hnx_10; (try simp only [put_nx, withH_nx, begP_nx] at hnx_10); simp -implicitDefEqProofs (disch := omega) only [go_sem, ht, eq_self]))
  refine LW.ghost (Gh.nilW 7 1 (by simp -implicitDefEqProofs (disch := omega) only [go_sem, ht, eq_self])) ?_
  refine LW.loopW hc ht (by kernel_rfl) (fun t => t.sl 0 = .sl m.length (m.map SW) ∧ t.sl 1 = .val (.int .i64 n) ∧ t.sl 2 = .sl by'.length (by'.map vi) ∧ ∃ j : Nat, j ≤ m.length ∧ t.sl 8 = .val (.int .i64 ((m.length : Int) - 1 - j)) ∧
      ∃ (idO capO : Nat) (restO : List Value), t.sl 7 = .ref idO 0 (2 * j) capO 1 ∧ t.H idO = some (((oth m by' j).map CZ).map SW ++ restO.map .val) ∧ 2 * j + restO.length = capO ∧ idO < t.nx)
    (fun t => match t.sl 8 with | .val (.int _ k) => (k + 1).toNat | _ => 0) ?_ ?_
  · simp -implicitDefEqProofs (disch := omega) only [go_sem, ht, eq_self]
    exact ⟨0, by omega, by congr 2, _, 0, [], rfl, upd_self _ _ _, rfl, by omega⟩
  · rintro t ⟨h0, h1, h2, j, hj, h8, idO, capO, restO, h7, hH, hcO, hid⟩
    by_cases hjl : j = m.length
    · subst hjl
      obtain ⟨hM', hlen', hech, hpv⟩ := space_same hm (by omega) hlc hn32 (by omega) hkz
      have hwO : wrongM ((oth m by' m.length).map CZ) n = false := decide_eq_false (by
        rintro (h | h | h | ⟨l, hl, hne⟩)
        · omega
        · omega
        · rw [List.length_map, oth_len] at h; omega
        · exact hne (by rw [hlen' l hl]))
      have e1 := mech_calls hMx (cn := n)
      have e2 := mech_calls hM' (cn := n)
      have ee : mEch ((oth m by' m.length).map CZ) n = mEch m n := by
        unfold mEch
        rw [hw', hwO, Int.toNat_natCast, hech]
      rw [ee] at e2
      have hrr := hMx.rr hlc
      have hs : ∀ l ∈ (mEch m n).1.map CZ, (∀ p ∈ l, Ok p.2) ∧ l.length ≤ 1000000 := by
        intro l hl
        obtain ⟨z, hz, rfl⟩ := List.mem_map.1 hl
        unfold mEch at hz
        rw [hw', Int.toNat_natCast] at hz
        have hz' : z ∈ echT (m.map vals) n := by
          simp only [Bool.false_eq_true, if_false] at hz
          split at hz
          · simp at hz
          · exact hz
        obtain ⟨q, hq, rfl⟩ := mem_getD (d := []) hz'
        obtain ⟨r1, r2⟩ := hrr.row q hq
        exact ⟨CZ_ok r2 (by omega), by rw [CZ_len]; omega⟩
      have hsl : ((mEch m n).1.map CZ).length ≤ 1000000 := by
        rw [List.length_map]
        unfold mEch
        rw [hw', Int.toNat_natCast]
        simp only [Bool.false_eq_true, if_false]
        have := hrr.len
        have := (hMx.ez hlc).1 n
        obtain ⟨O, κ, hI, _⟩ := this.st
        have := hI.tle
        split
        · exact Nat.zero_le _
        · dsimp only; omega
      have hsm := same_rows hs (fun l hl => (hs l hl).1) hsl
      rw [decide_eq_true rfl] at hsm
      have hfl := frzL_flat (fun _ => true) t.H 0 (SM_flat ((oth m by' m.length).map CZ))
      have hOl : (((oth m by' m.length).map CZ).map SW).length = 2 * m.length := by rw [List.length_map, List.length_map, oth_len]
      have htk : List.take (2 * m.length) (((oth m by' m.length).map CZ).map SW ++ restO.map .val) = ((oth m by' m.length).map CZ).map SW := by rw [← hOl, List.take_left]
      have hle : 2 * m.length ≤ ((oth m by' m.length).map CZ).length + restO.length := by rw [List.length_map, oth_len]; omega
      have hOn : ((oth m by' m.length).map CZ).length = 2 * m.length := by rw [List.length_map, oth_len]
      generalize (oth m by' m.length).map CZ = O at *
      generalize (mEch m n).2 = er at *
      generalize (mEch m n).1.map CZ = E at *
      simp -implicitDefEqProofs (disch := omega) only [go_sem, ht, h0, h1, h7, h8, eq_self]
      (refine pCall_view (by simp -implicitDefEqProofs (disch := omega) only [h0, h1, h7, h8, go_sem, ht, eq_self] <;> rfl) (by simp -implicitDefEqProofs (disch := omega) only [h0, h1, h7, h8, go_sem, ht, eq_self]) (by first | (apply Or.inl; simp -implicitDefEqProofs (disch := omega) only [h0, h1, h7, h8, go_sem, ht, eq_self]; done) | (apply Or.inr; rintro r rfl; rfl)) (e1) ?_; rintro _ nx - rfl hnx; (try simp only [put_nx, withH_nx, begP_nx] at hnx); simp -implicitDefEqProofs (disch := omega) only [h0, h1, h7, h8, go_sem, ht, eq_self])
      (refine pCall_frz (fun _ => true) 1 (by simp -implicitDefEqProofs (disch := omega) only [h0, h1, h7, h8, hH, htk, hle, hfl, if_pos, hOn, go_sem, ht, eq_self] <;> rfl) (by simp -implicitDefEqProofs (disch := omega) only [h0, h1, h7, h8, hH, htk, hle, hfl, if_pos, hOn, go_sem, ht, eq_self]) (by simp -implicitDefEqProofs (disch := omega) only [h0, h1, h7, h8, hH, htk, hle, hfl, if_pos, hOn, go_sem, ht, eq_self] <;> rfl) (by simp -implicitDefEqProofs (disch := omega) only [h0, h1, h7, h8, hH, htk, hle, hfl, if_pos, hOn, go_sem, ht, eq_self]) (e2) ?_; rintro _ nx - rfl hnx; (try simp only [put_nx, withH_nx, begP_nx] at hnx); simp -implicitDefEqProofs (disch := omega) only [h0, h1, h7, h8, hH, htk, hle, hfl, if_pos, hOn, go_sem, ht, eq_self])
      ((refine pCall_view (by simp -implicitDefEqProofs (disch := omega) only [go_sem, ht, eq_self] <;> rfl) (by simp -implicitDefEqProofs (disch := omega) only [go_sem, ht, eq_self]) (by first | (apply Or.inl; simp -implicitDefEqProofs (disch := omega) only [go_sem, ht, eq_self]; done) | (apply Or.inr; rintro r rfl; rfl)) (hsm) ?_; rintro _ nx_11 - rfl hnx_11; (try simp only [put_nx, withH_nx, begP_nx] at hnx_11); simp -implicitDefEqProofs (disch := omega) only [go_sem, ht, eq_self]))
      (refine end_treeW 0 ?_; simp -implicitDefEqProofs (disch := omega) only [go_sem, ht, eq_self])
    · obtain ⟨i, hij⟩ : ∃ i, i = m.length - 1 - j := ⟨_, rfl⟩
      have hil : i < m.length := by omega
      rw [show ((m.length : Int) - 1 - j) = (i : Nat) by omega] at h8
      have hnl : (i + 1) % m.length < m.length := Nat.mod_lt _ (by omega)
      have hgi := get_SM' hil
      have hgn := get_SM' hnl
      have hRi := hMx.rn (getD_mem (d := []) hil)
      have hRn := hMx.rn (getD_mem (d := []) hnl)
      have hli := hlc _ (getD_mem (d := []) hil)
      have hln := hlc _ (getD_mem (d := []) hnl)
      have hrl : (rowK m by' i).length = n := by unfold rowK; rw [List.length_map, vals_len]; exact hli
      have hsl : (sumK m i).length = n := by unfold sumK; rw [List.length_zipWith, vals_len, vals_len, hli, hln, Nat.min_self]
      have hrt : ∀ c, c < n → (rowK m by' i).take (c + 1) = (rowK m by' i).take c ++ [vc (vals (m.getD i [])) c * kAt by' i] := fun c hc => by
        rw [List.take_succ_eq_append_getElem (by rw [hrl]; exact hc)]
        congr 2
        rw [vc_lt (by rw [vals_len, hli]; exact hc)]
        simp only [rowK, List.getElem_map]
      have hst : ∀ c, c < n → (sumK m i).take (c + 1) = (sumK m i).take c ++ [vc (vals (m.getD i [])) c + vc (vals (m.getD ((i + 1) % m.length) [])) c] := fun c hc => by
        rw [List.take_succ_eq_append_getElem (by rw [hsl]; exact hc)]
        congr 2
        rw [vc_lt (by rw [vals_len, hli]; exact hc), vc_lt (by rw [vals_len, hln]; exact hc)]
        simp only [sumK, List.getElem_zipWith]
      have hkb := hkb i
      obtain ⟨hk1, hk2⟩ := hkb
      have hkz := hkz i
      generalize m.getD i [] = li at *
      generalize m.getD ((i + 1) % m.length) [] = ln at *
      by_cases hbe : by' = []
      · have hk : kAt by' i = 1 := by unfold kAt; rw [if_pos hbe]
        have h2b : t.sl 2 = .sl 0 (by'.map vi) := by rw [h2, hbe]; rfl
        simp -implicitDefEqProofs (disch := omega) only [go_sem, ht, h0, h1, h7, h8, hgi, hgn, h2b, hk, eq_self]
        refine LW.ghost (Gh.nilW 10 2 (by simp -implicitDefEqProofs (disch := omega) only [go_sem, ht, eq_self])) ?_
        refine LW.ghost (Gh.nilW 11 2 (by simp -implicitDefEqProofs (disch := omega) only [go_sem, ht, eq_self])) ?_
        refine LW.loopG hc ht (by kernel_rfl) (fun s => s.sl 0 = .sl m.length (m.map SW) ∧ s.sl 1 = .val (.int .i64 n) ∧ s.sl 2 = .sl by'.length (by'.map vi) ∧ s.sl 7 = .ref idO 0 (2 * j) capO 1 ∧ s.sl 8 = .val (.int .i64 (i : Nat)) ∧ s.sl 9 = .val (.int .i64 (kAt by' i)) ∧ s.sl 12 = .sl ln.length (SWc ln) ∧
            s.H idO = some (((oth m by' j).map CZ).map SW ++ restO.map .val) ∧ idO < s.nx ∧ ∃ c : Nat, c ≤ n ∧ s.sl 13 = .val (.int .i64 c) ∧
            ∃ (idr capr : Nat) (rr : List Value) (ids caps : Nat) (rs : List Value), s.sl 10 = .ref idr 0 c capr 2 ∧ s.H idr = some (SWc (CZ ((rowK m by' i).take c)) ++ rr.map .val) ∧ c * 2 + rr.length = capr * 2 ∧ idr < s.nx ∧
              s.sl 11 = .ref ids 0 c caps 2 ∧ s.H ids = some (SWc (CZ ((sumK m i).take c)) ++ rs.map .val) ∧ c * 2 + rs.length = caps * 2 ∧ ids < s.nx ∧ idr ≠ ids ∧ idr ≠ idO ∧ ids ≠ idO)
          (fun s => match s.sl 13 with | .val (.int _ k) => n - k.toNat | _ => 0) ?_ ?_
        · simp -implicitDefEqProofs (disch := omega) only [go_sem, ht, h0, h1, h2, h7, h8, hH, eq_self]
          refine ⟨by rw [hk], 0, Nat.zero_le _, rfl, t.nx, 0, [], t.nx + 1, 0, [], rfl, ?_, rfl, by omega, rfl, ?_, rfl, by omega, by omega, by omega, by omega⟩
          · simp -implicitDefEqProofs (disch := omega) only [go_sem, ht, eq_self]
            rfl
          · simp -implicitDefEqProofs (disch := omega) only [go_sem, ht, eq_self]
            rfl
        · clear h0 h1 h2 h7 h8 hH hid
          rintro s ⟨h0, h1, h2, h7, h8, h9, h12, hH, hid, c, hcn, h13, idr, capr, rr, ids, caps, rs, h10, hHr, hcr, hir, h11, hHs, hcs, his, n1, n2, n3⟩
          by_cases hcl : c = n
          · subst hcl
            have e1 : (rowK m by' i).take c = rowK m by' i := List.take_of_length_le (by rw [hrl]; omega)
            have e2 : (sumK m i).take c = sumK m i := List.take_of_length_le (by rw [hsl]; omega)
            rw [e1] at hHr
            rw [e2] at hHs
            have t1 := take_SWc (CZ (rowK m by' i)) (rr.map .val) (n := c) (by rw [CZ_len, hrl])
            have t2 := take_SWc (CZ (sumK m i)) (rs.map .val) (n := c) (by rw [CZ_len, hsl])
            have l1 : (CZ (rowK m by' i)).length = c := by rw [CZ_len, hrl]
            have l2 : (CZ (sumK m i)).length = c := by rw [CZ_len, hsl]
            have f1 := SWc_flat (CZ (rowK m by' i))
            have f2 := SWc_flat (CZ (sumK m i))
            have hoth : ((oth m by' j).map CZ).map SW ++ [.sl c (SWc (CZ (rowK m by' i))), .sl c (SWc (CZ (sumK m i)))] = ((oth m by' (j + 1)).map CZ).map SW := by
              rw [oth_succ, List.map_append, List.map_append, ← hij]
              simp only [List.map_cons, List.map_nil, SW_def, l1, l2]
            have hol := oth_len m by' j
            have m1 := SWc_len (CZ (rowK m by' i))
            have m2 := SWc_len (CZ (sumK m i))
            generalize SWc (CZ (rowK m by' i)) = c1 at *
            generalize SWc (CZ (sumK m i)) = c2 at *
            refine ⟨_, (Gh.frzD 10 (fun x => decide (x = idr)) 1 (q := .sl c c1) ?_).trans (Gh.frzD 11 (fun x => decide (x = ids)) 1 (q := .sl c c2) ?_), ?_⟩
            · simp -implicitDefEqProofs (disch := omega) only [go_sem, ht, h10, hHr, t1, f1, decide_eq_true_eq, eq_self]
              rw [frzL_flat _ _ 0 f1, if_pos (by omega)]; rfl
            · simp -implicitDefEqProofs (disch := omega) only [go_sem, ht, h11, hHs, t2, f2, dropD_at, decide_eq_true_eq, if_neg n1.symm, eq_self]
              rw [frzL_flat _ _ 0 f2, if_pos (by omega)]; rfl
            · simp -implicitDefEqProofs (disch := omega) only [go_sem, ht, h0, h1, h2, h7, h8, h9, h12, h13, eq_self]
              (refine append_own (by simp -implicitDefEqProofs (disch := omega) only [srcP_ref, srcP_sl, srcP_nil, Option.isSome_some, hH, dropD_at, decide_eq_true_eq, if_neg n2.symm, if_neg n3.symm, go_sem, ht, eq_self] <;> rfl) (by simp -implicitDefEqProofs (disch := omega) only [srcP_ref, srcP_sl, srcP_nil, Option.isSome_some, hH, dropD_at, decide_eq_true_eq, if_neg n2.symm, if_neg n3.symm, go_sem, ht, eq_self] <;> rfl) (by simp -implicitDefEqProofs (disch := omega) only [srcP_ref, srcP_sl, srcP_nil, Option.isSome_some, hH, dropD_at, decide_eq_true_eq, if_neg n2.symm, if_neg n3.symm, go_sem, ht, eq_self] <;> rfl) (by simp -implicitDefEqProofs (disch := omega) only [srcP_ref, srcP_sl, srcP_nil, Option.isSome_some, hH, dropD_at, decide_eq_true_eq, if_neg n2.symm, if_neg n3.symm, go_sem, ht, eq_self] <;> rfl) (by simp -implicitDefEqProofs (disch := omega) only [srcP_ref, srcP_sl, srcP_nil, Option.isSome_some, hH, dropD_at, decide_eq_true_eq, if_neg n2.symm, if_neg n3.symm, go_sem, ht, eq_self] <;> rfl) (by simp -implicitDefEqProofs (disch := omega) only [srcP_ref, srcP_sl, srcP_nil, Option.isSome_some, hH, dropD_at, decide_eq_true_eq, if_neg n2.symm, if_neg n3.symm, go_sem, ht, eq_self] <;> rfl) (by simp -implicitDefEqProofs (disch := omega) only [srcP_ref, srcP_sl, srcP_nil, Option.isSome_some, hH, dropD_at, decide_eq_true_eq, if_neg n2.symm, if_neg n3.symm, go_sem, ht, eq_self] <;> rfl) (by simp -implicitDefEqProofs (disch := omega) only [srcP_ref, srcP_sl, srcP_nil, Option.isSome_some, hH, dropD_at, decide_eq_true_eq, if_neg n2.symm, if_neg n3.symm, go_sem, ht, eq_self] <;> rfl) (by simp <;> omega) (by first | assumption | (simp <;> omega)) (by first | rfl | simp) (by first | omega | (simp <;> omega)) ?_; intro id1 cap1 rest1 H1 nx1 hH1 hcap1 hid1 hnx1 hfr1 hfs1; simp only [put_nx, withH_nx, put_H, withH_H] at hid1 hnx1 hfr1 hfs1; (try simp only [app_U, ← List.map_append] at hH1))
              simp -implicitDefEqProofs (disch := omega) only [go_sem, ht, h0, h1, h2, h8, eq_self]
              exact ⟨⟨j + 1, by omega, by congr 2; omega, id1, cap1, rest1, rfl, by rw [hH1, hoth], by omega, by omega⟩, by omega⟩
          · have hlt : c < n := by omega
            have ha1 := SWc_at (l := li) (i := c) (by omega)
            have ha2 := SWc_at (l := ln) (i := c) (by omega)
            have w1 := hRi.wn (i := c) (by omega)
            have w2 := hRn.wn (i := c) (by omega)
            have hof := wof_v (x := kAt by' i) hk1 hk2
            have hmu := mulW w1 (Wn.C hkz (by omega))
            have had := addW w1 w2
            have st1 : (rowK m by' i).take (c + 1) = (rowK m by' i).take c ++ [vc (vals li) c * kAt by' i] := hrt c hlt
            have st2 : (sumK m i).take (c + 1) = (sumK m i).take c ++ [vc (vals li) c + vc (vals ln) c] := hst c hlt
            have hl1 : (SWc (CZ ((rowK m by' i).take c))).length = 2 * c := by rw [SWc_len, CZ_len, List.length_take, hrl]; omega
            have hl2 : (SWc (CZ ((sumK m i).take c))).length = 2 * c := by rw [SWc_len, CZ_len, List.length_take, hsl]; omega
            generalize vc (vals li) c * kAt by' i = x1 at *
            generalize vc (vals li) c + vc (vals ln) c = x2 at *
            have sw1 : SWc (CZ ((rowK m by' i).take c)) ++ [.val (.bool (decide (x1 < 0))), .sl (D x1.natAbs).length ((D x1.natAbs).map U)] = SWc (CZ ((rowK m by' i).take (c + 1))) := by
              rw [st1, CZ_app, SWc_app]; rfl
            have sw2 : SWc (CZ ((sumK m i).take c)) ++ [.val (.bool (decide (x2 < 0))), .sl (D x2.natAbs).length ((D x2.natAbs).map U)] = SWc (CZ ((sumK m i).take (c + 1))) := by
              rw [st2, CZ_app, SWc_app]; rfl
            refine ⟨s, Gh.refl s, ?_⟩
            simp -implicitDefEqProofs (disch := omega) only [go_sem, ht, h0, h1, h2, h7, h8, h9, h10, h11, h12, h13, hgi, ha1, ha2, eq_self]
            ((refine pCall_view (by simp -implicitDefEqProofs (disch := omega) only [h0, h1, h2, h7, h8, h9, h10, h11, h12, h13, hgi, ha1, ha2, go_sem, ht, eq_self] <;> rfl) (by simp -implicitDefEqProofs (disch := omega) only [h0, h1, h2, h7, h8, h9, h10, h11, h12, h13, hgi, ha1, ha2, go_sem, ht, eq_self]) (by first | (apply Or.inl; simp -implicitDefEqProofs (disch := omega) only [h0, h1, h2, h7, h8, h9, h10, h11, h12, h13, hgi, ha1, ha2, go_sem, ht, eq_self]; done) | (apply Or.inr; rintro r rfl; rfl)) (hof) ?_; rintro _ nx_12 - rfl hnx_12; (try simp only [put_nx, withH_nx, begP_nx] at hnx_12); simp -implicitDefEqProofs (disch := omega) only [h0, h1, h2, h7, h8, h9, h10, h11, h12, h13, hgi, ha1, ha2, go_sem, ht, eq_self]); (refine pCall_view (by simp -implicitDefEqProofs (disch := omega) only [h0, h1, h2, h7, h8, h9, h10, h11, h12, h13, hgi, ha1, ha2, go_sem, ht, eq_self] <;> rfl) (by simp -implicitDefEqProofs (disch := omega) only [h0, h1, h2, h7, h8, h9, h10, h11, h12, h13, hgi, ha1, ha2, go_sem, ht, eq_self]) (by first | (apply Or.inl; simp -implicitDefEqProofs (disch := omega) only [h0, h1, h2, h7, h8, h9, h10, h11, h12, h13, hgi, ha1, ha2, go_sem, ht, eq_self]; done) | (apply Or.inr; rintro r rfl; rfl)) (hmu) ?_; rintro _ nx_13 - rfl hnx_13; (try simp only [put_nx, withH_nx, begP_nx] at hnx_13); simp -implicitDefEqProofs (disch := omega) only [h0, h1, h2, h7, h8, h9, h10, h11, h12, h13, hgi, ha1, ha2, go_sem, ht, eq_self]))
            (refine append_ownS (by simp -implicitDefEqProofs (disch := omega) only [srcP_ref, srcP_sl, srcP_nil, Option.isSome_some, hHr, go_sem, ht, eq_self] <;> rfl) (by simp -implicitDefEqProofs (disch := omega) only [srcP_ref, srcP_sl, srcP_nil, Option.isSome_some, hHr, go_sem, ht, eq_self] <;> rfl) (by simp -implicitDefEqProofs (disch := omega) only [srcP_ref, srcP_sl, srcP_nil, Option.isSome_some, hHr, go_sem, ht, eq_self] <;> rfl) (by simp -implicitDefEqProofs (disch := omega) only [srcP_ref, srcP_sl, srcP_nil, Option.isSome_some, hHr, go_sem, ht, eq_self] <;> rfl) (by simp -implicitDefEqProofs (disch := omega) only [srcP_ref, srcP_sl, srcP_nil, Option.isSome_some, hHr, go_sem, ht, eq_self] <;> rfl) (by rfl) (by simp -implicitDefEqProofs (disch := omega) only [srcP_ref, srcP_sl, srcP_nil, Option.isSome_some, hHr, go_sem, ht, eq_self] <;> rfl) (by simp -implicitDefEqProofs (disch := omega) only [srcP_ref, srcP_sl, srcP_nil, Option.isSome_some, hHr, go_sem, ht, eq_self] <;> rfl) (by simp -implicitDefEqProofs (disch := omega) only [srcP_ref, srcP_sl, srcP_nil, Option.isSome_some, hHr, go_sem, ht, eq_self] <;> rfl) (by first | omega | (simp <;> omega)) (by first | assumption | (simp <;> omega)) (by first | rfl | simp) (by first | omega | (simp <;> omega)) ?_; intro id1 cap1 rest1 H1 nx1 hH1 hcap1 hid1 hnx1 hfr1 hfs1; simp only [put_nx, withH_nx, put_H, withH_H] at hid1 hnx1 hfr1 hfs1)
            rw [sw1] at hH1
            simp -implicitDefEqProofs (disch := omega) only [go_sem, ht, h0, h1, h2, h7, h8, h9, h11, h12, h13, hgi, ha1, ha2, eq_self]
            ((refine pCall_view (by simp -implicitDefEqProofs (disch := omega) only [h0, h1, h2, h7, h8, h9, h11, h12, h13, hgi, ha1, ha2, go_sem, ht, eq_self] <;> rfl) (by simp -implicitDefEqProofs (disch := omega) only [h0, h1, h2, h7, h8, h9, h11, h12, h13, hgi, ha1, ha2, go_sem, ht, eq_self]) (by first | (apply Or.inl; simp -implicitDefEqProofs (disch := omega) only [h0, h1, h2, h7, h8, h9, h11, h12, h13, hgi, ha1, ha2, go_sem, ht, eq_self]; done) | (apply Or.inr; rintro r rfl; rfl)) (had) ?_; rintro _ nx_14 - rfl hnx_14; (try simp only [put_nx, withH_nx, begP_nx] at hnx_14); simp -implicitDefEqProofs (disch := omega) only [h0, h1, h2, h7, h8, h9, h11, h12, h13, hgi, ha1, ha2, go_sem, ht, eq_self]))
            have hs1 : H1 ids = some (SWc (CZ ((sumK m i).take c)) ++ rs.map .val) := by
              rw [hfr1 ids (Ne.symm n1) (by omega), upd_ne _ _ (by omega)]; exact hHs
            have ho1 : H1 idO = some (((oth m by' j).map CZ).map SW ++ restO.map .val) := by
              rw [hfr1 idO (Ne.symm n2) (by omega), upd_ne _ _ (by omega)]; exact hH
            (refine append_ownS (by simp -implicitDefEqProofs (disch := omega) only [srcP_ref, srcP_sl, srcP_nil, Option.isSome_some, hs1, go_sem, ht, eq_self] <;> rfl) (by simp -implicitDefEqProofs (disch := omega) only [srcP_ref, srcP_sl, srcP_nil, Option.isSome_some, hs1, go_sem, ht, eq_self] <;> rfl) (by simp -implicitDefEqProofs (disch := omega) only [srcP_ref, srcP_sl, srcP_nil, Option.isSome_some, hs1, go_sem, ht, eq_self] <;> rfl) (by simp -implicitDefEqProofs (disch := omega) only [srcP_ref, srcP_sl, srcP_nil, Option.isSome_some, hs1, go_sem, ht, eq_self] <;> rfl) (by simp -implicitDefEqProofs (disch := omega) only [srcP_ref, srcP_sl, srcP_nil, Option.isSome_some, hs1, go_sem, ht, eq_self] <;> rfl) (by rfl) (by simp -implicitDefEqProofs (disch := omega) only [srcP_ref, srcP_sl, srcP_nil, Option.isSome_some, hs1, go_sem, ht, eq_self] <;> rfl) (by simp -implicitDefEqProofs (disch := omega) only [srcP_ref, srcP_sl, srcP_nil, Option.isSome_some, hs1, go_sem, ht, eq_self] <;> rfl) (by simp -implicitDefEqProofs (disch := omega) only [srcP_ref, srcP_sl, srcP_nil, Option.isSome_some, hs1, go_sem, ht, eq_self] <;> rfl) (by first | omega | (simp <;> omega)) (by first | assumption | (simp <;> omega)) (by first | rfl | simp) (by first | omega | (simp <;> omega)) ?_; intro id2 cap2 rest2 H2 nx2 hH2 hcap2 hid2 hnx2 hfr2 hfs2; simp only [put_nx, withH_nx, put_H, withH_H] at hid2 hnx2 hfr2 hfs2)
            rw [sw2] at hH2
            have hr2 : H2 id1 = some (SWc (CZ ((rowK m by' i).take (c + 1))) ++ rest1.map .val) := by
              rw [hfr2 id1 (by omega) (by omega), upd_ne _ _ (by omega)]; exact hH1
            have ho2 : H2 idO = some (((oth m by' j).map CZ).map SW ++ restO.map .val) := by
              rw [hfr2 idO (Ne.symm n3) (by omega), upd_ne _ _ (by omega)]; exact ho1
            simp -implicitDefEqProofs (disch := omega) only [go_sem, ht, h0, h1, h2, h7, h8, h9, h12, h13, eq_self]
            exact ⟨⟨ho2, by omega, c + 1, by omega, rfl, id1, cap1, rest1, id2, cap2, rest2, rfl, hr2, hcap1, by omega, rfl, hH2, hcap2, by omega, by omega, by omega, by omega⟩, by omega⟩
      · have hbp : 0 < by'.length := List.length_pos_iff.2 hbe
        have hmd : i % by'.length < by'.length := Nat.mod_lt _ hbp
        have hgb := get_vi hmd
        have hgd : by'.getD (i % by'.length) 0 = by'[i % by'.length] := by simp [hmd]
        by_cases hk0 : by'[i % by'.length] = 0
        · have hk : kAt by' i = -3 := by unfold kAt; rw [if_neg hbe, hgd, if_pos hk0]
          rw [hk0] at hgb
          simp -implicitDefEqProofs (disch := omega) only [go_sem, ht, h0, h1, h7, h8, hgi, hgn, h2, hbp, hgb, hk0, hk, eq_self]
          refine LW.ghost (Gh.nilW 10 2 (by simp -implicitDefEqProofs (disch := omega) only [go_sem, ht, eq_self])) ?_
          refine LW.ghost (Gh.nilW 11 2 (by simp -implicitDefEqProofs (disch := omega) only [go_sem, ht, eq_self])) ?_
          refine LW.loopG hc ht (by kernel_rfl) (fun s => s.sl 0 = .sl m.length (m.map SW) ∧ s.sl 1 = .val (.int .i64 n) ∧ s.sl 2 = .sl by'.length (by'.map vi) ∧ s.sl 7 = .ref idO 0 (2 * j) capO 1 ∧ s.sl 8 = .val (.int .i64 (i : Nat)) ∧ s.sl 9 = .val (.int .i64 (kAt by' i)) ∧ s.sl 12 = .sl ln.length (SWc ln) ∧
              s.H idO = some (((oth m by' j).map CZ).map SW ++ restO.map .val) ∧ idO < s.nx ∧ ∃ c : Nat, c ≤ n ∧ s.sl 13 = .val (.int .i64 c) ∧
              ∃ (idr capr : Nat) (rr : List Value) (ids caps : Nat) (rs : List Value), s.sl 10 = .ref idr 0 c capr 2 ∧ s.H idr = some (SWc (CZ ((rowK m by' i).take c)) ++ rr.map .val) ∧ c * 2 + rr.length = capr * 2 ∧ idr < s.nx ∧
                s.sl 11 = .ref ids 0 c caps 2 ∧ s.H ids = some (SWc (CZ ((sumK m i).take c)) ++ rs.map .val) ∧ c * 2 + rs.length = caps * 2 ∧ ids < s.nx ∧ idr ≠ ids ∧ idr ≠ idO ∧ ids ≠ idO)
            (fun s => match s.sl 13 with | .val (.int _ k) => n - k.toNat | _ => 0) ?_ ?_
          · simp -implicitDefEqProofs (disch := omega) only [go_sem, ht, h0, h1, h2, h7, h8, hH, eq_self]
            refine ⟨by rw [hk], 0, Nat.zero_le _, rfl, t.nx, 0, [], t.nx + 1, 0, [], rfl, ?_, rfl, by omega, rfl, ?_, rfl, by omega, by omega, by omega, by omega⟩
            · simp -implicitDefEqProofs (disch := omega) only [go_sem, ht, eq_self]
              rfl
            · simp -implicitDefEqProofs (disch := omega) only [go_sem, ht, eq_self]
              rfl
          · clear h0 h1 h2 h7 h8 hH hid
            rintro s ⟨h0, h1, h2, h7, h8, h9, h12, hH, hid, c, hcn, h13, idr, capr, rr, ids, caps, rs, h10, hHr, hcr, hir, h11, hHs, hcs, his, n1, n2, n3⟩
            by_cases hcl : c = n
            · subst hcl
              have e1 : (rowK m by' i).take c = rowK m by' i := List.take_of_length_le (by rw [hrl]; omega)
              have e2 : (sumK m i).take c = sumK m i := List.take_of_length_le (by rw [hsl]; omega)
              rw [e1] at hHr
              rw [e2] at hHs
              have t1 := take_SWc (CZ (rowK m by' i)) (rr.map .val) (n := c) (by rw [CZ_len, hrl])
              have t2 := take_SWc (CZ (sumK m i)) (rs.map .val) (n := c) (by rw [CZ_len, hsl])
              have l1 : (CZ (rowK m by' i)).length = c := by rw [CZ_len, hrl]
              have l2 : (CZ (sumK m i)).length = c := by rw [CZ_len, hsl]
              have f1 := SWc_flat (CZ (rowK m by' i))
              have f2 := SWc_flat (CZ (sumK m i))
              have hoth : ((oth m by' j).map CZ).map SW ++ [.sl c (SWc (CZ (rowK m by' i))), .sl c (SWc (CZ (sumK m i)))] = ((oth m by' (j + 1)).map CZ).map SW := by
                rw [oth_succ, List.map_append, List.map_append, ← hij]
                simp only [List.map_cons, List.map_nil, SW_def, l1, l2]
              have hol := oth_len m by' j
              have m1 := SWc_len (CZ (rowK m by' i))
              have m2 := SWc_len (CZ (sumK m i))
              generalize SWc (CZ (rowK m by' i)) = c1 at *
              generalize SWc (CZ (sumK m i)) = c2 at *
              refine ⟨_, (Gh.frzD 10 (fun x => decide (x = idr)) 1 (q := .sl c c1) ?_).trans (Gh.frzD 11 (fun x => decide (x = ids)) 1 (q := .sl c c2) ?_), ?_⟩
              · simp -implicitDefEqProofs (disch := omega) only [go_sem, ht, h10, hHr, t1, f1, decide_eq_true_eq, eq_self]
                rw [frzL_flat _ _ 0 f1, if_pos (by omega)]; rfl
              · simp -implicitDefEqProofs (disch := omega) only [go_sem, ht, h11, hHs, t2, f2, dropD_at, decide_eq_true_eq, if_neg n1.symm, eq_self]
                rw [frzL_flat _ _ 0 f2, if_pos (by omega)]; rfl
              · simp -implicitDefEqProofs (disch := omega) only [go_sem, ht, h0, h1, h2, h7, h8, h9, h12, h13, eq_self]
                (refine append_own (by simp -implicitDefEqProofs (disch := omega) only [srcP_ref, srcP_sl, srcP_nil, Option.isSome_some, hH, dropD_at, decide_eq_true_eq, if_neg n2.symm, if_neg n3.symm, go_sem, ht, eq_self] <;> rfl) (by simp -implicitDefEqProofs (disch := omega) only [srcP_ref, srcP_sl, srcP_nil, Option.isSome_some, hH, dropD_at, decide_eq_true_eq, if_neg n2.symm, if_neg n3.symm, go_sem, ht, eq_self] <;> rfl) (by simp -implicitDefEqProofs (disch := omega) only [srcP_ref, srcP_sl, srcP_nil, Option.isSome_some, hH, dropD_at, decide_eq_true_eq, if_neg n2.symm, if_neg n3.symm, go_sem, ht, eq_self] <;> rfl) (by simp -implicitDefEqProofs (disch := omega) only [srcP_ref, srcP_sl, srcP_nil, Option.isSome_some, hH, dropD_at, decide_eq_true_eq, if_neg n2.symm, if_neg n3.symm, go_sem, ht, eq_self] <;> rfl) (by simp -implicitDefEqProofs (disch := omega) only [srcP_ref, srcP_sl, srcP_nil, Option.isSome_some, hH, dropD_at, decide_eq_true_eq, if_neg n2.symm, if_neg n3.symm, go_sem, ht, eq_self] <;> rfl) (by simp -implicitDefEqProofs (disch := omega) only [srcP_ref, srcP_sl, srcP_nil, Option.isSome_some, hH, dropD_at, decide_eq_true_eq, if_neg n2.symm, if_neg n3.symm, go_sem, ht, eq_self] <;> rfl) (by simp -implicitDefEqProofs (disch := omega) only [srcP_ref, srcP_sl, srcP_nil, Option.isSome_some, hH, dropD_at, decide_eq_true_eq, if_neg n2.symm, if_neg n3.symm, go_sem, ht, eq_self] <;> rfl) (by simp -implicitDefEqProofs (disch := omega) only [srcP_ref, srcP_sl, srcP_nil, Option.isSome_some, hH, dropD_at, decide_eq_true_eq, if_neg n2.symm, if_neg n3.symm, go_sem, ht, eq_self] <;> rfl) (by simp <;> omega) (by first | assumption | (simp <;> omega)) (by first | rfl | simp) (by first | omega | (simp <;> omega)) ?_; intro id1 cap1 rest1 H1 nx1 hH1 hcap1 hid1 hnx1 hfr1 hfs1; simp only [put_nx, withH_nx, put_H, withH_H] at hid1 hnx1 hfr1 hfs1; (try simp only [app_U, ← List.map_append] at hH1))
                simp -implicitDefEqProofs (disch := omega) only [go_sem, ht, h0, h1, h2, h8, eq_self]
                exact ⟨⟨j + 1, by omega, by congr 2; omega, id1, cap1, rest1, rfl, by rw [hH1, hoth], by omega, by omega⟩, by omega⟩
            · have hlt : c < n := by omega
              have ha1 := SWc_at (l := li) (i := c) (by omega)
              have ha2 := SWc_at (l := ln) (i := c) (by omega)
              have w1 := hRi.wn (i := c) (by omega)
              have w2 := hRn.wn (i := c) (by omega)
              have hof := wof_v (x := kAt by' i) hk1 hk2
              have hmu := mulW w1 (Wn.C hkz (by omega))
              have had := addW w1 w2
              have st1 : (rowK m by' i).take (c + 1) = (rowK m by' i).take c ++ [vc (vals li) c * kAt by' i] := hrt c hlt
              have st2 : (sumK m i).take (c + 1) = (sumK m i).take c ++ [vc (vals li) c + vc (vals ln) c] := hst c hlt
              have hl1 : (SWc (CZ ((rowK m by' i).take c))).length = 2 * c := by rw [SWc_len, CZ_len, List.length_take, hrl]; omega
              have hl2 : (SWc (CZ ((sumK m i).take c))).length = 2 * c := by rw [SWc_len, CZ_len, List.length_take, hsl]; omega
              generalize vc (vals li) c * kAt by' i = x1 at *
              generalize vc (vals li) c + vc (vals ln) c = x2 at *
              have sw1 : SWc (CZ ((rowK m by' i).take c)) ++ [.val (.bool (decide (x1 < 0))), .sl (D x1.natAbs).length ((D x1.natAbs).map U)] = SWc (CZ ((rowK m by' i).take (c + 1))) := by
                rw [st1, CZ_app, SWc_app]; rfl
              have sw2 : SWc (CZ ((sumK m i).take c)) ++ [.val (.bool (decide (x2 < 0))), .sl (D x2.natAbs).length ((D x2.natAbs).map U)] = SWc (CZ ((sumK m i).take (c + 1))) := by
                rw [st2, CZ_app, SWc_app]; rfl
              refine ⟨s, Gh.refl s, ?_⟩
              simp -implicitDefEqProofs (disch := omega) only [go_sem, ht, h0, h1, h2, h7, h8, h9, h10, h11, h12, h13, hgi, ha1, ha2, eq_self]
              ((refine pCall_view (by simp -implicitDefEqProofs (disch := omega) only [h0, h1, h2, h7, h8, h9, h10, h11, h12, h13, hgi, ha1, ha2, go_sem, ht, eq_self] <;> rfl) (by simp -implicitDefEqProofs (disch := omega) only [h0, h1, h2, h7, h8, h9, h10, h11, h12, h13, hgi, ha1, ha2, go_sem, ht, eq_self]) (by first | (apply Or.inl; simp -implicitDefEqProofs (disch := omega) only [h0, h1, h2, h7, h8, h9, h10, h11, h12, h13, hgi, ha1, ha2, go_sem, ht, eq_self]; done) | (apply Or.inr; rintro r rfl; rfl)) (hof) ?_; rintro _ nx_15 - rfl hnx_15; (try simp only [put_nx, withH_nx, begP_nx] at hnx_15); simp -implicitDefEqProofs (disch := omega) only [h0, h1, h2, h7, h8, h9, h10, h11, h12, h13, hgi, ha1, ha2, go_sem, ht, eq_self]); (refine pCall_view (by simp -implicitDefEqProofs (disch := omega) only [h0, h1, h2, h7, h8, h9, h10, h11, h12, h13, hgi, ha1, ha2, go_sem, ht, eq_self] <;> rfl) (by simp -implicitDefEqProofs (disch := omega) only [h0, h1, h2, h7, h8, h9, h10, h11, h12, h13, hgi, ha1, ha2, go_sem, ht, eq_self]) (by first | (apply Or.inl; simp -implicitDefEqProofs (disch := omega) only [h0, h1, h2, h7, h8, h9, h10, h11, h12, h13, hgi, ha1, ha2, go_sem, ht, eq_self]; done) | (apply Or.inr; rintro r rfl; rfl)) (hmu) ?_; rintro _ nx_16 - rfl hnx_16; (try simp only [put_nx, withH_nx, begP_nx] at hnx_16); simp -implicitDefEqProofs (disch := omega) only [h0, h1, h2, h7, h8, h9, h10, h11, h12, h13, hgi, ha1, ha2, go_sem, ht, eq_self]))
              (refine append_ownS (by simp -implicitDefEqProofs (disch := omega) only [srcP_ref, srcP_sl, srcP_nil, Option.isSome_some, hHr, go_sem, ht, eq_self] <;> rfl) (by simp -implicitDefEqProofs (disch := omega) only [srcP_ref, srcP_sl, srcP_nil, Option.isSome_some, hHr, go_sem, ht, eq_self] <;> rfl) (by simp -implicitDefEqProofs (disch := omega) only [srcP_ref, srcP_sl, srcP_nil, Option.isSome_some, hHr, go_sem, ht, eq_self] <;> rfl) (by simp -implicitDefEqProofs (disch := omega) only [srcP_ref, srcP_sl, srcP_nil, Option.isSome_some, hHr, go_sem, ht, eq_self] <;> rfl) (by simp -implicitDefEqProofs (disch := omega) only [srcP_ref, srcP_sl, srcP_nil, Option.isSome_some, hHr, go_sem, ht, eq_self] <;> rfl) (by rfl) (by simp -implicitDefEqProofs (disch := omega) only [srcP_ref, srcP_sl, srcP_nil, Option.isSome_some, hHr, go_sem, ht, eq_self] <;> rfl) (by simp -implicitDefEqProofs (disch := omega) only [srcP_ref, srcP_sl, srcP_nil, Option.isSome_some, hHr, go_sem, ht, eq_self] <;> rfl) (by simp -implicitDefEqProofs (disch := omega) only [srcP_ref, srcP_sl, srcP_nil, Option.isSome_some, hHr, go_sem, ht, eq_self] <;> rfl) (by first | omega | (simp <;> omega)) (by first | assumption | (simp <;> omega)) (by first | rfl | simp) (by first | omega | (simp <;> omega)) ?_; intro id1 cap1 rest1 H1 nx1 hH1 hcap1 hid1 hnx1 hfr1 hfs1; simp only [put_nx, withH_nx, put_H, withH_H] at hid1 hnx1 hfr1 hfs1)
              rw [sw1] at hH1
              simp -implicitDefEqProofs (disch := omega) only [go_sem, ht, h0, h1, h2, h7, h8, h9, h11, h12, h13, hgi, ha1, ha2, eq_self]
              ((refine pCall_view (by simp -implicitDefEqProofs (disch := omega) only [h0, h1, h2, h7, h8, h9, h11, h12, h13, hgi, ha1, ha2, go_sem, ht, eq_self] <;> rfl) (by simp -implicitDefEqProofs (disch := omega) only [h0, h1, h2, h7, h8, h9, h11, h12, h13, hgi, ha1, ha2, go_sem, ht, eq_self]) (by first | (apply Or.inl; simp -implicitDefEqProofs (disch := omega) only [h0, h1, h2, h7, h8, h9, h11, h12, h13, hgi, ha1, ha2, go_sem, ht, eq_self]; done) | (apply Or.inr; rintro r rfl; rfl)) (had) ?_; rintro _ nx_17 - rfl hnx_17; (try simp only [put_nx, withH_nx, begP_nx] at hnx_17); simp -implicitDefEqProofs (disch := omega) only [h0, h1, h2, h7, h8, h9, h11, h12, h13, hgi, ha1, ha2, go_sem, ht, eq_self]))
              have hs1 : H1 ids = some (SWc (CZ ((sumK m i).take c)) ++ rs.map .val) := by
                rw [hfr1 ids (Ne.symm n1) (by omega), upd_ne _ _ (by omega)]; exact hHs
              have ho1 : H1 idO = some (((oth m by' j).map CZ).map SW ++ restO.map .val) := by
                rw [hfr1 idO (Ne.symm n2) (by omega), upd_ne _ _ (by omega)]; exact hH
              (refine append_ownS (by simp -implicitDefEqProofs (disch := omega) only [srcP_ref, srcP_sl, srcP_nil, Option.isSome_some, hs1, go_sem, ht, eq_self] <;> rfl) (by simp -implicitDefEqProofs (disch := omega) only [srcP_ref, srcP_sl, srcP_nil, Option.isSome_some, hs1, go_sem, ht, eq_self] <;> rfl) (by simp -implicitDefEqProofs (disch := omega) only [srcP_ref, srcP_sl, srcP_nil, Option.isSome_some, hs1, go_sem, ht, eq_self] <;> rfl) (by simp -implicitDefEqProofs (disch := omega) only [srcP_ref, srcP_sl, srcP_nil, Option.isSome_some, hs1, go_sem, ht, eq_self] <;> rfl) (by simp -implicitDefEqProofs (disch := omega) only [srcP_ref, srcP_sl, srcP_nil, Option.isSome_some, hs1, go_sem, ht, eq_self] <;> rfl) (by rfl) (by simp -implicitDefEqProofs (disch := omega) only [srcP_ref, srcP_sl, srcP_nil, Option.isSome_some, hs1, go_sem, ht, eq_self] <;> rfl) (by simp -implicitDefEqProofs (disch := omega) only [srcP_ref, srcP_sl, srcP_nil, Option.isSome_some, hs1, go_sem, ht, eq_self] <;> rfl) (by simp -implicitDefEqProofs (disch := omega) only [srcP_ref, srcP_sl, srcP_nil, Option.isSome_some, hs1, go_sem, ht, eq_self] <;> rfl) (by first | omega | (simp <;> omega)) (by first | assumption | (simp <;> omega)) (by first | rfl | simp) (by first | omega | (simp <;> omega)) ?_; intro id2 cap2 rest2 H2 nx2 hH2 hcap2 hid2 hnx2 hfr2 hfs2; simp only [put_nx, withH_nx, put_H, withH_H] at hid2 hnx2 hfr2 hfs2)
              rw [sw2] at hH2
              have hr2 : H2 id1 = some (SWc (CZ ((rowK m by' i).take (c + 1))) ++ rest1.map .val) := by
                rw [hfr2 id1 (by omega) (by omega), upd_ne _ _ (by omega)]; exact hH1
              have ho2 : H2 idO = some (((oth m by' j).map CZ).map SW ++ restO.map .val) := by
                rw [hfr2 idO (Ne.symm n3) (by omega), upd_ne _ _ (by omega)]; exact ho1
              simp -implicitDefEqProofs (disch := omega) only [go_sem, ht, h0, h1, h2, h7, h8, h9, h12, h13, eq_self]
              exact ⟨⟨ho2, by omega, c + 1, by omega, rfl, id1, cap1, rest1, id2, cap2, rest2, rfl, hr2, hcap1, by omega, rfl, hH2, hcap2, by omega, by omega, by omega, by omega⟩, by omega⟩
        · have hk : kAt by' i = by'[i % by'.length] := by unfold kAt; rw [if_neg hbe, hgd, if_neg hk0]
          rw [← hk] at hgb hk0
          simp -implicitDefEqProofs (disch := omega) only [go_sem, ht, h0, h1, h7, h8, hgi, hgn, h2, hbp, hgb, hk0, eq_self]
          refine LW.ghost (Gh.nilW 10 2 (by simp -implicitDefEqProofs (disch := omega) only [go_sem, ht, eq_self])) ?_
          refine LW.ghost (Gh.nilW 11 2 (by simp -implicitDefEqProofs (disch := omega) only [go_sem, ht, eq_self])) ?_
          refine LW.loopG hc ht (by kernel_rfl) (fun s => s.sl 0 = .sl m.length (m.map SW) ∧ s.sl 1 = .val (.int .i64 n) ∧ s.sl 2 = .sl by'.length (by'.map vi) ∧ s.sl 7 = .ref idO 0 (2 * j) capO 1 ∧ s.sl 8 = .val (.int .i64 (i : Nat)) ∧ s.sl 9 = .val (.int .i64 (kAt by' i)) ∧ s.sl 12 = .sl ln.length (SWc ln) ∧
              s.H idO = some (((oth m by' j).map CZ).map SW ++ restO.map .val) ∧ idO < s.nx ∧ ∃ c : Nat, c ≤ n ∧ s.sl 13 = .val (.int .i64 c) ∧
              ∃ (idr capr : Nat) (rr : List Value) (ids caps : Nat) (rs : List Value), s.sl 10 = .ref idr 0 c capr 2 ∧ s.H idr = some (SWc (CZ ((rowK m by' i).take c)) ++ rr.map .val) ∧ c * 2 + rr.length = capr * 2 ∧ idr < s.nx ∧
                s.sl 11 = .ref ids 0 c caps 2 ∧ s.H ids = some (SWc (CZ ((sumK m i).take c)) ++ rs.map .val) ∧ c * 2 + rs.length = caps * 2 ∧ ids < s.nx ∧ idr ≠ ids ∧ idr ≠ idO ∧ ids ≠ idO)
            (fun s => match s.sl 13 with | .val (.int _ k) => n - k.toNat | _ => 0) ?_ ?_
          · simp -implicitDefEqProofs (disch := omega) only [go_sem, ht, h0, h1, h2, h7, h8, hH, eq_self]
            refine ⟨0, Nat.zero_le _, rfl, t.nx, 0, [], t.nx + 1, 0, [], rfl, ?_, rfl, by omega, rfl, ?_, rfl, by omega, by omega, by omega, by omega⟩
            · simp -implicitDefEqProofs (disch := omega) only [go_sem, ht, eq_self]
              rfl
            · simp -implicitDefEqProofs (disch := omega) only [go_sem, ht, eq_self]
              rfl
          · clear h0 h1 h2 h7 h8 hH hid
            rintro s ⟨h0, h1, h2, h7, h8, h9, h12, hH, hid, c, hcn, h13, idr, capr, rr, ids, caps, rs, h10, hHr, hcr, hir, h11, hHs, hcs, his, n1, n2, n3⟩
            by_cases hcl : c = n
            · subst hcl
              have e1 : (rowK m by' i).take c = rowK m by' i := List.take_of_length_le (by rw [hrl]; omega)
              have e2 : (sumK m i).take c = sumK m i := List.take_of_length_le (by rw [hsl]; omega)
              rw [e1] at hHr
              rw [e2] at hHs
              have t1 := take_SWc (CZ (rowK m by' i)) (rr.map .val) (n := c) (by rw [CZ_len, hrl])
              have t2 := take_SWc (CZ (sumK m i)) (rs.map .val) (n := c) (by rw [CZ_len, hsl])
              have l1 : (CZ (rowK m by' i)).length = c := by rw [CZ_len, hrl]
              have l2 : (CZ (sumK m i)).length = c := by rw [CZ_len, hsl]
              have f1 := SWc_flat (CZ (rowK m by' i))
              have f2 := SWc_flat (CZ (sumK m i))
              have hoth : ((oth m by' j).map CZ).map SW ++ [.sl c (SWc (CZ (rowK m by' i))), .sl c (SWc (CZ (sumK m i)))] = ((oth m by' (j + 1)).map CZ).map SW := by
                rw [oth_succ, List.map_append, List.map_append, ← hij]
                simp only [List.map_cons, List.map_nil, SW_def, l1, l2]
              have hol := oth_len m by' j
              have m1 := SWc_len (CZ (rowK m by' i))
              have m2 := SWc_len (CZ (sumK m i))
              generalize SWc (CZ (rowK m by' i)) = c1 at *
              generalize SWc (CZ (sumK m i)) = c2 at *
              refine ⟨_, (Gh.frzD 10 (fun x => decide (x = idr)) 1 (q := .sl c c1) ?_).trans (Gh.frzD 11 (fun x => decide (x = ids)) 1 (q := .sl c c2) ?_), ?_⟩
              · simp -implicitDefEqProofs (disch := omega) only [go_sem, ht, h10, hHr, t1, f1, decide_eq_true_eq, eq_self]
                rw [frzL_flat _ _ 0 f1, if_pos (by omega)]; rfl
              · simp -implicitDefEqProofs (disch := omega) only [go_sem, ht, h11, hHs, t2, f2, dropD_at, decide_eq_true_eq, if_neg n1.symm, eq_self]
                rw [frzL_flat _ _ 0 f2, if_pos (by omega)]; rfl
              · simp -implicitDefEqProofs (disch := omega) only [go_sem, ht, h0, h1, h2, h7, h8, h9, h12, h13, eq_self]
                (refine append_own (by simp -implicitDefEqProofs (disch := omega) only [srcP_ref, srcP_sl, srcP_nil, Option.isSome_some, hH, dropD_at, decide_eq_true_eq, if_neg n2.symm, if_neg n3.symm, go_sem, ht, eq_self] <;> rfl) (by simp -implicitDefEqProofs (disch := omega) only [srcP_ref, srcP_sl, srcP_nil, Option.isSome_some, hH, dropD_at, decide_eq_true_eq, if_neg n2.symm, if_neg n3.symm, go_sem, ht, eq_self] <;> rfl) (by simp -implicitDefEqProofs (disch := omega) only [srcP_ref, srcP_sl, srcP_nil, Option.isSome_some, hH, dropD_at, decide_eq_true_eq, if_neg n2.symm, if_neg n3.symm, go_sem, ht, eq_self] <;> rfl) (by simp -implicitDefEqProofs (disch := omega) only [srcP_ref, srcP_sl, srcP_nil, Option.isSome_some, hH, dropD_at, decide_eq_true_eq, if_neg n2.symm, if_neg n3.symm, go_sem, ht, eq_self] <;> rfl) (by simp -implicitDefEqProofs (disch := omega) only [srcP_ref, srcP_sl, srcP_nil, Option.isSome_some, hH, dropD_at, decide_eq_true_eq, if_neg n2.symm, if_neg n3.symm, go_sem, ht, eq_self] <;> rfl) (by simp -implicitDefEqProofs (disch := omega) only [srcP_ref, srcP_sl, srcP_nil, Option.isSome_some, hH, dropD_at, decide_eq_true_eq, if_neg n2.symm, if_neg n3.symm, go_sem, ht, eq_self] <;> rfl) (by simp -implicitDefEqProofs (disch := omega) only [srcP_ref, srcP_sl, srcP_nil, Option.isSome_some, hH, dropD_at, decide_eq_true_eq, if_neg n2.symm, if_neg n3.symm, go_sem, ht, eq_self] <;> rfl) (by simp -implicitDefEqProofs (disch := omega) only [srcP_ref, srcP_sl, srcP_nil, Option.isSome_some, hH, dropD_at, decide_eq_true_eq, if_neg n2.symm, if_neg n3.symm, go_sem, ht, eq_self] <;> rfl) (by simp <;> omega) (by first | assumption | (simp <;> omega)) (by first | rfl | simp) (by first | omega | (simp <;> omega)) ?_; intro id1 cap1 rest1 H1 nx1 hH1 hcap1 hid1 hnx1 hfr1 hfs1; simp only [put_nx, withH_nx, put_H, withH_H] at hid1 hnx1 hfr1 hfs1; (try simp only [app_U, ← List.map_append] at hH1))
                simp -implicitDefEqProofs (disch := omega) only [go_sem, ht, h0, h1, h2, h8, eq_self]
                exact ⟨⟨j + 1, by omega, by congr 2; omega, id1, cap1, rest1, rfl, by rw [hH1, hoth], by omega, by omega⟩, by omega⟩
            · have hlt : c < n := by omega
              have ha1 := SWc_at (l := li) (i := c) (by omega)
              have ha2 := SWc_at (l := ln) (i := c) (by omega)
              have w1 := hRi.wn (i := c) (by omega)
              have w2 := hRn.wn (i := c) (by omega)
              have hof := wof_v (x := kAt by' i) hk1 hk2
              have hmu := mulW w1 (Wn.C hkz (by omega))
              have had := addW w1 w2
              have st1 : (rowK m by' i).take (c + 1) = (rowK m by' i).take c ++ [vc (vals li) c * kAt by' i] := hrt c hlt
              have st2 : (sumK m i).take (c + 1) = (sumK m i).take c ++ [vc (vals li) c + vc (vals ln) c] := hst c hlt
              have hl1 : (SWc (CZ ((rowK m by' i).take c))).length = 2 * c := by rw [SWc_len, CZ_len, List.length_take, hrl]; omega
              have hl2 : (SWc (CZ ((sumK m i).take c))).length = 2 * c := by rw [SWc_len, CZ_len, List.length_take, hsl]; omega
              generalize vc (vals li) c * kAt by' i = x1 at *
              generalize vc (vals li) c + vc (vals ln) c = x2 at *
              have sw1 : SWc (CZ ((rowK m by' i).take c)) ++ [.val (.bool (decide (x1 < 0))), .sl (D x1.natAbs).length ((D x1.natAbs).map U)] = SWc (CZ ((rowK m by' i).take (c + 1))) := by
                rw [st1, CZ_app, SWc_app]; rfl
              have sw2 : SWc (CZ ((sumK m i).take c)) ++ [.val (.bool (decide (x2 < 0))), .sl (D x2.natAbs).length ((D x2.natAbs).map U)] = SWc (CZ ((sumK m i).take (c + 1))) := by
                rw [st2, CZ_app, SWc_app]; rfl
              refine ⟨s, Gh.refl s, ?_⟩
              simp -implicitDefEqProofs (disch := omega) only [go_sem, ht, h0, h1, h2, h7, h8, h9, h10, h11, h12, h13, hgi, ha1, ha2, eq_self]
              ((refine pCall_view (by simp -implicitDefEqProofs (disch := omega) only [h0, h1, h2, h7, h8, h9, h10, h11, h12, h13, hgi, ha1, ha2, go_sem, ht, eq_self] <;> rfl) (by simp -implicitDefEqProofs (disch := omega) only [h0, h1, h2, h7, h8, h9, h10, h11, h12, h13, hgi, ha1, ha2, go_sem, ht, eq_self]) (by first | (apply Or.inl; simp -implicitDefEqProofs (disch := omega) only [h0, h1, h2, h7, h8, h9, h10, h11, h12, h13, hgi, ha1, ha2, go_sem, ht, eq_self]; done) | (apply Or.inr; rintro r rfl; rfl)) (hof) ?_; rintro _ nx_18 - rfl hnx_18; (try simp only [put_nx, withH_nx, begP_nx] at hnx_18); simp -implicitDefEqProofs (disch := omega) only [h0, h1, h2, h7, h8, h9, h10, h11, h12, h13, hgi, ha1, ha2, go_sem, ht, eq_self]); (refine pCall_view (by simp -implicitDefEqProofs (disch := omega) only [h0, h1, h2, h7, h8, h9, h10, h11, h12, h13, hgi, ha1, ha2, go_sem, ht, eq_self] <;> rfl) (by simp -implicitDefEqProofs (disch := omega) only [h0, h1, h2, h7, h8, h9, h10, h11, h12, h13, hgi, ha1, ha2, go_sem, ht, eq_self]) (by first | (apply Or.inl; simp -implicitDefEqProofs (disch := omega) only [h0, h1, h2, h7, h8, h9, h10, h11, h12, h13, hgi, ha1, ha2, go_sem, ht, eq_self]; done) | (apply Or.inr; rintro r rfl; rfl)) (hmu) ?_; rintro _ nx_19 - rfl hnx_19; (try simp only [put_nx, withH_nx, begP_nx] at hnx_19); simp -implicitDefEqProofs (disch := omega) only [h0, h1, h2, h7, h8, h9, h10, h11, h12, h13, hgi, ha1, ha2, go_sem, ht, eq_self]))
              (refine append_ownS (by simp -implicitDefEqProofs (disch := omega) only [srcP_ref, srcP_sl, srcP_nil, Option.isSome_some, hHr, go_sem, ht, eq_self] <;> rfl) (by simp -implicitDefEqProofs (disch := omega) only [srcP_ref, srcP_sl, srcP_nil, Option.isSome_some, hHr, go_sem, ht, eq_self] <;> rfl) (by simp -implicitDefEqProofs (disch := omega) only [srcP_ref, srcP_sl, srcP_nil, Option.isSome_some, hHr, go_sem, ht, eq_self] <;> rfl) (by simp -implicitDefEqProofs (disch := omega) only [srcP_ref, srcP_sl, srcP_nil, Option.isSome_some, hHr, go_sem, ht, eq_self] <;> rfl) (by simp -implicitDefEqProofs (disch := omega) only [srcP_ref, srcP_sl, srcP_nil, Option.isSome_some, hHr, go_sem, ht, eq_self] <;> rfl) (by rfl) (by simp -implicitDefEqProofs (disch := omega) only [srcP_ref, srcP_sl, srcP_nil, Option.isSome_some, hHr, go_sem, ht, eq_self] <;> rfl) (by simp -implicitDefEqProofs (disch := omega) only [srcP_ref, srcP_sl, srcP_nil, Option.isSome_some, hHr, go_sem, ht, eq_self] <;> rfl) (by simp -implicitDefEqProofs (disch := omega) only [srcP_ref, srcP_sl, srcP_nil, Option.isSome_some, hHr, go_sem, ht, eq_self] <;> rfl) (by first | omega | (simp <;> omega)) (by first | assumption | (simp <;> omega)) (by first | rfl | simp) (by first | omega | (simp <;> omega)) ?_; intro id1 cap1 rest1 H1 nx1 hH1 hcap1 hid1 hnx1 hfr1 hfs1; simp only [put_nx, withH_nx, put_H, withH_H] at hid1 hnx1 hfr1 hfs1)
              rw [sw1] at hH1
              simp -implicitDefEqProofs (disch := omega) only [go_sem, ht, h0, h1, h2, h7, h8, h9, h11, h12, h13, hgi, ha1, ha2, eq_self]
              ((refine pCall_view (by simp -implicitDefEqProofs (disch := omega) only [h0, h1, h2, h7, h8, h9, h11, h12, h13, hgi, ha1, ha2, go_sem, ht, eq_self] <;> rfl) (by simp -implicitDefEqProofs (disch := omega) only [h0, h1, h2, h7, h8, h9, h11, h12, h13, hgi, ha1, ha2, go_sem, ht, eq_self]) (by first | (apply Or.inl; simp -implicitDefEqProofs (disch := omega) only [h0, h1, h2, h7, h8, h9, h11, h12, h13, hgi, ha1, ha2, go_sem, ht, eq_self]; done) | (apply Or.inr; rintro r rfl; rfl)) (had) ?_; rintro _ nx_20 - rfl hnx_20; (try simp only [put_nx, withH_nx, begP_nx] at hnx_20); simp -implicitDefEqProofs (disch := omega) only [h0, h1, h2, h7, h8, h9, h11, h12, h13, hgi, ha1, ha2, go_sem, ht, eq_self]))
              have hs1 : H1 ids = some (SWc (CZ ((sumK m i).take c)) ++ rs.map .val) := by
                rw [hfr1 ids (Ne.symm n1) (by omega), upd_ne _ _ (by omega)]; exact hHs
              have ho1 : H1 idO = some (((oth m by' j).map CZ).map SW ++ restO.map .val) := by
                rw [hfr1 idO (Ne.symm n2) (by omega), upd_ne _ _ (by omega)]; exact hH
              (refine append_ownS (by simp -implicitDefEqProofs (disch := omega) only [srcP_ref, srcP_sl, srcP_nil, Option.isSome_some, hs1, go_sem, ht, eq_self] <;> rfl) (by simp -implicitDefEqProofs (disch := omega) only [srcP_ref, srcP_sl, srcP_nil, Option.isSome_some, hs1, go_sem, ht, eq_self] <;> rfl) (by simp -implicitDefEqProofs (disch := omega) only [srcP_ref, srcP_sl, srcP_nil, Option.isSome_some, hs1, go_sem, ht, eq_self] <;> rfl) (by simp -implicitDefEqProofs (disch := omega) only [srcP_ref, srcP_sl, srcP_nil, Option.isSome_some, hs1, go_sem, ht, eq_self] <;> rfl) (by simp -implicitDefEqProofs (disch := omega) only [srcP_ref, srcP_sl, srcP_nil, Option.isSome_some, hs1, go_sem, ht, eq_self] <;> rfl) (by rfl) (by simp -implicitDefEqProofs (disch := omega) only [srcP_ref, srcP_sl, srcP_nil, Option.isSome_some, hs1, go_sem, ht, eq_self] <;> rfl) (by simp -implicitDefEqProofs (disch := omega) only [srcP_ref, srcP_sl, srcP_nil, Option.isSome_some, hs1, go_sem, ht, eq_self] <;> rfl) (by simp -implicitDefEqProofs (disch := omega) only [srcP_ref, srcP_sl, srcP_nil, Option.isSome_some, hs1, go_sem, ht, eq_self] <;> rfl) (by first | omega | (simp <;> omega)) (by first | assumption | (simp <;> omega)) (by first | rfl | simp) (by first | omega | (simp <;> omega)) ?_; intro id2 cap2 rest2 H2 nx2 hH2 hcap2 hid2 hnx2 hfr2 hfs2; simp only [put_nx, withH_nx, put_H, withH_H] at hid2 hnx2 hfr2 hfs2)
              rw [sw2] at hH2
              have hr2 : H2 id1 = some (SWc (CZ ((rowK m by' i).take (c + 1))) ++ rest1.map .val) := by
                rw [hfr2 id1 (by omega) (by omega), upd_ne _ _ (by omega)]; exact hH1
              have ho2 : H2 idO = some (((oth m by' j).map CZ).map SW ++ restO.map .val) := by
                rw [hfr2 idO (Ne.symm n3) (by omega), upd_ne _ _ (by omega)]; exact ho1
              simp -implicitDefEqProofs (disch := omega) only [go_sem, ht, h0, h1, h2, h7, h8, h9, h12, h13, eq_self]
              exact ⟨⟨ho2, by omega, c + 1, by omega, rfl, id1, cap1, rest1, id2, cap2, rest2, rfl, hr2, hcap1, by omega, rfl, hH2, hcap2, by omega, by omega, by omega, by omega⟩, by omega⟩
end
end Go.Proofs.Ytfjdfnlkobeehaa
open Go.ChangeShapes Go.WideShapes Go.ChangeAt Go.RowKit
namespace Go.Proofs.Ytfjdfnlkobeehaa
set_option maxRecDepth 100000 in
theorem matrixSpace_lifted (os : Os) (started : os.Started) (H : Type) (enc : TypeId × Value → H) (F : Stop.Interp) :
    ReturnsInHanded {} Try.checked os 3 .any ((Rows.OpenSpec.upto Rows.matrixSpaceSpec).pre6 enc Try.prog Try.f3 Rows.matrixSpaceUptoRow.domain false) (((Rows.OpenSpec.upto Rows.matrixSpaceSpec).at F).post enc Try.prog Try.f3 false true false false) := by
  refine returnsInHanded_of_cond (C := Try.checked) (s := Rows.OpenSpec.upto Rows.matrixSpaceSpec) (k := Rows.uptoSmall) rfl law_own started (by kernel_rfl) Try.func3
    (OpenSpec.witness (enc := enc) (C := Try.checked) (s := Rows.OpenSpec.upto Rows.matrixSpaceSpec) (k := Rows.uptoSmall) rfl false ⟨#[], #[.slice none 0 0, .int .i64 0, .slice none 0 0], []⟩ 8 (by kernel_rfl) (by kernel_rfl) (by kernel_rfl) (x := ([.nil, .lit (.int .i64 0), .nil], [], [])) (by kernel_rfl) rfl (by kernel_rfl)) ?_
  intro W base args ds gs before hval0 hW hcnd hk _
  have hval : ∀ (j : Nat) t v, Try.f3.params[j]? = some t → args[j]? = some v → Value.okWide Try.prog W .any base t v := hval0
  have hW' := hW
  obtain ⟨p, q, hA0, hV, rfl, hfz, hnd⟩ := hW
  have hA : DataW.TrodAll enc Try.prog W 0 (fun _ => true) true Try.f3.params.toList args.toList ds p := hA0
  rw [Try.params3] at hA hval
  obtain ⟨v0, vs0, d0, ds0, p0, q0, hargs, rfl, rfl, h0, r0⟩ := trodAll_cons hA
  obtain ⟨v1, vs1, d1, ds1, p1, q1, rfl, rfl, rfl, h1, r1⟩ := trodAll_cons r0
  obtain ⟨v2, vs2, d2, ds2, p2, q2, rfl, rfl, rfl, h2, r2⟩ := trodAll_cons r1
  obtain ⟨rfl, rfl, rfl⟩ := trodAll_nil r2
  obtain rfl : args = #[v0, v1, v2] := by cases args; simp_all
  obtain ⟨rfl, rfl⟩ := trodVars_none hV
  have hbk : Rows.uptoBulkAll [d0, d1, d2] ≤ 1048576 := of_decide_eq_true hk
  simp only [Rows.uptoBulkAll] at hbk
  have lt0 : ∀ x ∈ p0, x.block < W.heap.size := by obtain ⟨m, hm⟩ := h0; exact DataW.trod_lt m _ _ _ hm
  obtain ⟨fu0, g0⟩ := value_cells Try.underlying22 (hval 0 22 v0 rfl rfl) h0
  obtain ⟨l0, lm0, ln0, rep0⟩ := cell_rowsS Try.underlying22 (by kernel_rfl) Try.underlying27 Try.underlying30 (by kernel_rfl) rfl rfl (by kernel_rfl) (by kernel_rfl) Try.underlying4 Try.underlying28 Try.underlying93 (by kernel_rfl) g0
  have lb0 := Nat.le_trans ln0 (show Rows.uptoBulk d0 ≤ 1048576 by omega)
  have lt1 : ∀ x ∈ p1, x.block < W.heap.size := by obtain ⟨m, hm⟩ := h1; exact DataW.trod_lt m _ _ _ hm
  obtain ⟨x1, lo1, hi1, rep1⟩ := arg_int Try.underlying3 (hval 1 3 v1 rfl rfl) h1
  have lt2 : ∀ x ∈ p2, x.block < W.heap.size := by obtain ⟨m, hm⟩ := h2; exact DataW.trod_lt m _ _ _ hm
  obtain ⟨fu2, g2⟩ := value_cells Try.underlying23 (hval 2 23 v2 rfl rfl) h2
  obtain ⟨l2, lm2, ln2, rep2⟩ := cell_intsS Try.underlying23 Try.underlying3 (by kernel_rfl) g2
  have lb2 := Nat.le_trans ln2 (show Rows.uptoBulk d2 ≤ 1048576 by omega)
  refine (law_run (space_law lm0 lb0 lo1 hi1 lm2 lb2) (vs := [v0, v1, v2]) (by simp only [RepL]; exact ⟨rep0, ⟨rep1, ⟨rep2, trivial⟩⟩⟩)).mono fun e W' ⟨⟨v, r, he, hr, hx⟩, bel⟩ => ?_
  subst he; rw [hx _ hr]
  exact ⟨_, rfl, _, _, _, [], _, [], hW', trodAll_mk1 (shut_bool Try.underlying4 _), (trodAll_cons_mk (Below.trod law_laidOut (by kernel_rfl) (of_decide_eq_true (by kernel_rfl)) h0 bel lt0) (trodAll_cons_mk (Below.trod law_laidOut (by kernel_rfl) (of_decide_eq_true (by kernel_rfl)) h1 bel lt1) (trodAll_cons_mk (Below.trod law_laidOut (by kernel_rfl) (of_decide_eq_true (by kernel_rfl)) h2 bel lt2) trodAll_mk0))), rfl, bel.frame _, fun h => by cases h⟩
theorem matrixSpaceUpto_holds : Rows.MatrixSpaceUptoSaid :=
  OpenClaim.holds_of_cond 3 Try.f3 rfl rfl rfl rfl rfl rfl rfl ⟨rfl, rfl, rfl, rfl, rfl⟩ rfl rfl rfl rfl rfl (by kernel_rfl) Try.func3 (by kernel_rfl)
    (of_decide_eq_true (by kernel_rfl)) (by unfold Func.isWrapper; first | (rw [if_pos (by decide +kernel)]; kernel_rfl) | (rw [if_neg (by decide +kernel)]; exact ⟨rfl, rfl⟩))
    (fun os started H enc _ F => matrixSpace_lifted os started H enc F)
end Go.Proofs.Ytfjdfnlkobeehaa
