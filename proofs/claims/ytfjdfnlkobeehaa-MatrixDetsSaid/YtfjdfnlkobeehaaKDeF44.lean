/- The statement MatrixDets holds of the given program: for all rows and columns the law answers true. Its conditions are those of the given statement, and no others. -/
import Derived.Test.YtfjdfnlkobeehaaKDeF31
import Derived.Test.YtfjdfnlkobeehaaKDeF42
import Derived.Test.YtfjdfnlkobeehaaKDeF43
section
set_option maxRecDepth 100000
set_option linter.unusedVariables false
set_option linter.unusedSimpArgs false
namespace Go.Proofs.Ytfjdfnlkobeehaa
theorem copy_any {xs : List Nat} (h : xs.length ≤ 35184372087808) : PL 102 [SU xs] xs := by
  refine PCalls.enter (n := 5) (rs := [.tmp 2]) (tb := []) Try.func102 rfl rfl rfl (by kernel_rfl) (by kernel_rfl) (by simp) fun c hc ht => ?_
  simp -implicitDefEqProofs (disch := omega) only [go_sem, ht]
  refine append_nil (e := 93) (b := 4) (m := xs.length) (z := .int .u32 0) (ys := xs.map U) T28_elem rfl T93_size T93_bytes T93_zero (by simp -implicitDefEqProofs (disch := omega) only [go_sem, ht, srcP_sl]) (by simp -implicitDefEqProofs (disch := omega) only [go_sem, ht]) (by omega) (fun h0 => ?_) fun cap' rest' h1 h2 => ?_
  · have : xs = [] := List.eq_nil_of_length_eq_zero h0
    subst this
    simp -implicitDefEqProofs (disch := omega) only [go_sem, ht]
    exact end_own_nil mk_id (by simp -implicitDefEqProofs (disch := omega) only [go_sem, ht])
  · simp -implicitDefEqProofs (disch := omega) only [go_sem, ht]
    exact end_own1 (mk := fun p => p) (by simp -implicitDefEqProofs (disch := omega) only [go_sem, ht] <;> rfl) (by simp -implicitDefEqProofs (disch := omega) only [go_sem, ht] <;> rfl) (by simp <;> omega) (by simp <;> omega)
theorem copyw_any {b : Bool} {xs : List Nat} (h : xs.length ≤ 35184372087808) : PO1 Try.prog 63 [WX b xs] (fun p => .agg [.val (.bool b), p]) (xs.map U) := by
  have hcp := copy_any h
  refine PCalls.enter (n := 9) (rs := [.cell 2 30]) (tb := [(1, [(0, []), (1, []), (2, []), (3, []), (4, [0, 1]), (5, []), (6, [])])]) Try.func63 rfl rfl rfl (by kernel_rfl) (by kernel_rfl) (by simp) fun c hc ht => ?_
  simp -implicitDefEqProofs (disch := omega) only [go_sem, ht]
  (refine pCall_own1 (mk := fun p => p) (mk_id) (by simp -implicitDefEqProofs (disch := omega) only [go_sem, ht] <;> rfl) (by simp -implicitDefEqProofs (disch := omega) only [go_sem, ht]) (closedL_U _) (flatL_U _) (hcp) ?_; intro id1 cap1 rest1 nx1 hid1 hnx1 hcap1; simp only [put_nx, withH_nx, begP_nx, List.length_map] at hid1 hcap1; simp -implicitDefEqProofs (disch := omega) only [go_sem, ht])
  exact end_own1 (mk := fun p => .agg [.val (.bool b), p]) (by simp -implicitDefEqProofs (disch := omega) only [go_sem, ht] <;> rfl) (by simp -implicitDefEqProofs (disch := omega) only [go_sem, ht] <;> rfl) (by simp <;> omega) (by simp <;> omega)
theorem copy_wholes_any {l : List (Bool × List Nat)} (fw : FW l) : PT Try.prog 28 [SW l] (isV (SW l)) := by
  have hl := fw.2
  have hll := fw.1
  refine PCalls.enter (n := 20) (rs := [.tmp 2]) (tb := []) Try.func28 rfl rfl rfl (by kernel_rfl) (by kernel_rfl) (by simp) fun c hc ht => ?_
  simp -implicitDefEqProofs (disch := omega) only [go_sem, ht]
  refine LW.ghost (Gh.nilW 3 2 (by simp -implicitDefEqProofs (disch := omega) only [go_sem, ht])) ?_
  refine LW.loopW hc ht (by kernel_rfl) (fun t => t.sl 0 = .sl l.length (SWc l) ∧ ∃ i : Nat, i ≤ l.length ∧ t.sl 4 = .val (.int .i64 i) ∧ ∃ (id cap : Nat) (rest : List Value), t.sl 3 = .ref id 0 i cap 2 ∧ t.H id = some (SWc (l.take i) ++ rest.map .val) ∧ i * 2 + rest.length = cap * 2 ∧ id < t.nx)
    (fun t => match t.sl 4 with | .val (.int _ k) => l.length - k.toNat | _ => 0) ?_ ?_
  · simp -implicitDefEqProofs (disch := omega) only [go_sem, ht]
    exact ⟨0, Nat.zero_le _, rfl, _, 0, [], rfl, upd_self _ _ _, rfl, by omega⟩
  · rintro t ⟨h0, i, hi, h4, id, cap, rest, h3, hH, hcap, hid⟩
    by_cases hil : i = l.length
    · subst hil
      rw [List.take_length] at hH
      have htk := take_SWc l (rest.map .val) rfl
      simp -implicitDefEqProofs (disch := omega) only [go_sem, ht, h0, h3, h4]
      (refine end_treeW 2 ?_; simp -implicitDefEqProofs (disch := omega) only [go_sem, ht, hH, htk]; omega)
    · have hlt : i < l.length := by omega
      have hat := SWc_at hlt
      have hcw := copyw_any (b := l[i].1) (hl l[i] (List.getElem_mem _)).2
      have hct := PO1.tree (mk_w (.bool l[i].1)) (flatL_U _) hcw
      have htk := SWc_take hlt
      have hln : (SWc (l.take i)).length = 2 * i := by rw [SWc_len, List.length_take]; omega
      simp only [List.length_map] at hct
      simp -implicitDefEqProofs (disch := omega) only [go_sem, ht, h0, h3, h4, hat]
      (refine pCall_vw (by refine ⟨⟨?_, ?_⟩, ?_, ?_⟩; rotate_left 2; (first | (right; rintro r rfl; rfl) | left); all_goals ((try simp -implicitDefEqProofs (disch := omega) only [h0, h3, h4, hat, go_sem, ht]) <;> rfl)) (hct) ?_; rintro _ nx - rfl hnx; simp -implicitDefEqProofs (disch := omega) only [h0, h3, h4, hat, go_sem, ht])
      have hne : id ≠ nx := by omega
      (refine append_ownSX (by refine ⟨?_, ?_, ?_, ?_, ?_, ?_, ?_, ?_⟩ <;> (simp -implicitDefEqProofs (disch := omega) only [srcP_ref, srcP_sl, srcP_nil, Option.isSome_some, hH, go_sem, ht] <;> rfl)) (by rfl) (by first | omega | (simp <;> omega)) (by first | assumption | (simp <;> omega)) (by first | rfl | simp) (by first | omega | (simp <;> omega)) ?_; intro id1 cap1 rest1 H1 nx1 hH1 hcap1 hid1 hnx1 hfr1 hfs1; simp only [put_nx, withH_nx, put_H, withH_H] at hid1 hnx1 hfr1 hfs1)
      rw [htk] at hH1
      simp -implicitDefEqProofs (disch := omega) only [go_sem, ht, h0, h3, h4]
      exact ⟨⟨i + 1, by omega, rfl, id1, cap1, rest1, rfl, hH1, by omega, by omega⟩, by omega⟩
theorem copy_rows_any {m : List (List (Bool × List Nat))} (fm : FM m) : PT Try.prog 21 [SM m] (isV (SM m)) := by
  have hm := fm.2
  have hll := fm.1
  refine PCalls.enter (n := 20) (rs := [.tmp 2]) (tb := []) Try.func21 rfl rfl rfl (by kernel_rfl) (by kernel_rfl) (by simp) fun c hc ht => ?_
  simp -implicitDefEqProofs (disch := omega) only [go_sem, ht]
  refine LW.ghost (Gh.nilW 3 1 (by simp -implicitDefEqProofs (disch := omega) only [go_sem, ht])) ?_
  refine LW.loopW hc ht (by kernel_rfl) (fun t => t.sl 0 = .sl m.length (m.map SW) ∧ ∃ i : Nat, i ≤ m.length ∧ t.sl 4 = .val (.int .i64 i) ∧ ∃ (id cap : Nat) (rest : List Value), t.sl 3 = .ref id 0 i cap 1 ∧ t.H id = some ((m.take i).map SW ++ rest.map .val) ∧ i + rest.length = cap ∧ id < t.nx)
    (fun t => match t.sl 4 with | .val (.int _ k) => m.length - k.toNat | _ => 0) ?_ ?_
  · simp -implicitDefEqProofs (disch := omega) only [go_sem, ht]
    exact ⟨0, Nat.zero_le _, rfl, _, 0, [], rfl, upd_self _ _ _, rfl, by omega⟩
  · rintro t ⟨h0, i, hi, h4, id, cap, rest, h3, hH, hcap, hid⟩
    by_cases hil : i = m.length
    · subst hil
      rw [List.take_length] at hH
      have htk : List.take m.length (m.map SW ++ rest.map .val) = m.map SW := by
        rw [List.take_append_of_le_length (by simp), List.take_of_length_le (by simp)]
      have hle : m.length ≤ (m.map SW).length + rest.length := by simp
      have hfl := frzL_flat (fun _ => true) t.H 1 (SM_flat m)
      have hml : (m.map SW).length = m.length := by simp
      simp -implicitDefEqProofs (disch := omega) only [go_sem, ht, h0, h3, h4]
      (refine end_treeW 2 ?_; simp -implicitDefEqProofs (disch := omega) only [go_sem, ht, hH, htk, hfl])
      omega
    · have hlt : i < m.length := by omega
      have hgi := get_SM' hlt
      have hfw := hm _ (getD_mem (d := []) hlt)
      have hct := copy_wholes_any hfw
      have hlw := hfw.1
      clear hfw
      have hst : (m.take i).map SW ++ [.sl (m.getD i []).length (SWc (m.getD i []))] = (m.take (i + 1)).map SW := by
        rw [getD_take (d := []) hlt, List.map_append]; rfl
      have hln : ((m.take i).map SW).length = i := by simp; omega
      generalize m.getD i [] = l0 at *
      simp -implicitDefEqProofs (disch := omega) only [go_sem, ht, h0, h3, h4, hgi]
      (refine pCall_vw (by refine ⟨⟨?_, ?_⟩, ?_, ?_⟩; rotate_left 2; (first | (right; rintro r rfl; rfl) | left); all_goals ((try simp -implicitDefEqProofs (disch := omega) only [h0, h3, h4, hgi, go_sem, ht]) <;> rfl)) (hct) ?_; rintro _ nx - rfl hnx; simp -implicitDefEqProofs (disch := omega) only [h0, h3, h4, hgi, go_sem, ht])
      have hne : id ≠ nx := by omega
      (refine append_ownX (by refine ⟨?_, ?_, ?_, ?_, ?_, ?_, ?_, ?_⟩ <;> (simp -implicitDefEqProofs (disch := omega) only [srcP_ref, srcP_sl, srcP_nil, Option.isSome_some, hH, go_sem, ht] <;> rfl)) (by simp <;> omega) (by first | assumption | (simp <;> omega)) (by first | rfl | simp) (by first | omega | (simp <;> omega)) ?_; intro id1 cap1 rest1 H1 nx1 hH1 hcap1 hid1 hnx1 hfr1 hfs1; simp only [put_nx, withH_nx, put_H, withH_H] at hid1 hnx1 hfr1 hfs1; (try simp only [app_U, ← List.map_append] at hH1))
      rw [hst] at hH1
      simp -implicitDefEqProofs (disch := omega) only [go_sem, ht, h0, h3, h4]
      exact ⟨⟨i + 1, by omega, rfl, id1, cap1, rest1, rfl, hH1, by omega, by omega⟩, by omega⟩
theorem same_any {xs : List Nat} (h : xs.length ≤ 35184372087808) : PT Try.prog 75 [SU xs, SU xs] (isV (.val (.bool true))) := by
  refine PCalls.enter (n := 26) (rs := [.tmp 4]) (tb := [(6, [(0, []), (1, []), (2, []), (3, []), (4, []), (5, []), (6, []), (7, []), (8, [])])]) Try.func75 rfl rfl rfl (by kernel_rfl) (by kernel_rfl) (by simp) fun c hc ht => ?_
  simp -implicitDefEqProofs (disch := omega) only [go_sem, ht]
  refine LW.loopW hc ht (by kernel_rfl) (fun s => s.sl 0 = .sl xs.length (xs.map U) ∧ s.sl 1 = .sl xs.length (xs.map U) ∧ ∃ k : Nat, k ≤ xs.length ∧ s.sl 5 = .val (.int .i64 k))
    (fun s => match s.sl 5 with | .val (.int _ k) => xs.length - k.toNat | _ => 0) ?_ ?_
  · simp -implicitDefEqProofs (disch := omega) only [go_sem, ht]
    exact ⟨0, Nat.zero_le _, rfl⟩
  · rintro s ⟨h0, h1, k, hk, h5⟩
    by_cases hkl : k = xs.length
    · simp -implicitDefEqProofs (disch := omega) only [go_sem, ht, h0, h1, h5]
      (refine end_treeW 0 ?_; simp -implicitDefEqProofs (disch := omega) only [go_sem, ht])
    · simp -implicitDefEqProofs (disch := omega) only [go_sem, ht, h0, h1, h5]
      exact ⟨⟨k + 1, by omega, rfl⟩, by omega⟩
theorem samew_any {b : Bool} {xs : List Nat} (h : xs.length ≤ 35184372087808) : PT Try.prog 32 [WX b xs, WX b xs] (isV (.val (.bool true))) := by
  have hs := same_any h
  have hbb : (b == b) = true := by simp
  refine PCalls.enter (n := 17) (rs := [.tmp 4]) (tb := []) Try.func32 rfl rfl rfl (by kernel_rfl) (by kernel_rfl) (by simp) fun c hc ht => ?_
  simp -implicitDefEqProofs (disch := omega) only [go_sem, ht, hbb]
  (refine pCall_vw (by refine ⟨⟨?_, ?_⟩, ?_, ?_⟩; rotate_left 2; (first | (right; rintro r rfl; rfl) | left); all_goals ((try simp -implicitDefEqProofs (disch := omega) only [hbb, go_sem, ht]) <;> rfl)) (hs) ?_; rintro _ nx - rfl hnx; simp -implicitDefEqProofs (disch := omega) only [hbb, go_sem, ht])
  (refine end_treeW 0 ?_; simp -implicitDefEqProofs (disch := omega) only [go_sem, ht, hbb])
end Go.Proofs.Ytfjdfnlkobeehaa
end

section
set_option maxRecDepth 100000
set_option linter.unusedVariables false
set_option linter.unusedSimpArgs false
namespace Go.Proofs.Ytfjdfnlkobeehaa
section
variable {m : List (List (Bool × List Nat))} {v : List (Bool × List Nat)} {by' : List Int}
theorem mdet_wrong {cn : Int} (hw' : wrongM m cn = true) : PT Try.prog 30 [SM m, .val (.int .i64 cn)] (isV (.tup [.agg [.val (.bool false), .sl 0 []], .val (.int .i64 1)])) := by
  have hw := wrong_calls (m := m) (cn := cn)
  rw [hw'] at hw
  refine PCalls.enter (n := 145) (rs := [.cell 4 30, .tmp 5]) (tb := [(14, [(0, []), (1, []), (2, []), (3, []), (4, []), (5, []), (6, []), (7, []), (8, []), (9, []), (10, []), (11, []), (12, []), (13, [2, 3]), (14, []), (15, [])]), (1000014, [(0, []), (0, []), (0, []), (0, []), (0, []), (0, []), (48, []), (112, []), (0, []), (0, []), (768, []), (1792, []), (4083, []), (8179, []), (16383, []), (32767, [])]), (22, [(0, []), (1, []), (2, []), (3, []), (4, []), (5, []), (6, []), (7, []), (8, []), (9, []), (10, []), (11, []), (12, []), (13, []), (15, []), (16, []), (17, []), (18, []), (19, []), (20, []), (21, []), (22, []), (23, []), (24, []), (25, []), (26, []), (27, []), (28, []), (14, [15, 16, 17, 18, 19, 20, 21, 22, 23, 24, 25, 26, 27, 28]), (29, []), (30, []), (31, [0, 1, 2, 3, 4, 5, 6, 7, 8, 9, 10, 11, 12, 13, 15, 16, 17, 18, 19, 20, 21, 22, 23, 24, 25, 26, 27, 28]), (32, [])]), (1000022, [(0, []), (0, []), (3, []), (7, []), (0, []), (31, []), (63, []), (0, []), (0, []), (384, []), (896, []), (0, []), (3968, []), (8064, []), (16383, []), (0, []), (0, []), (98304, []), (229376, []), (0, []), (1015808, []), (2064384, []), (0, []), (0, []), (12582912, []), (29360128, []), (0, []), (130023424, []), (264241152, []), (536870911, []), (1073741823, []), (0, []), (4294967295, [])]), (23, [(0, []), (1, []), (2, []), (3, []), (4, []), (5, []), (6, []), (7, [0, 1, 2, 3, 4]), (8, []), (9, []), (10, []), (11, []), (12, []), (13, [10, 11])]), (1000023, [(0, []), (0, []), (3, []), (7, []), (0, []), (0, []), (0, []), (96, []), (224, []), (480, []), (480, []), (480, []), (1023, []), (5119, [])])]) Try.func30 rfl rfl rfl (by kernel_rfl) (by kernel_rfl) (by simp) fun c hc ht => ?_
  simp -implicitDefEqProofs (disch := omega) only [go_sem, ht]
  (refine pCall_vw (by refine ⟨⟨?_, ?_⟩, ?_, ?_⟩; rotate_left 2; (first | (right; rintro r rfl; rfl) | left); all_goals ((try simp -implicitDefEqProofs (disch := omega) only [go_sem, ht]) <;> rfl)) (hw) ?_; rintro _ nx - rfl hnx; simp -implicitDefEqProofs (disch := omega) only [go_sem, ht])
  (refine end_treeM 2 ?_; simp -implicitDefEqProofs (disch := omega) only [go_sem, ht, upd_self])
theorem rdet_wrong {cn : Int} (hm : m.length ≤ 8796093022208) (hw' : wrongM m cn = true) : PT Try.prog 31 [SM m, .val (.int .i64 cn)] (isV (.tup [.agg [.val (.bool false), .sl 0 []], .val (.int .i64 1)])) := by
  have hw := Ref.rwrong_calls (m := m) (cn := cn) hm
  rw [hw'] at hw
  refine PCalls.enter (n := 31) (rs := [.cell 4 30, .tmp 5]) (tb := []) Try.func31 rfl rfl rfl (by kernel_rfl) (by kernel_rfl) (by simp) fun c hc ht => ?_
  simp -implicitDefEqProofs (disch := omega) only [go_sem, ht]
  (refine pCall_vw (by refine ⟨⟨?_, ?_⟩, ?_, ?_⟩; rotate_left 2; (first | (right; rintro r rfl; rfl) | left); all_goals ((try simp -implicitDefEqProofs (disch := omega) only [go_sem, ht]) <;> rfl)) (hw) ?_; rintro _ nx - rfl hnx; simp -implicitDefEqProofs (disch := omega) only [go_sem, ht])
  (refine end_treeM 2 ?_; simp -implicitDefEqProofs (disch := omega) only [go_sem, ht, upd_self])
theorem dets_full {cn : Int} (fm : FM m) (lo : -9223372036854775808 ≤ cn) (hi : cn ≤ 9223372036854775807) :
    PT Try.prog 6 [SM m, .val (.int .i64 cn)] (isV (.val (.bool true))) := by
  by_cases hl : lenM m ≤ 1500
  · exact dets_law fm.lm (by omega) lo hi
  have hlr := len_rows_any fm
  have hml := fm.1
  refine PCalls.enter (n := 36) (rs := [.tmp 4]) (tb := []) Try.func6 rfl rfl rfl (by kernel_rfl) (by kernel_rfl) (by simp) fun c hc ht => ?_
  simp -implicitDefEqProofs (disch := omega) only [go_sem, ht]
  (refine pCall_vw (by refine ⟨⟨?_, ?_⟩, ?_, ?_⟩; rotate_left 2; (first | (right; rintro r rfl; rfl) | left); all_goals ((try simp -implicitDefEqProofs (disch := omega) only [go_sem, ht]) <;> rfl)) (awake_matrix) ?_; rintro _ nx - rfl hnx; simp -implicitDefEqProofs (disch := omega) only [go_sem, ht])
  refine pCall_view (by simp -implicitDefEqProofs (disch := omega) only [go_sem, ht] <;> rfl) (by simp -implicitDefEqProofs (disch := omega) only [go_sem, ht]) (by apply Or.inl; simp -implicitDefEqProofs (disch := omega) only [go_sem, ht]; done) hlr ?_
  rintro _ nx2 - ⟨k, rfl, hk1, hk2, hk3⟩ hnx2
  by_cases hk : 1500 < k
  · simp -implicitDefEqProofs (disch := omega) only [go_sem, ht, hk]
    (refine end_treeW 0 ?_; simp -implicitDefEqProofs (disch := omega) only [go_sem, ht])
  · have hw : wrongM m cn = true := Classical.byContradiction fun hn => by
      have := hk3 (fm.small (cn := cn) (by simpa using hn))
      omega
    have hcr := copy_rows_any fm
    have hme := mdet_wrong hw
    have hre := rdet_wrong (by omega) hw
    have hnm := Ref.num_calls (s := 1) (by omega) (by omega)
    have hsw := samew_any (b := false) (xs := []) (by simp)
    simp -implicitDefEqProofs (disch := omega) only [go_sem, ht, hk]
    ((refine pCall_vw (by refine ⟨⟨?_, ?_⟩, ?_, ?_⟩; rotate_left 2; (first | (right; rintro r rfl; rfl) | left); all_goals ((try simp -implicitDefEqProofs (disch := omega) only [hk, go_sem, ht]) <;> rfl)) (hcr) ?_; rintro _ nx_1 - rfl hnx_1; simp -implicitDefEqProofs (disch := omega) only [hk, go_sem, ht]); (refine pCall_vw (by refine ⟨⟨?_, ?_⟩, ?_, ?_⟩; rotate_left 2; (first | (right; rintro r rfl; rfl) | left); all_goals ((try simp -implicitDefEqProofs (disch := omega) only [hk, go_sem, ht]) <;> rfl)) (hme) ?_; rintro _ nx_2 - rfl hnx_2; simp -implicitDefEqProofs (disch := omega) only [hk, go_sem, ht]); (refine pCall_vw (by refine ⟨⟨?_, ?_⟩, ?_, ?_⟩; rotate_left 2; (first | (right; rintro r rfl; rfl) | left); all_goals ((try simp -implicitDefEqProofs (disch := omega) only [hk, go_sem, ht]) <;> rfl)) (hre) ?_; rintro _ nx_3 - rfl hnx_3; simp -implicitDefEqProofs (disch := omega) only [hk, go_sem, ht]); (refine pCall_vw (by refine ⟨⟨?_, ?_⟩, ?_, ?_⟩; rotate_left 2; (first | (right; rintro r rfl; rfl) | left); all_goals ((try simp -implicitDefEqProofs (disch := omega) only [hk, go_sem, ht]) <;> rfl)) (hsw) ?_; rintro _ nx_4 - rfl hnx_4; simp -implicitDefEqProofs (disch := omega) only [hk, go_sem, ht]); (refine pCall_vw (by refine ⟨⟨?_, ?_⟩, ?_, ?_⟩; rotate_left 2; (first | (right; rintro r rfl; rfl) | left); all_goals ((try simp -implicitDefEqProofs (disch := omega) only [hk, go_sem, ht]) <;> rfl)) (hnm) ?_; rintro _ nx_5 - rfl hnx_5; simp -implicitDefEqProofs (disch := omega) only [hk, go_sem, ht]))
    (refine end_treeW 0 ?_; simp -implicitDefEqProofs (disch := omega) only [go_sem, ht])
end
end Go.Proofs.Ytfjdfnlkobeehaa
open Go.ChangeShapes Go.WideShapes Go.ChangeAt Go.RowKit
namespace Go.Proofs.Ytfjdfnlkobeehaa
set_option maxRecDepth 100000 in
theorem matrixDets_liftedF (os : Os) (started : os.Started) (H : Type) (enc : TypeId × Value → H) :
    ReturnsInHanded {} Try.checked os 6 .any (Rows.matrixDetsSpec.pre6 enc Try.prog Try.f6 Rows.matrixDetsRow.domain false) (Rows.matrixDetsSpec.post enc Try.prog Try.f6 false true false false) := by
  refine returnsInHanded_of_change_sized (C := Try.checked) law_own started (by kernel_rfl) Try.func6
    (ChangeSpec.witness6 (enc := enc) (C := Try.checked) false ⟨#[], #[.slice none 0 0, .int .i64 0], []⟩ 8 (by kernel_rfl) (by kernel_rfl) (by kernel_rfl) (by kernel_rfl)) ?_
  intro W base args ds gs before hval0 hW hcnd hsz0 _
  have hsz : (DataW.weightsEach Try.prog (Try.f6.params.toList ++ Rows.matrixDetsSpec.plain.varTypes Try.prog) (ds ++ gs)).all (· ≤ reachBytes) = true := hsz0
  have hval : ∀ (j : Nat) t v, Try.f6.params[j]? = some t → args[j]? = some v → Value.okWide Try.prog W .any base t v := hval0
  have hW' := hW
  obtain ⟨p, q, hA0, hV, rfl, hfz, hnd⟩ := hW
  have hA : DataW.TrodAll enc Try.prog W 0 (fun _ => true) true Try.f6.params.toList args.toList ds p := hA0
  rw [Try.params6] at hA hval hsz
  obtain ⟨v0, vs0, d0, ds0, p0, q0, hargs, rfl, rfl, h0, r0⟩ := trodAll_cons hA
  obtain ⟨v1, vs1, d1, ds1, p1, q1, rfl, rfl, rfl, h1, r1⟩ := trodAll_cons r0
  obtain ⟨rfl, rfl, rfl⟩ := trodAll_nil r1
  obtain rfl : args = #[v0, v1] := by cases args; simp_all
  obtain ⟨rfl, rfl⟩ := trodVars_none hV
  simp only [List.append_nil, List.cons_append, List.nil_append, DataW.weightsEach, List.all_append, Bool.and_eq_true] at hsz
  have lt0 : ∀ x ∈ p0, x.block < W.heap.size := by obtain ⟨m, hm⟩ := h0; exact DataW.trod_lt m _ _ _ hm
  obtain ⟨fu0, g0⟩ := value_cells Try.underlying22 (hval 0 22 v0 rfl rfl) h0
  obtain ⟨l0, fm0, rep0⟩ := cell_rowsF Try.underlying22 (by kernel_rfl) Try.underlying27 Try.underlying30 (by kernel_rfl) rfl rfl (by kernel_rfl) (by kernel_rfl) Try.underlying4 Try.underlying28 Try.underlying93 (by kernel_rfl) (by kernel_rfl) (by kernel_rfl) (by kernel_rfl) g0 hsz.1
  have lt1 : ∀ x ∈ p1, x.block < W.heap.size := by obtain ⟨m, hm⟩ := h1; exact DataW.trod_lt m _ _ _ hm
  obtain ⟨x1, lo1, hi1, rep1⟩ := arg_int Try.underlying3 (hval 1 3 v1 rfl rfl) h1
  refine (law_run (dets_full fm0 lo1 hi1) (vs := [v0, v1]) (by simp only [RepL]; exact ⟨rep0, ⟨rep1, trivial⟩⟩)).mono fun e W' ⟨⟨v, r, he, hr, hx⟩, bel⟩ => ?_
  subst he; rw [hx _ hr]
  exact ⟨_, rfl, _, _, _, [], _, [], hW', trodAll_mk1 (shut_bool Try.underlying4 _), (trodAll_cons_mk (Below.trod law_laidOut (by kernel_rfl) (of_decide_eq_true (by kernel_rfl)) h0 bel lt0) (trodAll_cons_mk (Below.trod law_laidOut (by kernel_rfl) (of_decide_eq_true (by kernel_rfl)) h1 bel lt1) trodAll_mk0)), rfl, bel.frame _, fun h => by cases h⟩
theorem matrixDets_holds : Rows.MatrixDetsSaid :=
  OpenClaim.holds_of_wide 6 Try.f6 rfl rfl rfl rfl rfl rfl rfl ⟨rfl, rfl, rfl, rfl, rfl⟩ rfl rfl rfl rfl rfl (by kernel_rfl) Try.func6 (by kernel_rfl)
    (of_decide_eq_true (by kernel_rfl)) (by unfold Func.isWrapper; first | (rw [if_pos (by decide +kernel)]; kernel_rfl) | (rw [if_neg (by decide +kernel)]; exact ⟨rfl, rfl⟩))
    (fun os started H enc _ => matrixDets_liftedF os started H enc)
end Go.Proofs.Ytfjdfnlkobeehaa
end
