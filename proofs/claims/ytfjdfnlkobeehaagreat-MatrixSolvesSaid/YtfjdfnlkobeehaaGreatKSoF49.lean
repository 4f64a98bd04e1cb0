/- The statement MatrixSolves holds of the given program: for all rows, columns and right sides the law answers true. Its conditions are those of the given statement, and no others. -/
import Derived.Test.YtfjdfnlkobeehaaGreatKSoF31
import Derived.Test.YtfjdfnlkobeehaaGreatKSoF47
import Derived.Test.YtfjdfnlkobeehaaGreatKSoF48
section
set_option maxRecDepth 100000
set_option linter.unusedVariables false
set_option linter.unusedSimpArgs false
namespace Go.Proofs.YtfjdfnlkobeehaaGreat
theorem copy_any {xs : List Nat} (h : xs.length ≤ 35184372087808) : PL 61 [SU xs] xs := by
  refine PCalls.enter (n := 5) (rs := [.tmp 2]) (tb := []) Tryz.func61 rfl rfl rfl (by kernel_rfl) (by kernel_rfl) (by simp) fun c hc ht => ?_
  simp -implicitDefEqProofs (disch := omega) only [go_sem, ht]
  refine append_nil (e := 67) (b := 4) (m := xs.length) (z := .int .u32 0) (ys := xs.map U) T27_elem rfl T67_size T67_bytes T67_zero (by simp -implicitDefEqProofs (disch := omega) only [go_sem, ht, srcP_sl]) (by simp -implicitDefEqProofs (disch := omega) only [go_sem, ht]) (by omega) (fun h0 => ?_) fun cap' rest' h1 h2 => ?_
  · have : xs = [] := List.eq_nil_of_length_eq_zero h0
    subst this
    simp -implicitDefEqProofs (disch := omega) only [go_sem, ht]
    exact end_own_nil mk_id (by simp -implicitDefEqProofs (disch := omega) only [go_sem, ht])
  · simp -implicitDefEqProofs (disch := omega) only [go_sem, ht]
    exact end_own1 (mk := fun p => p) (by simp -implicitDefEqProofs (disch := omega) only [go_sem, ht] <;> rfl) (by simp -implicitDefEqProofs (disch := omega) only [go_sem, ht] <;> rfl) (by simp <;> omega) (by simp <;> omega)
theorem copyw_any {b : Bool} {xs : List Nat} (h : xs.length ≤ 35184372087808) : PO1 Tryz.prog 33 [WX b xs] (fun p => .agg [.val (.bool b), p]) (xs.map U) := by
  have hcp := copy_any h
  refine PCalls.enter (n := 9) (rs := [.cell 2 50]) (tb := [(1, [(0, []), (1, []), (2, []), (3, []), (4, [0, 1]), (5, []), (6, [])])]) Tryz.func33 rfl rfl rfl (by kernel_rfl) (by kernel_rfl) (by simp) fun c hc ht => ?_
  simp -implicitDefEqProofs (disch := omega) only [go_sem, ht]
  (refine pCall_own1 (mk := fun p => p) (mk_id) (by simp -implicitDefEqProofs (disch := omega) only [go_sem, ht] <;> rfl) (by simp -implicitDefEqProofs (disch := omega) only [go_sem, ht]) (closedL_U _) (flatL_U _) (hcp) ?_; intro id1 cap1 rest1 nx1 hid1 hnx1 hcap1; simp only [put_nx, withH_nx, begP_nx, List.length_map] at hid1 hcap1; simp -implicitDefEqProofs (disch := omega) only [go_sem, ht])
  exact end_own1 (mk := fun p => .agg [.val (.bool b), p]) (by simp -implicitDefEqProofs (disch := omega) only [go_sem, ht] <;> rfl) (by simp -implicitDefEqProofs (disch := omega) only [go_sem, ht] <;> rfl) (by simp <;> omega) (by simp <;> omega)
theorem copy_wholes_any {l : List (Bool × List Nat)} (fw : FW l) : PT Tryz.prog 15 [SW l] (isV (SW l)) := by
  have hl := fw.2
  have hll := fw.1
  refine PCalls.enter (n := 20) (rs := [.tmp 2]) (tb := []) Tryz.func15 rfl rfl rfl (by kernel_rfl) (by kernel_rfl) (by simp) fun c hc ht => ?_
  simp -implicitDefEqProofs (disch := omega) only [go_sem, ht]
  refine LW.ghost (Gh.nilW 3 2 (by simp -implicitDefEqProofs (disch := omega) only [go_sem, ht])) ?_
  refine LW.loopW hc ht (by kernel_rfl) (fun t => t.sl 0 = .sl l.length (SWc l) ∧ ∃ i : Nat, i ≤ l.length ∧ t.sl 4 = .val (.int .i64 i) ∧ ∃ (id cap : Nat) (rest : List Value), t.sl 3 = .ref id 0 i cap 2 ∧ t.H id = some (SWc (l.take i) ++ rest.map .val) ∧ i * 2 + rest.length = cap * 2 ∧ id < t.nx)
    (fun t => match t.sl 4 with | .val (.int _ k) => l.length - k.toNat | _ => 0) ?_ ?_
  · simp -implicitDefEqProofs (disch := omega) only [go_sem, ht]
    exact ⟨0, Nat.zero_le _, rfl, _, 0, [], rfl, upd_self _ _ _, rfl, by omega⟩
  · rintro t ⟨h0, i, hi, h4, id, cap, rest, h3, hH, hcap, hid⟩
    by_cases hil : i = l.length
    · subst hil
      rw [List.take_length] at hH
      have htk := take_SWc l (rest.map .val) rfl
      simp -implicitDefEqProofs (disch := omega) only [go_sem, ht, h0, h3, h4]
      (refine end_treeW 2 ?_; simp -implicitDefEqProofs (disch := omega) only [go_sem, ht, hH, htk]; omega)
    · have hlt : i < l.length := by omega
      have hat := SWc_at hlt
      have hcw := copyw_any (b := l[i].1) (hl l[i] (List.getElem_mem _)).2
      have hct := PO1.tree (mk_w (.bool l[i].1)) (flatL_U _) hcw
      have htk := SWc_take hlt
      have hln : (SWc (l.take i)).length = 2 * i := by rw [SWc_len, List.length_take]; omega
      simp only [List.length_map] at hct
      simp -implicitDefEqProofs (disch := omega) only [go_sem, ht, h0, h3, h4, hat]
      (refine pCall_vw (by refine ⟨⟨?_, ?_⟩, ?_, ?_⟩; rotate_left 2; (first | (right; rintro r rfl; rfl) | left); all_goals ((try simp -implicitDefEqProofs (disch := omega) only [h0, h3, h4, hat, go_sem, ht]) <;> rfl)) (hct) ?_; rintro _ nx - rfl hnx; simp -implicitDefEqProofs (disch := omega) only [h0, h3, h4, hat, go_sem, ht])
      have hne : id ≠ nx := by omega
      (refine append_ownSX (by refine ⟨?_, ?_, ?_, ?_, ?_, ?_, ?_, ?_⟩ <;> (simp -implicitDefEqProofs (disch := omega) only [srcP_ref, srcP_sl, srcP_nil, Option.isSome_some, hH, go_sem, ht] <;> rfl)) (by rfl) (by first | omega | (simp <;> omega)) (by first | assumption | (simp <;> omega)) (by first | rfl | simp) (by first | omega | (simp <;> omega)) ?_; intro id1 cap1 rest1 H1 nx1 hH1 hcap1 hid1 hnx1 hfr1 hfs1; simp only [put_nx, withH_nx, put_H, withH_H] at hid1 hnx1 hfr1 hfs1)
      rw [htk] at hH1
      simp -implicitDefEqProofs (disch := omega) only [go_sem, ht, h0, h3, h4]
      exact ⟨⟨i + 1, by omega, rfl, id1, cap1, rest1, rfl, hH1, by omega, by omega⟩, by omega⟩
theorem copy_rows_any {m : List (List (Bool × List Nat))} (fm : FM m) : PT Tryz.prog 8 [SM m] (isV (SM m)) := by
  have hm := fm.2
  have hll := fm.1
  refine PCalls.enter (n := 20) (rs := [.tmp 2]) (tb := []) Tryz.func8 rfl rfl rfl (by kernel_rfl) (by kernel_rfl) (by simp) fun c hc ht => ?_
  simp -implicitDefEqProofs (disch := omega) only [go_sem, ht]
  refine LW.ghost (Gh.nilW 3 1 (by simp -implicitDefEqProofs (disch := omega) only [go_sem, ht])) ?_
  refine LW.loopW hc ht (by kernel_rfl) (fun t => t.sl 0 = .sl m.length (m.map SW) ∧ ∃ i : Nat, i ≤ m.length ∧ t.sl 4 = .val (.int .i64 i) ∧ ∃ (id cap : Nat) (rest : List Value), t.sl 3 = .ref id 0 i cap 1 ∧ t.H id = some ((m.take i).map SW ++ rest.map .val) ∧ i + rest.length = cap ∧ id < t.nx)
    (fun t => match t.sl 4 with | .val (.int _ k) => m.length - k.toNat | _ => 0) ?_ ?_
  · simp -implicitDefEqProofs (disch := omega) only [go_sem, ht]
    exact ⟨0, Nat.zero_le _, rfl, _, 0, [], rfl, upd_self _ _ _, rfl, by omega⟩
  · rintro t ⟨h0, i, hi, h4, id, cap, rest, h3, hH, hcap, hid⟩
    by_cases hil : i = m.length
    · subst hil
      rw [List.take_length] at hH
      have htk : List.take m.length (m.map SW ++ rest.map .val) = m.map SW := by
        rw [List.take_append_of_le_length (by simp), List.take_of_length_le (by simp)]
      have hle : m.length ≤ (m.map SW).length + rest.length := by simp
      have hfl := frzL_flat (fun _ => true) t.H 1 (SM_flat m)
      have hml : (m.map SW).length = m.length := by simp
      simp -implicitDefEqProofs (disch := omega) only [go_sem, ht, h0, h3, h4]
      (refine end_treeW 2 ?_; simp -implicitDefEqProofs (disch := omega) only [go_sem, ht, hH, htk, hfl])
      omega
    · have hlt : i < m.length := by omega
      have hgi := get_SM' hlt
      have hfw := hm _ (getD_mem (d := []) hlt)
      have hct := copy_wholes_any hfw
      have hlw := hfw.1
      clear hfw
      have hst : (m.take i).map SW ++ [.sl (m.getD i []).length (SWc (m.getD i []))] = (m.take (i + 1)).map SW := by
        rw [getD_take (d := []) hlt, List.map_append]; rfl
      have hln : ((m.take i).map SW).length = i := by simp; omega
      generalize m.getD i [] = l0 at *
      simp -implicitDefEqProofs (disch := omega) only [go_sem, ht, h0, h3, h4, hgi]
      (refine pCall_vw (by refine ⟨⟨?_, ?_⟩, ?_, ?_⟩; rotate_left 2; (first | (right; rintro r rfl; rfl) | left); all_goals ((try simp -implicitDefEqProofs (disch := omega) only [h0, h3, h4, hgi, go_sem, ht]) <;> rfl)) (hct) ?_; rintro _ nx - rfl hnx; simp -implicitDefEqProofs (disch := omega) only [h0, h3, h4, hgi, go_sem, ht])
      have hne : id ≠ nx := by omega
      (refine append_ownX (by refine ⟨?_, ?_, ?_, ?_, ?_, ?_, ?_, ?_⟩ <;> (simp -implicitDefEqProofs (disch := omega) only [srcP_ref, srcP_sl, srcP_nil, Option.isSome_some, hH, go_sem, ht] <;> rfl)) (by simp <;> omega) (by first | assumption | (simp <;> omega)) (by first | rfl | simp) (by first | omega | (simp <;> omega)) ?_; intro id1 cap1 rest1 H1 nx1 hH1 hcap1 hid1 hnx1 hfr1 hfs1; simp only [put_nx, withH_nx, put_H, withH_H] at hid1 hnx1 hfr1 hfs1; (try simp only [app_U, ← List.map_append] at hH1))
      rw [hst] at hH1
      simp -implicitDefEqProofs (disch := omega) only [go_sem, ht, h0, h3, h4]
      exact ⟨⟨i + 1, by omega, rfl, id1, cap1, rest1, rfl, hH1, by omega, by omega⟩, by omega⟩
theorem same_any {xs : List Nat} (h : xs.length ≤ 35184372087808) : PT Tryz.prog 42 [SU xs, SU xs] (isV (.val (.bool true))) := by
  refine PCalls.enter (n := 26) (rs := [.tmp 4]) (tb := [(6, [(0, []), (1, []), (2, []), (3, []), (4, []), (5, []), (6, []), (7, []), (8, [])])]) Tryz.func42 rfl rfl rfl (by kernel_rfl) (by kernel_rfl) (by simp) fun c hc ht => ?_
  simp -implicitDefEqProofs (disch := omega) only [go_sem, ht]
  refine LW.loopW hc ht (by kernel_rfl) (fun s => s.sl 0 = .sl xs.length (xs.map U) ∧ s.sl 1 = .sl xs.length (xs.map U) ∧ ∃ k : Nat, k ≤ xs.length ∧ s.sl 5 = .val (.int .i64 k))
    (fun s => match s.sl 5 with | .val (.int _ k) => xs.length - k.toNat | _ => 0) ?_ ?_
  · simp -implicitDefEqProofs (disch := omega) only [go_sem, ht]
    exact ⟨0, Nat.zero_le _, rfl⟩
  · rintro s ⟨h0, h1, k, hk, h5⟩
    by_cases hkl : k = xs.length
    · simp -implicitDefEqProofs (disch := omega) only [go_sem, ht, h0, h1, h5]
      (refine end_treeW 0 ?_; simp -implicitDefEqProofs (disch := omega) only [go_sem, ht])
    · simp -implicitDefEqProofs (disch := omega) only [go_sem, ht, h0, h1, h5]
      exact ⟨⟨k + 1, by omega, rfl⟩, by omega⟩
theorem samew_any {b : Bool} {xs : List Nat} (h : xs.length ≤ 35184372087808) : PT Tryz.prog 41 [WX b xs, WX b xs] (isV (.val (.bool true))) := by
  have hs := same_any h
  have hbb : (b == b) = true := by simp
  refine PCalls.enter (n := 17) (rs := [.tmp 4]) (tb := []) Tryz.func41 rfl rfl rfl (by kernel_rfl) (by kernel_rfl) (by simp) fun c hc ht => ?_
  simp -implicitDefEqProofs (disch := omega) only [go_sem, ht, hbb]
  (refine pCall_vw (by refine ⟨⟨?_, ?_⟩, ?_, ?_⟩; rotate_left 2; (first | (right; rintro r rfl; rfl) | left); all_goals ((try simp -implicitDefEqProofs (disch := omega) only [hbb, go_sem, ht]) <;> rfl)) (hs) ?_; rintro _ nx - rfl hnx; simp -implicitDefEqProofs (disch := omega) only [hbb, go_sem, ht])
  (refine end_treeW 0 ?_; simp -implicitDefEqProofs (disch := omega) only [go_sem, ht, hbb])
theorem same_wholes_any {l : List (Bool × List Nat)} (fw : FW l) : PT Tryz.prog 20 [SW l, SW l] (isV (.val (.bool true))) := by
  have hl := fw.2
  have hll := fw.1
  refine PCalls.enter (n := 27) (rs := [.tmp 4]) (tb := [(6, [(0, []), (1, []), (2, []), (3, []), (4, []), (5, []), (6, []), (7, []), (8, []), (9, [])])]) Tryz.func20 rfl rfl rfl (by kernel_rfl) (by kernel_rfl) (by simp) fun c hc ht => ?_
  simp -implicitDefEqProofs (disch := omega) only [go_sem, ht]
  refine LW.loopW hc ht (by kernel_rfl) (fun t => t.sl 0 = .sl l.length (SWc l) ∧ t.sl 1 = .sl l.length (SWc l) ∧ ∃ i : Nat, i ≤ l.length ∧ t.sl 5 = .val (.int .i64 i))
    (fun t => match t.sl 5 with | .val (.int _ k) => l.length - k.toNat | _ => 0) ?_ ?_
  · simp -implicitDefEqProofs (disch := omega) only [go_sem, ht]
    exact ⟨0, Nat.zero_le _, rfl⟩
  · rintro t ⟨h0, h1, i, hi, h5⟩
    by_cases hil : i = l.length
    · subst hil
      simp -implicitDefEqProofs (disch := omega) only [go_sem, ht, h0, h1, h5]
      (refine end_treeW 0 ?_; simp -implicitDefEqProofs (disch := omega) only [go_sem, ht])
    · have hlt : i < l.length := by omega
      have hat := SWc_at hlt
      have hsr := samew_any (b := l[i].1) (hl _ (List.getElem_mem hlt)).2
      simp -implicitDefEqProofs (disch := omega) only [go_sem, ht, h0, h1, h5, hat]
      (refine pCall_vw (by refine ⟨⟨?_, ?_⟩, ?_, ?_⟩; rotate_left 2; (first | (right; rintro r rfl; rfl) | left); all_goals ((try simp -implicitDefEqProofs (disch := omega) only [h0, h1, h5, hat, go_sem, ht]) <;> rfl)) (hsr) ?_; rintro _ nx - rfl hnx; simp -implicitDefEqProofs (disch := omega) only [h0, h1, h5, hat, go_sem, ht])
      exact ⟨⟨i + 1, by omega, rfl⟩, by omega⟩
theorem same_rows_any {m : List (List (Bool × List Nat))} (fm : FM m) : PT Tryz.prog 11 [SM m, SM m] (isV (.val (.bool true))) := by
  have hm := fm.2
  have hll := fm.1
  refine PCalls.enter (n := 27) (rs := [.tmp 4]) (tb := [(6, [(0, []), (1, []), (2, []), (3, []), (4, []), (5, []), (6, []), (7, []), (8, []), (9, [])])]) Tryz.func11 rfl rfl rfl (by kernel_rfl) (by kernel_rfl) (by simp) fun c hc ht => ?_
  simp -implicitDefEqProofs (disch := omega) only [go_sem, ht]
  refine LW.loopW hc ht (by kernel_rfl) (fun t => t.sl 0 = .sl m.length (m.map SW) ∧ t.sl 1 = .sl m.length (m.map SW) ∧ ∃ i : Nat, i ≤ m.length ∧ t.sl 5 = .val (.int .i64 i))
    (fun t => match t.sl 5 with | .val (.int _ k) => m.length - k.toNat | _ => 0) ?_ ?_
  · simp -implicitDefEqProofs (disch := omega) only [go_sem, ht]
    exact ⟨0, Nat.zero_le _, rfl⟩
  · rintro t ⟨h0, h1, i, hi, h5⟩
    by_cases hil : i = m.length
    · subst hil
      simp -implicitDefEqProofs (disch := omega) only [go_sem, ht, h0, h1, h5]
      (refine end_treeW 0 ?_; simp -implicitDefEqProofs (disch := omega) only [go_sem, ht])
    · have hlt : i < m.length := by omega
      have hgi := get_SM' hlt
      have hsr := same_wholes_any (hm _ (getD_mem (d := []) hlt))
      generalize m.getD i [] = l0 at *
      simp -implicitDefEqProofs (disch := omega) only [go_sem, ht, h0, h1, h5, hgi]
      (refine pCall_vw (by refine ⟨⟨?_, ?_⟩, ?_, ?_⟩; rotate_left 2; (first | (right; rintro r rfl; rfl) | left); all_goals ((try simp -implicitDefEqProofs (disch := omega) only [h0, h1, h5, hgi, go_sem, ht]) <;> rfl)) (hsr) ?_; rintro _ nx - rfl hnx; simp -implicitDefEqProofs (disch := omega) only [h0, h1, h5, hgi, go_sem, ht])
      exact ⟨⟨i + 1, by omega, rfl⟩, by omega⟩
end Go.Proofs.YtfjdfnlkobeehaaGreat
end

section
set_option maxRecDepth 100000
set_option linter.unusedVariables false
set_option linter.unusedSimpArgs false
namespace Go.Proofs.YtfjdfnlkobeehaaGreat
section
variable {m : List (List (Bool × List Nat))} {v : List (Bool × List Nat)} {by' : List Int}
theorem msol_wrong {cn : Int} (h : wrongM m cn = true ∨ ¬ v.length = m.length) : PT Tryz.prog 16 [SM m, .val (.int .i64 cn), SW v] (isV (.tup [.sl 0 [], .val (.bool false), .val (.int .i64 1)])) := by
  have hw := wrong_calls (m := m) (cn := cn)
  by_cases hb : wrongM m cn = true
  · rw [hb] at hw
    refine PCalls.enter (n := 118) (rs := [.tmp 6, .tmp 7, .tmp 8]) (tb := [(7, [(0, []), (1, []), (2, []), (3, []), (5, []), (7, []), (8, []), (9, []), (10, []), (4, [0, 1, 5, 7, 8, 9, 10]), (6, [0, 1, 7, 8, 9, 10]), (11, [0, 1, 2, 3, 5]), (12, [0, 1]), (13, []), (14, [])]), (1000007, [(0, []), (0, []), (0, []), (4, []), (12, []), (0, []), (60, []), (0, []), (0, []), (384, []), (896, []), (1920, []), (4092, []), (8191, []), (16383, [])]), (21, [(0, []), (1, []), (2, []), (3, []), (4, []), (5, []), (6, []), (7, []), (8, []), (9, []), (10, []), (11, []), (12, []), (13, []), (14, []), (15, []), (16, [0, 1]), (17, []), (18, []), (19, []), (20, []), (21, [19])]), (1000021, [(0, []), (0, []), (0, []), (0, []), (12, []), (28, []), (0, []), (124, []), (252, []), (0, []), (0, []), (1536, []), (3584, []), (0, []), (15872, []), (32256, []), (65532, []), (131068, []), (262140, []), (262140, []), (524287, []), (1572863, [])])]) Tryz.func16 rfl rfl rfl (by kernel_rfl) (by kernel_rfl) (by simp) fun c hc ht => ?_
    simp -implicitDefEqProofs (disch := omega) only [go_sem, ht]
    (refine pCall_vw (by refine ⟨⟨?_, ?_⟩, ?_, ?_⟩; rotate_left 2; (first | (right; rintro r rfl; rfl) | left); all_goals ((try simp -implicitDefEqProofs (disch := omega) only [go_sem, ht]) <;> rfl)) (hw) ?_; rintro _ nx - rfl hnx; simp -implicitDefEqProofs (disch := omega) only [go_sem, ht])
    (refine end_treeM 2 ?_; simp -implicitDefEqProofs (disch := omega) only [go_sem, ht])
  · have hrl := h.resolve_left hb
    have hri : ¬ ((v.length : Nat) : Int) = (m.length : Nat) := by omega
    rw [show wrongM m cn = false by simpa using hb] at hw
    refine PCalls.enter (n := 118) (rs := [.tmp 6, .tmp 7, .tmp 8]) (tb := [(7, [(0, []), (1, []), (2, []), (3, []), (5, []), (7, []), (8, []), (9, []), (10, []), (4, [0, 1, 5, 7, 8, 9, 10]), (6, [0, 1, 7, 8, 9, 10]), (11, [0, 1, 2, 3, 5]), (12, [0, 1]), (13, []), (14, [])]), (1000007, [(0, []), (0, []), (0, []), (4, []), (12, []), (0, []), (60, []), (0, []), (0, []), (384, []), (896, []), (1920, []), (4092, []), (8191, []), (16383, [])]), (21, [(0, []), (1, []), (2, []), (3, []), (4, []), (5, []), (6, []), (7, []), (8, []), (9, []), (10, []), (11, []), (12, []), (13, []), (14, []), (15, []), (16, [0, 1]), (17, []), (18, []), (19, []), (20, []), (21, [19])]), (1000021, [(0, []), (0, []), (0, []), (0, []), (12, []), (28, []), (0, []), (124, []), (252, []), (0, []), (0, []), (1536, []), (3584, []), (0, []), (15872, []), (32256, []), (65532, []), (131068, []), (262140, []), (262140, []), (524287, []), (1572863, [])])]) Tryz.func16 rfl rfl rfl (by kernel_rfl) (by kernel_rfl) (by simp) fun c hc ht => ?_
    simp -implicitDefEqProofs (disch := omega) only [go_sem, ht]
    (refine pCall_vw (by refine ⟨⟨?_, ?_⟩, ?_, ?_⟩; rotate_left 2; (first | (right; rintro r rfl; rfl) | left); all_goals ((try simp -implicitDefEqProofs (disch := omega) only [hrl, hri, go_sem, ht]) <;> rfl)) (hw) ?_; rintro _ nx - rfl hnx; simp -implicitDefEqProofs (disch := omega) only [hrl, hri, go_sem, ht])
    (refine end_treeM 2 ?_; simp -implicitDefEqProofs (disch := omega) only [go_sem, ht])
theorem rsol_wrong {cn : Int} (hm : m.length ≤ 8796093022208) (h : wrongM m cn = true ∨ ¬ v.length = m.length) : PT Tryz.prog 17 [SM m, .val (.int .i64 cn), SW v] (isV (.tup [.sl 0 [], .val (.bool false), .val (.int .i64 1)])) := by
  have hw := Ref.rwrong_calls (m := m) (cn := cn) hm
  by_cases hb : wrongM m cn = true
  · rw [hb] at hw
    refine PCalls.enter (n := 54) (rs := [.tmp 6, .tmp 7, .tmp 8]) (tb := []) Tryz.func17 rfl rfl rfl (by kernel_rfl) (by kernel_rfl) (by simp) fun c hc ht => ?_
    simp -implicitDefEqProofs (disch := omega) only [go_sem, ht]
    (refine pCall_vw (by refine ⟨⟨?_, ?_⟩, ?_, ?_⟩; rotate_left 2; (first | (right; rintro r rfl; rfl) | left); all_goals ((try simp -implicitDefEqProofs (disch := omega) only [go_sem, ht]) <;> rfl)) (hw) ?_; rintro _ nx - rfl hnx; simp -implicitDefEqProofs (disch := omega) only [go_sem, ht])
    (refine end_treeM 2 ?_; simp -implicitDefEqProofs (disch := omega) only [go_sem, ht])
  · have hrl := h.resolve_left hb
    have hri : ¬ ((v.length : Nat) : Int) = (m.length : Nat) := by omega
    rw [show wrongM m cn = false by simpa using hb] at hw
    refine PCalls.enter (n := 54) (rs := [.tmp 6, .tmp 7, .tmp 8]) (tb := []) Tryz.func17 rfl rfl rfl (by kernel_rfl) (by kernel_rfl) (by simp) fun c hc ht => ?_
    simp -implicitDefEqProofs (disch := omega) only [go_sem, ht]
    (refine pCall_vw (by refine ⟨⟨?_, ?_⟩, ?_, ?_⟩; rotate_left 2; (first | (right; rintro r rfl; rfl) | left); all_goals ((try simp -implicitDefEqProofs (disch := omega) only [hrl, hri, go_sem, ht]) <;> rfl)) (hw) ?_; rintro _ nx - rfl hnx; simp -implicitDefEqProofs (disch := omega) only [hrl, hri, go_sem, ht])
    (refine end_treeM 2 ?_; simp -implicitDefEqProofs (disch := omega) only [go_sem, ht])
set_option maxHeartbeats 8000000 in
theorem solves_full {cn : Int} (fm : FM m) (lo : -9223372036854775808 ≤ cn) (hi : cn ≤ 9223372036854775807) (fv : FW v) :
    PT Tryz.prog 4 [SM m, .val (.int .i64 cn), SW v] (isV (.val (.bool true))) := by
  by_cases hl : lenM m + lenW v ≤ 1500
  · exact solves_law fm.lm (by omega) lo hi fv.lm (by omega)
  have hlr := len_rows_any fm
  have hlw := len_wholes_any fv
  have hml := fm.1
  have hvl := fv.1
  refine PCalls.enter (n := 105) (rs := [.tmp 6]) (tb := [(13, [(0, []), (1, []), (2, []), (3, []), (4, []), (5, []), (6, []), (7, []), (8, []), (9, [])])]) Tryz.func4 rfl rfl rfl (by kernel_rfl) (by kernel_rfl) (by simp) fun c hc ht => ?_
  simp -implicitDefEqProofs (disch := omega) only [go_sem, ht]
  (refine pCall_vw (by refine ⟨⟨?_, ?_⟩, ?_, ?_⟩; rotate_left 2; (first | (right; rintro r rfl; rfl) | left); all_goals ((try simp -implicitDefEqProofs (disch := omega) only [go_sem, ht]) <;> rfl)) (awake_matrix) ?_; rintro _ nx - rfl hnx; simp -implicitDefEqProofs (disch := omega) only [go_sem, ht])
  refine pCall_view (by simp -implicitDefEqProofs (disch := omega) only [go_sem, ht] <;> rfl) (by simp -implicitDefEqProofs (disch := omega) only [go_sem, ht]) (by apply Or.inl; simp -implicitDefEqProofs (disch := omega) only [go_sem, ht]; done) hlr ?_
  rintro _ nx2 - ⟨k, rfl, hk1, hk2, hk3⟩ hnx2
  simp -implicitDefEqProofs (disch := omega) only [go_sem, ht]
  refine pCall_view (by simp -implicitDefEqProofs (disch := omega) only [go_sem, ht] <;> rfl) (by simp -implicitDefEqProofs (disch := omega) only [go_sem, ht]) (by apply Or.inl; simp -implicitDefEqProofs (disch := omega) only [go_sem, ht]; done) hlw ?_
  rintro _ nx3 - ⟨k', rfl, hq1, hq2, hq3⟩ hnx3
  have hwe := fun h => wrap_exact (z := k + k') h
  obtain ⟨z, ez⟩ : ∃ z : Int, IntKind.i64.wrap (k + k') = z := ⟨_, rfl⟩
  rw [ez] at hwe
  have ear : arithV .i64 (k + k') = some (.int .i64 z) := by rw [← ez]; rfl
  by_cases hk : 1500 < z
  · simp -implicitDefEqProofs (disch := omega) only [go_sem, ht, hk, ear]
    (refine end_treeW 0 ?_; simp -implicitDefEqProofs (disch := omega) only [go_sem, ht])
  · have hw : wrongM m cn = true ∨ 64 < v.length := Classical.byContradiction fun hn => by
      have hn1 : wrongM m cn = false := by
        cases hc : wrongM m cn with
        | false => rfl
        | true => exact absurd (.inl hc) hn
      have hn2 : v.length ≤ 64 := by
        rcases Nat.lt_or_ge 64 v.length with h | h
        · exact absurd (.inr h) hn
        · exact h
      have hs := fm.small2 (cn := cn) fv hn1 hn2
      have h1 := hk3 (by omega)
      have h2 := hq3 (by omega)
      have h3 := hwe (by omega)
      omega
    have hwv : wrongM m cn = true ∨ ¬ v.length = m.length := by
      by_cases hw1 : wrongM m cn = true
      · exact .inl hw1
      · have hw2 : wrongM m cn = false := by simpa using hw1
        obtain ⟨n, rfl, hn, hmn, _⟩ := wrongM_false hw2
        exact .inr (by have := hw.resolve_left hw1; omega)
    have hcr := copy_rows_any fm
    have hcw := copy_wholes_any fv
    have hsm := same_rows_any fm
    have hsw := same_wholes_any fv
    have hme := msol_wrong hwv
    have hre := rsol_wrong (by omega) hwv
    have hn0 := Ref.num_calls (s := 1) (by omega) (by omega)
    simp -implicitDefEqProofs (disch := omega) only [go_sem, ht, hk, ear]
    ((refine pCall_vw (by refine ⟨⟨?_, ?_⟩, ?_, ?_⟩; rotate_left 2; (first | (right; rintro r rfl; rfl) | left); all_goals ((try simp -implicitDefEqProofs (disch := omega) only [hk, go_sem, ht]) <;> rfl)) (hcr) ?_; rintro _ nx_1 - rfl hnx_1; simp -implicitDefEqProofs (disch := omega) only [hk, go_sem, ht]); (refine pCall_vw (by refine ⟨⟨?_, ?_⟩, ?_, ?_⟩; rotate_left 2; (first | (right; rintro r rfl; rfl) | left); all_goals ((try simp -implicitDefEqProofs (disch := omega) only [hk, go_sem, ht]) <;> rfl)) (hcw) ?_; rintro _ nx_2 - rfl hnx_2; simp -implicitDefEqProofs (disch := omega) only [hk, go_sem, ht]); (refine pCall_vw (by refine ⟨⟨?_, ?_⟩, ?_, ?_⟩; rotate_left 2; (first | (right; rintro r rfl; rfl) | left); all_goals ((try simp -implicitDefEqProofs (disch := omega) only [hk, go_sem, ht]) <;> rfl)) (hme) ?_; rintro _ nx_3 - rfl hnx_3; simp -implicitDefEqProofs (disch := omega) only [hk, go_sem, ht]); (refine pCall_vw (by refine ⟨⟨?_, ?_⟩, ?_, ?_⟩; rotate_left 2; (first | (right; rintro r rfl; rfl) | left); all_goals ((try simp -implicitDefEqProofs (disch := omega) only [hk, go_sem, ht]) <;> rfl)) (hre) ?_; rintro _ nx_4 - rfl hnx_4; simp -implicitDefEqProofs (disch := omega) only [hk, go_sem, ht]))
    generalize nx_4 = idb at *
    refine LW.loopW hc ht (by kernel_rfl) (fun t => t.sl 0 = .sl m.length (m.map SW) ∧ t.sl 2 = .sl v.length (SWc v) ∧ t.sl 7 = .sl m.length (m.map SW) ∧ t.sl 8 = .sl v.length (SWc v) ∧ t.sl 9 = .sl 0 [] ∧ t.sl 10 = .val (.bool false) ∧ t.sl 11 = .val (.int .i64 1) ∧ t.sl 12 = .sl 0 [] ∧ t.sl 13 = .val (.bool false) ∧ t.sl 14 = .val (.int .i64 1) ∧ t.sl 15 = .ptr idb 0 ∧ t.sl 16 = .val (.int .i64 0) ∧ ∃ B, BK t.H t.nx idb [] B)
      (fun _ => 0) ?_ ?_
    · simp -implicitDefEqProofs (disch := omega) only [go_sem, ht]
      exact ⟨(fun j => j = idb), BK.start (by simp -implicitDefEqProofs (disch := omega) only [go_sem, ht]) (by omega)⟩
    · rintro t ⟨h0, h2, h7, h8, h9, h10, h11, h12, h13, h14, h15, h16, B, hB⟩
      simp -implicitDefEqProofs (disch := omega) only [go_sem, ht, h0, h2, h7, h8, h9, h10, h11, h12, h13, h14, h15, h16]
      ((refine pCall_vw (by refine ⟨⟨?_, ?_⟩, ?_, ?_⟩; rotate_left 2; (first | (right; rintro r rfl; rfl) | left); all_goals ((try simp -implicitDefEqProofs (disch := omega) only [h0, h2, h7, h8, h9, h10, h11, h12, h13, h14, h15, h16, go_sem, ht]) <;> rfl)) (hn0) ?_; rintro _ nx_5 - rfl hnx_5; simp -implicitDefEqProofs (disch := omega) only [h0, h2, h7, h8, h9, h10, h11, h12, h13, h14, h15, h16, go_sem, ht]); (refine pCall_vw (by refine ⟨⟨?_, ?_⟩, ?_, ?_⟩; rotate_left 2; (first | (right; rintro r rfl; rfl) | left); all_goals ((try simp -implicitDefEqProofs (disch := omega) only [h0, h2, h7, h8, h9, h10, h11, h12, h13, h14, h15, h16, go_sem, ht]) <;> rfl)) (hsm) ?_; rintro _ nx_6 - rfl hnx_6; simp -implicitDefEqProofs (disch := omega) only [h0, h2, h7, h8, h9, h10, h11, h12, h13, h14, h15, h16, go_sem, ht]); (refine pCall_vw (by refine ⟨⟨?_, ?_⟩, ?_, ?_⟩; rotate_left 2; (first | (right; rintro r rfl; rfl) | left); all_goals ((try simp -implicitDefEqProofs (disch := omega) only [h0, h2, h7, h8, h9, h10, h11, h12, h13, h14, h15, h16, go_sem, ht]) <;> rfl)) (hsw) ?_; rintro _ nx_7 - rfl hnx_7; simp -implicitDefEqProofs (disch := omega) only [h0, h2, h7, h8, h9, h10, h11, h12, h13, h14, h15, h16, go_sem, ht]))
      apply pCall_mem
      exact done_calls (es := []) (B := B) (hB.mono (by simp -implicitDefEqProofs (disch := omega) only [go_sem, ht]; omega) (fun j hj => rfl)) (by simp)
      rintro _ _ _ ⟨rfl, rfl, rfl⟩ -
      simp -implicitDefEqProofs (disch := omega) only [go_sem, ht, h0, h2, h7, h8, h9, h10, h11, h12, h13, h14, h15, h16]
      (refine end_treeW 0 ?_; simp -implicitDefEqProofs (disch := omega) only [go_sem, ht])
end
end Go.Proofs.YtfjdfnlkobeehaaGreat
open Go.ChangeShapes Go.WideShapes Go.ChangeAt Go.RowKit
namespace Go.Proofs.YtfjdfnlkobeehaaGreat
set_option maxRecDepth 100000 in
theorem matrixSolves_liftedF (os : Os) (started : os.Started) (H : Type) (enc : TypeId × Value → H) :
    ReturnsInHanded {} Tryz.checked os 4 .any (Rows.matrixSolvesSpec.pre6 enc Tryz.prog Tryz.f4 Rows.matrixSolvesRow.domain false) (Rows.matrixSolvesSpec.post enc Tryz.prog Tryz.f4 false true false false) := by
  refine returnsInHanded_of_change_sized (C := Tryz.checked) law_own started (by kernel_rfl) Tryz.func4
    (ChangeSpec.witness6 (enc := enc) (C := Tryz.checked) false ⟨#[], #[.slice none 0 0, .int .i64 0, .slice none 0 0], []⟩ 8 (by kernel_rfl) (by kernel_rfl) (by kernel_rfl) (by kernel_rfl)) ?_
  intro W base args ds gs before hval0 hW hcnd hsz0 _
  have hsz : (DataW.weightsEach Tryz.prog (Tryz.f4.params.toList ++ Rows.matrixSolvesSpec.plain.varTypes Tryz.prog) (ds ++ gs)).all (· ≤ reachBytes) = true := hsz0
  have hval : ∀ (j : Nat) t v, Tryz.f4.params[j]? = some t → args[j]? = some v → Value.okWide Tryz.prog W .any base t v := hval0
  have hW' := hW
  obtain ⟨p, q, hA0, hV, rfl, hfz, hnd⟩ := hW
  have hA : DataW.TrodAll enc Tryz.prog W 0 (fun _ => true) true Tryz.f4.params.toList args.toList ds p := hA0
  rw [Tryz.params4] at hA hval hsz
  obtain ⟨v0, vs0, d0, ds0, p0, q0, hargs, rfl, rfl, h0, r0⟩ := trodAll_cons hA
  obtain ⟨v1, vs1, d1, ds1, p1, q1, rfl, rfl, rfl, h1, r1⟩ := trodAll_cons r0
  obtain ⟨v2, vs2, d2, ds2, p2, q2, rfl, rfl, rfl, h2, r2⟩ := trodAll_cons r1
  obtain ⟨rfl, rfl, rfl⟩ := trodAll_nil r2
  obtain rfl : args = #[v0, v1, v2] := by cases args; simp_all
  obtain ⟨rfl, rfl⟩ := trodVars_none hV
  simp only [List.append_nil, List.cons_append, List.nil_append, DataW.weightsEach, List.all_append, Bool.and_eq_true] at hsz
  have lt0 : ∀ x ∈ p0, x.block < W.heap.size := by obtain ⟨m, hm⟩ := h0; exact DataW.trod_lt m _ _ _ hm
  obtain ⟨fu0, g0⟩ := value_cells Tryz.underlying22 (hval 0 22 v0 rfl rfl) h0
  obtain ⟨l0, fm0, rep0⟩ := cell_rowsF Tryz.underlying22 (by kernel_rfl) Tryz.underlying40 Tryz.underlying50 (by kernel_rfl) rfl rfl (by kernel_rfl) (by kernel_rfl) Tryz.underlying4 Tryz.underlying27 Tryz.underlying67 (by kernel_rfl) (by kernel_rfl) (by kernel_rfl) (by kernel_rfl) g0 hsz.1
  have lt1 : ∀ x ∈ p1, x.block < W.heap.size := by obtain ⟨m, hm⟩ := h1; exact DataW.trod_lt m _ _ _ hm
  obtain ⟨x1, lo1, hi1, rep1⟩ := arg_int Tryz.underlying3 (hval 1 3 v1 rfl rfl) h1
  have lt2 : ∀ x ∈ p2, x.block < W.heap.size := by obtain ⟨m, hm⟩ := h2; exact DataW.trod_lt m _ _ _ hm
  obtain ⟨fu2, g2⟩ := value_cells Tryz.underlying40 (hval 2 40 v2 rfl rfl) h2
  obtain ⟨l2, fm2, rep2⟩ := cell_wholesF Tryz.underlying40 Tryz.underlying50 (by kernel_rfl) rfl rfl (by kernel_rfl) (by kernel_rfl) Tryz.underlying4 Tryz.underlying27 Tryz.underlying67 (by kernel_rfl) (by kernel_rfl) (by kernel_rfl) g2 hsz.2.2.1
  refine (law_run (solves_full fm0 lo1 hi1 fm2) (vs := [v0, v1, v2]) (by simp only [RepL]; exact ⟨rep0, ⟨rep1, ⟨rep2, trivial⟩⟩⟩)).mono fun e W' ⟨⟨v, r, he, hr, hx⟩, bel⟩ => ?_
  subst he; rw [hx _ hr]
  exact ⟨_, rfl, _, _, _, [], _, [], hW', trodAll_mk1 (shut_bool Tryz.underlying4 _), (trodAll_cons_mk (Below.trod law_laidOut (by kernel_rfl) (of_decide_eq_true (by kernel_rfl)) h0 bel lt0) (trodAll_cons_mk (Below.trod law_laidOut (by kernel_rfl) (of_decide_eq_true (by kernel_rfl)) h1 bel lt1) (trodAll_cons_mk (Below.trod law_laidOut (by kernel_rfl) (of_decide_eq_true (by kernel_rfl)) h2 bel lt2) trodAll_mk0))), rfl, bel.frame _, fun h => by cases h⟩
theorem matrixSolves_holds : Rows.MatrixSolvesSaid :=
  OpenClaim.holds_of_wide 4 Tryz.f4 rfl rfl rfl rfl rfl rfl rfl ⟨rfl, rfl, rfl, rfl, rfl⟩ rfl rfl rfl rfl rfl (by kernel_rfl) Tryz.func4 (by kernel_rfl)
    (of_decide_eq_true (by kernel_rfl)) (by unfold Func.isWrapper; first | (rw [if_pos (by decide +kernel)]; kernel_rfl) | (rw [if_neg (by decide +kernel)]; exact ⟨rfl, rfl⟩))
    (fun os started H enc _ => matrixSolves_liftedF os started H enc)
end Go.Proofs.YtfjdfnlkobeehaaGreat
end
