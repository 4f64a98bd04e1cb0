/- The statement MatrixInsides holds of the given program: for all rows, columns and rows of numbers the law answers true. Its conditions are those of the given statement, and no others. -/
import Derived.Test.YtfjdfnlkobeehaaKInF31
import Derived.Test.YtfjdfnlkobeehaaKInF40
import Derived.Test.YtfjdfnlkobeehaaKInF41
section
set_option maxRecDepth 100000
set_option linter.unusedVariables false
set_option linter.unusedSimpArgs false
namespace Go.Proofs.Ytfjdfnlkobeehaa
theorem copy_any {xs : List Nat} (h : xs.length ≤ 35184372087808) : PL 102 [SU xs] xs := by
  refine PCalls.enter (n := 5) (rs := [.tmp 2]) (tb := []) Try.func102 rfl rfl rfl (by kernel_rfl) (by kernel_rfl) (by simp) fun c hc ht => ?_
  simp -implicitDefEqProofs (disch := omega) only [go_sem, ht]
  refine append_nil (e := 93) (b := 4) (m := xs.length) (z := .int .u32 0) (ys := xs.map U) T28_elem rfl T93_size T93_bytes T93_zero (by simp -implicitDefEqProofs (disch := omega) only [go_sem, ht, srcP_sl]) (by simp -implicitDefEqProofs (disch := omega) only [go_sem, ht]) (by omega) (fun h0 => ?_) fun cap' rest' h1 h2 => ?_
  · have : xs = [] := List.eq_nil_of_length_eq_zero h0
    subst this
    simp -implicitDefEqProofs (disch := omega) only [go_sem, ht]
    exact end_own_nil mk_id (by simp -implicitDefEqProofs (disch := omega) only [go_sem, ht])
  · simp -implicitDefEqProofs (disch := omega) only [go_sem, ht]
    exact end_own1 (mk := fun p => p) (by simp -implicitDefEqProofs (disch := omega) only [go_sem, ht] <;> rfl) (by simp -implicitDefEqProofs (disch := omega) only [go_sem, ht] <;> rfl) (by simp <;> omega) (by simp <;> omega)
theorem copyw_any {b : Bool} {xs : List Nat} (h : xs.length ≤ 35184372087808) : PO1 Try.prog 63 [WX b xs] (fun p => .agg [.val (.bool b), p]) (xs.map U) := by
  have hcp := copy_any h
  refine PCalls.enter (n := 9) (rs := [.cell 2 30]) (tb := [(1, [(0, []), (1, []), (2, []), (3, []), (4, [0, 1]), (5, []), (6, [])])]) Try.func63 rfl rfl rfl (by kernel_rfl) (by kernel_rfl) (by simp) fun c hc ht => ?_
  simp -implicitDefEqProofs (disch := omega) only [go_sem, ht]
  (refine pCall_own1 (mk := fun p => p) (mk_id) (by simp -implicitDefEqProofs (disch := omega) only [go_sem, ht] <;> rfl) (by simp -implicitDefEqProofs (disch := omega) only [go_sem, ht]) (closedL_U _) (flatL_U _) (hcp) ?_; intro id1 cap1 rest1 nx1 hid1 hnx1 hcap1; simp only [put_nx, withH_nx, begP_nx, List.length_map] at hid1 hcap1; simp -implicitDefEqProofs (disch := omega) only [go_sem, ht])
  exact end_own1 (mk := fun p => .agg [.val (.bool b), p]) (by simp -implicitDefEqProofs (disch := omega) only [go_sem, ht] <;> rfl) (by simp -implicitDefEqProofs (disch := omega) only [go_sem, ht] <;> rfl) (by simp <;> omega) (by simp <;> omega)
theorem copy_wholes_any {l : List (Bool × List Nat)} (fw : FW l) : PT Try.prog 28 [SW l] (isV (SW l)) := by
  have hl := fw.2
  have hll := fw.1
  refine PCalls.enter (n := 20) (rs := [.tmp 2]) (tb := []) Try.func28 rfl rfl rfl (by kernel_rfl) (by kernel_rfl) (by simp) fun c hc ht => ?_
  simp -implicitDefEqProofs (disch := omega) only [go_sem, ht]
  refine LW.ghost (Gh.nilW 3 2 (by simp -implicitDefEqProofs (disch := omega) only [go_sem, ht])) ?_
  refine LW.loopW hc ht (by kernel_rfl) (fun t => t.sl 0 = .sl l.length (SWc l) ∧ ∃ i : Nat, i ≤ l.length ∧ t.sl 4 = .val (.int .i64 i) ∧ ∃ (id cap : Nat) (rest : List Value), t.sl 3 = .ref id 0 i cap 2 ∧ t.H id = some (SWc (l.take i) ++ rest.map .val) ∧ i * 2 + rest.length = cap * 2 ∧ id < t.nx)
    (fun t => match t.sl 4 with | .val (.int _ k) => l.length - k.toNat | _ => 0) ?_ ?_
  · simp -implicitDefEqProofs (disch := omega) only [go_sem, ht]
    exact ⟨0, Nat.zero_le _, rfl, _, 0, [], rfl, upd_self _ _ _, rfl, by omega⟩
  · rintro t ⟨h0, i, hi, h4, id, cap, rest, h3, hH, hcap, hid⟩
    by_cases hil : i = l.length
    · subst hil
      rw [List.take_length] at hH
      have htk := take_SWc l (rest.map .val) rfl
      simp -implicitDefEqProofs (disch := omega) only [go_sem, ht, h0, h3, h4]
      (refine end_treeW 2 ?_; simp -implicitDefEqProofs (disch := omega) only [go_sem, ht, hH, htk]; omega)
    · have hlt : i < l.length := by omega
      have hat := SWc_at hlt
      have hcw := copyw_any (b := l[i].1) (hl l[i] (List.getElem_mem _)).2
      have hct := PO1.tree (mk_w (.bool l[i].1)) (flatL_U _) hcw
      have htk := SWc_take hlt
      have hln : (SWc (l.take i)).length = 2 * i := by rw [SWc_len, List.length_take]; omega
      simp only [List.length_map] at hct
      simp -implicitDefEqProofs (disch := omega) only [go_sem, ht, h0, h3, h4, hat]
      (refine pCall_vw (by refine ⟨⟨?_, ?_⟩, ?_, ?_⟩; rotate_left 2; (first | (right; rintro r rfl; rfl) | left); all_goals ((try simp -implicitDefEqProofs (disch := omega) only [h0, h3, h4, hat, go_sem, ht]) <;> rfl)) (hct) ?_; rintro _ nx - rfl hnx; simp -implicitDefEqProofs (disch := omega) only [h0, h3, h4, hat, go_sem, ht])
      have hne : id ≠ nx := by omega
      (refine append_ownSX (by refine ⟨?_, ?_, ?_, ?_, ?_, ?_, ?_, ?_⟩ <;> (simp -implicitDefEqProofs (disch := omega) only [srcP_ref, srcP_sl, srcP_nil, Option.isSome_some, hH, go_sem, ht] <;> rfl)) (by rfl) (by first | omega | (simp <;> omega)) (by first | assumption | (simp <;> omega)) (by first | rfl | simp) (by first | omega | (simp <;> omega)) ?_; intro id1 cap1 rest1 H1 nx1 hH1 hcap1 hid1 hnx1 hfr1 hfs1; simp only [put_nx, withH_nx, put_H, withH_H] at hid1 hnx1 hfr1 hfs1)
      rw [htk] at hH1
      simp -implicitDefEqProofs (disch := omega) only [go_sem, ht, h0, h3, h4]
      exact ⟨⟨i + 1, by omega, rfl, id1, cap1, rest1, rfl, hH1, by omega, by omega⟩, by omega⟩
theorem copy_rows_any {m : List (List (Bool × List Nat))} (fm : FM m) : PT Try.prog 21 [SM m] (isV (SM m)) := by
  have hm := fm.2
  have hll := fm.1
  refine PCalls.enter (n := 20) (rs := [.tmp 2]) (tb := []) Try.func21 rfl rfl rfl (by kernel_rfl) (by kernel_rfl) (by simp) fun c hc ht => ?_
  simp -implicitDefEqProofs (disch := omega) only [go_sem, ht]
  refine LW.ghost (Gh.nilW 3 1 (by simp -implicitDefEqProofs (disch := omega) only [go_sem, ht])) ?_
  refine LW.loopW hc ht (by kernel_rfl) (fun t => t.sl 0 = .sl m.length (m.map SW) ∧ ∃ i : Nat, i ≤ m.length ∧ t.sl 4 = .val (.int .i64 i) ∧ ∃ (id cap : Nat) (rest : List Value), t.sl 3 = .ref id 0 i cap 1 ∧ t.H id = some ((m.take i).map SW ++ rest.map .val) ∧ i + rest.length = cap ∧ id < t.nx)
    (fun t => match t.sl 4 with | .val (.int _ k) => m.length - k.toNat | _ => 0) ?_ ?_
  · simp -implicitDefEqProofs (disch := omega) only [go_sem, ht]
    exact ⟨0, Nat.zero_le _, rfl, _, 0, [], rfl, upd_self _ _ _, rfl, by omega⟩
  · rintro t ⟨h0, i, hi, h4, id, cap, rest, h3, hH, hcap, hid⟩
    by_cases hil : i = m.length
    · subst hil
      rw [List.take_length] at hH
      have htk : List.take m.length (m.map SW ++ rest.map .val) = m.map SW := by
        rw [List.take_append_of_le_length (by simp), List.take_of_length_le (by simp)]
      have hle : m.length ≤ (m.map SW).length + rest.length := by simp
      have hfl := frzL_flat (fun _ => true) t.H 1 (SM_flat m)
      have hml : (m.map SW).length = m.length := by simp
      simp -implicitDefEqProofs (disch := omega) only [go_sem, ht, h0, h3, h4]
      (refine end_treeW 2 ?_; simp -implicitDefEqProofs (disch := omega) only [go_sem, ht, hH, htk, hfl])
      omega
    · have hlt : i < m.length := by omega
      have hgi := get_SM' hlt
      have hfw := hm _ (getD_mem (d := []) hlt)
      have hct := copy_wholes_any hfw
      have hlw := hfw.1
      clear hfw
      have hst : (m.take i).map SW ++ [.sl (m.getD i []).length (SWc (m.getD i []))] = (m.take (i + 1)).map SW := by
        rw [getD_take (d := []) hlt, List.map_append]; rfl
      have hln : ((m.take i).map SW).length = i := by simp; omega
      generalize m.getD i [] = l0 at *
      simp -implicitDefEqProofs (disch := omega) only [go_sem, ht, h0, h3, h4, hgi]
      (refine pCall_vw (by refine ⟨⟨?_, ?_⟩, ?_, ?_⟩; rotate_left 2; (first | (right; rintro r rfl; rfl) | left); all_goals ((try simp -implicitDefEqProofs (disch := omega) only [h0, h3, h4, hgi, go_sem, ht]) <;> rfl)) (hct) ?_; rintro _ nx - rfl hnx; simp -implicitDefEqProofs (disch := omega) only [h0, h3, h4, hgi, go_sem, ht])
      have hne : id ≠ nx := by omega
      (refine append_ownX (by refine ⟨?_, ?_, ?_, ?_, ?_, ?_, ?_, ?_⟩ <;> (simp -implicitDefEqProofs (disch := omega) only [srcP_ref, srcP_sl, srcP_nil, Option.isSome_some, hH, go_sem, ht] <;> rfl)) (by simp <;> omega) (by first | assumption | (simp <;> omega)) (by first | rfl | simp) (by first | omega | (simp <;> omega)) ?_; intro id1 cap1 rest1 H1 nx1 hH1 hcap1 hid1 hnx1 hfr1 hfs1; simp only [put_nx, withH_nx, put_H, withH_H] at hid1 hnx1 hfr1 hfs1; (try simp only [app_U, ← List.map_append] at hH1))
      rw [hst] at hH1
      simp -implicitDefEqProofs (disch := omega) only [go_sem, ht, h0, h3, h4]
      exact ⟨⟨i + 1, by omega, rfl, id1, cap1, rest1, rfl, hH1, by omega, by omega⟩, by omega⟩
end Go.Proofs.Ytfjdfnlkobeehaa
end

section
set_option maxRecDepth 100000
set_option linter.unusedVariables false
set_option linter.unusedSimpArgs false
namespace Go.Proofs.Ytfjdfnlkobeehaa
section
variable {m : List (List (Bool × List Nat))} {v : List (Bool × List Nat)} {by' : List Int}
theorem mins_wrong {cn : Int} (h : wrongM m cn = true ∨ ¬ ((v.length : Nat) : Int) = cn) : PT Try.prog 27 [SM m, .val (.int .i64 cn), SW v] (isV (.tup [.val (.bool false), .val (.int .i64 1)])) := by
  have hw := wrong_calls (m := m) (cn := cn)
  by_cases hb : wrongM m cn = true
  · rw [hb] at hw
    refine PCalls.enter (n := 29) (rs := [.tmp 6, .tmp 7]) (tb := []) Try.func27 rfl rfl rfl (by kernel_rfl) (by kernel_rfl) (by simp) fun c hc ht => ?_
    simp -implicitDefEqProofs (disch := omega) only [go_sem, ht]
    (refine pCall_vw (by refine ⟨⟨?_, ?_⟩, ?_, ?_⟩; rotate_left 2; (first | (right; rintro r rfl; rfl) | left); all_goals ((try simp -implicitDefEqProofs (disch := omega) only [go_sem, ht]) <;> rfl)) (hw) ?_; rintro _ nx - rfl hnx; simp -implicitDefEqProofs (disch := omega) only [go_sem, ht])
    (refine end_treeW 0 ?_; simp -implicitDefEqProofs (disch := omega) only [go_sem, ht])
  · have hvc := h.resolve_left hb
    rw [show wrongM m cn = false by simpa using hb] at hw
    refine PCalls.enter (n := 29) (rs := [.tmp 6, .tmp 7]) (tb := []) Try.func27 rfl rfl rfl (by kernel_rfl) (by kernel_rfl) (by simp) fun c hc ht => ?_
    simp -implicitDefEqProofs (disch := omega) only [go_sem, ht]
    (refine pCall_vw (by refine ⟨⟨?_, ?_⟩, ?_, ?_⟩; rotate_left 2; (first | (right; rintro r rfl; rfl) | left); all_goals ((try simp -implicitDefEqProofs (disch := omega) only [hvc, go_sem, ht]) <;> rfl)) (hw) ?_; rintro _ nx - rfl hnx; simp -implicitDefEqProofs (disch := omega) only [hvc, go_sem, ht])
    (refine end_treeW 0 ?_; simp -implicitDefEqProofs (disch := omega) only [go_sem, ht, hvc])
theorem rins_wrong {cn : Int} (hm : m.length ≤ 8796093022208) (h : wrongM m cn = true ∨ ¬ ((v.length : Nat) : Int) = cn) : PT Try.prog 29 [SM m, .val (.int .i64 cn), SW v] (isV (.tup [.val (.bool false), .val (.int .i64 1)])) := by
  have hw := Ref.rwrong_calls (m := m) (cn := cn) hm
  by_cases hb : wrongM m cn = true
  · rw [hb] at hw
    refine PCalls.enter (n := 23) (rs := [.tmp 6, .tmp 7]) (tb := []) Try.func29 rfl rfl rfl (by kernel_rfl) (by kernel_rfl) (by simp) fun c hc ht => ?_
    simp -implicitDefEqProofs (disch := omega) only [go_sem, ht]
    (refine pCall_vw (by refine ⟨⟨?_, ?_⟩, ?_, ?_⟩; rotate_left 2; (first | (right; rintro r rfl; rfl) | left); all_goals ((try simp -implicitDefEqProofs (disch := omega) only [go_sem, ht]) <;> rfl)) (hw) ?_; rintro _ nx - rfl hnx; simp -implicitDefEqProofs (disch := omega) only [go_sem, ht])
    (refine end_treeW 0 ?_; simp -implicitDefEqProofs (disch := omega) only [go_sem, ht])
  · have hvc := h.resolve_left hb
    rw [show wrongM m cn = false by simpa using hb] at hw
    refine PCalls.enter (n := 23) (rs := [.tmp 6, .tmp 7]) (tb := []) Try.func29 rfl rfl rfl (by kernel_rfl) (by kernel_rfl) (by simp) fun c hc ht => ?_
    simp -implicitDefEqProofs (disch := omega) only [go_sem, ht]
    (refine pCall_vw (by refine ⟨⟨?_, ?_⟩, ?_, ?_⟩; rotate_left 2; (first | (right; rintro r rfl; rfl) | left); all_goals ((try simp -implicitDefEqProofs (disch := omega) only [hvc, go_sem, ht]) <;> rfl)) (hw) ?_; rintro _ nx - rfl hnx; simp -implicitDefEqProofs (disch := omega) only [hvc, go_sem, ht])
    (refine end_treeW 0 ?_; simp -implicitDefEqProofs (disch := omega) only [go_sem, ht, hvc])
theorem insides_full {cn : Int} (fm : FM m) (lo : -9223372036854775808 ≤ cn) (hi : cn ≤ 9223372036854775807) (fv : FW v) :
    PT Try.prog 5 [SM m, .val (.int .i64 cn), SW v] (isV (.val (.bool true))) := by
  by_cases hl : lenM m + lenW v ≤ 1500
  · exact insides_law fm.lm (by omega) lo hi fv.lm (by omega)
  have hlr := len_rows_any fm
  have hlw := len_wholes_any fv
  have hml := fm.1
  have hvl := fv.1
  refine PCalls.enter (n := 44) (rs := [.tmp 6]) (tb := []) Try.func5 rfl rfl rfl (by kernel_rfl) (by kernel_rfl) (by simp) fun c hc ht => ?_
  simp -implicitDefEqProofs (disch := omega) only [go_sem, ht]
  (refine pCall_vw (by refine ⟨⟨?_, ?_⟩, ?_, ?_⟩; rotate_left 2; (first | (right; rintro r rfl; rfl) | left); all_goals ((try simp -implicitDefEqProofs (disch := omega) only [go_sem, ht]) <;> rfl)) (awake_matrix) ?_; rintro _ nx - rfl hnx; simp -implicitDefEqProofs (disch := omega) only [go_sem, ht])
  refine pCall_view (by simp -implicitDefEqProofs (disch := omega) only [go_sem, ht] <;> rfl) (by simp -implicitDefEqProofs (disch := omega) only [go_sem, ht]) (by apply Or.inl; simp -implicitDefEqProofs (disch := omega) only [go_sem, ht]; done) hlr ?_
  rintro _ nx2 - ⟨k, rfl, hk1, hk2, hk3⟩ hnx2
  simp -implicitDefEqProofs (disch := omega) only [go_sem, ht]
  refine pCall_view (by simp -implicitDefEqProofs (disch := omega) only [go_sem, ht] <;> rfl) (by simp -implicitDefEqProofs (disch := omega) only [go_sem, ht]) (by apply Or.inl; simp -implicitDefEqProofs (disch := omega) only [go_sem, ht]; done) hlw ?_
  rintro _ nx3 - ⟨k', rfl, hq1, hq2, hq3⟩ hnx3
  have hwe := fun h => wrap_exact (z := k + k') h
  obtain ⟨z, ez⟩ : ∃ z : Int, IntKind.i64.wrap (k + k') = z := ⟨_, rfl⟩
  rw [ez] at hwe
  have ear : arithV .i64 (k + k') = some (.int .i64 z) := by rw [← ez]; rfl
  by_cases hk : 1500 < z
  · simp -implicitDefEqProofs (disch := omega) only [go_sem, ht, hk, ear]
    (refine end_treeW 0 ?_; simp -implicitDefEqProofs (disch := omega) only [go_sem, ht])
  · have hw : wrongM m cn = true ∨ 64 < v.length := Classical.byContradiction fun hn => by
      have hn1 : wrongM m cn = false := by
        cases hc : wrongM m cn with
        | false => rfl
        | true => exact absurd (.inl hc) hn
      have hn2 : v.length ≤ 64 := by
        rcases Nat.lt_or_ge 64 v.length with h | h
        · exact absurd (.inr h) hn
        · exact h
      have hs := fm.small2 (cn := cn) fv hn1 hn2
      have h1 := hk3 (by omega)
      have h2 := hq3 (by omega)
      have h3 := hwe (by omega)
      omega
    have hwv : wrongM m cn = true ∨ ¬ ((v.length : Nat) : Int) = cn := by
      by_cases hw1 : wrongM m cn = true
      · exact .inl hw1
      · have hw2 : wrongM m cn = false := by simpa using hw1
        obtain ⟨n, rfl, hn, _, _⟩ := wrongM_false hw2
        exact .inr (by have := hw.resolve_left hw1; omega)
    have hcr := copy_rows_any fm
    have hcw := copy_wholes_any fv
    have hme := mins_wrong hwv
    have hre := rins_wrong (by omega) hwv
    have hnm := Ref.num_calls (s := 1) (by omega) (by omega)
    simp -implicitDefEqProofs (disch := omega) only [go_sem, ht, hk, ear]
    ((refine pCall_vw (by refine ⟨⟨?_, ?_⟩, ?_, ?_⟩; rotate_left 2; (first | (right; rintro r rfl; rfl) | left); all_goals ((try simp -implicitDefEqProofs (disch := omega) only [hk, go_sem, ht]) <;> rfl)) (hcr) ?_; rintro _ nx_1 - rfl hnx_1; simp -implicitDefEqProofs (disch := omega) only [hk, go_sem, ht]); (refine pCall_vw (by refine ⟨⟨?_, ?_⟩, ?_, ?_⟩; rotate_left 2; (first | (right; rintro r rfl; rfl) | left); all_goals ((try simp -implicitDefEqProofs (disch := omega) only [hk, go_sem, ht]) <;> rfl)) (hcw) ?_; rintro _ nx_2 - rfl hnx_2; simp -implicitDefEqProofs (disch := omega) only [hk, go_sem, ht]); (refine pCall_vw (by refine ⟨⟨?_, ?_⟩, ?_, ?_⟩; rotate_left 2; (first | (right; rintro r rfl; rfl) | left); all_goals ((try simp -implicitDefEqProofs (disch := omega) only [hk, go_sem, ht]) <;> rfl)) (hme) ?_; rintro _ nx_3 - rfl hnx_3; simp -implicitDefEqProofs (disch := omega) only [hk, go_sem, ht]); (refine pCall_vw (by refine ⟨⟨?_, ?_⟩, ?_, ?_⟩; rotate_left 2; (first | (right; rintro r rfl; rfl) | left); all_goals ((try simp -implicitDefEqProofs (disch := omega) only [hk, go_sem, ht]) <;> rfl)) (hre) ?_; rintro _ nx_4 - rfl hnx_4; simp -implicitDefEqProofs (disch := omega) only [hk, go_sem, ht]))
    ((refine pCall_vw (by refine ⟨⟨?_, ?_⟩, ?_, ?_⟩; rotate_left 2; (first | (right; rintro r rfl; rfl) | left); all_goals ((try simp -implicitDefEqProofs (disch := omega) only [go_sem, ht]) <;> rfl)) (hnm) ?_; rintro _ nx_5 - rfl hnx_5; simp -implicitDefEqProofs (disch := omega) only [go_sem, ht]))
    (refine end_treeW 0 ?_; simp -implicitDefEqProofs (disch := omega) only [go_sem, ht])
end
end Go.Proofs.Ytfjdfnlkobeehaa
open Go.ChangeShapes Go.WideShapes Go.ChangeAt Go.RowKit
namespace Go.Proofs.Ytfjdfnlkobeehaa
set_option maxRecDepth 100000 in
theorem matrixInsides_liftedF (os : Os) (started : os.Started) (H : Type) (enc : TypeId × Value → H) :
    ReturnsInHanded {} Try.checked os 5 .any (Rows.matrixInsidesSpec.pre6 enc Try.prog Try.f5 Rows.matrixInsidesRow.domain false) (Rows.matrixInsidesSpec.post enc Try.prog Try.f5 false true false false) := by
  refine returnsInHanded_of_change_sized (C := Try.checked) law_own started (by kernel_rfl) Try.func5
    (ChangeSpec.witness6 (enc := enc) (C := Try.checked) false ⟨#[], #[.slice none 0 0, .int .i64 0, .slice none 0 0], []⟩ 8 (by kernel_rfl) (by kernel_rfl) (by kernel_rfl) (by kernel_rfl)) ?_
  intro W base args ds gs before hval0 hW hcnd hsz0 _
  have hsz : (DataW.weightsEach Try.prog (Try.f5.params.toList ++ Rows.matrixInsidesSpec.plain.varTypes Try.prog) (ds ++ gs)).all (· ≤ reachBytes) = true := hsz0
  have hval : ∀ (j : Nat) t v, Try.f5.params[j]? = some t → args[j]? = some v → Value.okWide Try.prog W .any base t v := hval0
  have hW' := hW
  obtain ⟨p, q, hA0, hV, rfl, hfz, hnd⟩ := hW
  have hA : DataW.TrodAll enc Try.prog W 0 (fun _ => true) true Try.f5.params.toList args.toList ds p := hA0
  rw [Try.params5] at hA hval hsz
  obtain ⟨v0, vs0, d0, ds0, p0, q0, hargs, rfl, rfl, h0, r0⟩ := trodAll_cons hA
  obtain ⟨v1, vs1, d1, ds1, p1, q1, rfl, rfl, rfl, h1, r1⟩ := trodAll_cons r0
  obtain ⟨v2, vs2, d2, ds2, p2, q2, rfl, rfl, rfl, h2, r2⟩ := trodAll_cons r1
  obtain ⟨rfl, rfl, rfl⟩ := trodAll_nil r2
  obtain rfl : args = #[v0, v1, v2] := by cases args; simp_all
  obtain ⟨rfl, rfl⟩ := trodVars_none hV
  simp only [List.append_nil, List.cons_append, List.nil_append, DataW.weightsEach, List.all_append, Bool.and_eq_true] at hsz
  have lt0 : ∀ x ∈ p0, x.block < W.heap.size := by obtain ⟨m, hm⟩ := h0; exact DataW.trod_lt m _ _ _ hm
  obtain ⟨fu0, g0⟩ := value_cells Try.underlying22 (hval 0 22 v0 rfl rfl) h0
  obtain ⟨l0, fm0, rep0⟩ := cell_rowsF Try.underlying22 (by kernel_rfl) Try.underlying27 Try.underlying30 (by kernel_rfl) rfl rfl (by kernel_rfl) (by kernel_rfl) Try.underlying4 Try.underlying28 Try.underlying93 (by kernel_rfl) (by kernel_rfl) (by kernel_rfl) (by kernel_rfl) g0 hsz.1
  have lt1 : ∀ x ∈ p1, x.block < W.heap.size := by obtain ⟨m, hm⟩ := h1; exact DataW.trod_lt m _ _ _ hm
  obtain ⟨x1, lo1, hi1, rep1⟩ := arg_int Try.underlying3 (hval 1 3 v1 rfl rfl) h1
  have lt2 : ∀ x ∈ p2, x.block < W.heap.size := by obtain ⟨m, hm⟩ := h2; exact DataW.trod_lt m _ _ _ hm
  obtain ⟨fu2, g2⟩ := value_cells Try.underlying27 (hval 2 27 v2 rfl rfl) h2
  obtain ⟨l2, fm2, rep2⟩ := cell_wholesF Try.underlying27 Try.underlying30 (by kernel_rfl) rfl rfl (by kernel_rfl) (by kernel_rfl) Try.underlying4 Try.underlying28 Try.underlying93 (by kernel_rfl) (by kernel_rfl) (by kernel_rfl) g2 hsz.2.2.1
  refine (law_run (insides_full fm0 lo1 hi1 fm2) (vs := [v0, v1, v2]) (by simp only [RepL]; exact ⟨rep0, ⟨rep1, ⟨rep2, trivial⟩⟩⟩)).mono fun e W' ⟨⟨v, r, he, hr, hx⟩, bel⟩ => ?_
  subst he; rw [hx _ hr]
  exact ⟨_, rfl, _, _, _, [], _, [], hW', trodAll_mk1 (shut_bool Try.underlying4 _), (trodAll_cons_mk (Below.trod law_laidOut (by kernel_rfl) (of_decide_eq_true (by kernel_rfl)) h0 bel lt0) (trodAll_cons_mk (Below.trod law_laidOut (by kernel_rfl) (of_decide_eq_true (by kernel_rfl)) h1 bel lt1) (trodAll_cons_mk (Below.trod law_laidOut (by kernel_rfl) (of_decide_eq_true (by kernel_rfl)) h2 bel lt2) trodAll_mk0))), rfl, bel.frame _, fun h => by cases h⟩
theorem matrixInsides_holds : Rows.MatrixInsidesSaid :=
  OpenClaim.holds_of_wide 5 Try.f5 rfl rfl rfl rfl rfl rfl rfl ⟨rfl, rfl, rfl, rfl, rfl⟩ rfl rfl rfl rfl rfl (by kernel_rfl) Try.func5 (by kernel_rfl)
    (of_decide_eq_true (by kernel_rfl)) (by unfold Func.isWrapper; first | (rw [if_pos (by decide +kernel)]; kernel_rfl) | (rw [if_neg (by decide +kernel)]; exact ⟨rfl, rfl⟩))
    (fun os started H enc _ => matrixInsides_liftedF os started H enc)
end Go.Proofs.Ytfjdfnlkobeehaa
end
