/- The laws' helpers on rows of whole numbers. -/
import Derived.Test.YtfjdfnlkobeehaaExactB
set_option maxRecDepth 100000
set_option linter.unusedVariables false
set_option linter.unusedSimpArgs false
namespace Go.Proofs.Ytfjdfnlkobeehaa

theorem lenM_take {m : List (List (Bool × List Nat))} {i : Nat} (h : i < m.length) : lenM (m.take (i + 1)) = lenM (m.take i) + (1 + lenW (m.getD i [])) := by
  unfold lenM
  rw [getD_take (d := []) h, List.map_append, List.sum_append]
  simp
theorem lenM_le {m : List (List (Bool × List Nat))} (i : Nat) : lenM (m.take i) ≤ lenM m := by
  unfold lenM
  conv => rhs; rw [← List.take_append_drop i m, List.map_append, List.sum_append]
  omega
theorem lenM_len (m : List (List (Bool × List Nat))) : m.length ≤ lenM m := by
  unfold lenM
  induction m with
  | nil => simp
  | cons l m ih => simp only [List.length_cons, List.map_cons, List.sum_cons]; omega
theorem lenM_mem {m : List (List (Bool × List Nat))} {l : List (Bool × List Nat)} (h : l ∈ m) : lenW l < lenM m := by
  unfold lenM
  induction m with
  | nil => simp at h
  | cons k m ih =>
    rcases List.mem_cons.1 h with rfl | h
    · simp only [List.map_cons, List.sum_cons]; omega
    · have := ih h; simp only [List.map_cons, List.sum_cons]; omega
theorem getD_mem {α : Type} {m : List α} {i : Nat} {d : α} (h : i < m.length) : m.getD i d ∈ m := by
  rw [List.getD_eq_getElem?_getD, List.getElem?_eq_getElem h]; exact List.getElem_mem h
theorem len_rows {m : List (List (Bool × List Nat))} (hl : lenM m ≤ 1099511627776) : PT Try.prog 12 [SM m] (isV (.val (.int .i64 (lenM m : Nat)))) := by
  have hll := lenM_len m
  refine PCalls.enter (n := 20) (rs := [.tmp 2]) (tb := []) Try.func12 rfl rfl rfl (by kernel_rfl) (by kernel_rfl) (by simp) fun c hc ht => ?_
  simp -implicitDefEqProofs (disch := omega) only [go_sem, ht, eq_self]
  refine LW.loopW hc ht (by kernel_rfl) (fun t => t.sl 0 = .sl m.length (m.map SW) ∧ ∃ i : Nat, i ≤ m.length ∧ t.sl 4 = .val (.int .i64 i) ∧ t.sl 3 = .val (.int .i64 (lenM (m.take i) : Nat)))
    (fun t => match t.sl 4 with | .val (.int _ k) => m.length - k.toNat | _ => 0) ?_ ?_
  · simp -implicitDefEqProofs (disch := omega) only [go_sem, ht, eq_self]
    exact ⟨0, Nat.zero_le _, rfl, rfl⟩
  · rintro t ⟨h0, i, hi, h4, h3⟩
    by_cases hil : i = m.length
    · subst hil
      rw [List.take_length] at h3
      simp -implicitDefEqProofs (disch := omega) only [go_sem, ht, h0, h3, h4, eq_self]
      (refine end_treeW 0 ?_; simp -implicitDefEqProofs (disch := omega) only [go_sem, ht, eq_self])
    · have hlt : i < m.length := by omega
      have hgi := get_SM' hlt
      have htk := lenM_take hlt
      have hle := lenM_le (m := m) (i + 1)
      have hlw := len_wholes (l := m.getD i []) (by omega)
      generalize m.getD i [] = l0 at *
      simp -implicitDefEqProofs (disch := omega) only [go_sem, ht, h0, h3, h4, hgi, eq_self]
      (refine pCall_view (by simp -implicitDefEqProofs (disch := omega) only [h0, h3, h4, hgi, go_sem, ht, eq_self] <;> rfl) (by simp -implicitDefEqProofs (disch := omega) only [h0, h3, h4, hgi, go_sem, ht, eq_self]) (by first | (apply Or.inl; simp -implicitDefEqProofs (disch := omega) only [h0, h3, h4, hgi, go_sem, ht, eq_self]; done) | (apply Or.inr; rintro r rfl; rfl)) (hlw) ?_; rintro _ nx - rfl hnx; (try simp only [put_nx, withH_nx, begP_nx] at hnx); simp -implicitDefEqProofs (disch := omega) only [h0, h3, h4, hgi, go_sem, ht, eq_self])
      exact ⟨⟨i + 1, by omega, rfl, by rw [htk, Nat.add_assoc]⟩, by omega⟩
theorem copy_rows {m : List (List (Bool × List Nat))} (hm : ∀ l ∈ m, (∀ p ∈ l, Ok p.2) ∧ l.length ≤ 1000000) (hll : m.length ≤ 1000000) : PT Try.prog 21 [SM m] (isV (SM m)) := by
  refine PCalls.enter (n := 20) (rs := [.tmp 2]) (tb := []) Try.func21 rfl rfl rfl (by kernel_rfl) (by kernel_rfl) (by simp) fun c hc ht => ?_
  simp -implicitDefEqProofs (disch := omega) only [go_sem, ht, eq_self]
  refine LW.ghost (Gh.nilW 3 1 (by simp -implicitDefEqProofs (disch := omega) only [go_sem, ht, eq_self])) ?_
  refine LW.loopW hc ht (by kernel_rfl) (fun t => t.sl 0 = .sl m.length (m.map SW) ∧ ∃ i : Nat, i ≤ m.length ∧ t.sl 4 = .val (.int .i64 i) ∧ ∃ (id cap : Nat) (rest : List Value), t.sl 3 = .ref id 0 i cap 1 ∧ t.H id = some ((m.take i).map SW ++ rest.map .val) ∧ i + rest.length = cap ∧ id < t.nx)
    (fun t => match t.sl 4 with | .val (.int _ k) => m.length - k.toNat | _ => 0) ?_ ?_
  · simp -implicitDefEqProofs (disch := omega) only [go_sem, ht, eq_self]
    exact ⟨0, Nat.zero_le _, rfl, _, 0, [], rfl, upd_self _ _ _, rfl, by omega⟩
  · rintro t ⟨h0, i, hi, h4, id, cap, rest, h3, hH, hcap, hid⟩
    by_cases hil : i = m.length
    · subst hil
      rw [List.take_length] at hH
      have htk : List.take m.length (m.map SW ++ rest.map .val) = m.map SW := by
        rw [List.take_append_of_le_length (by simp), List.take_of_length_le (by simp)]
      have hle : m.length ≤ (m.map SW).length + rest.length := by simp
      have hfl := frzL_flat (fun _ => true) t.H 1 (SM_flat m)
      have hml : (m.map SW).length = m.length := by simp
      simp -implicitDefEqProofs (disch := omega) only [go_sem, ht, h0, h3, h4, eq_self]
      (refine end_treeW 2 ?_; simp -implicitDefEqProofs (disch := omega) only [go_sem, ht, hH, htk, hfl, eq_self])
      omega
    · have hlt : i < m.length := by omega
      have hgi := get_SM' hlt
      obtain ⟨hok, hlw⟩ := hm _ (getD_mem (d := []) hlt)
      have hct := copy_wholes hok hlw
      have hst : (m.take i).map SW ++ [.sl (m.getD i []).length (SWc (m.getD i []))] = (m.take (i + 1)).map SW := by
        rw [getD_take (d := []) hlt, List.map_append]; rfl
      have hln : ((m.take i).map SW).length = i := by simp; omega
      generalize m.getD i [] = l0 at *
      simp -implicitDefEqProofs (disch := omega) only [go_sem, ht, h0, h3, h4, hgi, eq_self]
      (refine pCall_view (by simp -implicitDefEqProofs (disch := omega) only [h0, h3, h4, hgi, go_sem, ht, eq_self] <;> rfl) (by simp -implicitDefEqProofs (disch := omega) only [h0, h3, h4, hgi, go_sem, ht, eq_self]) (by first | (apply Or.inl; simp -implicitDefEqProofs (disch := omega) only [h0, h3, h4, hgi, go_sem, ht, eq_self]; done) | (apply Or.inr; rintro r rfl; rfl)) (hct) ?_; rintro _ nx - rfl hnx; (try simp only [put_nx, withH_nx, begP_nx] at hnx); simp -implicitDefEqProofs (disch := omega) only [h0, h3, h4, hgi, go_sem, ht, eq_self])
      have hne : id ≠ nx := by omega
      (refine append_own (by simp -implicitDefEqProofs (disch := omega) only [srcP_ref, srcP_sl, srcP_nil, Option.isSome_some, hH, go_sem, ht, eq_self] <;> rfl) (by simp -implicitDefEqProofs (disch := omega) only [srcP_ref, srcP_sl, srcP_nil, Option.isSome_some, hH, go_sem, ht, eq_self] <;> rfl) (by simp -implicitDefEqProofs (disch := omega) only [srcP_ref, srcP_sl, srcP_nil, Option.isSome_some, hH, go_sem, ht, eq_self] <;> rfl) (by simp -implicitDefEqProofs (disch := omega) only [srcP_ref, srcP_sl, srcP_nil, Option.isSome_some, hH, go_sem, ht, eq_self] <;> rfl) (by simp -implicitDefEqProofs (disch := omega) only [srcP_ref, srcP_sl, srcP_nil, Option.isSome_some, hH, go_sem, ht, eq_self] <;> rfl) (by simp -implicitDefEqProofs (disch := omega) only [srcP_ref, srcP_sl, srcP_nil, Option.isSome_some, hH, go_sem, ht, eq_self] <;> rfl) (by simp -implicitDefEqProofs (disch := omega) only [srcP_ref, srcP_sl, srcP_nil, Option.isSome_some, hH, go_sem, ht, eq_self] <;> rfl) (by simp -implicitDefEqProofs (disch := omega) only [srcP_ref, srcP_sl, srcP_nil, Option.isSome_some, hH, go_sem, ht, eq_self] <;> rfl) (by simp <;> omega) (by first | assumption | (simp <;> omega)) (by first | rfl | simp) (by first | omega | (simp <;> omega)) ?_; intro id1 cap1 rest1 H1 nx1 hH1 hcap1 hid1 hnx1 hfr1 hfs1; simp only [put_nx, withH_nx, put_H, withH_H] at hid1 hnx1 hfr1 hfs1; (try simp only [app_U, ← List.map_append] at hH1))
      rw [hst] at hH1
      simp -implicitDefEqProofs (disch := omega) only [go_sem, ht, h0, h3, h4, eq_self]
      exact ⟨⟨i + 1, by omega, rfl, id1, cap1, rest1, rfl, hH1, by omega, by omega⟩, by omega⟩
theorem same_rows {m m' : List (List (Bool × List Nat))} (hm : ∀ l ∈ m, (∀ p ∈ l, Ok p.2) ∧ l.length ≤ 1000000) (hm' : ∀ l ∈ m', (∀ p ∈ l, Ok p.2)) (hll : m.length ≤ 1000000) : PT Try.prog 18 [SM m, SM m'] (isV (.val (.bool (decide (m = m'))))) := by
  by_cases hlm : m.length = m'.length
  · refine PCalls.enter (n := 27) (rs := [.tmp 4]) (tb := [(6, [(0, []), (1, []), (2, []), (3, []), (4, []), (5, []), (6, []), (7, []), (8, []), (9, [])])]) Try.func18 rfl rfl rfl (by kernel_rfl) (by kernel_rfl) (by simp) fun c hc ht => ?_
    simp -implicitDefEqProofs (disch := omega) only [go_sem, ht, hlm, eq_self]
    refine LW.loopW hc ht (by kernel_rfl) (fun t => t.sl 0 = .sl m.length (m.map SW) ∧ t.sl 1 = .sl m'.length (m'.map SW) ∧ ∃ i : Nat, i ≤ m.length ∧ t.sl 5 = .val (.int .i64 i) ∧ m.take i = m'.take i)
      (fun t => match t.sl 5 with | .val (.int _ k) => m.length - k.toNat | _ => 0) ?_ ?_
    · simp -implicitDefEqProofs (disch := omega) only [go_sem, ht, hlm, eq_self]
      exact ⟨0, Nat.zero_le _, rfl, by simp⟩
    · rintro t ⟨h0, h1, i, hi, h5, htk⟩
      by_cases hil : i = m.length
      · subst hil
        have e : m = m' := by rwa [List.take_length, hlm, List.take_length] at htk
        rw [decide_eq_true e]
        simp -implicitDefEqProofs (disch := omega) only [go_sem, ht, h0, h1, h5, eq_self]
        (refine end_treeW 0 ?_; simp -implicitDefEqProofs (disch := omega) only [go_sem, ht, eq_self])
      · have hlt : i < m.length := by omega
        have hlt' : i < m'.length := by omega
        have hgi := get_SM' hlt
        have hgi' := get_SM' hlt'
        obtain ⟨hok, hlw⟩ := hm _ (getD_mem (d := []) hlt)
        have hsr := same_wholes hok (hm' _ (getD_mem (d := []) hlt')) hlw
        have hs1 := getD_take (d := []) hlt
        have hs2 := getD_take (d := []) hlt'
        by_cases he : m.getD i [] = m'.getD i []
        · rw [decide_eq_true he] at hsr
          generalize m.getD i [] = l0 at *
          generalize m'.getD i [] = l1 at *
          simp -implicitDefEqProofs (disch := omega) only [go_sem, ht, h0, h1, h5, hgi, hgi', eq_self]
          (refine pCall_view (by simp -implicitDefEqProofs (disch := omega) only [h0, h1, h5, hgi, hgi', go_sem, ht, eq_self] <;> rfl) (by simp -implicitDefEqProofs (disch := omega) only [h0, h1, h5, hgi, hgi', go_sem, ht, eq_self]) (by first | (apply Or.inl; simp -implicitDefEqProofs (disch := omega) only [h0, h1, h5, hgi, hgi', go_sem, ht, eq_self]; done) | (apply Or.inr; rintro r rfl; rfl)) (hsr) ?_; rintro _ nx - rfl hnx; (try simp only [put_nx, withH_nx, begP_nx] at hnx); simp -implicitDefEqProofs (disch := omega) only [h0, h1, h5, hgi, hgi', go_sem, ht, eq_self])
          exact ⟨⟨i + 1, by omega, rfl, by rw [hs1, hs2, htk, he]⟩, by omega⟩
        · rw [decide_eq_false he] at hsr
          have hne : m ≠ m' := fun e => he (by subst e; rfl)
          rw [decide_eq_false hne]
          generalize m.getD i [] = l0 at *
          generalize m'.getD i [] = l1 at *
          simp -implicitDefEqProofs (disch := omega) only [go_sem, ht, h0, h1, h5, hgi, hgi', eq_self]
          (refine pCall_view (by simp -implicitDefEqProofs (disch := omega) only [h0, h1, h5, hgi, hgi', go_sem, ht, eq_self] <;> rfl) (by simp -implicitDefEqProofs (disch := omega) only [h0, h1, h5, hgi, hgi', go_sem, ht, eq_self]) (by first | (apply Or.inl; simp -implicitDefEqProofs (disch := omega) only [h0, h1, h5, hgi, hgi', go_sem, ht, eq_self]; done) | (apply Or.inr; rintro r rfl; rfl)) (hsr) ?_; rintro _ nx - rfl hnx; (try simp only [put_nx, withH_nx, begP_nx] at hnx); simp -implicitDefEqProofs (disch := omega) only [h0, h1, h5, hgi, hgi', go_sem, ht, eq_self])
          (refine end_treeW 0 ?_; simp -implicitDefEqProofs (disch := omega) only [go_sem, ht, eq_self])
  · have hne : m ≠ m' := fun e => hlm (by rw [e])
    rw [decide_eq_false hne]
    refine PCalls.enter (n := 27) (rs := [.tmp 4]) (tb := [(6, [(0, []), (1, []), (2, []), (3, []), (4, []), (5, []), (6, []), (7, []), (8, []), (9, [])])]) Try.func18 rfl rfl rfl (by kernel_rfl) (by kernel_rfl) (by simp) fun c hc ht => ?_
    simp -implicitDefEqProofs (disch := omega) only [go_sem, ht, hlm, eq_self]
    (refine end_treeW 0 ?_; simp -implicitDefEqProofs (disch := omega) only [go_sem, ht, eq_self])
/-- Ints. -/
def vi (z : Int) : PV := .val (.int .i64 z)
theorem vi_def (z : Int) : vi z = .val (.int .i64 z) := rfl
theorem get_vi {zs : List Int} {i : Nat} (h : i < zs.length) : (zs.map vi)[i]? = some (.val (.int .i64 zs[i])) := by simp [h, vi]
theorem row_calls {zs : List Int} (hz : ∀ z ∈ zs, -9223372036854775808 ≤ z ∧ z ≤ 9223372036854775807) (hl : zs.length ≤ 1000000) : PT Try.prog 46 [.sl zs.length (zs.map vi)] (isV (SW (CZ zs))) := by
  refine PCalls.enter (n := 20) (rs := [.tmp 2]) (tb := []) Try.func46 rfl rfl rfl (by kernel_rfl) (by kernel_rfl) (by simp) fun c hc ht => ?_
  simp -implicitDefEqProofs (disch := omega) only [go_sem, ht, eq_self]
  refine LW.ghost (Gh.nilW 3 2 (by simp -implicitDefEqProofs (disch := omega) only [go_sem, ht, eq_self])) ?_
  refine LW.loopW hc ht (by kernel_rfl) (fun t => t.sl 0 = .sl zs.length (zs.map vi) ∧ ∃ i : Nat, i ≤ zs.length ∧ t.sl 4 = .val (.int .i64 i) ∧ ∃ (id cap : Nat) (rest : List Value), t.sl 3 = .ref id 0 i cap 2 ∧ t.H id = some (SWc (CZ (zs.take i)) ++ rest.map .val) ∧ i * 2 + rest.length = cap * 2 ∧ id < t.nx)
    (fun t => match t.sl 4 with | .val (.int _ k) => zs.length - k.toNat | _ => 0) ?_ ?_
  · simp -implicitDefEqProofs (disch := omega) only [go_sem, ht, eq_self]
    exact ⟨0, Nat.zero_le _, rfl, _, 0, [], rfl, upd_self _ _ _, rfl, by omega⟩
  · rintro t ⟨h0, i, hi, h4, id, cap, rest, h3, hH, hcap, hid⟩
    by_cases hil : i = zs.length
    · subst hil
      rw [List.take_length] at hH
      have htk := take_SWc (CZ zs) (rest.map .val) (n := zs.length) (by rw [CZ_len])
      have hcl := CZ_len zs
      simp -implicitDefEqProofs (disch := omega) only [go_sem, ht, h0, h3, h4, eq_self]
      (refine end_treeW 2 ?_; simp -implicitDefEqProofs (disch := omega) only [go_sem, ht, hH, htk, hcl, eq_self])
      omega
    · have hlt : i < zs.length := by omega
      have hgi := get_vi hlt
      obtain ⟨b1, b2⟩ := hz _ (List.getElem_mem hlt)
      have hsm := small_whole b1 b2
      have hst : SWc (CZ (zs.take i)) ++ [.val (.bool (decide (zs[i] < 0))), .sl (D zs[i].natAbs).length ((D zs[i].natAbs).map U)] = SWc (CZ (zs.take (i + 1))) := by
        rw [List.take_succ_eq_append_getElem hlt, CZ_app, SWc_app]; rfl
      have hln : (SWc (CZ (zs.take i))).length = 2 * i := by rw [SWc_len, CZ_len, List.length_take]; omega
      generalize zs[i] = z at *
      simp -implicitDefEqProofs (disch := omega) only [go_sem, ht, h0, h3, h4, hgi, eq_self]
      (refine pCall_view (by simp -implicitDefEqProofs (disch := omega) only [h0, h3, h4, hgi, go_sem, ht, eq_self] <;> rfl) (by simp -implicitDefEqProofs (disch := omega) only [h0, h3, h4, hgi, go_sem, ht, eq_self]) (by first | (apply Or.inl; simp -implicitDefEqProofs (disch := omega) only [h0, h3, h4, hgi, go_sem, ht, eq_self]; done) | (apply Or.inr; rintro r rfl; rfl)) (hsm) ?_; rintro _ nx - rfl hnx; (try simp only [put_nx, withH_nx, begP_nx] at hnx); simp -implicitDefEqProofs (disch := omega) only [h0, h3, h4, hgi, go_sem, ht, eq_self])
      have hne : id ≠ nx := by omega
      (refine append_ownS (by simp -implicitDefEqProofs (disch := omega) only [srcP_ref, srcP_sl, srcP_nil, Option.isSome_some, hH, go_sem, ht, eq_self] <;> rfl) (by simp -implicitDefEqProofs (disch := omega) only [srcP_ref, srcP_sl, srcP_nil, Option.isSome_some, hH, go_sem, ht, eq_self] <;> rfl) (by simp -implicitDefEqProofs (disch := omega) only [srcP_ref, srcP_sl, srcP_nil, Option.isSome_some, hH, go_sem, ht, eq_self] <;> rfl) (by simp -implicitDefEqProofs (disch := omega) only [srcP_ref, srcP_sl, srcP_nil, Option.isSome_some, hH, go_sem, ht, eq_self] <;> rfl) (by simp -implicitDefEqProofs (disch := omega) only [srcP_ref, srcP_sl, srcP_nil, Option.isSome_some, hH, go_sem, ht, eq_self] <;> rfl) (by rfl) (by simp -implicitDefEqProofs (disch := omega) only [srcP_ref, srcP_sl, srcP_nil, Option.isSome_some, hH, go_sem, ht, eq_self] <;> rfl) (by simp -implicitDefEqProofs (disch := omega) only [srcP_ref, srcP_sl, srcP_nil, Option.isSome_some, hH, go_sem, ht, eq_self] <;> rfl) (by simp -implicitDefEqProofs (disch := omega) only [srcP_ref, srcP_sl, srcP_nil, Option.isSome_some, hH, go_sem, ht, eq_self] <;> rfl) (by first | omega | (simp <;> omega)) (by first | assumption | (simp <;> omega)) (by first | rfl | simp) (by first | omega | (simp <;> omega)) ?_; intro id1 cap1 rest1 H1 nx1 hH1 hcap1 hid1 hnx1 hfr1 hfs1; simp only [put_nx, withH_nx, put_H, withH_H] at hid1 hnx1 hfr1 hfs1)
      rw [hst] at hH1
      simp -implicitDefEqProofs (disch := omega) only [go_sem, ht, h0, h3, h4, eq_self]
      exact ⟨⟨i + 1, by omega, rfl, id1, cap1, rest1, rfl, hH1, by omega, by omega⟩, by omega⟩
end Go.Proofs.Ytfjdfnlkobeehaa
