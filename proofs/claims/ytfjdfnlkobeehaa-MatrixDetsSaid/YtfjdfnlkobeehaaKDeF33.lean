/- Part 33 of the way to the statement: the walk and what it needs. -/
import Derived.Test.YtfjdfnlkobeehaaKDeF31
import Derived.Test.YtfjdfnlkobeehaaKDeF32
section
set_option maxRecDepth 100000
set_option linter.unusedVariables false
set_option linter.unusedSimpArgs false
namespace Go.Proofs.Ytfjdfnlkobeehaa

theorem SWc_app (l m : List (Bool × List Nat)) : SWc (l ++ m) = SWc l ++ SWc m := by simp [SWc]
theorem SWc_take {l : List (Bool × List Nat)} {i : Nat} (h : i < l.length) : SWc (l.take i) ++ [PV.val (.bool l[i].1), .sl l[i].2.length (l[i].2.map U)] = SWc (l.take (i + 1)) := by
  rw [List.take_succ_eq_append_getElem h, SWc_app]; rfl
theorem take_SWc (l : List (Bool × List Nat)) (r : List PV) {n : Nat} (h : n = l.length) : List.take (n * 2) (SWc l ++ r) = SWc l := by
  subst h
  rw [List.take_append_of_le_length (by rw [SWc_len]; omega), List.take_of_length_le (by rw [SWc_len]; omega)]
theorem frzL_SWc (D : Nat → Bool) (H : Nat → Option (List PV)) (d : Nat) (l : List (Bool × List Nat)) : (SWc l).mapM (Ytfjdfnlkobeehaa.frz D H d) = some (SWc l) := frzL_flat D H d (SWc_flat l)
attribute [go_sem] SWc_flat frzL_SWc SWc_len

def lenW : List (Bool × List Nat) → Nat
  | [] => 0
  | p :: l => 1 + p.2.length + lenW l
theorem lenW_app (l m : List (Bool × List Nat)) : lenW (l ++ m) = lenW l + lenW m := by
  induction l with
  | nil => simp [lenW]
  | cons p l ih => simp only [List.cons_append, lenW, ih]; omega
theorem lenW_take {l : List (Bool × List Nat)} {i : Nat} (h : i < l.length) : lenW (l.take (i + 1)) = lenW (l.take i) + (1 + l[i].2.length) := by
  rw [List.take_succ_eq_append_getElem h, lenW_app]; simp [lenW]
theorem lenW_le {l : List (Bool × List Nat)} (i : Nat) : lenW (l.take i) ≤ lenW l := by
  conv => rhs; rw [← List.take_append_drop i l, lenW_app]
  omega
theorem lenW_len (l : List (Bool × List Nat)) : l.length ≤ lenW l := by
  induction l with
  | nil => simp
  | cons p l ih => simp only [List.length_cons, lenW]; omega
theorem lenW_mem {l : List (Bool × List Nat)} {p : Bool × List Nat} (h : p ∈ l) : p.2.length < lenW l := by
  induction l with
  | nil => simp at h
  | cons q l ih =>
    rcases List.mem_cons.1 h with rfl | h
    · simp only [lenW]; omega
    · have := ih h; simp only [lenW]; omega

theorem len_wholes {l : List (Bool × List Nat)} (hl : lenW l ≤ 1099511627776) : PT Try.prog 26 [SW l] (isV (.val (.int .i64 (lenW l : Nat)))) := by
  have hll := lenW_len l
  refine PCalls.enter (n := 19) (rs := [.tmp 2]) (tb := []) Try.func26 rfl rfl rfl (by kernel_rfl) (by kernel_rfl) (by simp) fun c hc ht => ?_
  simp -implicitDefEqProofs (disch := omega) only [go_sem, ht]
  refine LW.loopW hc ht (by kernel_rfl) (fun t => t.sl 0 = .sl l.length (SWc l) ∧ ∃ i : Nat, i ≤ l.length ∧ t.sl 4 = .val (.int .i64 i) ∧ t.sl 3 = .val (.int .i64 (lenW (l.take i) : Nat)))
    (fun t => match t.sl 4 with | .val (.int _ k) => l.length - k.toNat | _ => 0) ?_ ?_
  · simp -implicitDefEqProofs (disch := omega) only [go_sem, ht]
    exact ⟨0, Nat.zero_le _, rfl, rfl⟩
  · rintro t ⟨h0, i, hi, h4, h3⟩
    by_cases hil : i = l.length
    · subst hil
      rw [List.take_length] at h3
      simp -implicitDefEqProofs (disch := omega) only [go_sem, ht, h0, h3, h4]
      (refine end_treeW 0 ?_; simp -implicitDefEqProofs (disch := omega) only [go_sem, ht])
    · have hlt : i < l.length := by omega
      have hat := SWc_at hlt
      have htk := lenW_take hlt
      have hle := lenW_le (l := l) (i + 1)
      have hlw := len_whole (b := l[i].1) (xs := l[i].2) (by omega)
      simp -implicitDefEqProofs (disch := omega) only [go_sem, ht, h0, h3, h4, hat]
      (refine pCall_vw (by refine ⟨⟨?_, ?_⟩, ?_, ?_⟩; rotate_left 2; (first | (right; rintro r rfl; rfl) | left); all_goals ((try simp -implicitDefEqProofs (disch := omega) only [h0, h3, h4, hat, go_sem, ht]) <;> rfl)) (hlw) ?_; rintro _ nx - rfl hnx; simp -implicitDefEqProofs (disch := omega) only [h0, h3, h4, hat, go_sem, ht])
      exact ⟨⟨i + 1, by omega, rfl, by rw [htk]⟩, by omega⟩
theorem copy_wholes {l : List (Bool × List Nat)} (hl : ∀ p ∈ l, Ok p.2) (hll : l.length ≤ 1000000) : PT Try.prog 28 [SW l] (isV (SW l)) := by
  refine PCalls.enter (n := 20) (rs := [.tmp 2]) (tb := []) Try.func28 rfl rfl rfl (by kernel_rfl) (by kernel_rfl) (by simp) fun c hc ht => ?_
  simp -implicitDefEqProofs (disch := omega) only [go_sem, ht]
  refine LW.ghost (Gh.nilW 3 2 (by simp -implicitDefEqProofs (disch := omega) only [go_sem, ht])) ?_
  refine LW.loopW hc ht (by kernel_rfl) (fun t => t.sl 0 = .sl l.length (SWc l) ∧ ∃ i : Nat, i ≤ l.length ∧ t.sl 4 = .val (.int .i64 i) ∧ ∃ (id cap : Nat) (rest : List Value), t.sl 3 = .ref id 0 i cap 2 ∧ t.H id = some (SWc (l.take i) ++ rest.map .val) ∧ i * 2 + rest.length = cap * 2 ∧ id < t.nx)
    (fun t => match t.sl 4 with | .val (.int _ k) => l.length - k.toNat | _ => 0) ?_ ?_
  · simp -implicitDefEqProofs (disch := omega) only [go_sem, ht]
    exact ⟨0, Nat.zero_le _, rfl, _, 0, [], rfl, upd_self _ _ _, rfl, by omega⟩
  · rintro t ⟨h0, i, hi, h4, id, cap, rest, h3, hH, hcap, hid⟩
    by_cases hil : i = l.length
    · subst hil
      rw [List.take_length] at hH
      have htk := take_SWc l (rest.map .val) rfl
      simp -implicitDefEqProofs (disch := omega) only [go_sem, ht, h0, h3, h4]
      (refine end_treeW 2 ?_; simp -implicitDefEqProofs (disch := omega) only [go_sem, ht, hH, htk]; omega)
    · have hlt : i < l.length := by omega
      have hat := SWc_at hlt
      have hcw := copyw_calls (b := l[i].1) (hl l[i] (List.getElem_mem _))
      have hct := PO1.tree (mk_w (.bool l[i].1)) (flatL_U _) hcw
      have htk := SWc_take hlt
      have hln : (SWc (l.take i)).length = 2 * i := by rw [SWc_len, List.length_take]; omega
      simp only [List.length_map] at hct
      simp -implicitDefEqProofs (disch := omega) only [go_sem, ht, h0, h3, h4, hat]
      (refine pCall_vw (by refine ⟨⟨?_, ?_⟩, ?_, ?_⟩; rotate_left 2; (first | (right; rintro r rfl; rfl) | left); all_goals ((try simp -implicitDefEqProofs (disch := omega) only [h0, h3, h4, hat, go_sem, ht]) <;> rfl)) (hct) ?_; rintro _ nx - rfl hnx; simp -implicitDefEqProofs (disch := omega) only [h0, h3, h4, hat, go_sem, ht])
      have hne : id ≠ nx := by omega
      (refine append_ownSX (by refine ⟨?_, ?_, ?_, ?_, ?_, ?_, ?_, ?_⟩ <;> (simp -implicitDefEqProofs (disch := omega) only [srcP_ref, srcP_sl, srcP_nil, Option.isSome_some, hH, go_sem, ht] <;> rfl)) (by rfl) (by first | omega | (simp <;> omega)) (by first | assumption | (simp <;> omega)) (by first | rfl | simp) (by first | omega | (simp <;> omega)) ?_; intro id1 cap1 rest1 H1 nx1 hH1 hcap1 hid1 hnx1 hfr1 hfs1; simp only [put_nx, withH_nx, put_H, withH_H] at hid1 hnx1 hfr1 hfs1)
      rw [htk] at hH1
      simp -implicitDefEqProofs (disch := omega) only [go_sem, ht, h0, h3, h4]
      exact ⟨⟨i + 1, by omega, rfl, id1, cap1, rest1, rfl, hH1, by omega, by omega⟩, by omega⟩
theorem same_raw {b d : Bool} {xs ys : List Nat} (hx : Ok xs) (hy : Ok ys) : PT Try.prog 32 [WX b xs, WX d ys] (isV (.val (.bool (decide ((b, xs) = (d, ys)))))) := by
  have hs := same_calls hx hy
  by_cases hb : b = d
  · subst hb
    have e : decide ((b, xs) = (b, ys)) = decide (xs = ys) := by simp
    rw [e]
    have hbb : (b == b) = true := by simp
    refine PCalls.enter (n := 17) (rs := [.tmp 4]) (tb := []) Try.func32 rfl rfl rfl (by kernel_rfl) (by kernel_rfl) (by simp) fun c hc ht => ?_
    simp -implicitDefEqProofs (disch := omega) only [go_sem, ht, hbb]
    (refine pCall_vw (by refine ⟨⟨?_, ?_⟩, ?_, ?_⟩; rotate_left 2; (first | (right; rintro r rfl; rfl) | left); all_goals ((try simp -implicitDefEqProofs (disch := omega) only [hbb, go_sem, ht]) <;> rfl)) (hs) ?_; rintro _ nx - rfl hnx; simp -implicitDefEqProofs (disch := omega) only [hbb, go_sem, ht])
    (refine end_treeW 0 ?_; simp -implicitDefEqProofs (disch := omega) only [go_sem, ht, hbb])
  · have e : decide ((b, xs) = (d, ys)) = false := by simp [hb]
    rw [e]
    have hbb : (b == d) = false := by simpa using hb
    refine PCalls.enter (n := 17) (rs := [.tmp 4]) (tb := []) Try.func32 rfl rfl rfl (by kernel_rfl) (by kernel_rfl) (by simp) fun c hc ht => ?_
    simp -implicitDefEqProofs (disch := omega) only [go_sem, ht, hbb]
    (refine end_treeW 0 ?_; simp -implicitDefEqProofs (disch := omega) only [go_sem, ht, hbb])
theorem same_wholes {l m : List (Bool × List Nat)} (hl : ∀ p ∈ l, Ok p.2) (hm : ∀ p ∈ m, Ok p.2) (hll : l.length ≤ 1000000) : PT Try.prog 55 [SW l, SW m] (isV (.val (.bool (decide (l = m))))) := by
  by_cases hlm : l.length = m.length
  · refine PCalls.enter (n := 27) (rs := [.tmp 4]) (tb := [(6, [(0, []), (1, []), (2, []), (3, []), (4, []), (5, []), (6, []), (7, []), (8, []), (9, [])])]) Try.func55 rfl rfl rfl (by kernel_rfl) (by kernel_rfl) (by simp) fun c hc ht => ?_
    simp -implicitDefEqProofs (disch := omega) only [go_sem, ht, hlm]
    refine LW.loopW hc ht (by kernel_rfl) (fun t => t.sl 0 = .sl l.length (SWc l) ∧ t.sl 1 = .sl m.length (SWc m) ∧ ∃ i : Nat, i ≤ l.length ∧ t.sl 5 = .val (.int .i64 i) ∧ l.take i = m.take i)
      (fun t => match t.sl 5 with | .val (.int _ k) => l.length - k.toNat | _ => 0) ?_ ?_
    · simp -implicitDefEqProofs (disch := omega) only [go_sem, ht, hlm]
      exact ⟨0, Nat.zero_le _, rfl, by simp⟩
    · rintro t ⟨h0, h1, i, hi, h5, htk⟩
      by_cases hil : i = l.length
      · subst hil
        have e : l = m := by rwa [List.take_length, hlm, List.take_length] at htk
        rw [decide_eq_true e]
        simp -implicitDefEqProofs (disch := omega) only [go_sem, ht, h0, h1, h5]
        (refine end_treeW 0 ?_; simp -implicitDefEqProofs (disch := omega) only [go_sem, ht])
      · have hlt : i < l.length := by omega
        have hlt' : i < m.length := by omega
        have hat := SWc_at hlt
        have hat' := SWc_at hlt'
        have hsr := same_raw (b := l[i].1) (d := m[i].1) (hl _ (List.getElem_mem hlt)) (hm _ (List.getElem_mem hlt'))
        by_cases he : l[i] = m[i]
        · rw [decide_eq_true (p := ((l[i].1, l[i].2) = (m[i].1, m[i].2))) he] at hsr
          simp -implicitDefEqProofs (disch := omega) only [go_sem, ht, h0, h1, h5, hat, hat']
          (refine pCall_vw (by refine ⟨⟨?_, ?_⟩, ?_, ?_⟩; rotate_left 2; (first | (right; rintro r rfl; rfl) | left); all_goals ((try simp -implicitDefEqProofs (disch := omega) only [h0, h1, h5, hat, hat', go_sem, ht]) <;> rfl)) (hsr) ?_; rintro _ nx - rfl hnx; simp -implicitDefEqProofs (disch := omega) only [h0, h1, h5, hat, hat', go_sem, ht])
          exact ⟨⟨i + 1, by omega, rfl, by rw [List.take_succ_eq_append_getElem hlt, List.take_succ_eq_append_getElem hlt', htk, he]⟩, by omega⟩
        · rw [decide_eq_false (p := ((l[i].1, l[i].2) = (m[i].1, m[i].2))) he] at hsr
          have hne : l ≠ m := fun e => he (by subst e; rfl)
          rw [decide_eq_false hne]
          simp -implicitDefEqProofs (disch := omega) only [go_sem, ht, h0, h1, h5, hat, hat']
          (refine pCall_vw (by refine ⟨⟨?_, ?_⟩, ?_, ?_⟩; rotate_left 2; (first | (right; rintro r rfl; rfl) | left); all_goals ((try simp -implicitDefEqProofs (disch := omega) only [h0, h1, h5, hat, hat', go_sem, ht]) <;> rfl)) (hsr) ?_; rintro _ nx - rfl hnx; simp -implicitDefEqProofs (disch := omega) only [h0, h1, h5, hat, hat', go_sem, ht])
          (refine end_treeW 0 ?_; simp -implicitDefEqProofs (disch := omega) only [go_sem, ht])
  · have hne : l ≠ m := fun e => hlm (by rw [e])
    rw [decide_eq_false hne]
    refine PCalls.enter (n := 27) (rs := [.tmp 4]) (tb := [(6, [(0, []), (1, []), (2, []), (3, []), (4, []), (5, []), (6, []), (7, []), (8, []), (9, [])])]) Try.func55 rfl rfl rfl (by kernel_rfl) (by kernel_rfl) (by simp) fun c hc ht => ?_
    simp -implicitDefEqProofs (disch := omega) only [go_sem, ht, hlm]
    (refine end_treeW 0 ?_; simp -implicitDefEqProofs (disch := omega) only [go_sem, ht])
end Go.Proofs.Ytfjdfnlkobeehaa
end
