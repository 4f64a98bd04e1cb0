/- The document's numbers: Abs, powers of two; its Left. The document's answers for layer 1: Left; division of its numbers. The document's numbers: division. The document's DivMod of numbers that are not below 0, and its Right. -/
import Derived.Test.YtfjdfnlkobeehaaRefB
set_option maxRecDepth 100000
set_option linter.unusedVariables false
set_option linter.unusedSimpArgs false
namespace Go.Proofs.Ytfjdfnlkobeehaa.Ref

theorem abs_calls {n : Nat} {neg : Bool} (h : Ok (D n)) : PT Try.prog 134 [NP neg n] (isV (NP false n)) := by
  have hlen := h.len
  have hm := made_calls h
  rw [V_D, NP_def] at hm
  rw [NP_def, NP_def]
  refine PCalls.enter (n := 7) (rs := [.cell 2 103]) (tb := []) Try.func134 rfl rfl rfl (by kernel_rfl) (by kernel_rfl) (by simp) fun c hc ht => ?_
  simp -implicitDefEqProofs (disch := omega) only [go_sem, ht, eq_self]
  refine append_nil (e := 3) (b := 8) (m := (D n).length) (z := .int .i64 0) (ys := (D n).map I) T23_elem rfl T3_size T3_bytes T3_zero (by simp -implicitDefEqProofs (disch := omega) only [go_sem, ht, srcP_sl, eq_self]) (by simp -implicitDefEqProofs (disch := omega) only [go_sem, ht, eq_self]) (by omega) (fun h0 => ?_) fun cap' rest' h1 h2 => ?_
  · have hn := D_len_zero.1 h0
    subst hn
    rw [D_zero] at hm ⊢
    simp -implicitDefEqProofs (disch := omega) only [go_sem, ht, eq_self]
    (refine pCall_view (by simp -implicitDefEqProofs (disch := omega) only [go_sem, ht, eq_self] <;> rfl) (by simp -implicitDefEqProofs (disch := omega) only [go_sem, ht, eq_self]) (by first | (apply Or.inl; simp -implicitDefEqProofs (disch := omega) only [go_sem, ht, eq_self]; done) | (apply Or.inr; rintro r rfl; rfl)) (hm) ?_; rintro _ nx - rfl hnx; (try simp only [put_nx, withH_nx, begP_nx] at hnx); simp -implicitDefEqProofs (disch := omega) only [go_sem, ht, eq_self])
    (refine end_treeN 2 ?_; simp -implicitDefEqProofs (disch := omega) only [go_sem, ht, eq_self])
  · simp -implicitDefEqProofs (disch := omega) only [go_sem, ht, eq_self]
    (refine pCall_frz (fun i => decide (i = 2)) 1 (by simp -implicitDefEqProofs (disch := omega) only [dropH_at, decide_eq_true_eq, if_pos, go_sem, ht, eq_self] <;> rfl) (by simp -implicitDefEqProofs (disch := omega) only [dropH_at, decide_eq_true_eq, if_pos, go_sem, ht, eq_self]) (by simp -implicitDefEqProofs (disch := omega) only [dropH_at, decide_eq_true_eq, if_pos, go_sem, ht, eq_self] <;> rfl) (by simp -implicitDefEqProofs (disch := omega) only [dropH_at, decide_eq_true_eq, if_pos, go_sem, ht, eq_self]) (hm) ?_; rintro _ nx - rfl hnx; (try simp only [put_nx, withH_nx, begP_nx] at hnx); simp -implicitDefEqProofs (disch := omega) only [dropH_at, decide_eq_true_eq, if_pos, go_sem, ht, eq_self])
    (refine end_treeN 2 ?_; simp -implicitDefEqProofs (disch := omega) only [go_sem, ht, dropH_at, decide_eq_true_eq, eq_self])

theorem two_V {k : Nat} : Ytfjdfnlkobeehaa.V (List.replicate (k / 32) 0 ++ [2 ^ (k % 32)]) = 2 ^ k := by
  rw [Ytfjdfnlkobeehaa.V_append, Ytfjdfnlkobeehaa.V_repl, List.length_replicate, Nat.zero_add, Ytfjdfnlkobeehaa.V_cons, Ytfjdfnlkobeehaa.V_nil, Nat.mul_zero, Nat.add_zero, pow32, ← Nat.pow_add, Nat.div_add_mod]
-- left out: rafterref01.Two
end Go.Proofs.Ytfjdfnlkobeehaa.Ref

namespace Go.Proofs.Ytfjdfnlkobeehaa.Ref

theorem two_ok {k : Nat} (hk : k ≤ 1000000) : Ok (D (2 ^ k)) := ⟨Lm_D _, by
  have h : 2 ^ k < 10000 ^ (k + 1) := Nat.lt_of_lt_of_le (Nat.pow_lt_pow_right (by decide) (Nat.lt_succ_self k)) (Nat.pow_le_pow_left (by decide) _)
  have := D_len_le.2 h
  omega⟩
theorem dlen_mul (a b : Nat) : (D (a * b)).length ≤ (D a).length + (D b).length := by
  have h1 := V_lt (Lm_D a)
  have h2 := V_lt (Lm_D b)
  rw [V_D] at h1 h2
  refine D_len_le.2 ?_
  rw [Nat.pow_add]
  exact Nat.mul_lt_mul'' h1 h2
theorem ndlen_mul (a b : Nat) : (Ytfjdfnlkobeehaa.D (a * b)).length ≤ (Ytfjdfnlkobeehaa.D a).length + (Ytfjdfnlkobeehaa.D b).length := by
  have h1 := Ytfjdfnlkobeehaa.V_lt (Ytfjdfnlkobeehaa.Lm_D a)
  have h2 := Ytfjdfnlkobeehaa.V_lt (Ytfjdfnlkobeehaa.Lm_D b)
  rw [Ytfjdfnlkobeehaa.V_D] at h1 h2
  refine Ytfjdfnlkobeehaa.D_len_le.2 ?_
  rw [Nat.pow_add]
  exact Nat.mul_lt_mul'' h1 h2

-- left out: rafterref01.Left
end Go.Proofs.Ytfjdfnlkobeehaa.Ref

namespace Go.Proofs.Ytfjdfnlkobeehaa.Ref

theorem div_alg {b Z R A x q : Nat} (h : b * Z + R = A) (hq : b * q ≤ R * 10000 + x) : b * (q + 10000 * Z) + (R * 10000 + x - b * q) = x + 10000 * A := by
  rw [Nat.mul_add, Nat.mul_left_comm b 10000 Z, ← h, Nat.mul_add]
  omega

set_option maxHeartbeats 4000000 in
theorem divided_calls {fa fb : Bool} {a b : Nat} (ha : Ok (D a)) (hb : Ok (D b)) (hb0 : b ≠ 0) (hsz : (D b).length + 1 ≤ 1099511627776) : PT Try.prog 135 [NP fa a, NP fb b] (isV (.tup [NP false (a / b), NP false (a % b)])) := by
  have hal := ha.len
  have hbl := hb.len
  have hva := V_D a
  have hvb := V_D b
  have hbp := D_len_pos hb0
  have hab := abs_calls (neg := fb) hb
  have hsmb := fun (k : Nat) (hk : k ≤ 9999) => small_calls (k := k) (more := 0) hb (by omega) (by omega)
  have hok : ∀ r, r < b * 10000 → Ok (D r) := fun r hr => ⟨Lm_D _, by
    have h1 := V_lt hb.lm
    rw [V_D] at h1
    have h2 : r < 10000 ^ ((D b).length + 1) := by rw [Nat.pow_succ]; omega
    have := D_len_le.2 h2
    omega⟩
  have hbig : 10000 ^ ((D b).length - 1) ≤ b := D_len_gt.1 (by omega)
  have hstart : ∀ S, (D a).length ≤ S + ((D b).length - 1) → V ((D a).drop S) < b := fun S hS => by
    have h1 := V_lt (ha.lm.drop S)
    rw [List.length_drop] at h1
    exact Nat.lt_of_lt_of_le (Nat.lt_of_lt_of_le h1 (Nat.pow_le_pow_right (by decide) (by omega))) hbig
  have hfin : ∀ zs R, b * V zs + R = a → R < b → a / b = V zs ∧ a % b = R := fun zs R h1 h2 => by
    rw [← h1, Nat.mul_add_div (by omega), Nat.div_eq_of_lt h2, Nat.mul_add_mod, Nat.mod_eq_of_lt h2]
    exact ⟨by omega, rfl⟩
  simp only [NP_def] at hab ⊢
  generalize hxs : D a = xs at *
  generalize hys : D b = ys at *
  have hxm : Lm xs := ha.lm
  clear hbig
  refine PCalls.enter (n := 84) (rs := [.cell 4 103, .cell 5 103]) (tb := [(10, [(0, []), (1, []), (2, []), (3, []), (4, []), (5, []), (6, []), (7, []), (8, [2]), (9, [])]), (15, [(0, []), (1, []), (2, []), (5, []), (3, [5]), (4, [5]), (6, []), (7, [])]), (19, [(0, []), (1, []), (2, []), (3, []), (4, [0]), (5, [0]), (6, []), (7, [])]), (20, [(0, []), (2, []), (1, [2]), (3, [2]), (4, [])])]) Try.func135 rfl rfl rfl (by kernel_rfl) (by kernel_rfl) (by simp) fun c hc ht => ?_
  simp -implicitDefEqProofs (disch := omega) only [go_sem, ht, eq_self]
  by_cases hle : ys.length ≤ xs.length
  · (refine pCall_view (by simp -implicitDefEqProofs (disch := omega) only [go_sem, ht, eq_self] <;> rfl) (by simp -implicitDefEqProofs (disch := omega) only [go_sem, ht, eq_self]) (by first | (apply Or.inl; simp -implicitDefEqProofs (disch := omega) only [go_sem, ht, eq_self]; done) | (apply Or.inr; rintro r rfl; rfl)) (hab) ?_; rintro _ nx - rfl hnx; (try simp only [put_nx, withH_nx, begP_nx] at hnx); simp -implicitDefEqProofs (disch := omega) only [go_sem, ht, eq_self])
    have hT : List.take (xs.length - (xs.length - ys.length + 1)) (List.drop (xs.length - ys.length + 1) (xs.map I)) = (xs.drop (xs.length - ys.length + 1)).map I := by rw [← List.map_drop]; exact List.take_of_length_le (by simp)
    have hdl : (xs.drop (xs.length - ys.length + 1)).length = xs.length - (xs.length - ys.length + 1) := List.length_drop
    have hmd := made_calls (xs := xs.drop (xs.length - ys.length + 1)) ⟨hxm.drop _, by omega⟩
    have hst := hstart (xs.length - ys.length + 1) (by omega)
    have hrl := Nat.le_trans (D_len_V (hxm.drop (xs.length - ys.length + 1))) (Nat.le_of_eq hdl)
    rw [NP_def, SI_def, hdl] at hmd
    refine append_nil (e := 3) (b := 8) (m := xs.length - (xs.length - ys.length + 1)) (z := .int .i64 0) (ys := (xs.drop (xs.length - ys.length + 1)).map I) T23_elem rfl T3_size T3_bytes T3_zero (by simp -implicitDefEqProofs (disch := omega) only [go_sem, ht, srcP_sl, hT, hdl, if_pos, eq_self]) (by simp -implicitDefEqProofs (disch := omega) only [go_sem, ht, eq_self]) (by omega) (fun h0 => ?_) fun cap' rest' h1 h2 => ?_
    · have hz : xs.drop (xs.length - ys.length + 1) = [] := List.eq_nil_of_length_eq_zero (by omega)
      have hst' := hst
      rw [h0, hz] at hmd
      simp -implicitDefEqProofs (disch := omega) only [go_sem, ht, eq_self]
      (refine pCall_view (by simp -implicitDefEqProofs (disch := omega) only [go_sem, ht, eq_self] <;> rfl) (by simp -implicitDefEqProofs (disch := omega) only [go_sem, ht, eq_self]) (by first | (apply Or.inl; simp -implicitDefEqProofs (disch := omega) only [go_sem, ht, eq_self]; done) | (apply Or.inr; rintro r rfl; rfl)) (hmd) ?_; rintro _ nx - rfl hnx; (try simp only [put_nx, withH_nx, begP_nx] at hnx); simp -implicitDefEqProofs (disch := omega) only [go_sem, ht, eq_self])
      refine LW.loopW hc ht (by kernel_rfl) (fun t => t.sl 2 = .ptr 0 0 ∧ t.sl 4 = .ptr 2 0 ∧ t.sl 5 = .ptr 3 0 ∧ t.sl 6 = .ref 4 0 xs.length xs.length 1 ∧ t.H 0 = some [.val (.bool fa), .sl xs.length (xs.map I)] ∧ t.H 2 = some [.val (.bool false), .val (.slice none 0 0)] ∧ t.H 3 = some [.val (.bool false), .val (.slice none 0 0)] ∧
          ∃ r7 r9 k R : Nat, t.sl 7 = .ptr r7 0 ∧ t.H r7 = some [.val (.bool false), .sl ys.length (ys.map I)] ∧ t.sl 9 = .ptr r9 0 ∧ 4 < r7 ∧ r7 < r9 ∧ r9 < t.nx ∧ t.H r9 = some [.val (.bool false), .sl (D R).length ((D R).map I)] ∧ k ≤ xs.length ∧ t.sl 10 = .val (.int .i64 ((k : Int) - 1)) ∧ R < b ∧
          ∃ zs : List Nat, zs.length = xs.length ∧ t.H 4 = some (zs.map I) ∧ Lm zs ∧ Hide (b * V (zs.drop k) + R = V (xs.drop k)))
          (fun t => match t.sl 10 with | .val (.int _ j) => (j + 1).toNat | _ => 0) ?_ ?_
      · simp -implicitDefEqProofs (disch := omega) only [go_sem, ht, eq_self]
        refine ⟨_, _, (xs.length - ys.length + 1), V (xs.drop (xs.length - ys.length + 1)), rfl, ?_, rfl, by omega, by omega, by omega, ?_, by omega, by first | rfl | (congr 2; omega), hst, List.replicate xs.length 0, by simp, ?_, Lm_repl _, Hide.mk ?_⟩
        · simp -implicitDefEqProofs (disch := omega) only [go_sem, ht, eq_self]
        · simp -implicitDefEqProofs (disch := omega) only [go_sem, ht, eq_self]
          rw [hz]
        · simp -implicitDefEqProofs (disch := omega) only [go_sem, ht, eq_self]
        · rw [List.drop_replicate, V_repl]; omega
      · rintro t ⟨h2, h4, h5, h6, hH0, hH2, hH3, r7, r9, k, R, h7, hH7, h9, hr1, hr2, hr3, hH9, hk, h10, hR, zs, hzl, hH4, hzm, heq⟩
        have hxk := ha.len
        by_cases hk0 : k = 0
        · subst hk0
          have hq := heq.out
          rw [List.drop_zero, List.drop_zero, hva] at hq
          obtain ⟨q1, q2⟩ := hfin zs R hq hR
          have hmz := made_calls (xs := zs) ⟨hzm, by omega⟩
          rw [NP_def, SI_def, hzl] at hmz
          have hT4 : List.take xs.length (zs.map I) = zs.map I := List.take_of_length_le (by simp [hzl])
          rw [q1, q2]
          clear q1 q2 hq heq
          simp -implicitDefEqProofs (disch := omega) only [go_sem, ht, h2, h4, h5, h6, h7, h9, h10, hH0, hH2, hH3, hH4, hH7, hH9, eq_self]
          (refine pCall_frz (fun i => decide (i = 4)) 1 (by simp -implicitDefEqProofs (disch := omega) only [dropH_at, decide_eq_true_eq, h2, h4, h5, h6, h7, h9, h10, hH0, hH2, hH3, hH4, hH7, hH9, hT4, hzl, if_pos, if_neg, Nat.le_refl, go_sem, ht, eq_self] <;> rfl) (by simp -implicitDefEqProofs (disch := omega) only [dropH_at, decide_eq_true_eq, h2, h4, h5, h6, h7, h9, h10, hH0, hH2, hH3, hH4, hH7, hH9, hT4, hzl, if_pos, if_neg, Nat.le_refl, go_sem, ht, eq_self]) (by simp -implicitDefEqProofs (disch := omega) only [dropH_at, decide_eq_true_eq, h2, h4, h5, h6, h7, h9, h10, hH0, hH2, hH3, hH4, hH7, hH9, hT4, hzl, if_pos, if_neg, Nat.le_refl, go_sem, ht, eq_self] <;> rfl) (by simp -implicitDefEqProofs (disch := omega) only [dropH_at, decide_eq_true_eq, h2, h4, h5, h6, h7, h9, h10, hH0, hH2, hH3, hH4, hH7, hH9, hT4, hzl, if_pos, if_neg, Nat.le_refl, go_sem, ht, eq_self]) (hmz) ?_; rintro _ nx - rfl hnx; (try simp only [put_nx, withH_nx, begP_nx] at hnx); simp -implicitDefEqProofs (disch := omega) only [dropH_at, decide_eq_true_eq, h2, h4, h5, h6, h7, h9, h10, hH0, hH2, hH3, hH4, hH7, hH9, hT4, hzl, if_pos, if_neg, Nat.le_refl, go_sem, ht, eq_self])
          (refine end_treeN 2 ?_; simp -implicitDefEqProofs (disch := omega) only [go_sem, ht, h2, h4, h5, h6, h7, h9, h10, hH0, hH2, hH3, hH4, hH7, hH9, if_neg, eq_self])
        · obtain ⟨i, rfl⟩ : ∃ i, k = i + 1 := ⟨k - 1, by omega⟩
          have e1 : (((i + 1 : Nat) : Int) - 1) = (i : Int) := by omega
          rw [e1] at h10
          have hxg := hxm.get i
          have hR1 : R * 10000 + xs.getD i 0 < b * 10000 := by omega
          have hsm := small_calls (xs := D R) (k := 10000) (more := xs.getD i 0) (hok R (by omega)) (by omega) (by omega)
          rw [V_D] at hsm
          have hV := V_drop xs (i := i) (by omega)
          obtain ⟨R1, eR1⟩ : ∃ R1, R1 = R * 10000 + xs.getD i 0 := ⟨_, rfl⟩
          rw [← eR1] at hsm hR1
          have hm1 := made_calls (hok R1 hR1)
          rw [V_D, NP_def] at hm1
          have oR := hok R1 hR1
          have hoRl := oR.len
          have halg : ∀ q, b * q ≤ R1 → Hide (b * (q + 10000 * V (zs.drop (i + 1))) + (R1 - b * q) = V (xs.drop i)) := fun q hq => by
            rw [eR1] at hq ⊢
            rw [hV]
            exact Hide.mk (div_alg heq.out hq)
          clear heq hV
          simp -implicitDefEqProofs (disch := omega) only [go_sem, ht, h2, h4, h5, h6, h7, h9, h10, hH0, hH2, hH3, hH4, hH7, hH9, eq_self]
          (refine pCall_view (by simp -implicitDefEqProofs (disch := omega) only [h2, h4, h5, h6, h7, h9, h10, hH0, hH2, hH3, hH4, hH7, hH9, go_sem, ht, eq_self] <;> rfl) (by simp -implicitDefEqProofs (disch := omega) only [h2, h4, h5, h6, h7, h9, h10, hH0, hH2, hH3, hH4, hH7, hH9, go_sem, ht, eq_self]) (by first | (apply Or.inl; simp -implicitDefEqProofs (disch := omega) only [h2, h4, h5, h6, h7, h9, h10, hH0, hH2, hH3, hH4, hH7, hH9, go_sem, ht, eq_self]; done) | (apply Or.inr; rintro r rfl; rfl)) (hsm) ?_; rintro _ nx - rfl hnx; (try simp only [put_nx, withH_nx, begP_nx] at hnx); simp -implicitDefEqProofs (disch := omega) only [h2, h4, h5, h6, h7, h9, h10, hH0, hH2, hH3, hH4, hH7, hH9, go_sem, ht, eq_self])
          (refine pCall_view (by simp -implicitDefEqProofs (disch := omega) only [h2, h4, h5, h6, h7, h9, h10, hH0, hH2, hH3, hH4, hH7, hH9, go_sem, ht, eq_self] <;> rfl) (by simp -implicitDefEqProofs (disch := omega) only [h2, h4, h5, h6, h7, h9, h10, hH0, hH2, hH3, hH4, hH7, hH9, go_sem, ht, eq_self]) (by first | (apply Or.inl; simp -implicitDefEqProofs (disch := omega) only [h2, h4, h5, h6, h7, h9, h10, hH0, hH2, hH3, hH4, hH7, hH9, go_sem, ht, eq_self]; done) | (apply Or.inr; rintro r rfl; rfl)) (hm1) ?_; rintro _ nx - rfl hnx; (try simp only [put_nx, withH_nx, begP_nx] at hnx); simp -implicitDefEqProofs (disch := omega) only [h2, h4, h5, h6, h7, h9, h10, hH0, hH2, hH3, hH4, hH7, hH9, go_sem, ht, eq_self])
          refine LW.loopW hc ht (by kernel_rfl) (fun s => s.sl 2 = .ptr 0 0 ∧ s.sl 4 = .ptr 2 0 ∧ s.sl 5 = .ptr 3 0 ∧ s.sl 6 = .ref 4 0 xs.length xs.length 1 ∧ s.sl 7 = .ptr r7 0 ∧ s.sl 9 = .ptr r9 0 ∧ s.sl 10 = .val (.int .i64 i) ∧ s.H 0 = some [.val (.bool fa), .sl xs.length (xs.map I)] ∧ s.H 2 = some [.val (.bool false), .val (.slice none 0 0)] ∧ s.H 3 = some [.val (.bool false), .val (.slice none 0 0)] ∧
              s.H 4 = some (zs.map I) ∧ s.H r7 = some [.val (.bool false), .sl ys.length (ys.map I)] ∧ s.H r9 = some [.val (.bool false), .sl (D R1).length ((D R1).map I)] ∧ r9 < s.nx ∧ ∃ lo hi : Nat, s.sl 11 = .val (.int .i64 lo) ∧ s.sl 12 = .val (.int .i64 hi) ∧ lo ≤ hi ∧ hi ≤ 9999 ∧ Hide (b * lo ≤ R1) ∧ Hide (R1 < b * (hi + 1)))
            (fun s => match s.sl 11, s.sl 12 with | .val (.int _ lo), .val (.int _ hi) => hi.toNat - lo.toNat | _, _ => 0) ?_ ?_
          · simp -implicitDefEqProofs (disch := omega) only [go_sem, ht, h2, h4, h5, h6, h7, h9, h10, hH0, hH2, hH3, hH4, hH7, hH9, eq_self]
            exact ⟨by omega, 0, 9999, rfl, rfl, by omega, by omega, Hide.mk (by simp), Hide.mk hR1⟩
          · clear h2 h4 h5 h6 h7 h9 hH0 hH2 hH3 hH4 hH7 hH9
            rintro s ⟨g2, g4, g5, g6, g7, g9, g10, gH0, gH2, gH3, gH4, gH7, gH9, gnx, lo, hi, g11, g12, hlh, hhi, hlo, hhi2⟩
            by_cases hlt : lo < hi
            · have hmid : (lo + hi + 1) / 2 ≤ hi ∧ lo < (lo + hi + 1) / 2 := by omega
              obtain ⟨mid, emid⟩ : ∃ mid, mid = (lo + hi + 1) / 2 := ⟨_, rfl⟩
              rw [← emid] at hmid
              have hsmm := hsmb mid (by omega)
              rw [hvb, Nat.add_zero] at hsmm
              have hbm : b * mid < b * 10000 := Nat.mul_lt_mul_of_pos_left (by omega) (Nat.pos_of_ne_zero hb0)
              have hmm := made_calls (hok _ hbm)
              rw [V_D, NP_def] at hmm
              have hsz2 := size_calls (f := false) (g := false) (hok _ hbm) oR
              rw [NP_def, NP_def] at hsz2
              have hml := (hok _ hbm).len
              by_cases hcm : b * mid ≤ R1
              · have hc0 : cmpI (b * mid) R1 ≤ 0 := by
                  unfold cmpI; split
                  · omega
                  · split <;> omega
                have hcm := Hide.mk hcm
                generalize cmpI (b * mid) R1 = cm at *
                simp -implicitDefEqProofs (disch := omega) only [go_sem, ht, g2, g4, g5, g6, g7, g9, g10, g11, g12, gH0, gH2, gH3, gH4, gH7, gH9, emid.symm, eq_self]
                (refine pCall_view (by simp -implicitDefEqProofs (disch := omega) only [g2, g4, g5, g6, g7, g9, g10, g11, g12, gH0, gH2, gH3, gH4, gH7, gH9, emid.symm, go_sem, ht, eq_self] <;> rfl) (by simp -implicitDefEqProofs (disch := omega) only [g2, g4, g5, g6, g7, g9, g10, g11, g12, gH0, gH2, gH3, gH4, gH7, gH9, emid.symm, go_sem, ht, eq_self]) (by first | (apply Or.inl; simp -implicitDefEqProofs (disch := omega) only [g2, g4, g5, g6, g7, g9, g10, g11, g12, gH0, gH2, gH3, gH4, gH7, gH9, emid.symm, go_sem, ht, eq_self]; done) | (apply Or.inr; rintro r rfl; rfl)) (hsmm) ?_; rintro _ nx - rfl hnx; (try simp only [put_nx, withH_nx, begP_nx] at hnx); simp -implicitDefEqProofs (disch := omega) only [g2, g4, g5, g6, g7, g9, g10, g11, g12, gH0, gH2, gH3, gH4, gH7, gH9, emid.symm, go_sem, ht, eq_self])
                (refine pCall_view (by simp -implicitDefEqProofs (disch := omega) only [g2, g4, g5, g6, g7, g9, g10, g11, g12, gH0, gH2, gH3, gH4, gH7, gH9, emid.symm, go_sem, ht, eq_self] <;> rfl) (by simp -implicitDefEqProofs (disch := omega) only [g2, g4, g5, g6, g7, g9, g10, g11, g12, gH0, gH2, gH3, gH4, gH7, gH9, emid.symm, go_sem, ht, eq_self]) (by first | (apply Or.inl; simp -implicitDefEqProofs (disch := omega) only [g2, g4, g5, g6, g7, g9, g10, g11, g12, gH0, gH2, gH3, gH4, gH7, gH9, emid.symm, go_sem, ht, eq_self]; done) | (apply Or.inr; rintro r rfl; rfl)) (hmm) ?_; rintro _ nx - rfl hnx; (try simp only [put_nx, withH_nx, begP_nx] at hnx); simp -implicitDefEqProofs (disch := omega) only [g2, g4, g5, g6, g7, g9, g10, g11, g12, gH0, gH2, gH3, gH4, gH7, gH9, emid.symm, go_sem, ht, eq_self])
                (refine pCall_view (by simp -implicitDefEqProofs (disch := omega) only [g2, g4, g5, g6, g7, g9, g10, g11, g12, gH0, gH2, gH3, gH4, gH7, gH9, emid.symm, go_sem, ht, eq_self] <;> rfl) (by simp -implicitDefEqProofs (disch := omega) only [g2, g4, g5, g6, g7, g9, g10, g11, g12, gH0, gH2, gH3, gH4, gH7, gH9, emid.symm, go_sem, ht, eq_self]) (by first | (apply Or.inl; simp -implicitDefEqProofs (disch := omega) only [g2, g4, g5, g6, g7, g9, g10, g11, g12, gH0, gH2, gH3, gH4, gH7, gH9, emid.symm, go_sem, ht, eq_self]; done) | (apply Or.inr; rintro r rfl; rfl)) (hsz2) ?_; rintro _ nx - rfl hnx; (try simp only [put_nx, withH_nx, begP_nx] at hnx); simp -implicitDefEqProofs (disch := omega) only [g2, g4, g5, g6, g7, g9, g10, g11, g12, gH0, gH2, gH3, gH4, gH7, gH9, emid.symm, go_sem, ht, eq_self])
                exact ⟨⟨by omega, mid, hi, rfl, rfl, by omega, by omega, hcm, hhi2⟩, by omega⟩
              · have hc0 : 0 < cmpI (b * mid) R1 := by
                  unfold cmpI; split
                  · omega
                  · split <;> omega
                have hcm := Hide.mk (show R1 < b * (mid - 1 + 1) by rw [Nat.sub_add_cancel (by omega)]; omega)
                generalize cmpI (b * mid) R1 = cm at *
                simp -implicitDefEqProofs (disch := omega) only [go_sem, ht, g2, g4, g5, g6, g7, g9, g10, g11, g12, gH0, gH2, gH3, gH4, gH7, gH9, emid.symm, eq_self]
                (refine pCall_view (by simp -implicitDefEqProofs (disch := omega) only [g2, g4, g5, g6, g7, g9, g10, g11, g12, gH0, gH2, gH3, gH4, gH7, gH9, emid.symm, go_sem, ht, eq_self] <;> rfl) (by simp -implicitDefEqProofs (disch := omega) only [g2, g4, g5, g6, g7, g9, g10, g11, g12, gH0, gH2, gH3, gH4, gH7, gH9, emid.symm, go_sem, ht, eq_self]) (by first | (apply Or.inl; simp -implicitDefEqProofs (disch := omega) only [g2, g4, g5, g6, g7, g9, g10, g11, g12, gH0, gH2, gH3, gH4, gH7, gH9, emid.symm, go_sem, ht, eq_self]; done) | (apply Or.inr; rintro r rfl; rfl)) (hsmm) ?_; rintro _ nx - rfl hnx; (try simp only [put_nx, withH_nx, begP_nx] at hnx); simp -implicitDefEqProofs (disch := omega) only [g2, g4, g5, g6, g7, g9, g10, g11, g12, gH0, gH2, gH3, gH4, gH7, gH9, emid.symm, go_sem, ht, eq_self])
                (refine pCall_view (by simp -implicitDefEqProofs (disch := omega) only [g2, g4, g5, g6, g7, g9, g10, g11, g12, gH0, gH2, gH3, gH4, gH7, gH9, emid.symm, go_sem, ht, eq_self] <;> rfl) (by simp -implicitDefEqProofs (disch := omega) only [g2, g4, g5, g6, g7, g9, g10, g11, g12, gH0, gH2, gH3, gH4, gH7, gH9, emid.symm, go_sem, ht, eq_self]) (by first | (apply Or.inl; simp -implicitDefEqProofs (disch := omega) only [g2, g4, g5, g6, g7, g9, g10, g11, g12, gH0, gH2, gH3, gH4, gH7, gH9, emid.symm, go_sem, ht, eq_self]; done) | (apply Or.inr; rintro r rfl; rfl)) (hmm) ?_; rintro _ nx - rfl hnx; (try simp only [put_nx, withH_nx, begP_nx] at hnx); simp -implicitDefEqProofs (disch := omega) only [g2, g4, g5, g6, g7, g9, g10, g11, g12, gH0, gH2, gH3, gH4, gH7, gH9, emid.symm, go_sem, ht, eq_self])
                (refine pCall_view (by simp -implicitDefEqProofs (disch := omega) only [g2, g4, g5, g6, g7, g9, g10, g11, g12, gH0, gH2, gH3, gH4, gH7, gH9, emid.symm, go_sem, ht, eq_self] <;> rfl) (by simp -implicitDefEqProofs (disch := omega) only [g2, g4, g5, g6, g7, g9, g10, g11, g12, gH0, gH2, gH3, gH4, gH7, gH9, emid.symm, go_sem, ht, eq_self]) (by first | (apply Or.inl; simp -implicitDefEqProofs (disch := omega) only [g2, g4, g5, g6, g7, g9, g10, g11, g12, gH0, gH2, gH3, gH4, gH7, gH9, emid.symm, go_sem, ht, eq_self]; done) | (apply Or.inr; rintro r rfl; rfl)) (hsz2) ?_; rintro _ nx - rfl hnx; (try simp only [put_nx, withH_nx, begP_nx] at hnx); simp -implicitDefEqProofs (disch := omega) only [g2, g4, g5, g6, g7, g9, g10, g11, g12, gH0, gH2, gH3, gH4, gH7, gH9, emid.symm, go_sem, ht, eq_self])
                exact ⟨⟨by omega, lo, mid - 1, rfl, rfl, by omega, by omega, hlo, hcm⟩, by omega⟩
            · have hle2 : lo = hi := by omega
              subst hle2
              have hbm : b * lo < b * 10000 := Nat.mul_lt_mul_of_pos_left (by omega) (Nat.pos_of_ne_zero hb0)
              have hsmm := hsmb lo (by omega)
              rw [hvb, Nat.add_zero] at hsmm
              have hmm := made_calls (hok _ hbm)
              rw [V_D, NP_def] at hmm
              have hml := (hok _ hbm).len
              have hsub := nminus_calls oR (hok _ hbm) hlo.out
              simp only [NP_def] at hsub
              have hR2 : R1 - b * lo < b := by
                have h1 := hhi2.out
                have h2 := hlo.out
                rw [Nat.mul_add, Nat.mul_one] at h1
                omega
              have hal2 := halg lo hlo.out
              have hset : Lm (zs.set i lo) := fun x hx => by
                rcases List.mem_or_eq_of_mem_set hx with h | h
                · exact hzm x h
                · omega
              have hds : Hide (b * V ((zs.set i lo).drop i) + (R1 - b * lo) = V (xs.drop i)) := by
                rw [V_set_drop (by omega)]; exact hal2
              have hrl2 := (hok (R1 - b * lo) (by omega)).len
              clear halg hal2
              simp -implicitDefEqProofs (disch := omega) only [go_sem, ht, g2, g4, g5, g6, g7, g9, g10, g11, g12, gH0, gH2, gH3, gH4, gH7, gH9, eq_self]
              (refine pCall_view (by simp -implicitDefEqProofs (disch := omega) only [g2, g4, g5, g6, g7, g9, g10, g11, g12, gH0, gH2, gH3, gH4, gH7, gH9, go_sem, ht, eq_self] <;> rfl) (by simp -implicitDefEqProofs (disch := omega) only [g2, g4, g5, g6, g7, g9, g10, g11, g12, gH0, gH2, gH3, gH4, gH7, gH9, go_sem, ht, eq_self]) (by first | (apply Or.inl; simp -implicitDefEqProofs (disch := omega) only [g2, g4, g5, g6, g7, g9, g10, g11, g12, gH0, gH2, gH3, gH4, gH7, gH9, go_sem, ht, eq_self]; done) | (apply Or.inr; rintro r rfl; rfl)) (hsmm) ?_; rintro _ nx - rfl hnx; (try simp only [put_nx, withH_nx, begP_nx] at hnx); simp -implicitDefEqProofs (disch := omega) only [g2, g4, g5, g6, g7, g9, g10, g11, g12, gH0, gH2, gH3, gH4, gH7, gH9, go_sem, ht, eq_self])
              (refine pCall_view (by simp -implicitDefEqProofs (disch := omega) only [g2, g4, g5, g6, g7, g9, g10, g11, g12, gH0, gH2, gH3, gH4, gH7, gH9, go_sem, ht, eq_self] <;> rfl) (by simp -implicitDefEqProofs (disch := omega) only [g2, g4, g5, g6, g7, g9, g10, g11, g12, gH0, gH2, gH3, gH4, gH7, gH9, go_sem, ht, eq_self]) (by first | (apply Or.inl; simp -implicitDefEqProofs (disch := omega) only [g2, g4, g5, g6, g7, g9, g10, g11, g12, gH0, gH2, gH3, gH4, gH7, gH9, go_sem, ht, eq_self]; done) | (apply Or.inr; rintro r rfl; rfl)) (hmm) ?_; rintro _ nx - rfl hnx; (try simp only [put_nx, withH_nx, begP_nx] at hnx); simp -implicitDefEqProofs (disch := omega) only [g2, g4, g5, g6, g7, g9, g10, g11, g12, gH0, gH2, gH3, gH4, gH7, gH9, go_sem, ht, eq_self])
              (refine pCall_view (by simp -implicitDefEqProofs (disch := omega) only [g2, g4, g5, g6, g7, g9, g10, g11, g12, gH0, gH2, gH3, gH4, gH7, gH9, go_sem, ht, eq_self] <;> rfl) (by simp -implicitDefEqProofs (disch := omega) only [g2, g4, g5, g6, g7, g9, g10, g11, g12, gH0, gH2, gH3, gH4, gH7, gH9, go_sem, ht, eq_self]) (by first | (apply Or.inl; simp -implicitDefEqProofs (disch := omega) only [g2, g4, g5, g6, g7, g9, g10, g11, g12, gH0, gH2, gH3, gH4, gH7, gH9, go_sem, ht, eq_self]; done) | (apply Or.inr; rintro r rfl; rfl)) (hsub) ?_; rintro _ nx - rfl hnx; (try simp only [put_nx, withH_nx, begP_nx] at hnx); simp -implicitDefEqProofs (disch := omega) only [g2, g4, g5, g6, g7, g9, g10, g11, g12, gH0, gH2, gH3, gH4, gH7, gH9, go_sem, ht, eq_self])
              exact ⟨⟨r7, r9, i, R1 - b * lo, rfl, by simp -implicitDefEqProofs (disch := omega) only [go_sem, ht, gH7, eq_self], rfl, by omega, by omega, by omega, by simp -implicitDefEqProofs (disch := omega) only [go_sem, ht, eq_self], by omega, rfl, hR2, zs.set i lo, by simp [hzl], rfl, hset, hds⟩, by omega⟩
    · have hT2 : List.take (xs.length - (xs.length - ys.length + 1)) ((xs.drop (xs.length - ys.length + 1)).map I ++ List.map PV.val rest') = (xs.drop (xs.length - ys.length + 1)).map I := by rw [← hdl]; exact take_Il _ _
      simp -implicitDefEqProofs (disch := omega) only [go_sem, ht, eq_self]
      (refine pCall_frz (fun i => decide (i = nx + 1)) 1 (by simp -implicitDefEqProofs (disch := omega) only [dropH_at, decide_eq_true_eq, hT2, if_pos, if_neg, go_sem, ht, eq_self] <;> rfl) (by simp -implicitDefEqProofs (disch := omega) only [dropH_at, decide_eq_true_eq, hT2, if_pos, if_neg, go_sem, ht, eq_self]) (by simp -implicitDefEqProofs (disch := omega) only [dropH_at, decide_eq_true_eq, hT2, if_pos, if_neg, go_sem, ht, eq_self] <;> rfl) (by simp -implicitDefEqProofs (disch := omega) only [dropH_at, decide_eq_true_eq, hT2, if_pos, if_neg, go_sem, ht, eq_self]) (hmd) ?_; rintro _ nx - rfl hnx; (try simp only [put_nx, withH_nx, begP_nx] at hnx); simp -implicitDefEqProofs (disch := omega) only [dropH_at, decide_eq_true_eq, hT2, if_pos, if_neg, go_sem, ht, eq_self])
      refine LW.loopW hc ht (by kernel_rfl) (fun t => t.sl 2 = .ptr 0 0 ∧ t.sl 4 = .ptr 2 0 ∧ t.sl 5 = .ptr 3 0 ∧ t.sl 6 = .ref 4 0 xs.length xs.length 1 ∧ t.H 0 = some [.val (.bool fa), .sl xs.length (xs.map I)] ∧ t.H 2 = some [.val (.bool false), .val (.slice none 0 0)] ∧ t.H 3 = some [.val (.bool false), .val (.slice none 0 0)] ∧
          ∃ r7 r9 k R : Nat, t.sl 7 = .ptr r7 0 ∧ t.H r7 = some [.val (.bool false), .sl ys.length (ys.map I)] ∧ t.sl 9 = .ptr r9 0 ∧ 4 < r7 ∧ r7 < r9 ∧ r9 < t.nx ∧ t.H r9 = some [.val (.bool false), .sl (D R).length ((D R).map I)] ∧ k ≤ xs.length ∧ t.sl 10 = .val (.int .i64 ((k : Int) - 1)) ∧ R < b ∧
          ∃ zs : List Nat, zs.length = xs.length ∧ t.H 4 = some (zs.map I) ∧ Lm zs ∧ Hide (b * V (zs.drop k) + R = V (xs.drop k)))
          (fun t => match t.sl 10 with | .val (.int _ j) => (j + 1).toNat | _ => 0) ?_ ?_
      · simp -implicitDefEqProofs (disch := omega) only [go_sem, ht, dropH_at, decide_eq_true_eq, if_neg, eq_self]
        refine ⟨_, _, (xs.length - ys.length + 1), V (xs.drop (xs.length - ys.length + 1)), rfl, ?_, rfl, by omega, by omega, by omega, ?_, by omega, by first | rfl | (congr 2; omega), hst, List.replicate xs.length 0, by simp, ?_, Lm_repl _, Hide.mk ?_⟩
        · simp -implicitDefEqProofs (disch := omega) only [go_sem, ht, dropH_at, decide_eq_true_eq, if_neg, eq_self]
        · simp -implicitDefEqProofs (disch := omega) only [go_sem, ht, dropH_at, decide_eq_true_eq, if_neg, eq_self]
        · simp -implicitDefEqProofs (disch := omega) only [go_sem, ht, dropH_at, decide_eq_true_eq, if_neg, eq_self]
        · rw [List.drop_replicate, V_repl]; omega
      · rintro t ⟨h2, h4, h5, h6, hH0, hH2, hH3, r7, r9, k, R, h7, hH7, h9, hr1, hr2, hr3, hH9, hk, h10, hR, zs, hzl, hH4, hzm, heq⟩
        have hxk := ha.len
        by_cases hk0 : k = 0
        · subst hk0
          have hq := heq.out
          rw [List.drop_zero, List.drop_zero, hva] at hq
          obtain ⟨q1, q2⟩ := hfin zs R hq hR
          have hmz := made_calls (xs := zs) ⟨hzm, by omega⟩
          rw [NP_def, SI_def, hzl] at hmz
          have hT4 : List.take xs.length (zs.map I) = zs.map I := List.take_of_length_le (by simp [hzl])
          rw [q1, q2]
          clear q1 q2 hq heq
          simp -implicitDefEqProofs (disch := omega) only [go_sem, ht, h2, h4, h5, h6, h7, h9, h10, hH0, hH2, hH3, hH4, hH7, hH9, eq_self]
          (refine pCall_frz (fun i => decide (i = 4)) 1 (by simp -implicitDefEqProofs (disch := omega) only [dropH_at, decide_eq_true_eq, h2, h4, h5, h6, h7, h9, h10, hH0, hH2, hH3, hH4, hH7, hH9, hT4, hzl, if_pos, if_neg, Nat.le_refl, go_sem, ht, eq_self] <;> rfl) (by simp -implicitDefEqProofs (disch := omega) only [dropH_at, decide_eq_true_eq, h2, h4, h5, h6, h7, h9, h10, hH0, hH2, hH3, hH4, hH7, hH9, hT4, hzl, if_pos, if_neg, Nat.le_refl, go_sem, ht, eq_self]) (by simp -implicitDefEqProofs (disch := omega) only [dropH_at, decide_eq_true_eq, h2, h4, h5, h6, h7, h9, h10, hH0, hH2, hH3, hH4, hH7, hH9, hT4, hzl, if_pos, if_neg, Nat.le_refl, go_sem, ht, eq_self] <;> rfl) (by simp -implicitDefEqProofs (disch := omega) only [dropH_at, decide_eq_true_eq, h2, h4, h5, h6, h7, h9, h10, hH0, hH2, hH3, hH4, hH7, hH9, hT4, hzl, if_pos, if_neg, Nat.le_refl, go_sem, ht, eq_self]) (hmz) ?_; rintro _ nx - rfl hnx; (try simp only [put_nx, withH_nx, begP_nx] at hnx); simp -implicitDefEqProofs (disch := omega) only [dropH_at, decide_eq_true_eq, h2, h4, h5, h6, h7, h9, h10, hH0, hH2, hH3, hH4, hH7, hH9, hT4, hzl, if_pos, if_neg, Nat.le_refl, go_sem, ht, eq_self])
          (refine end_treeN 2 ?_; simp -implicitDefEqProofs (disch := omega) only [go_sem, ht, h2, h4, h5, h6, h7, h9, h10, hH0, hH2, hH3, hH4, hH7, hH9, if_neg, eq_self])
        · obtain ⟨i, rfl⟩ : ∃ i, k = i + 1 := ⟨k - 1, by omega⟩
          have e1 : (((i + 1 : Nat) : Int) - 1) = (i : Int) := by omega
          rw [e1] at h10
          have hxg := hxm.get i
          have hR1 : R * 10000 + xs.getD i 0 < b * 10000 := by omega
          have hsm := small_calls (xs := D R) (k := 10000) (more := xs.getD i 0) (hok R (by omega)) (by omega) (by omega)
          rw [V_D] at hsm
          have hV := V_drop xs (i := i) (by omega)
          obtain ⟨R1, eR1⟩ : ∃ R1, R1 = R * 10000 + xs.getD i 0 := ⟨_, rfl⟩
          rw [← eR1] at hsm hR1
          have hm1 := made_calls (hok R1 hR1)
          rw [V_D, NP_def] at hm1
          have oR := hok R1 hR1
          have hoRl := oR.len
          have halg : ∀ q, b * q ≤ R1 → Hide (b * (q + 10000 * V (zs.drop (i + 1))) + (R1 - b * q) = V (xs.drop i)) := fun q hq => by
            rw [eR1] at hq ⊢
            rw [hV]
            exact Hide.mk (div_alg heq.out hq)
          clear heq hV
          simp -implicitDefEqProofs (disch := omega) only [go_sem, ht, h2, h4, h5, h6, h7, h9, h10, hH0, hH2, hH3, hH4, hH7, hH9, eq_self]
          (refine pCall_view (by simp -implicitDefEqProofs (disch := omega) only [h2, h4, h5, h6, h7, h9, h10, hH0, hH2, hH3, hH4, hH7, hH9, go_sem, ht, eq_self] <;> rfl) (by simp -implicitDefEqProofs (disch := omega) only [h2, h4, h5, h6, h7, h9, h10, hH0, hH2, hH3, hH4, hH7, hH9, go_sem, ht, eq_self]) (by first | (apply Or.inl; simp -implicitDefEqProofs (disch := omega) only [h2, h4, h5, h6, h7, h9, h10, hH0, hH2, hH3, hH4, hH7, hH9, go_sem, ht, eq_self]; done) | (apply Or.inr; rintro r rfl; rfl)) (hsm) ?_; rintro _ nx - rfl hnx; (try simp only [put_nx, withH_nx, begP_nx] at hnx); simp -implicitDefEqProofs (disch := omega) only [h2, h4, h5, h6, h7, h9, h10, hH0, hH2, hH3, hH4, hH7, hH9, go_sem, ht, eq_self])
          (refine pCall_view (by simp -implicitDefEqProofs (disch := omega) only [h2, h4, h5, h6, h7, h9, h10, hH0, hH2, hH3, hH4, hH7, hH9, go_sem, ht, eq_self] <;> rfl) (by simp -implicitDefEqProofs (disch := omega) only [h2, h4, h5, h6, h7, h9, h10, hH0, hH2, hH3, hH4, hH7, hH9, go_sem, ht, eq_self]) (by first | (apply Or.inl; simp -implicitDefEqProofs (disch := omega) only [h2, h4, h5, h6, h7, h9, h10, hH0, hH2, hH3, hH4, hH7, hH9, go_sem, ht, eq_self]; done) | (apply Or.inr; rintro r rfl; rfl)) (hm1) ?_; rintro _ nx - rfl hnx; (try simp only [put_nx, withH_nx, begP_nx] at hnx); simp -implicitDefEqProofs (disch := omega) only [h2, h4, h5, h6, h7, h9, h10, hH0, hH2, hH3, hH4, hH7, hH9, go_sem, ht, eq_self])
          refine LW.loopW hc ht (by kernel_rfl) (fun s => s.sl 2 = .ptr 0 0 ∧ s.sl 4 = .ptr 2 0 ∧ s.sl 5 = .ptr 3 0 ∧ s.sl 6 = .ref 4 0 xs.length xs.length 1 ∧ s.sl 7 = .ptr r7 0 ∧ s.sl 9 = .ptr r9 0 ∧ s.sl 10 = .val (.int .i64 i) ∧ s.H 0 = some [.val (.bool fa), .sl xs.length (xs.map I)] ∧ s.H 2 = some [.val (.bool false), .val (.slice none 0 0)] ∧ s.H 3 = some [.val (.bool false), .val (.slice none 0 0)] ∧
              s.H 4 = some (zs.map I) ∧ s.H r7 = some [.val (.bool false), .sl ys.length (ys.map I)] ∧ s.H r9 = some [.val (.bool false), .sl (D R1).length ((D R1).map I)] ∧ r9 < s.nx ∧ ∃ lo hi : Nat, s.sl 11 = .val (.int .i64 lo) ∧ s.sl 12 = .val (.int .i64 hi) ∧ lo ≤ hi ∧ hi ≤ 9999 ∧ Hide (b * lo ≤ R1) ∧ Hide (R1 < b * (hi + 1)))
            (fun s => match s.sl 11, s.sl 12 with | .val (.int _ lo), .val (.int _ hi) => hi.toNat - lo.toNat | _, _ => 0) ?_ ?_
          · simp -implicitDefEqProofs (disch := omega) only [go_sem, ht, h2, h4, h5, h6, h7, h9, h10, hH0, hH2, hH3, hH4, hH7, hH9, eq_self]
            exact ⟨by omega, 0, 9999, rfl, rfl, by omega, by omega, Hide.mk (by simp), Hide.mk hR1⟩
          · clear h2 h4 h5 h6 h7 h9 hH0 hH2 hH3 hH4 hH7 hH9
            rintro s ⟨g2, g4, g5, g6, g7, g9, g10, gH0, gH2, gH3, gH4, gH7, gH9, gnx, lo, hi, g11, g12, hlh, hhi, hlo, hhi2⟩
            by_cases hlt : lo < hi
            · have hmid : (lo + hi + 1) / 2 ≤ hi ∧ lo < (lo + hi + 1) / 2 := by omega
              obtain ⟨mid, emid⟩ : ∃ mid, mid = (lo + hi + 1) / 2 := ⟨_, rfl⟩
              rw [← emid] at hmid
              have hsmm := hsmb mid (by omega)
              rw [hvb, Nat.add_zero] at hsmm
              have hbm : b * mid < b * 10000 := Nat.mul_lt_mul_of_pos_left (by omega) (Nat.pos_of_ne_zero hb0)
              have hmm := made_calls (hok _ hbm)
              rw [V_D, NP_def] at hmm
              have hsz2 := size_calls (f := false) (g := false) (hok _ hbm) oR
              rw [NP_def, NP_def] at hsz2
              have hml := (hok _ hbm).len
              by_cases hcm : b * mid ≤ R1
              · have hc0 : cmpI (b * mid) R1 ≤ 0 := by
                  unfold cmpI; split
                  · omega
                  · split <;> omega
                have hcm := Hide.mk hcm
                generalize cmpI (b * mid) R1 = cm at *
                simp -implicitDefEqProofs (disch := omega) only [go_sem, ht, g2, g4, g5, g6, g7, g9, g10, g11, g12, gH0, gH2, gH3, gH4, gH7, gH9, emid.symm, eq_self]
                (refine pCall_view (by simp -implicitDefEqProofs (disch := omega) only [g2, g4, g5, g6, g7, g9, g10, g11, g12, gH0, gH2, gH3, gH4, gH7, gH9, emid.symm, go_sem, ht, eq_self] <;> rfl) (by simp -implicitDefEqProofs (disch := omega) only [g2, g4, g5, g6, g7, g9, g10, g11, g12, gH0, gH2, gH3, gH4, gH7, gH9, emid.symm, go_sem, ht, eq_self]) (by first | (apply Or.inl; simp -implicitDefEqProofs (disch := omega) only [g2, g4, g5, g6, g7, g9, g10, g11, g12, gH0, gH2, gH3, gH4, gH7, gH9, emid.symm, go_sem, ht, eq_self]; done) | (apply Or.inr; rintro r rfl; rfl)) (hsmm) ?_; rintro _ nx - rfl hnx; (try simp only [put_nx, withH_nx, begP_nx] at hnx); simp -implicitDefEqProofs (disch := omega) only [g2, g4, g5, g6, g7, g9, g10, g11, g12, gH0, gH2, gH3, gH4, gH7, gH9, emid.symm, go_sem, ht, eq_self])
                (refine pCall_view (by simp -implicitDefEqProofs (disch := omega) only [g2, g4, g5, g6, g7, g9, g10, g11, g12, gH0, gH2, gH3, gH4, gH7, gH9, emid.symm, go_sem, ht, eq_self] <;> rfl) (by simp -implicitDefEqProofs (disch := omega) only [g2, g4, g5, g6, g7, g9, g10, g11, g12, gH0, gH2, gH3, gH4, gH7, gH9, emid.symm, go_sem, ht, eq_self]) (by first | (apply Or.inl; simp -implicitDefEqProofs (disch := omega) only [g2, g4, g5, g6, g7, g9, g10, g11, g12, gH0, gH2, gH3, gH4, gH7, gH9, emid.symm, go_sem, ht, eq_self]; done) | (apply Or.inr; rintro r rfl; rfl)) (hmm) ?_; rintro _ nx - rfl hnx; (try simp only [put_nx, withH_nx, begP_nx] at hnx); simp -implicitDefEqProofs (disch := omega) only [g2, g4, g5, g6, g7, g9, g10, g11, g12, gH0, gH2, gH3, gH4, gH7, gH9, emid.symm, go_sem, ht, eq_self])
                (refine pCall_view (by simp -implicitDefEqProofs (disch := omega) only [g2, g4, g5, g6, g7, g9, g10, g11, g12, gH0, gH2, gH3, gH4, gH7, gH9, emid.symm, go_sem, ht, eq_self] <;> rfl) (by simp -implicitDefEqProofs (disch := omega) only [g2, g4, g5, g6, g7, g9, g10, g11, g12, gH0, gH2, gH3, gH4, gH7, gH9, emid.symm, go_sem, ht, eq_self]) (by first | (apply Or.inl; simp -implicitDefEqProofs (disch := omega) only [g2, g4, g5, g6, g7, g9, g10, g11, g12, gH0, gH2, gH3, gH4, gH7, gH9, emid.symm, go_sem, ht, eq_self]; done) | (apply Or.inr; rintro r rfl; rfl)) (hsz2) ?_; rintro _ nx - rfl hnx; (try simp only [put_nx, withH_nx, begP_nx] at hnx); simp -implicitDefEqProofs (disch := omega) only [g2, g4, g5, g6, g7, g9, g10, g11, g12, gH0, gH2, gH3, gH4, gH7, gH9, emid.symm, go_sem, ht, eq_self])
                exact ⟨⟨by omega, mid, hi, rfl, rfl, by omega, by omega, hcm, hhi2⟩, by omega⟩
              · have hc0 : 0 < cmpI (b * mid) R1 := by
                  unfold cmpI; split
                  · omega
                  · split <;> omega
                have hcm := Hide.mk (show R1 < b * (mid - 1 + 1) by rw [Nat.sub_add_cancel (by omega)]; omega)
                generalize cmpI (b * mid) R1 = cm at *
                simp -implicitDefEqProofs (disch := omega) only [go_sem, ht, g2, g4, g5, g6, g7, g9, g10, g11, g12, gH0, gH2, gH3, gH4, gH7, gH9, emid.symm, eq_self]
                (refine pCall_view (by simp -implicitDefEqProofs (disch := omega) only [g2, g4, g5, g6, g7, g9, g10, g11, g12, gH0, gH2, gH3, gH4, gH7, gH9, emid.symm, go_sem, ht, eq_self] <;> rfl) (by simp -implicitDefEqProofs (disch := omega) only [g2, g4, g5, g6, g7, g9, g10, g11, g12, gH0, gH2, gH3, gH4, gH7, gH9, emid.symm, go_sem, ht, eq_self]) (by first | (apply Or.inl; simp -implicitDefEqProofs (disch := omega) only [g2, g4, g5, g6, g7, g9, g10, g11, g12, gH0, gH2, gH3, gH4, gH7, gH9, emid.symm, go_sem, ht, eq_self]; done) | (apply Or.inr; rintro r rfl; rfl)) (hsmm) ?_; rintro _ nx - rfl hnx; (try simp only [put_nx, withH_nx, begP_nx] at hnx); simp -implicitDefEqProofs (disch := omega) only [g2, g4, g5, g6, g7, g9, g10, g11, g12, gH0, gH2, gH3, gH4, gH7, gH9, emid.symm, go_sem, ht, eq_self])
                (refine pCall_view (by simp -implicitDefEqProofs (disch := omega) only [g2, g4, g5, g6, g7, g9, g10, g11, g12, gH0, gH2, gH3, gH4, gH7, gH9, emid.symm, go_sem, ht, eq_self] <;> rfl) (by simp -implicitDefEqProofs (disch := omega) only [g2, g4, g5, g6, g7, g9, g10, g11, g12, gH0, gH2, gH3, gH4, gH7, gH9, emid.symm, go_sem, ht, eq_self]) (by first | (apply Or.inl; simp -implicitDefEqProofs (disch := omega) only [g2, g4, g5, g6, g7, g9, g10, g11, g12, gH0, gH2, gH3, gH4, gH7, gH9, emid.symm, go_sem, ht, eq_self]; done) | (apply Or.inr; rintro r rfl; rfl)) (hmm) ?_; rintro _ nx - rfl hnx; (try simp only [put_nx, withH_nx, begP_nx] at hnx); simp -implicitDefEqProofs (disch := omega) only [g2, g4, g5, g6, g7, g9, g10, g11, g12, gH0, gH2, gH3, gH4, gH7, gH9, emid.symm, go_sem, ht, eq_self])
                (refine pCall_view (by simp -implicitDefEqProofs (disch := omega) only [g2, g4, g5, g6, g7, g9, g10, g11, g12, gH0, gH2, gH3, gH4, gH7, gH9, emid.symm, go_sem, ht, eq_self] <;> rfl) (by simp -implicitDefEqProofs (disch := omega) only [g2, g4, g5, g6, g7, g9, g10, g11, g12, gH0, gH2, gH3, gH4, gH7, gH9, emid.symm, go_sem, ht, eq_self]) (by first | (apply Or.inl; simp -implicitDefEqProofs (disch := omega) only [g2, g4, g5, g6, g7, g9, g10, g11, g12, gH0, gH2, gH3, gH4, gH7, gH9, emid.symm, go_sem, ht, eq_self]; done) | (apply Or.inr; rintro r rfl; rfl)) (hsz2) ?_; rintro _ nx - rfl hnx; (try simp only [put_nx, withH_nx, begP_nx] at hnx); simp -implicitDefEqProofs (disch := omega) only [g2, g4, g5, g6, g7, g9, g10, g11, g12, gH0, gH2, gH3, gH4, gH7, gH9, emid.symm, go_sem, ht, eq_self])
                exact ⟨⟨by omega, lo, mid - 1, rfl, rfl, by omega, by omega, hlo, hcm⟩, by omega⟩
            · have hle2 : lo = hi := by omega
              subst hle2
              have hbm : b * lo < b * 10000 := Nat.mul_lt_mul_of_pos_left (by omega) (Nat.pos_of_ne_zero hb0)
              have hsmm := hsmb lo (by omega)
              rw [hvb, Nat.add_zero] at hsmm
              have hmm := made_calls (hok _ hbm)
              rw [V_D, NP_def] at hmm
              have hml := (hok _ hbm).len
              have hsub := nminus_calls oR (hok _ hbm) hlo.out
              simp only [NP_def] at hsub
              have hR2 : R1 - b * lo < b := by
                have h1 := hhi2.out
                have h2 := hlo.out
                rw [Nat.mul_add, Nat.mul_one] at h1
                omega
              have hal2 := halg lo hlo.out
              have hset : Lm (zs.set i lo) := fun x hx => by
                rcases List.mem_or_eq_of_mem_set hx with h | h
                · exact hzm x h
                · omega
              have hds : Hide (b * V ((zs.set i lo).drop i) + (R1 - b * lo) = V (xs.drop i)) := by
                rw [V_set_drop (by omega)]; exact hal2
              have hrl2 := (hok (R1 - b * lo) (by omega)).len
              clear halg hal2
              simp -implicitDefEqProofs (disch := omega) only [go_sem, ht, g2, g4, g5, g6, g7, g9, g10, g11, g12, gH0, gH2, gH3, gH4, gH7, gH9, eq_self]
              (refine pCall_view (by simp -implicitDefEqProofs (disch := omega) only [g2, g4, g5, g6, g7, g9, g10, g11, g12, gH0, gH2, gH3, gH4, gH7, gH9, go_sem, ht, eq_self] <;> rfl) (by simp -implicitDefEqProofs (disch := omega) only [g2, g4, g5, g6, g7, g9, g10, g11, g12, gH0, gH2, gH3, gH4, gH7, gH9, go_sem, ht, eq_self]) (by first | (apply Or.inl; simp -implicitDefEqProofs (disch := omega) only [g2, g4, g5, g6, g7, g9, g10, g11, g12, gH0, gH2, gH3, gH4, gH7, gH9, go_sem, ht, eq_self]; done) | (apply Or.inr; rintro r rfl; rfl)) (hsmm) ?_; rintro _ nx - rfl hnx; (try simp only [put_nx, withH_nx, begP_nx] at hnx); simp -implicitDefEqProofs (disch := omega) only [g2, g4, g5, g6, g7, g9, g10, g11, g12, gH0, gH2, gH3, gH4, gH7, gH9, go_sem, ht, eq_self])
              (refine pCall_view (by simp -implicitDefEqProofs (disch := omega) only [g2, g4, g5, g6, g7, g9, g10, g11, g12, gH0, gH2, gH3, gH4, gH7, gH9, go_sem, ht, eq_self] <;> rfl) (by simp -implicitDefEqProofs (disch := omega) only [g2, g4, g5, g6, g7, g9, g10, g11, g12, gH0, gH2, gH3, gH4, gH7, gH9, go_sem, ht, eq_self]) (by first | (apply Or.inl; simp -implicitDefEqProofs (disch := omega) only [g2, g4, g5, g6, g7, g9, g10, g11, g12, gH0, gH2, gH3, gH4, gH7, gH9, go_sem, ht, eq_self]; done) | (apply Or.inr; rintro r rfl; rfl)) (hmm) ?_; rintro _ nx - rfl hnx; (try simp only [put_nx, withH_nx, begP_nx] at hnx); simp -implicitDefEqProofs (disch := omega) only [g2, g4, g5, g6, g7, g9, g10, g11, g12, gH0, gH2, gH3, gH4, gH7, gH9, go_sem, ht, eq_self])
              (refine pCall_view (by simp -implicitDefEqProofs (disch := omega) only [g2, g4, g5, g6, g7, g9, g10, g11, g12, gH0, gH2, gH3, gH4, gH7, gH9, go_sem, ht, eq_self] <;> rfl) (by simp -implicitDefEqProofs (disch := omega) only [g2, g4, g5, g6, g7, g9, g10, g11, g12, gH0, gH2, gH3, gH4, gH7, gH9, go_sem, ht, eq_self]) (by first | (apply Or.inl; simp -implicitDefEqProofs (disch := omega) only [g2, g4, g5, g6, g7, g9, g10, g11, g12, gH0, gH2, gH3, gH4, gH7, gH9, go_sem, ht, eq_self]; done) | (apply Or.inr; rintro r rfl; rfl)) (hsub) ?_; rintro _ nx - rfl hnx; (try simp only [put_nx, withH_nx, begP_nx] at hnx); simp -implicitDefEqProofs (disch := omega) only [g2, g4, g5, g6, g7, g9, g10, g11, g12, gH0, gH2, gH3, gH4, gH7, gH9, go_sem, ht, eq_self])
              exact ⟨⟨r7, r9, i, R1 - b * lo, rfl, by simp -implicitDefEqProofs (disch := omega) only [go_sem, ht, gH7, eq_self], rfl, by omega, by omega, by omega, by simp -implicitDefEqProofs (disch := omega) only [go_sem, ht, eq_self], by omega, rfl, hR2, zs.set i lo, by simp [hzl], rfl, hset, hds⟩, by omega⟩
  · have hskip : (xs.length : Int) - ys.length + 1 ≤ 0 := by omega
    by_cases hs2 : ys.length = xs.length + 1
    · have hsk2 : (xs.length : Int) - ys.length + 1 = 0 := by omega
      (refine pCall_view (by simp -implicitDefEqProofs (disch := omega) only [hsk2, go_sem, ht, eq_self] <;> rfl) (by simp -implicitDefEqProofs (disch := omega) only [hsk2, go_sem, ht, eq_self]) (by first | (apply Or.inl; simp -implicitDefEqProofs (disch := omega) only [hsk2, go_sem, ht, eq_self]; done) | (apply Or.inr; rintro r rfl; rfl)) (hab) ?_; rintro _ nx - rfl hnx; (try simp only [put_nx, withH_nx, begP_nx] at hnx); simp -implicitDefEqProofs (disch := omega) only [hsk2, go_sem, ht, eq_self])
      have hT : List.take (xs.length) ((xs.map I)) = (xs).map I := by exact List.take_of_length_le (by simp)
      have hdl : xs.length = xs.length := rfl
      have hmd := made_calls (xs := xs) ⟨hxm, by omega⟩
      have hst := (by have h := hstart 0 (by omega); rwa [List.drop_zero] at h : V xs < b)
      have hrl := Nat.le_trans (D_len_V (hxm)) (Nat.le_of_eq hdl)
      rw [NP_def, SI_def] at hmd
      refine append_nil (e := 3) (b := 8) (m := xs.length) (z := .int .i64 0) (ys := (xs).map I) T23_elem rfl T3_size T3_bytes T3_zero (by simp -implicitDefEqProofs (disch := omega) only [go_sem, ht, srcP_sl, hT, if_pos, eq_self]) (by simp -implicitDefEqProofs (disch := omega) only [go_sem, ht, eq_self]) (by omega) (fun h0 => ?_) fun cap' rest' h1 h2 => ?_
      · have hz : xs = [] := List.eq_nil_of_length_eq_zero (by omega)
        have hst' := hst
        rw [h0, hz] at hmd
        simp -implicitDefEqProofs (disch := omega) only [go_sem, ht, eq_self]
        (refine pCall_view (by simp -implicitDefEqProofs (disch := omega) only [go_sem, ht, eq_self] <;> rfl) (by simp -implicitDefEqProofs (disch := omega) only [go_sem, ht, eq_self]) (by first | (apply Or.inl; simp -implicitDefEqProofs (disch := omega) only [go_sem, ht, eq_self]; done) | (apply Or.inr; rintro r rfl; rfl)) (hmd) ?_; rintro _ nx - rfl hnx; (try simp only [put_nx, withH_nx, begP_nx] at hnx); simp -implicitDefEqProofs (disch := omega) only [go_sem, ht, eq_self])
        refine LW.loopW hc ht (by kernel_rfl) (fun t => t.sl 2 = .ptr 0 0 ∧ t.sl 4 = .ptr 2 0 ∧ t.sl 5 = .ptr 3 0 ∧ t.sl 6 = .ref 4 0 xs.length xs.length 1 ∧ t.H 0 = some [.val (.bool fa), .sl xs.length (xs.map I)] ∧ t.H 2 = some [.val (.bool false), .val (.slice none 0 0)] ∧ t.H 3 = some [.val (.bool false), .val (.slice none 0 0)] ∧
            ∃ r7 r9 k R : Nat, t.sl 7 = .ptr r7 0 ∧ t.H r7 = some [.val (.bool false), .sl ys.length (ys.map I)] ∧ t.sl 9 = .ptr r9 0 ∧ 4 < r7 ∧ r7 < r9 ∧ r9 < t.nx ∧ t.H r9 = some [.val (.bool false), .sl (D R).length ((D R).map I)] ∧ k ≤ xs.length ∧ t.sl 10 = .val (.int .i64 ((k : Int) - 1)) ∧ R < b ∧
            ∃ zs : List Nat, zs.length = xs.length ∧ t.H 4 = some (zs.map I) ∧ Lm zs ∧ Hide (b * V (zs.drop k) + R = V (xs.drop k)))
            (fun t => match t.sl 10 with | .val (.int _ j) => (j + 1).toNat | _ => 0) ?_ ?_
        · simp -implicitDefEqProofs (disch := omega) only [go_sem, ht, eq_self]
          refine ⟨_, _, 0, V xs, rfl, ?_, rfl, by omega, by omega, by omega, ?_, by omega, by first | rfl | (congr 2; omega), hst, List.replicate xs.length 0, by simp, ?_, Lm_repl _, Hide.mk (by rw [List.drop_zero, List.drop_zero, V_repl]; omega)⟩
          · simp -implicitDefEqProofs (disch := omega) only [go_sem, ht, eq_self]
          · simp -implicitDefEqProofs (disch := omega) only [go_sem, ht, eq_self]
            rw [hz]
          · simp -implicitDefEqProofs (disch := omega) only [go_sem, ht, eq_self]
        · rintro t ⟨h2, h4, h5, h6, hH0, hH2, hH3, r7, r9, k, R, h7, hH7, h9, hr1, hr2, hr3, hH9, hk, h10, hR, zs, hzl, hH4, hzm, heq⟩
          have hxk := ha.len
          by_cases hk0 : k = 0
          · subst hk0
            have hq := heq.out
            rw [List.drop_zero, List.drop_zero, hva] at hq
            obtain ⟨q1, q2⟩ := hfin zs R hq hR
            have hmz := made_calls (xs := zs) ⟨hzm, by omega⟩
            rw [NP_def, SI_def, hzl] at hmz
            have hT4 : List.take xs.length (zs.map I) = zs.map I := List.take_of_length_le (by simp [hzl])
            rw [q1, q2]
            clear q1 q2 hq heq
            simp -implicitDefEqProofs (disch := omega) only [go_sem, ht, h2, h4, h5, h6, h7, h9, h10, hH0, hH2, hH3, hH4, hH7, hH9, eq_self]
            (refine pCall_frz (fun i => decide (i = 4)) 1 (by simp -implicitDefEqProofs (disch := omega) only [dropH_at, decide_eq_true_eq, h2, h4, h5, h6, h7, h9, h10, hH0, hH2, hH3, hH4, hH7, hH9, hT4, hzl, if_pos, if_neg, Nat.le_refl, go_sem, ht, eq_self] <;> rfl) (by simp -implicitDefEqProofs (disch := omega) only [dropH_at, decide_eq_true_eq, h2, h4, h5, h6, h7, h9, h10, hH0, hH2, hH3, hH4, hH7, hH9, hT4, hzl, if_pos, if_neg, Nat.le_refl, go_sem, ht, eq_self]) (by simp -implicitDefEqProofs (disch := omega) only [dropH_at, decide_eq_true_eq, h2, h4, h5, h6, h7, h9, h10, hH0, hH2, hH3, hH4, hH7, hH9, hT4, hzl, if_pos, if_neg, Nat.le_refl, go_sem, ht, eq_self] <;> rfl) (by simp -implicitDefEqProofs (disch := omega) only [dropH_at, decide_eq_true_eq, h2, h4, h5, h6, h7, h9, h10, hH0, hH2, hH3, hH4, hH7, hH9, hT4, hzl, if_pos, if_neg, Nat.le_refl, go_sem, ht, eq_self]) (hmz) ?_; rintro _ nx - rfl hnx; (try simp only [put_nx, withH_nx, begP_nx] at hnx); simp -implicitDefEqProofs (disch := omega) only [dropH_at, decide_eq_true_eq, h2, h4, h5, h6, h7, h9, h10, hH0, hH2, hH3, hH4, hH7, hH9, hT4, hzl, if_pos, if_neg, Nat.le_refl, go_sem, ht, eq_self])
            (refine end_treeN 2 ?_; simp -implicitDefEqProofs (disch := omega) only [go_sem, ht, h2, h4, h5, h6, h7, h9, h10, hH0, hH2, hH3, hH4, hH7, hH9, if_neg, eq_self])
          · omega
      · have hT2 : List.take (xs.length) ((xs).map I ++ List.map PV.val rest') = (xs).map I := by exact take_Il _ _
        simp -implicitDefEqProofs (disch := omega) only [go_sem, ht, eq_self]
        (refine pCall_frz (fun i => decide (i = nx + 1)) 1 (by simp -implicitDefEqProofs (disch := omega) only [dropH_at, decide_eq_true_eq, hT2, if_pos, if_neg, go_sem, ht, eq_self] <;> rfl) (by simp -implicitDefEqProofs (disch := omega) only [dropH_at, decide_eq_true_eq, hT2, if_pos, if_neg, go_sem, ht, eq_self]) (by simp -implicitDefEqProofs (disch := omega) only [dropH_at, decide_eq_true_eq, hT2, if_pos, if_neg, go_sem, ht, eq_self] <;> rfl) (by simp -implicitDefEqProofs (disch := omega) only [dropH_at, decide_eq_true_eq, hT2, if_pos, if_neg, go_sem, ht, eq_self]) (hmd) ?_; rintro _ nx - rfl hnx; (try simp only [put_nx, withH_nx, begP_nx] at hnx); simp -implicitDefEqProofs (disch := omega) only [dropH_at, decide_eq_true_eq, hT2, if_pos, if_neg, go_sem, ht, eq_self])
        refine LW.loopW hc ht (by kernel_rfl) (fun t => t.sl 2 = .ptr 0 0 ∧ t.sl 4 = .ptr 2 0 ∧ t.sl 5 = .ptr 3 0 ∧ t.sl 6 = .ref 4 0 xs.length xs.length 1 ∧ t.H 0 = some [.val (.bool fa), .sl xs.length (xs.map I)] ∧ t.H 2 = some [.val (.bool false), .val (.slice none 0 0)] ∧ t.H 3 = some [.val (.bool false), .val (.slice none 0 0)] ∧
            ∃ r7 r9 k R : Nat, t.sl 7 = .ptr r7 0 ∧ t.H r7 = some [.val (.bool false), .sl ys.length (ys.map I)] ∧ t.sl 9 = .ptr r9 0 ∧ 4 < r7 ∧ r7 < r9 ∧ r9 < t.nx ∧ t.H r9 = some [.val (.bool false), .sl (D R).length ((D R).map I)] ∧ k ≤ xs.length ∧ t.sl 10 = .val (.int .i64 ((k : Int) - 1)) ∧ R < b ∧
            ∃ zs : List Nat, zs.length = xs.length ∧ t.H 4 = some (zs.map I) ∧ Lm zs ∧ Hide (b * V (zs.drop k) + R = V (xs.drop k)))
            (fun t => match t.sl 10 with | .val (.int _ j) => (j + 1).toNat | _ => 0) ?_ ?_
        · simp -implicitDefEqProofs (disch := omega) only [go_sem, ht, dropH_at, decide_eq_true_eq, if_neg, eq_self]
          refine ⟨_, _, 0, V xs, rfl, ?_, rfl, by omega, by omega, by omega, ?_, by omega, by first | rfl | (congr 2; omega), hst, List.replicate xs.length 0, by simp, ?_, Lm_repl _, Hide.mk (by rw [List.drop_zero, List.drop_zero, V_repl]; omega)⟩
          · simp -implicitDefEqProofs (disch := omega) only [go_sem, ht, dropH_at, decide_eq_true_eq, if_neg, eq_self]
          · simp -implicitDefEqProofs (disch := omega) only [go_sem, ht, dropH_at, decide_eq_true_eq, if_neg, eq_self]
          · simp -implicitDefEqProofs (disch := omega) only [go_sem, ht, dropH_at, decide_eq_true_eq, if_neg, eq_self]
        · rintro t ⟨h2, h4, h5, h6, hH0, hH2, hH3, r7, r9, k, R, h7, hH7, h9, hr1, hr2, hr3, hH9, hk, h10, hR, zs, hzl, hH4, hzm, heq⟩
          have hxk := ha.len
          by_cases hk0 : k = 0
          · subst hk0
            have hq := heq.out
            rw [List.drop_zero, List.drop_zero, hva] at hq
            obtain ⟨q1, q2⟩ := hfin zs R hq hR
            have hmz := made_calls (xs := zs) ⟨hzm, by omega⟩
            rw [NP_def, SI_def, hzl] at hmz
            have hT4 : List.take xs.length (zs.map I) = zs.map I := List.take_of_length_le (by simp [hzl])
            rw [q1, q2]
            clear q1 q2 hq heq
            simp -implicitDefEqProofs (disch := omega) only [go_sem, ht, h2, h4, h5, h6, h7, h9, h10, hH0, hH2, hH3, hH4, hH7, hH9, eq_self]
            (refine pCall_frz (fun i => decide (i = 4)) 1 (by simp -implicitDefEqProofs (disch := omega) only [dropH_at, decide_eq_true_eq, h2, h4, h5, h6, h7, h9, h10, hH0, hH2, hH3, hH4, hH7, hH9, hT4, hzl, if_pos, if_neg, Nat.le_refl, go_sem, ht, eq_self] <;> rfl) (by simp -implicitDefEqProofs (disch := omega) only [dropH_at, decide_eq_true_eq, h2, h4, h5, h6, h7, h9, h10, hH0, hH2, hH3, hH4, hH7, hH9, hT4, hzl, if_pos, if_neg, Nat.le_refl, go_sem, ht, eq_self]) (by simp -implicitDefEqProofs (disch := omega) only [dropH_at, decide_eq_true_eq, h2, h4, h5, h6, h7, h9, h10, hH0, hH2, hH3, hH4, hH7, hH9, hT4, hzl, if_pos, if_neg, Nat.le_refl, go_sem, ht, eq_self] <;> rfl) (by simp -implicitDefEqProofs (disch := omega) only [dropH_at, decide_eq_true_eq, h2, h4, h5, h6, h7, h9, h10, hH0, hH2, hH3, hH4, hH7, hH9, hT4, hzl, if_pos, if_neg, Nat.le_refl, go_sem, ht, eq_self]) (hmz) ?_; rintro _ nx - rfl hnx; (try simp only [put_nx, withH_nx, begP_nx] at hnx); simp -implicitDefEqProofs (disch := omega) only [dropH_at, decide_eq_true_eq, h2, h4, h5, h6, h7, h9, h10, hH0, hH2, hH3, hH4, hH7, hH9, hT4, hzl, if_pos, if_neg, Nat.le_refl, go_sem, ht, eq_self])
            (refine end_treeN 2 ?_; simp -implicitDefEqProofs (disch := omega) only [go_sem, ht, h2, h4, h5, h6, h7, h9, h10, hH0, hH2, hH3, hH4, hH7, hH9, if_neg, eq_self])
          · obtain ⟨i, rfl⟩ : ∃ i, k = i + 1 := ⟨k - 1, by omega⟩
            have e1 : (((i + 1 : Nat) : Int) - 1) = (i : Int) := by omega
            rw [e1] at h10
            have hxg := hxm.get i
            have hR1 : R * 10000 + xs.getD i 0 < b * 10000 := by omega
            have hsm := small_calls (xs := D R) (k := 10000) (more := xs.getD i 0) (hok R (by omega)) (by omega) (by omega)
            rw [V_D] at hsm
            have hV := V_drop xs (i := i) (by omega)
            obtain ⟨R1, eR1⟩ : ∃ R1, R1 = R * 10000 + xs.getD i 0 := ⟨_, rfl⟩
            rw [← eR1] at hsm hR1
            have hm1 := made_calls (hok R1 hR1)
            rw [V_D, NP_def] at hm1
            have oR := hok R1 hR1
            have hoRl := oR.len
            have halg : ∀ q, b * q ≤ R1 → Hide (b * (q + 10000 * V (zs.drop (i + 1))) + (R1 - b * q) = V (xs.drop i)) := fun q hq => by
              rw [eR1] at hq ⊢
              rw [hV]
              exact Hide.mk (div_alg heq.out hq)
            clear heq hV
            simp -implicitDefEqProofs (disch := omega) only [go_sem, ht, h2, h4, h5, h6, h7, h9, h10, hH0, hH2, hH3, hH4, hH7, hH9, eq_self]
            (refine pCall_view (by simp -implicitDefEqProofs (disch := omega) only [h2, h4, h5, h6, h7, h9, h10, hH0, hH2, hH3, hH4, hH7, hH9, go_sem, ht, eq_self] <;> rfl) (by simp -implicitDefEqProofs (disch := omega) only [h2, h4, h5, h6, h7, h9, h10, hH0, hH2, hH3, hH4, hH7, hH9, go_sem, ht, eq_self]) (by first | (apply Or.inl; simp -implicitDefEqProofs (disch := omega) only [h2, h4, h5, h6, h7, h9, h10, hH0, hH2, hH3, hH4, hH7, hH9, go_sem, ht, eq_self]; done) | (apply Or.inr; rintro r rfl; rfl)) (hsm) ?_; rintro _ nx - rfl hnx; (try simp only [put_nx, withH_nx, begP_nx] at hnx); simp -implicitDefEqProofs (disch := omega) only [h2, h4, h5, h6, h7, h9, h10, hH0, hH2, hH3, hH4, hH7, hH9, go_sem, ht, eq_self])
            (refine pCall_view (by simp -implicitDefEqProofs (disch := omega) only [h2, h4, h5, h6, h7, h9, h10, hH0, hH2, hH3, hH4, hH7, hH9, go_sem, ht, eq_self] <;> rfl) (by simp -implicitDefEqProofs (disch := omega) only [h2, h4, h5, h6, h7, h9, h10, hH0, hH2, hH3, hH4, hH7, hH9, go_sem, ht, eq_self]) (by first | (apply Or.inl; simp -implicitDefEqProofs (disch := omega) only [h2, h4, h5, h6, h7, h9, h10, hH0, hH2, hH3, hH4, hH7, hH9, go_sem, ht, eq_self]; done) | (apply Or.inr; rintro r rfl; rfl)) (hm1) ?_; rintro _ nx - rfl hnx; (try simp only [put_nx, withH_nx, begP_nx] at hnx); simp -implicitDefEqProofs (disch := omega) only [h2, h4, h5, h6, h7, h9, h10, hH0, hH2, hH3, hH4, hH7, hH9, go_sem, ht, eq_self])
            refine LW.loopW hc ht (by kernel_rfl) (fun s => s.sl 2 = .ptr 0 0 ∧ s.sl 4 = .ptr 2 0 ∧ s.sl 5 = .ptr 3 0 ∧ s.sl 6 = .ref 4 0 xs.length xs.length 1 ∧ s.sl 7 = .ptr r7 0 ∧ s.sl 9 = .ptr r9 0 ∧ s.sl 10 = .val (.int .i64 i) ∧ s.H 0 = some [.val (.bool fa), .sl xs.length (xs.map I)] ∧ s.H 2 = some [.val (.bool false), .val (.slice none 0 0)] ∧ s.H 3 = some [.val (.bool false), .val (.slice none 0 0)] ∧
                s.H 4 = some (zs.map I) ∧ s.H r7 = some [.val (.bool false), .sl ys.length (ys.map I)] ∧ s.H r9 = some [.val (.bool false), .sl (D R1).length ((D R1).map I)] ∧ r9 < s.nx ∧ ∃ lo hi : Nat, s.sl 11 = .val (.int .i64 lo) ∧ s.sl 12 = .val (.int .i64 hi) ∧ lo ≤ hi ∧ hi ≤ 9999 ∧ Hide (b * lo ≤ R1) ∧ Hide (R1 < b * (hi + 1)))
              (fun s => match s.sl 11, s.sl 12 with | .val (.int _ lo), .val (.int _ hi) => hi.toNat - lo.toNat | _, _ => 0) ?_ ?_
            · simp -implicitDefEqProofs (disch := omega) only [go_sem, ht, h2, h4, h5, h6, h7, h9, h10, hH0, hH2, hH3, hH4, hH7, hH9, eq_self]
              exact ⟨by omega, 0, 9999, rfl, rfl, by omega, by omega, Hide.mk (by simp), Hide.mk hR1⟩
            · clear h2 h4 h5 h6 h7 h9 hH0 hH2 hH3 hH4 hH7 hH9
              rintro s ⟨g2, g4, g5, g6, g7, g9, g10, gH0, gH2, gH3, gH4, gH7, gH9, gnx, lo, hi, g11, g12, hlh, hhi, hlo, hhi2⟩
              by_cases hlt : lo < hi
              · have hmid : (lo + hi + 1) / 2 ≤ hi ∧ lo < (lo + hi + 1) / 2 := by omega
                obtain ⟨mid, emid⟩ : ∃ mid, mid = (lo + hi + 1) / 2 := ⟨_, rfl⟩
                rw [← emid] at hmid
                have hsmm := hsmb mid (by omega)
                rw [hvb, Nat.add_zero] at hsmm
                have hbm : b * mid < b * 10000 := Nat.mul_lt_mul_of_pos_left (by omega) (Nat.pos_of_ne_zero hb0)
                have hmm := made_calls (hok _ hbm)
                rw [V_D, NP_def] at hmm
                have hsz2 := size_calls (f := false) (g := false) (hok _ hbm) oR
                rw [NP_def, NP_def] at hsz2
                have hml := (hok _ hbm).len
                by_cases hcm : b * mid ≤ R1
                · have hc0 : cmpI (b * mid) R1 ≤ 0 := by
                    unfold cmpI; split
                    · omega
                    · split <;> omega
                  have hcm := Hide.mk hcm
                  generalize cmpI (b * mid) R1 = cm at *
                  simp -implicitDefEqProofs (disch := omega) only [go_sem, ht, g2, g4, g5, g6, g7, g9, g10, g11, g12, gH0, gH2, gH3, gH4, gH7, gH9, emid.symm, eq_self]
                  (refine pCall_view (by simp -implicitDefEqProofs (disch := omega) only [g2, g4, g5, g6, g7, g9, g10, g11, g12, gH0, gH2, gH3, gH4, gH7, gH9, emid.symm, go_sem, ht, eq_self] <;> rfl) (by simp -implicitDefEqProofs (disch := omega) only [g2, g4, g5, g6, g7, g9, g10, g11, g12, gH0, gH2, gH3, gH4, gH7, gH9, emid.symm, go_sem, ht, eq_self]) (by first | (apply Or.inl; simp -implicitDefEqProofs (disch := omega) only [g2, g4, g5, g6, g7, g9, g10, g11, g12, gH0, gH2, gH3, gH4, gH7, gH9, emid.symm, go_sem, ht, eq_self]; done) | (apply Or.inr; rintro r rfl; rfl)) (hsmm) ?_; rintro _ nx - rfl hnx; (try simp only [put_nx, withH_nx, begP_nx] at hnx); simp -implicitDefEqProofs (disch := omega) only [g2, g4, g5, g6, g7, g9, g10, g11, g12, gH0, gH2, gH3, gH4, gH7, gH9, emid.symm, go_sem, ht, eq_self])
                  (refine pCall_view (by simp -implicitDefEqProofs (disch := omega) only [g2, g4, g5, g6, g7, g9, g10, g11, g12, gH0, gH2, gH3, gH4, gH7, gH9, emid.symm, go_sem, ht, eq_self] <;> rfl) (by simp -implicitDefEqProofs (disch := omega) only [g2, g4, g5, g6, g7, g9, g10, g11, g12, gH0, gH2, gH3, gH4, gH7, gH9, emid.symm, go_sem, ht, eq_self]) (by first | (apply Or.inl; simp -implicitDefEqProofs (disch := omega) only [g2, g4, g5, g6, g7, g9, g10, g11, g12, gH0, gH2, gH3, gH4, gH7, gH9, emid.symm, go_sem, ht, eq_self]; done) | (apply Or.inr; rintro r rfl; rfl)) (hmm) ?_; rintro _ nx - rfl hnx; (try simp only [put_nx, withH_nx, begP_nx] at hnx); simp -implicitDefEqProofs (disch := omega) only [g2, g4, g5, g6, g7, g9, g10, g11, g12, gH0, gH2, gH3, gH4, gH7, gH9, emid.symm, go_sem, ht, eq_self])
                  (refine pCall_view (by simp -implicitDefEqProofs (disch := omega) only [g2, g4, g5, g6, g7, g9, g10, g11, g12, gH0, gH2, gH3, gH4, gH7, gH9, emid.symm, go_sem, ht, eq_self] <;> rfl) (by simp -implicitDefEqProofs (disch := omega) only [g2, g4, g5, g6, g7, g9, g10, g11, g12, gH0, gH2, gH3, gH4, gH7, gH9, emid.symm, go_sem, ht, eq_self]) (by first | (apply Or.inl; simp -implicitDefEqProofs (disch := omega) only [g2, g4, g5, g6, g7, g9, g10, g11, g12, gH0, gH2, gH3, gH4, gH7, gH9, emid.symm, go_sem, ht, eq_self]; done) | (apply Or.inr; rintro r rfl; rfl)) (hsz2) ?_; rintro _ nx - rfl hnx; (try simp only [put_nx, withH_nx, begP_nx] at hnx); simp -implicitDefEqProofs (disch := omega) only [g2, g4, g5, g6, g7, g9, g10, g11, g12, gH0, gH2, gH3, gH4, gH7, gH9, emid.symm, go_sem, ht, eq_self])
                  exact ⟨⟨by omega, mid, hi, rfl, rfl, by omega, by omega, hcm, hhi2⟩, by omega⟩
                · have hc0 : 0 < cmpI (b * mid) R1 := by
                    unfold cmpI; split
                    · omega
                    · split <;> omega
                  have hcm := Hide.mk (show R1 < b * (mid - 1 + 1) by rw [Nat.sub_add_cancel (by omega)]; omega)
                  generalize cmpI (b * mid) R1 = cm at *
                  simp -implicitDefEqProofs (disch := omega) only [go_sem, ht, g2, g4, g5, g6, g7, g9, g10, g11, g12, gH0, gH2, gH3, gH4, gH7, gH9, emid.symm, eq_self]
                  (refine pCall_view (by simp -implicitDefEqProofs (disch := omega) only [g2, g4, g5, g6, g7, g9, g10, g11, g12, gH0, gH2, gH3, gH4, gH7, gH9, emid.symm, go_sem, ht, eq_self] <;> rfl) (by simp -implicitDefEqProofs (disch := omega) only [g2, g4, g5, g6, g7, g9, g10, g11, g12, gH0, gH2, gH3, gH4, gH7, gH9, emid.symm, go_sem, ht, eq_self]) (by first | (apply Or.inl; simp -implicitDefEqProofs (disch := omega) only [g2, g4, g5, g6, g7, g9, g10, g11, g12, gH0, gH2, gH3, gH4, gH7, gH9, emid.symm, go_sem, ht, eq_self]; done) | (apply Or.inr; rintro r rfl; rfl)) (hsmm) ?_; rintro _ nx - rfl hnx; (try simp only [put_nx, withH_nx, begP_nx] at hnx); simp -implicitDefEqProofs (disch := omega) only [g2, g4, g5, g6, g7, g9, g10, g11, g12, gH0, gH2, gH3, gH4, gH7, gH9, emid.symm, go_sem, ht, eq_self])
                  (refine pCall_view (by simp -implicitDefEqProofs (disch := omega) only [g2, g4, g5, g6, g7, g9, g10, g11, g12, gH0, gH2, gH3, gH4, gH7, gH9, emid.symm, go_sem, ht, eq_self] <;> rfl) (by simp -implicitDefEqProofs (disch := omega) only [g2, g4, g5, g6, g7, g9, g10, g11, g12, gH0, gH2, gH3, gH4, gH7, gH9, emid.symm, go_sem, ht, eq_self]) (by first | (apply Or.inl; simp -implicitDefEqProofs (disch := omega) only [g2, g4, g5, g6, g7, g9, g10, g11, g12, gH0, gH2, gH3, gH4, gH7, gH9, emid.symm, go_sem, ht, eq_self]; done) | (apply Or.inr; rintro r rfl; rfl)) (hmm) ?_; rintro _ nx - rfl hnx; (try simp only [put_nx, withH_nx, begP_nx] at hnx); simp -implicitDefEqProofs (disch := omega) only [g2, g4, g5, g6, g7, g9, g10, g11, g12, gH0, gH2, gH3, gH4, gH7, gH9, emid.symm, go_sem, ht, eq_self])
                  (refine pCall_view (by simp -implicitDefEqProofs (disch := omega) only [g2, g4, g5, g6, g7, g9, g10, g11, g12, gH0, gH2, gH3, gH4, gH7, gH9, emid.symm, go_sem, ht, eq_self] <;> rfl) (by simp -implicitDefEqProofs (disch := omega) only [g2, g4, g5, g6, g7, g9, g10, g11, g12, gH0, gH2, gH3, gH4, gH7, gH9, emid.symm, go_sem, ht, eq_self]) (by first | (apply Or.inl; simp -implicitDefEqProofs (disch := omega) only [g2, g4, g5, g6, g7, g9, g10, g11, g12, gH0, gH2, gH3, gH4, gH7, gH9, emid.symm, go_sem, ht, eq_self]; done) | (apply Or.inr; rintro r rfl; rfl)) (hsz2) ?_; rintro _ nx - rfl hnx; (try simp only [put_nx, withH_nx, begP_nx] at hnx); simp -implicitDefEqProofs (disch := omega) only [g2, g4, g5, g6, g7, g9, g10, g11, g12, gH0, gH2, gH3, gH4, gH7, gH9, emid.symm, go_sem, ht, eq_self])
                  exact ⟨⟨by omega, lo, mid - 1, rfl, rfl, by omega, by omega, hlo, hcm⟩, by omega⟩
              · have hle2 : lo = hi := by omega
                subst hle2
                have hbm : b * lo < b * 10000 := Nat.mul_lt_mul_of_pos_left (by omega) (Nat.pos_of_ne_zero hb0)
                have hsmm := hsmb lo (by omega)
                rw [hvb, Nat.add_zero] at hsmm
                have hmm := made_calls (hok _ hbm)
                rw [V_D, NP_def] at hmm
                have hml := (hok _ hbm).len
                have hsub := nminus_calls oR (hok _ hbm) hlo.out
                simp only [NP_def] at hsub
                have hR2 : R1 - b * lo < b := by
                  have h1 := hhi2.out
                  have h2 := hlo.out
                  rw [Nat.mul_add, Nat.mul_one] at h1
                  omega
                have hal2 := halg lo hlo.out
                have hset : Lm (zs.set i lo) := fun x hx => by
                  rcases List.mem_or_eq_of_mem_set hx with h | h
                  · exact hzm x h
                  · omega
                have hds : Hide (b * V ((zs.set i lo).drop i) + (R1 - b * lo) = V (xs.drop i)) := by
                  rw [V_set_drop (by omega)]; exact hal2
                have hrl2 := (hok (R1 - b * lo) (by omega)).len
                clear halg hal2
                simp -implicitDefEqProofs (disch := omega) only [go_sem, ht, g2, g4, g5, g6, g7, g9, g10, g11, g12, gH0, gH2, gH3, gH4, gH7, gH9, eq_self]
                (refine pCall_view (by simp -implicitDefEqProofs (disch := omega) only [g2, g4, g5, g6, g7, g9, g10, g11, g12, gH0, gH2, gH3, gH4, gH7, gH9, go_sem, ht, eq_self] <;> rfl) (by simp -implicitDefEqProofs (disch := omega) only [g2, g4, g5, g6, g7, g9, g10, g11, g12, gH0, gH2, gH3, gH4, gH7, gH9, go_sem, ht, eq_self]) (by first | (apply Or.inl; simp -implicitDefEqProofs (disch := omega) only [g2, g4, g5, g6, g7, g9, g10, g11, g12, gH0, gH2, gH3, gH4, gH7, gH9, go_sem, ht, eq_self]; done) | (apply Or.inr; rintro r rfl; rfl)) (hsmm) ?_; rintro _ nx - rfl hnx; (try simp only [put_nx, withH_nx, begP_nx] at hnx); simp -implicitDefEqProofs (disch := omega) only [g2, g4, g5, g6, g7, g9, g10, g11, g12, gH0, gH2, gH3, gH4, gH7, gH9, go_sem, ht, eq_self])
                (refine pCall_view (by simp -implicitDefEqProofs (disch := omega) only [g2, g4, g5, g6, g7, g9, g10, g11, g12, gH0, gH2, gH3, gH4, gH7, gH9, go_sem, ht, eq_self] <;> rfl) (by simp -implicitDefEqProofs (disch := omega) only [g2, g4, g5, g6, g7, g9, g10, g11, g12, gH0, gH2, gH3, gH4, gH7, gH9, go_sem, ht, eq_self]) (by first | (apply Or.inl; simp -implicitDefEqProofs (disch := omega) only [g2, g4, g5, g6, g7, g9, g10, g11, g12, gH0, gH2, gH3, gH4, gH7, gH9, go_sem, ht, eq_self]; done) | (apply Or.inr; rintro r rfl; rfl)) (hmm) ?_; rintro _ nx - rfl hnx; (try simp only [put_nx, withH_nx, begP_nx] at hnx); simp -implicitDefEqProofs (disch := omega) only [g2, g4, g5, g6, g7, g9, g10, g11, g12, gH0, gH2, gH3, gH4, gH7, gH9, go_sem, ht, eq_self])
                (refine pCall_view (by simp -implicitDefEqProofs (disch := omega) only [g2, g4, g5, g6, g7, g9, g10, g11, g12, gH0, gH2, gH3, gH4, gH7, gH9, go_sem, ht, eq_self] <;> rfl) (by simp -implicitDefEqProofs (disch := omega) only [g2, g4, g5, g6, g7, g9, g10, g11, g12, gH0, gH2, gH3, gH4, gH7, gH9, go_sem, ht, eq_self]) (by first | (apply Or.inl; simp -implicitDefEqProofs (disch := omega) only [g2, g4, g5, g6, g7, g9, g10, g11, g12, gH0, gH2, gH3, gH4, gH7, gH9, go_sem, ht, eq_self]; done) | (apply Or.inr; rintro r rfl; rfl)) (hsub) ?_; rintro _ nx - rfl hnx; (try simp only [put_nx, withH_nx, begP_nx] at hnx); simp -implicitDefEqProofs (disch := omega) only [g2, g4, g5, g6, g7, g9, g10, g11, g12, gH0, gH2, gH3, gH4, gH7, gH9, go_sem, ht, eq_self])
                exact ⟨⟨r7, r9, i, R1 - b * lo, rfl, by simp -implicitDefEqProofs (disch := omega) only [go_sem, ht, gH7, eq_self], rfl, by omega, by omega, by omega, by simp -implicitDefEqProofs (disch := omega) only [go_sem, ht, eq_self], by omega, rfl, hR2, zs.set i lo, by simp [hzl], rfl, hset, hds⟩, by omega⟩
    · have hsk2 : (xs.length : Int) - ys.length + 1 < 0 := by omega
      (refine pCall_view (by simp -implicitDefEqProofs (disch := omega) only [hsk2, go_sem, ht, eq_self] <;> rfl) (by simp -implicitDefEqProofs (disch := omega) only [hsk2, go_sem, ht, eq_self]) (by first | (apply Or.inl; simp -implicitDefEqProofs (disch := omega) only [hsk2, go_sem, ht, eq_self]; done) | (apply Or.inr; rintro r rfl; rfl)) (hab) ?_; rintro _ nx - rfl hnx; (try simp only [put_nx, withH_nx, begP_nx] at hnx); simp -implicitDefEqProofs (disch := omega) only [hsk2, go_sem, ht, eq_self])
      have hT : List.take (xs.length) ((xs.map I)) = (xs).map I := by exact List.take_of_length_le (by simp)
      have hdl : xs.length = xs.length := rfl
      have hmd := made_calls (xs := xs) ⟨hxm, by omega⟩
      have hst := (by have h := hstart 0 (by omega); rwa [List.drop_zero] at h : V xs < b)
      have hrl := Nat.le_trans (D_len_V (hxm)) (Nat.le_of_eq hdl)
      rw [NP_def, SI_def] at hmd
      refine append_nil (e := 3) (b := 8) (m := xs.length) (z := .int .i64 0) (ys := (xs).map I) T23_elem rfl T3_size T3_bytes T3_zero (by simp -implicitDefEqProofs (disch := omega) only [go_sem, ht, srcP_sl, hT, if_pos, eq_self]) (by simp -implicitDefEqProofs (disch := omega) only [go_sem, ht, eq_self]) (by omega) (fun h0 => ?_) fun cap' rest' h1 h2 => ?_
      · have hz : xs = [] := List.eq_nil_of_length_eq_zero (by omega)
        have hst' := hst
        rw [h0, hz] at hmd
        simp -implicitDefEqProofs (disch := omega) only [go_sem, ht, eq_self]
        (refine pCall_view (by simp -implicitDefEqProofs (disch := omega) only [go_sem, ht, eq_self] <;> rfl) (by simp -implicitDefEqProofs (disch := omega) only [go_sem, ht, eq_self]) (by first | (apply Or.inl; simp -implicitDefEqProofs (disch := omega) only [go_sem, ht, eq_self]; done) | (apply Or.inr; rintro r rfl; rfl)) (hmd) ?_; rintro _ nx - rfl hnx; (try simp only [put_nx, withH_nx, begP_nx] at hnx); simp -implicitDefEqProofs (disch := omega) only [go_sem, ht, eq_self])
        refine LW.loopW hc ht (by kernel_rfl) (fun t => t.sl 2 = .ptr 0 0 ∧ t.sl 4 = .ptr 2 0 ∧ t.sl 5 = .ptr 3 0 ∧ t.sl 6 = .ref 4 0 xs.length xs.length 1 ∧ t.H 0 = some [.val (.bool fa), .sl xs.length (xs.map I)] ∧ t.H 2 = some [.val (.bool false), .val (.slice none 0 0)] ∧ t.H 3 = some [.val (.bool false), .val (.slice none 0 0)] ∧
            ∃ r7 r9 k R : Nat, t.sl 7 = .ptr r7 0 ∧ t.H r7 = some [.val (.bool false), .sl ys.length (ys.map I)] ∧ t.sl 9 = .ptr r9 0 ∧ 4 < r7 ∧ r7 < r9 ∧ r9 < t.nx ∧ t.H r9 = some [.val (.bool false), .sl (D R).length ((D R).map I)] ∧ k ≤ xs.length ∧ t.sl 10 = .val (.int .i64 ((k : Int) - 1)) ∧ R < b ∧
            ∃ zs : List Nat, zs.length = xs.length ∧ t.H 4 = some (zs.map I) ∧ Lm zs ∧ Hide (b * V (zs.drop k) + R = V (xs.drop k)))
            (fun t => match t.sl 10 with | .val (.int _ j) => (j + 1).toNat | _ => 0) ?_ ?_
        · simp -implicitDefEqProofs (disch := omega) only [go_sem, ht, eq_self]
          refine ⟨_, _, 0, V xs, rfl, ?_, rfl, by omega, by omega, by omega, ?_, by omega, by first | rfl | (congr 2; omega), hst, List.replicate xs.length 0, by simp, ?_, Lm_repl _, Hide.mk (by rw [List.drop_zero, List.drop_zero, V_repl]; omega)⟩
          · simp -implicitDefEqProofs (disch := omega) only [go_sem, ht, eq_self]
          · simp -implicitDefEqProofs (disch := omega) only [go_sem, ht, eq_self]
            rw [hz]
          · simp -implicitDefEqProofs (disch := omega) only [go_sem, ht, eq_self]
        · rintro t ⟨h2, h4, h5, h6, hH0, hH2, hH3, r7, r9, k, R, h7, hH7, h9, hr1, hr2, hr3, hH9, hk, h10, hR, zs, hzl, hH4, hzm, heq⟩
          have hxk := ha.len
          by_cases hk0 : k = 0
          · subst hk0
            have hq := heq.out
            rw [List.drop_zero, List.drop_zero, hva] at hq
            obtain ⟨q1, q2⟩ := hfin zs R hq hR
            have hmz := made_calls (xs := zs) ⟨hzm, by omega⟩
            rw [NP_def, SI_def, hzl] at hmz
            have hT4 : List.take xs.length (zs.map I) = zs.map I := List.take_of_length_le (by simp [hzl])
            rw [q1, q2]
            clear q1 q2 hq heq
            simp -implicitDefEqProofs (disch := omega) only [go_sem, ht, h2, h4, h5, h6, h7, h9, h10, hH0, hH2, hH3, hH4, hH7, hH9, eq_self]
            (refine pCall_frz (fun i => decide (i = 4)) 1 (by simp -implicitDefEqProofs (disch := omega) only [dropH_at, decide_eq_true_eq, h2, h4, h5, h6, h7, h9, h10, hH0, hH2, hH3, hH4, hH7, hH9, hT4, hzl, if_pos, if_neg, Nat.le_refl, go_sem, ht, eq_self] <;> rfl) (by simp -implicitDefEqProofs (disch := omega) only [dropH_at, decide_eq_true_eq, h2, h4, h5, h6, h7, h9, h10, hH0, hH2, hH3, hH4, hH7, hH9, hT4, hzl, if_pos, if_neg, Nat.le_refl, go_sem, ht, eq_self]) (by simp -implicitDefEqProofs (disch := omega) only [dropH_at, decide_eq_true_eq, h2, h4, h5, h6, h7, h9, h10, hH0, hH2, hH3, hH4, hH7, hH9, hT4, hzl, if_pos, if_neg, Nat.le_refl, go_sem, ht, eq_self] <;> rfl) (by simp -implicitDefEqProofs (disch := omega) only [dropH_at, decide_eq_true_eq, h2, h4, h5, h6, h7, h9, h10, hH0, hH2, hH3, hH4, hH7, hH9, hT4, hzl, if_pos, if_neg, Nat.le_refl, go_sem, ht, eq_self]) (hmz) ?_; rintro _ nx - rfl hnx; (try simp only [put_nx, withH_nx, begP_nx] at hnx); simp -implicitDefEqProofs (disch := omega) only [dropH_at, decide_eq_true_eq, h2, h4, h5, h6, h7, h9, h10, hH0, hH2, hH3, hH4, hH7, hH9, hT4, hzl, if_pos, if_neg, Nat.le_refl, go_sem, ht, eq_self])
            (refine end_treeN 2 ?_; simp -implicitDefEqProofs (disch := omega) only [go_sem, ht, h2, h4, h5, h6, h7, h9, h10, hH0, hH2, hH3, hH4, hH7, hH9, if_neg, eq_self])
          · omega
      · have hT2 : List.take (xs.length) ((xs).map I ++ List.map PV.val rest') = (xs).map I := by exact take_Il _ _
        simp -implicitDefEqProofs (disch := omega) only [go_sem, ht, eq_self]
        (refine pCall_frz (fun i => decide (i = nx + 1)) 1 (by simp -implicitDefEqProofs (disch := omega) only [dropH_at, decide_eq_true_eq, hT2, if_pos, if_neg, go_sem, ht, eq_self] <;> rfl) (by simp -implicitDefEqProofs (disch := omega) only [dropH_at, decide_eq_true_eq, hT2, if_pos, if_neg, go_sem, ht, eq_self]) (by simp -implicitDefEqProofs (disch := omega) only [dropH_at, decide_eq_true_eq, hT2, if_pos, if_neg, go_sem, ht, eq_self] <;> rfl) (by simp -implicitDefEqProofs (disch := omega) only [dropH_at, decide_eq_true_eq, hT2, if_pos, if_neg, go_sem, ht, eq_self]) (hmd) ?_; rintro _ nx - rfl hnx; (try simp only [put_nx, withH_nx, begP_nx] at hnx); simp -implicitDefEqProofs (disch := omega) only [dropH_at, decide_eq_true_eq, hT2, if_pos, if_neg, go_sem, ht, eq_self])
        refine LW.loopW hc ht (by kernel_rfl) (fun t => t.sl 2 = .ptr 0 0 ∧ t.sl 4 = .ptr 2 0 ∧ t.sl 5 = .ptr 3 0 ∧ t.sl 6 = .ref 4 0 xs.length xs.length 1 ∧ t.H 0 = some [.val (.bool fa), .sl xs.length (xs.map I)] ∧ t.H 2 = some [.val (.bool false), .val (.slice none 0 0)] ∧ t.H 3 = some [.val (.bool false), .val (.slice none 0 0)] ∧
            ∃ r7 r9 k R : Nat, t.sl 7 = .ptr r7 0 ∧ t.H r7 = some [.val (.bool false), .sl ys.length (ys.map I)] ∧ t.sl 9 = .ptr r9 0 ∧ 4 < r7 ∧ r7 < r9 ∧ r9 < t.nx ∧ t.H r9 = some [.val (.bool false), .sl (D R).length ((D R).map I)] ∧ k ≤ xs.length ∧ t.sl 10 = .val (.int .i64 ((k : Int) - 1)) ∧ R < b ∧
            ∃ zs : List Nat, zs.length = xs.length ∧ t.H 4 = some (zs.map I) ∧ Lm zs ∧ Hide (b * V (zs.drop k) + R = V (xs.drop k)))
            (fun t => match t.sl 10 with | .val (.int _ j) => (j + 1).toNat | _ => 0) ?_ ?_
        · simp -implicitDefEqProofs (disch := omega) only [go_sem, ht, dropH_at, decide_eq_true_eq, if_neg, eq_self]
          refine ⟨_, _, 0, V xs, rfl, ?_, rfl, by omega, by omega, by omega, ?_, by omega, by first | rfl | (congr 2; omega), hst, List.replicate xs.length 0, by simp, ?_, Lm_repl _, Hide.mk (by rw [List.drop_zero, List.drop_zero, V_repl]; omega)⟩
          · simp -implicitDefEqProofs (disch := omega) only [go_sem, ht, dropH_at, decide_eq_true_eq, if_neg, eq_self]
          · simp -implicitDefEqProofs (disch := omega) only [go_sem, ht, dropH_at, decide_eq_true_eq, if_neg, eq_self]
          · simp -implicitDefEqProofs (disch := omega) only [go_sem, ht, dropH_at, decide_eq_true_eq, if_neg, eq_self]
        · rintro t ⟨h2, h4, h5, h6, hH0, hH2, hH3, r7, r9, k, R, h7, hH7, h9, hr1, hr2, hr3, hH9, hk, h10, hR, zs, hzl, hH4, hzm, heq⟩
          have hxk := ha.len
          by_cases hk0 : k = 0
          · subst hk0
            have hq := heq.out
            rw [List.drop_zero, List.drop_zero, hva] at hq
            obtain ⟨q1, q2⟩ := hfin zs R hq hR
            have hmz := made_calls (xs := zs) ⟨hzm, by omega⟩
            rw [NP_def, SI_def, hzl] at hmz
            have hT4 : List.take xs.length (zs.map I) = zs.map I := List.take_of_length_le (by simp [hzl])
            rw [q1, q2]
            clear q1 q2 hq heq
            simp -implicitDefEqProofs (disch := omega) only [go_sem, ht, h2, h4, h5, h6, h7, h9, h10, hH0, hH2, hH3, hH4, hH7, hH9, eq_self]
            (refine pCall_frz (fun i => decide (i = 4)) 1 (by simp -implicitDefEqProofs (disch := omega) only [dropH_at, decide_eq_true_eq, h2, h4, h5, h6, h7, h9, h10, hH0, hH2, hH3, hH4, hH7, hH9, hT4, hzl, if_pos, if_neg, Nat.le_refl, go_sem, ht, eq_self] <;> rfl) (by simp -implicitDefEqProofs (disch := omega) only [dropH_at, decide_eq_true_eq, h2, h4, h5, h6, h7, h9, h10, hH0, hH2, hH3, hH4, hH7, hH9, hT4, hzl, if_pos, if_neg, Nat.le_refl, go_sem, ht, eq_self]) (by simp -implicitDefEqProofs (disch := omega) only [dropH_at, decide_eq_true_eq, h2, h4, h5, h6, h7, h9, h10, hH0, hH2, hH3, hH4, hH7, hH9, hT4, hzl, if_pos, if_neg, Nat.le_refl, go_sem, ht, eq_self] <;> rfl) (by simp -implicitDefEqProofs (disch := omega) only [dropH_at, decide_eq_true_eq, h2, h4, h5, h6, h7, h9, h10, hH0, hH2, hH3, hH4, hH7, hH9, hT4, hzl, if_pos, if_neg, Nat.le_refl, go_sem, ht, eq_self]) (hmz) ?_; rintro _ nx - rfl hnx; (try simp only [put_nx, withH_nx, begP_nx] at hnx); simp -implicitDefEqProofs (disch := omega) only [dropH_at, decide_eq_true_eq, h2, h4, h5, h6, h7, h9, h10, hH0, hH2, hH3, hH4, hH7, hH9, hT4, hzl, if_pos, if_neg, Nat.le_refl, go_sem, ht, eq_self])
            (refine end_treeN 2 ?_; simp -implicitDefEqProofs (disch := omega) only [go_sem, ht, h2, h4, h5, h6, h7, h9, h10, hH0, hH2, hH3, hH4, hH7, hH9, if_neg, eq_self])
          · obtain ⟨i, rfl⟩ : ∃ i, k = i + 1 := ⟨k - 1, by omega⟩
            have e1 : (((i + 1 : Nat) : Int) - 1) = (i : Int) := by omega
            rw [e1] at h10
            have hxg := hxm.get i
            have hR1 : R * 10000 + xs.getD i 0 < b * 10000 := by omega
            have hsm := small_calls (xs := D R) (k := 10000) (more := xs.getD i 0) (hok R (by omega)) (by omega) (by omega)
            rw [V_D] at hsm
            have hV := V_drop xs (i := i) (by omega)
            obtain ⟨R1, eR1⟩ : ∃ R1, R1 = R * 10000 + xs.getD i 0 := ⟨_, rfl⟩
            rw [← eR1] at hsm hR1
            have hm1 := made_calls (hok R1 hR1)
            rw [V_D, NP_def] at hm1
            have oR := hok R1 hR1
            have hoRl := oR.len
            have halg : ∀ q, b * q ≤ R1 → Hide (b * (q + 10000 * V (zs.drop (i + 1))) + (R1 - b * q) = V (xs.drop i)) := fun q hq => by
              rw [eR1] at hq ⊢
              rw [hV]
              exact Hide.mk (div_alg heq.out hq)
            clear heq hV
            simp -implicitDefEqProofs (disch := omega) only [go_sem, ht, h2, h4, h5, h6, h7, h9, h10, hH0, hH2, hH3, hH4, hH7, hH9, eq_self]
            (refine pCall_view (by simp -implicitDefEqProofs (disch := omega) only [h2, h4, h5, h6, h7, h9, h10, hH0, hH2, hH3, hH4, hH7, hH9, go_sem, ht, eq_self] <;> rfl) (by simp -implicitDefEqProofs (disch := omega) only [h2, h4, h5, h6, h7, h9, h10, hH0, hH2, hH3, hH4, hH7, hH9, go_sem, ht, eq_self]) (by first | (apply Or.inl; simp -implicitDefEqProofs (disch := omega) only [h2, h4, h5, h6, h7, h9, h10, hH0, hH2, hH3, hH4, hH7, hH9, go_sem, ht, eq_self]; done) | (apply Or.inr; rintro r rfl; rfl)) (hsm) ?_; rintro _ nx - rfl hnx; (try simp only [put_nx, withH_nx, begP_nx] at hnx); simp -implicitDefEqProofs (disch := omega) only [h2, h4, h5, h6, h7, h9, h10, hH0, hH2, hH3, hH4, hH7, hH9, go_sem, ht, eq_self])
            (refine pCall_view (by simp -implicitDefEqProofs (disch := omega) only [h2, h4, h5, h6, h7, h9, h10, hH0, hH2, hH3, hH4, hH7, hH9, go_sem, ht, eq_self] <;> rfl) (by simp -implicitDefEqProofs (disch := omega) only [h2, h4, h5, h6, h7, h9, h10, hH0, hH2, hH3, hH4, hH7, hH9, go_sem, ht, eq_self]) (by first | (apply Or.inl; simp -implicitDefEqProofs (disch := omega) only [h2, h4, h5, h6, h7, h9, h10, hH0, hH2, hH3, hH4, hH7, hH9, go_sem, ht, eq_self]; done) | (apply Or.inr; rintro r rfl; rfl)) (hm1) ?_; rintro _ nx - rfl hnx; (try simp only [put_nx, withH_nx, begP_nx] at hnx); simp -implicitDefEqProofs (disch := omega) only [h2, h4, h5, h6, h7, h9, h10, hH0, hH2, hH3, hH4, hH7, hH9, go_sem, ht, eq_self])
            refine LW.loopW hc ht (by kernel_rfl) (fun s => s.sl 2 = .ptr 0 0 ∧ s.sl 4 = .ptr 2 0 ∧ s.sl 5 = .ptr 3 0 ∧ s.sl 6 = .ref 4 0 xs.length xs.length 1 ∧ s.sl 7 = .ptr r7 0 ∧ s.sl 9 = .ptr r9 0 ∧ s.sl 10 = .val (.int .i64 i) ∧ s.H 0 = some [.val (.bool fa), .sl xs.length (xs.map I)] ∧ s.H 2 = some [.val (.bool false), .val (.slice none 0 0)] ∧ s.H 3 = some [.val (.bool false), .val (.slice none 0 0)] ∧
                s.H 4 = some (zs.map I) ∧ s.H r7 = some [.val (.bool false), .sl ys.length (ys.map I)] ∧ s.H r9 = some [.val (.bool false), .sl (D R1).length ((D R1).map I)] ∧ r9 < s.nx ∧ ∃ lo hi : Nat, s.sl 11 = .val (.int .i64 lo) ∧ s.sl 12 = .val (.int .i64 hi) ∧ lo ≤ hi ∧ hi ≤ 9999 ∧ Hide (b * lo ≤ R1) ∧ Hide (R1 < b * (hi + 1)))
              (fun s => match s.sl 11, s.sl 12 with | .val (.int _ lo), .val (.int _ hi) => hi.toNat - lo.toNat | _, _ => 0) ?_ ?_
            · simp -implicitDefEqProofs (disch := omega) only [go_sem, ht, h2, h4, h5, h6, h7, h9, h10, hH0, hH2, hH3, hH4, hH7, hH9, eq_self]
              exact ⟨by omega, 0, 9999, rfl, rfl, by omega, by omega, Hide.mk (by simp), Hide.mk hR1⟩
            · clear h2 h4 h5 h6 h7 h9 hH0 hH2 hH3 hH4 hH7 hH9
              rintro s ⟨g2, g4, g5, g6, g7, g9, g10, gH0, gH2, gH3, gH4, gH7, gH9, gnx, lo, hi, g11, g12, hlh, hhi, hlo, hhi2⟩
              by_cases hlt : lo < hi
              · have hmid : (lo + hi + 1) / 2 ≤ hi ∧ lo < (lo + hi + 1) / 2 := by omega
                obtain ⟨mid, emid⟩ : ∃ mid, mid = (lo + hi + 1) / 2 := ⟨_, rfl⟩
                rw [← emid] at hmid
                have hsmm := hsmb mid (by omega)
                rw [hvb, Nat.add_zero] at hsmm
                have hbm : b * mid < b * 10000 := Nat.mul_lt_mul_of_pos_left (by omega) (Nat.pos_of_ne_zero hb0)
                have hmm := made_calls (hok _ hbm)
                rw [V_D, NP_def] at hmm
                have hsz2 := size_calls (f := false) (g := false) (hok _ hbm) oR
                rw [NP_def, NP_def] at hsz2
                have hml := (hok _ hbm).len
                by_cases hcm : b * mid ≤ R1
                · have hc0 : cmpI (b * mid) R1 ≤ 0 := by
                    unfold cmpI; split
                    · omega
                    · split <;> omega
                  have hcm := Hide.mk hcm
                  generalize cmpI (b * mid) R1 = cm at *
                  simp -implicitDefEqProofs (disch := omega) only [go_sem, ht, g2, g4, g5, g6, g7, g9, g10, g11, g12, gH0, gH2, gH3, gH4, gH7, gH9, emid.symm, eq_self]
                  (refine pCall_view (by simp -implicitDefEqProofs (disch := omega) only [g2, g4, g5, g6, g7, g9, g10, g11, g12, gH0, gH2, gH3, gH4, gH7, gH9, emid.symm, go_sem, ht, eq_self] <;> rfl) (by simp -implicitDefEqProofs (disch := omega) only [g2, g4, g5, g6, g7, g9, g10, g11, g12, gH0, gH2, gH3, gH4, gH7, gH9, emid.symm, go_sem, ht, eq_self]) (by first | (apply Or.inl; simp -implicitDefEqProofs (disch := omega) only [g2, g4, g5, g6, g7, g9, g10, g11, g12, gH0, gH2, gH3, gH4, gH7, gH9, emid.symm, go_sem, ht, eq_self]; done) | (apply Or.inr; rintro r rfl; rfl)) (hsmm) ?_; rintro _ nx - rfl hnx; (try simp only [put_nx, withH_nx, begP_nx] at hnx); simp -implicitDefEqProofs (disch := omega) only [g2, g4, g5, g6, g7, g9, g10, g11, g12, gH0, gH2, gH3, gH4, gH7, gH9, emid.symm, go_sem, ht, eq_self])
                  (refine pCall_view (by simp -implicitDefEqProofs (disch := omega) only [g2, g4, g5, g6, g7, g9, g10, g11, g12, gH0, gH2, gH3, gH4, gH7, gH9, emid.symm, go_sem, ht, eq_self] <;> rfl) (by simp -implicitDefEqProofs (disch := omega) only [g2, g4, g5, g6, g7, g9, g10, g11, g12, gH0, gH2, gH3, gH4, gH7, gH9, emid.symm, go_sem, ht, eq_self]) (by first | (apply Or.inl; simp -implicitDefEqProofs (disch := omega) only [g2, g4, g5, g6, g7, g9, g10, g11, g12, gH0, gH2, gH3, gH4, gH7, gH9, emid.symm, go_sem, ht, eq_self]; done) | (apply Or.inr; rintro r rfl; rfl)) (hmm) ?_; rintro _ nx - rfl hnx; (try simp only [put_nx, withH_nx, begP_nx] at hnx); simp -implicitDefEqProofs (disch := omega) only [g2, g4, g5, g6, g7, g9, g10, g11, g12, gH0, gH2, gH3, gH4, gH7, gH9, emid.symm, go_sem, ht, eq_self])
                  (refine pCall_view (by simp -implicitDefEqProofs (disch := omega) only [g2, g4, g5, g6, g7, g9, g10, g11, g12, gH0, gH2, gH3, gH4, gH7, gH9, emid.symm, go_sem, ht, eq_self] <;> rfl) (by simp -implicitDefEqProofs (disch := omega) only [g2, g4, g5, g6, g7, g9, g10, g11, g12, gH0, gH2, gH3, gH4, gH7, gH9, emid.symm, go_sem, ht, eq_self]) (by first | (apply Or.inl; simp -implicitDefEqProofs (disch := omega) only [g2, g4, g5, g6, g7, g9, g10, g11, g12, gH0, gH2, gH3, gH4, gH7, gH9, emid.symm, go_sem, ht, eq_self]; done) | (apply Or.inr; rintro r rfl; rfl)) (hsz2) ?_; rintro _ nx - rfl hnx; (try simp only [put_nx, withH_nx, begP_nx] at hnx); simp -implicitDefEqProofs (disch := omega) only [g2, g4, g5, g6, g7, g9, g10, g11, g12, gH0, gH2, gH3, gH4, gH7, gH9, emid.symm, go_sem, ht, eq_self])
                  exact ⟨⟨by omega, mid, hi, rfl, rfl, by omega, by omega, hcm, hhi2⟩, by omega⟩
                · have hc0 : 0 < cmpI (b * mid) R1 := by
                    unfold cmpI; split
                    · omega
                    · split <;> omega
                  have hcm := Hide.mk (show R1 < b * (mid - 1 + 1) by rw [Nat.sub_add_cancel (by omega)]; omega)
                  generalize cmpI (b * mid) R1 = cm at *
                  simp -implicitDefEqProofs (disch := omega) only [go_sem, ht, g2, g4, g5, g6, g7, g9, g10, g11, g12, gH0, gH2, gH3, gH4, gH7, gH9, emid.symm, eq_self]
                  (refine pCall_view (by simp -implicitDefEqProofs (disch := omega) only [g2, g4, g5, g6, g7, g9, g10, g11, g12, gH0, gH2, gH3, gH4, gH7, gH9, emid.symm, go_sem, ht, eq_self] <;> rfl) (by simp -implicitDefEqProofs (disch := omega) only [g2, g4, g5, g6, g7, g9, g10, g11, g12, gH0, gH2, gH3, gH4, gH7, gH9, emid.symm, go_sem, ht, eq_self]) (by first | (apply Or.inl; simp -implicitDefEqProofs (disch := omega) only [g2, g4, g5, g6, g7, g9, g10, g11, g12, gH0, gH2, gH3, gH4, gH7, gH9, emid.symm, go_sem, ht, eq_self]; done) | (apply Or.inr; rintro r rfl; rfl)) (hsmm) ?_; rintro _ nx - rfl hnx; (try simp only [put_nx, withH_nx, begP_nx] at hnx); simp -implicitDefEqProofs (disch := omega) only [g2, g4, g5, g6, g7, g9, g10, g11, g12, gH0, gH2, gH3, gH4, gH7, gH9, emid.symm, go_sem, ht, eq_self])
                  (refine pCall_view (by simp -implicitDefEqProofs (disch := omega) only [g2, g4, g5, g6, g7, g9, g10, g11, g12, gH0, gH2, gH3, gH4, gH7, gH9, emid.symm, go_sem, ht, eq_self] <;> rfl) (by simp -implicitDefEqProofs (disch := omega) only [g2, g4, g5, g6, g7, g9, g10, g11, g12, gH0, gH2, gH3, gH4, gH7, gH9, emid.symm, go_sem, ht, eq_self]) (by first | (apply Or.inl; simp -implicitDefEqProofs (disch := omega) only [g2, g4, g5, g6, g7, g9, g10, g11, g12, gH0, gH2, gH3, gH4, gH7, gH9, emid.symm, go_sem, ht, eq_self]; done) | (apply Or.inr; rintro r rfl; rfl)) (hmm) ?_; rintro _ nx - rfl hnx; (try simp only [put_nx, withH_nx, begP_nx] at hnx); simp -implicitDefEqProofs (disch := omega) only [g2, g4, g5, g6, g7, g9, g10, g11, g12, gH0, gH2, gH3, gH4, gH7, gH9, emid.symm, go_sem, ht, eq_self])
                  (refine pCall_view (by simp -implicitDefEqProofs (disch := omega) only [g2, g4, g5, g6, g7, g9, g10, g11, g12, gH0, gH2, gH3, gH4, gH7, gH9, emid.symm, go_sem, ht, eq_self] <;> rfl) (by simp -implicitDefEqProofs (disch := omega) only [g2, g4, g5, g6, g7, g9, g10, g11, g12, gH0, gH2, gH3, gH4, gH7, gH9, emid.symm, go_sem, ht, eq_self]) (by first | (apply Or.inl; simp -implicitDefEqProofs (disch := omega) only [g2, g4, g5, g6, g7, g9, g10, g11, g12, gH0, gH2, gH3, gH4, gH7, gH9, emid.symm, go_sem, ht, eq_self]; done) | (apply Or.inr; rintro r rfl; rfl)) (hsz2) ?_; rintro _ nx - rfl hnx; (try simp only [put_nx, withH_nx, begP_nx] at hnx); simp -implicitDefEqProofs (disch := omega) only [g2, g4, g5, g6, g7, g9, g10, g11, g12, gH0, gH2, gH3, gH4, gH7, gH9, emid.symm, go_sem, ht, eq_self])
                  exact ⟨⟨by omega, lo, mid - 1, rfl, rfl, by omega, by omega, hlo, hcm⟩, by omega⟩
              · have hle2 : lo = hi := by omega
                subst hle2
                have hbm : b * lo < b * 10000 := Nat.mul_lt_mul_of_pos_left (by omega) (Nat.pos_of_ne_zero hb0)
                have hsmm := hsmb lo (by omega)
                rw [hvb, Nat.add_zero] at hsmm
                have hmm := made_calls (hok _ hbm)
                rw [V_D, NP_def] at hmm
                have hml := (hok _ hbm).len
                have hsub := nminus_calls oR (hok _ hbm) hlo.out
                simp only [NP_def] at hsub
                have hR2 : R1 - b * lo < b := by
                  have h1 := hhi2.out
                  have h2 := hlo.out
                  rw [Nat.mul_add, Nat.mul_one] at h1
                  omega
                have hal2 := halg lo hlo.out
                have hset : Lm (zs.set i lo) := fun x hx => by
                  rcases List.mem_or_eq_of_mem_set hx with h | h
                  · exact hzm x h
                  · omega
                have hds : Hide (b * V ((zs.set i lo).drop i) + (R1 - b * lo) = V (xs.drop i)) := by
                  rw [V_set_drop (by omega)]; exact hal2
                have hrl2 := (hok (R1 - b * lo) (by omega)).len
                clear halg hal2
                simp -implicitDefEqProofs (disch := omega) only [go_sem, ht, g2, g4, g5, g6, g7, g9, g10, g11, g12, gH0, gH2, gH3, gH4, gH7, gH9, eq_self]
                (refine pCall_view (by simp -implicitDefEqProofs (disch := omega) only [g2, g4, g5, g6, g7, g9, g10, g11, g12, gH0, gH2, gH3, gH4, gH7, gH9, go_sem, ht, eq_self] <;> rfl) (by simp -implicitDefEqProofs (disch := omega) only [g2, g4, g5, g6, g7, g9, g10, g11, g12, gH0, gH2, gH3, gH4, gH7, gH9, go_sem, ht, eq_self]) (by first | (apply Or.inl; simp -implicitDefEqProofs (disch := omega) only [g2, g4, g5, g6, g7, g9, g10, g11, g12, gH0, gH2, gH3, gH4, gH7, gH9, go_sem, ht, eq_self]; done) | (apply Or.inr; rintro r rfl; rfl)) (hsmm) ?_; rintro _ nx - rfl hnx; (try simp only [put_nx, withH_nx, begP_nx] at hnx); simp -implicitDefEqProofs (disch := omega) only [g2, g4, g5, g6, g7, g9, g10, g11, g12, gH0, gH2, gH3, gH4, gH7, gH9, go_sem, ht, eq_self])
                (refine pCall_view (by simp -implicitDefEqProofs (disch := omega) only [g2, g4, g5, g6, g7, g9, g10, g11, g12, gH0, gH2, gH3, gH4, gH7, gH9, go_sem, ht, eq_self] <;> rfl) (by simp -implicitDefEqProofs (disch := omega) only [g2, g4, g5, g6, g7, g9, g10, g11, g12, gH0, gH2, gH3, gH4, gH7, gH9, go_sem, ht, eq_self]) (by first | (apply Or.inl; simp -implicitDefEqProofs (disch := omega) only [g2, g4, g5, g6, g7, g9, g10, g11, g12, gH0, gH2, gH3, gH4, gH7, gH9, go_sem, ht, eq_self]; done) | (apply Or.inr; rintro r rfl; rfl)) (hmm) ?_; rintro _ nx - rfl hnx; (try simp only [put_nx, withH_nx, begP_nx] at hnx); simp -implicitDefEqProofs (disch := omega) only [g2, g4, g5, g6, g7, g9, g10, g11, g12, gH0, gH2, gH3, gH4, gH7, gH9, go_sem, ht, eq_self])
                (refine pCall_view (by simp -implicitDefEqProofs (disch := omega) only [g2, g4, g5, g6, g7, g9, g10, g11, g12, gH0, gH2, gH3, gH4, gH7, gH9, go_sem, ht, eq_self] <;> rfl) (by simp -implicitDefEqProofs (disch := omega) only [g2, g4, g5, g6, g7, g9, g10, g11, g12, gH0, gH2, gH3, gH4, gH7, gH9, go_sem, ht, eq_self]) (by first | (apply Or.inl; simp -implicitDefEqProofs (disch := omega) only [g2, g4, g5, g6, g7, g9, g10, g11, g12, gH0, gH2, gH3, gH4, gH7, gH9, go_sem, ht, eq_self]; done) | (apply Or.inr; rintro r rfl; rfl)) (hsub) ?_; rintro _ nx - rfl hnx; (try simp only [put_nx, withH_nx, begP_nx] at hnx); simp -implicitDefEqProofs (disch := omega) only [g2, g4, g5, g6, g7, g9, g10, g11, g12, gH0, gH2, gH3, gH4, gH7, gH9, go_sem, ht, eq_self])
                exact ⟨⟨r7, r9, i, R1 - b * lo, rfl, by simp -implicitDefEqProofs (disch := omega) only [go_sem, ht, gH7, eq_self], rfl, by omega, by omega, by omega, by simp -implicitDefEqProofs (disch := omega) only [go_sem, ht, eq_self], by omega, rfl, hR2, zs.set i lo, by simp [hzl], rfl, hset, hds⟩, by omega⟩
end Go.Proofs.Ytfjdfnlkobeehaa.Ref

namespace Go.Proofs.Ytfjdfnlkobeehaa.Ref

-- left out: rafterref00.DivMod
theorem num_calls {s : Int} (h : -9223372036854775808 ≤ s) (h' : s ≤ 9223372036854775807) : PT Try.prog 23 [.val (.int .i64 s)] (isV (.val (.int .i64 s))) := by
  refine PCalls.enter (n := 4) (rs := [.tmp 2]) (tb := []) Try.func23 rfl rfl rfl (by kernel_rfl) (by kernel_rfl) (by simp) fun c hc ht => ?_
  simp -implicitDefEqProofs (disch := omega) only [go_sem, ht, eq_self]
  (refine end_treeW 0 ?_; simp -implicitDefEqProofs (disch := omega) only [go_sem, ht, eq_self])

-- left out: rafterref01.Right
end Go.Proofs.Ytfjdfnlkobeehaa.Ref
