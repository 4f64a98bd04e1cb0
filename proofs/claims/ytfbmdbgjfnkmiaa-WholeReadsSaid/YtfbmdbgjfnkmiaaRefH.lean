/- The document's answers on whole numbers: ints. -/
import Derived.Test.YtfbmdbgjfnkmiaaRefG
set_option maxRecDepth 100000
set_option linter.unusedVariables false
set_option linter.unusedSimpArgs false
namespace Go.Proofs.Ytfbmdbgjfnkmiaa.Ref

theorem r2int {b : Bool} {xs : List Nat} {x : Int} {k : Nat} (p : Wn b xs x k) (hk : k ≤ 100000) : PT Try.prog 34 [WX b xs] (isV (intP x)) := by
  have h1 := ofW p
  have i1 := int_z (v := -9223372036854775807) (by omega) (by omega)
  have i2 := int_z (v := 1) (by omega) (by omega)
  have i3 := int_z (v := 9223372036854775807) (by omega) (by omega)
  have z1 : Z 2 (-9223372036854775807) := by unfold Z; decide
  have z2 : Z 2 1 := by unfold Z; decide
  have z3 : Z 2 (-9223372036854775808) := by unfold Z; decide
  have z4 : Z 2 9223372036854775807 := by unfold Z; decide
  have s1 := nsub_z (okZ z1 (by omega)) (okZ z2 (by omega)) (okZ (z := 9223372036854775808) (k := 2) (by unfold Z; decide) (by omega))
  rw [show (-9223372036854775807 : Int) - 1 = -9223372036854775808 by decide] at s1
  have c1 := ncmp_z (okZ p.z p.hk) (okZ z3 (by omega))
  have c2 := ncmp_z (okZ p.z p.hk) (okZ z4 (by omega))
  have hlen := (okZ p.z p.hk).len
  have e1 : cZ x (-9223372036854775808) < 0 ↔ x < -9223372036854775808 := by unfold cZ; split <;> (try split) <;> omega
  have e2 : 0 < cZ x 9223372036854775807 ↔ 9223372036854775807 < x := by unfold cZ; split <;> (try split) <;> omega
  unfold intP
  by_cases hlo : x < -9223372036854775808
  · have hc1 := e1.2 hlo
    rw [if_neg (by omega)]
    generalize cZ x (-9223372036854775808) = k1 at *
    refine PCalls.enter (n := 50) (rs := [.tmp 2, .tmp 3]) (tb := [(3, [(0, []), (1, []), (2, []), (3, []), (4, []), (5, []), (6, [5]), (7, []), (8, []), (9, [])])]) Try.func34 rfl rfl rfl (by kernel_rfl) (by kernel_rfl) (by simp) fun c hc ht => ?_
    simp -implicitDefEqProofs (disch := omega) only [go_sem, ht, eq_self]
    ((refine pCall_view (by simp -implicitDefEqProofs (disch := omega) only [go_sem, ht, eq_self] <;> rfl) (by simp -implicitDefEqProofs (disch := omega) only [go_sem, ht, eq_self]) (by first | (apply Or.inl; simp -implicitDefEqProofs (disch := omega) only [go_sem, ht, eq_self]; done) | (apply Or.inr; rintro r rfl; rfl)) (h1) ?_; rintro _ nx_1 - rfl hnx_1; (try simp only [put_nx, withH_nx, begP_nx] at hnx_1); simp -implicitDefEqProofs (disch := omega) only [go_sem, ht, eq_self]); (refine pCall_view (by simp -implicitDefEqProofs (disch := omega) only [go_sem, ht, eq_self] <;> rfl) (by simp -implicitDefEqProofs (disch := omega) only [go_sem, ht, eq_self]) (by first | (apply Or.inl; simp -implicitDefEqProofs (disch := omega) only [go_sem, ht, eq_self]; done) | (apply Or.inr; rintro r rfl; rfl)) (i1) ?_; rintro _ nx_2 - rfl hnx_2; (try simp only [put_nx, withH_nx, begP_nx] at hnx_2); simp -implicitDefEqProofs (disch := omega) only [go_sem, ht, eq_self]); (refine pCall_view (by simp -implicitDefEqProofs (disch := omega) only [go_sem, ht, eq_self] <;> rfl) (by simp -implicitDefEqProofs (disch := omega) only [go_sem, ht, eq_self]) (by first | (apply Or.inl; simp -implicitDefEqProofs (disch := omega) only [go_sem, ht, eq_self]; done) | (apply Or.inr; rintro r rfl; rfl)) (i2) ?_; rintro _ nx_3 - rfl hnx_3; (try simp only [put_nx, withH_nx, begP_nx] at hnx_3); simp -implicitDefEqProofs (disch := omega) only [go_sem, ht, eq_self]); (refine pCall_view (by simp -implicitDefEqProofs (disch := omega) only [go_sem, ht, eq_self] <;> rfl) (by simp -implicitDefEqProofs (disch := omega) only [go_sem, ht, eq_self]) (by first | (apply Or.inl; simp -implicitDefEqProofs (disch := omega) only [go_sem, ht, eq_self]; done) | (apply Or.inr; rintro r rfl; rfl)) (s1) ?_; rintro _ nx_4 - rfl hnx_4; (try simp only [put_nx, withH_nx, begP_nx] at hnx_4); simp -implicitDefEqProofs (disch := omega) only [go_sem, ht, eq_self]); (refine pCall_view (by simp -implicitDefEqProofs (disch := omega) only [go_sem, ht, eq_self] <;> rfl) (by simp -implicitDefEqProofs (disch := omega) only [go_sem, ht, eq_self]) (by first | (apply Or.inl; simp -implicitDefEqProofs (disch := omega) only [go_sem, ht, eq_self]; done) | (apply Or.inr; rintro r rfl; rfl)) (c1) ?_; rintro _ nx_5 - rfl hnx_5; (try simp only [put_nx, withH_nx, begP_nx] at hnx_5); simp -implicitDefEqProofs (disch := omega) only [go_sem, ht, eq_self]))
    (refine end_treeW 0 ?_; simp -implicitDefEqProofs (disch := omega) only [go_sem, ht, eq_self])
  have hc1 : ¬ cZ x (-9223372036854775808) < 0 := fun h => hlo (e1.1 h)
  by_cases hhi : 9223372036854775807 < x
  · have hc2 := e2.2 hhi
    rw [if_neg (by omega)]
    generalize cZ x (-9223372036854775808) = k1 at *
    generalize cZ x 9223372036854775807 = k2 at *
    refine PCalls.enter (n := 50) (rs := [.tmp 2, .tmp 3]) (tb := [(3, [(0, []), (1, []), (2, []), (3, []), (4, []), (5, []), (6, [5]), (7, []), (8, []), (9, [])])]) Try.func34 rfl rfl rfl (by kernel_rfl) (by kernel_rfl) (by simp) fun c hc ht => ?_
    simp -implicitDefEqProofs (disch := omega) only [go_sem, ht, eq_self]
    ((refine pCall_view (by simp -implicitDefEqProofs (disch := omega) only [go_sem, ht, eq_self] <;> rfl) (by simp -implicitDefEqProofs (disch := omega) only [go_sem, ht, eq_self]) (by first | (apply Or.inl; simp -implicitDefEqProofs (disch := omega) only [go_sem, ht, eq_self]; done) | (apply Or.inr; rintro r rfl; rfl)) (h1) ?_; rintro _ nx_6 - rfl hnx_6; (try simp only [put_nx, withH_nx, begP_nx] at hnx_6); simp -implicitDefEqProofs (disch := omega) only [go_sem, ht, eq_self]); (refine pCall_view (by simp -implicitDefEqProofs (disch := omega) only [go_sem, ht, eq_self] <;> rfl) (by simp -implicitDefEqProofs (disch := omega) only [go_sem, ht, eq_self]) (by first | (apply Or.inl; simp -implicitDefEqProofs (disch := omega) only [go_sem, ht, eq_self]; done) | (apply Or.inr; rintro r rfl; rfl)) (i1) ?_; rintro _ nx_7 - rfl hnx_7; (try simp only [put_nx, withH_nx, begP_nx] at hnx_7); simp -implicitDefEqProofs (disch := omega) only [go_sem, ht, eq_self]); (refine pCall_view (by simp -implicitDefEqProofs (disch := omega) only [go_sem, ht, eq_self] <;> rfl) (by simp -implicitDefEqProofs (disch := omega) only [go_sem, ht, eq_self]) (by first | (apply Or.inl; simp -implicitDefEqProofs (disch := omega) only [go_sem, ht, eq_self]; done) | (apply Or.inr; rintro r rfl; rfl)) (i2) ?_; rintro _ nx_8 - rfl hnx_8; (try simp only [put_nx, withH_nx, begP_nx] at hnx_8); simp -implicitDefEqProofs (disch := omega) only [go_sem, ht, eq_self]); (refine pCall_view (by simp -implicitDefEqProofs (disch := omega) only [go_sem, ht, eq_self] <;> rfl) (by simp -implicitDefEqProofs (disch := omega) only [go_sem, ht, eq_self]) (by first | (apply Or.inl; simp -implicitDefEqProofs (disch := omega) only [go_sem, ht, eq_self]; done) | (apply Or.inr; rintro r rfl; rfl)) (s1) ?_; rintro _ nx_9 - rfl hnx_9; (try simp only [put_nx, withH_nx, begP_nx] at hnx_9); simp -implicitDefEqProofs (disch := omega) only [go_sem, ht, eq_self]); (refine pCall_view (by simp -implicitDefEqProofs (disch := omega) only [go_sem, ht, eq_self] <;> rfl) (by simp -implicitDefEqProofs (disch := omega) only [go_sem, ht, eq_self]) (by first | (apply Or.inl; simp -implicitDefEqProofs (disch := omega) only [go_sem, ht, eq_self]; done) | (apply Or.inr; rintro r rfl; rfl)) (c1) ?_; rintro _ nx_10 - rfl hnx_10; (try simp only [put_nx, withH_nx, begP_nx] at hnx_10); simp -implicitDefEqProofs (disch := omega) only [go_sem, ht, eq_self]); (refine pCall_view (by simp -implicitDefEqProofs (disch := omega) only [go_sem, ht, eq_self] <;> rfl) (by simp -implicitDefEqProofs (disch := omega) only [go_sem, ht, eq_self]) (by first | (apply Or.inl; simp -implicitDefEqProofs (disch := omega) only [go_sem, ht, eq_self]; done) | (apply Or.inr; rintro r rfl; rfl)) (i3) ?_; rintro _ nx_11 - rfl hnx_11; (try simp only [put_nx, withH_nx, begP_nx] at hnx_11); simp -implicitDefEqProofs (disch := omega) only [go_sem, ht, eq_self]); (refine pCall_view (by simp -implicitDefEqProofs (disch := omega) only [go_sem, ht, eq_self] <;> rfl) (by simp -implicitDefEqProofs (disch := omega) only [go_sem, ht, eq_self]) (by first | (apply Or.inl; simp -implicitDefEqProofs (disch := omega) only [go_sem, ht, eq_self]; done) | (apply Or.inr; rintro r rfl; rfl)) (c2) ?_; rintro _ nx_12 - rfl hnx_12; (try simp only [put_nx, withH_nx, begP_nx] at hnx_12); simp -implicitDefEqProofs (disch := omega) only [go_sem, ht, eq_self]))
    (refine end_treeW 0 ?_; simp -implicitDefEqProofs (disch := omega) only [go_sem, ht, eq_self])
  have hc2 : ¬ 0 < cZ x 9223372036854775807 := fun h => hhi (e2.1 h)
  rw [if_pos ⟨by omega, by omega⟩]
  clear e1 e2
  generalize cZ x (-9223372036854775808) = k1 at *
  generalize cZ x 9223372036854775807 = k2 at *
  have hva : V (D x.natAbs) = x.natAbs := V_D _
  have hlm : Lm (D x.natAbs) := Lm_D _
  have habs : x.natAbs ≤ 9223372036854775808 := by omega
  have hsx := @sg_self x
  refine PCalls.enter (n := 50) (rs := [.tmp 2, .tmp 3]) (tb := [(3, [(0, []), (1, []), (2, []), (3, []), (4, []), (5, []), (6, [5]), (7, []), (8, []), (9, [])])]) Try.func34 rfl rfl rfl (by kernel_rfl) (by kernel_rfl) (by simp) fun c hc ht => ?_
  simp -implicitDefEqProofs (disch := omega) only [go_sem, ht, eq_self]
  ((refine pCall_view (by simp -implicitDefEqProofs (disch := omega) only [go_sem, ht, eq_self] <;> rfl) (by simp -implicitDefEqProofs (disch := omega) only [go_sem, ht, eq_self]) (by first | (apply Or.inl; simp -implicitDefEqProofs (disch := omega) only [go_sem, ht, eq_self]; done) | (apply Or.inr; rintro r rfl; rfl)) (h1) ?_; rintro _ nx_13 - rfl hnx_13; (try simp only [put_nx, withH_nx, begP_nx] at hnx_13); simp -implicitDefEqProofs (disch := omega) only [go_sem, ht, eq_self]); (refine pCall_view (by simp -implicitDefEqProofs (disch := omega) only [go_sem, ht, eq_self] <;> rfl) (by simp -implicitDefEqProofs (disch := omega) only [go_sem, ht, eq_self]) (by first | (apply Or.inl; simp -implicitDefEqProofs (disch := omega) only [go_sem, ht, eq_self]; done) | (apply Or.inr; rintro r rfl; rfl)) (i1) ?_; rintro _ nx_14 - rfl hnx_14; (try simp only [put_nx, withH_nx, begP_nx] at hnx_14); simp -implicitDefEqProofs (disch := omega) only [go_sem, ht, eq_self]); (refine pCall_view (by simp -implicitDefEqProofs (disch := omega) only [go_sem, ht, eq_self] <;> rfl) (by simp -implicitDefEqProofs (disch := omega) only [go_sem, ht, eq_self]) (by first | (apply Or.inl; simp -implicitDefEqProofs (disch := omega) only [go_sem, ht, eq_self]; done) | (apply Or.inr; rintro r rfl; rfl)) (i2) ?_; rintro _ nx_15 - rfl hnx_15; (try simp only [put_nx, withH_nx, begP_nx] at hnx_15); simp -implicitDefEqProofs (disch := omega) only [go_sem, ht, eq_self]); (refine pCall_view (by simp -implicitDefEqProofs (disch := omega) only [go_sem, ht, eq_self] <;> rfl) (by simp -implicitDefEqProofs (disch := omega) only [go_sem, ht, eq_self]) (by first | (apply Or.inl; simp -implicitDefEqProofs (disch := omega) only [go_sem, ht, eq_self]; done) | (apply Or.inr; rintro r rfl; rfl)) (s1) ?_; rintro _ nx_16 - rfl hnx_16; (try simp only [put_nx, withH_nx, begP_nx] at hnx_16); simp -implicitDefEqProofs (disch := omega) only [go_sem, ht, eq_self]); (refine pCall_view (by simp -implicitDefEqProofs (disch := omega) only [go_sem, ht, eq_self] <;> rfl) (by simp -implicitDefEqProofs (disch := omega) only [go_sem, ht, eq_self]) (by first | (apply Or.inl; simp -implicitDefEqProofs (disch := omega) only [go_sem, ht, eq_self]; done) | (apply Or.inr; rintro r rfl; rfl)) (c1) ?_; rintro _ nx_17 - rfl hnx_17; (try simp only [put_nx, withH_nx, begP_nx] at hnx_17); simp -implicitDefEqProofs (disch := omega) only [go_sem, ht, eq_self]); (refine pCall_view (by simp -implicitDefEqProofs (disch := omega) only [go_sem, ht, eq_self] <;> rfl) (by simp -implicitDefEqProofs (disch := omega) only [go_sem, ht, eq_self]) (by first | (apply Or.inl; simp -implicitDefEqProofs (disch := omega) only [go_sem, ht, eq_self]; done) | (apply Or.inr; rintro r rfl; rfl)) (i3) ?_; rintro _ nx_18 - rfl hnx_18; (try simp only [put_nx, withH_nx, begP_nx] at hnx_18); simp -implicitDefEqProofs (disch := omega) only [go_sem, ht, eq_self]); (refine pCall_view (by simp -implicitDefEqProofs (disch := omega) only [go_sem, ht, eq_self] <;> rfl) (by simp -implicitDefEqProofs (disch := omega) only [go_sem, ht, eq_self]) (by first | (apply Or.inl; simp -implicitDefEqProofs (disch := omega) only [go_sem, ht, eq_self]; done) | (apply Or.inr; rintro r rfl; rfl)) (c2) ?_; rintro _ nx_19 - rfl hnx_19; (try simp only [put_nx, withH_nx, begP_nx] at hnx_19); simp -implicitDefEqProofs (disch := omega) only [go_sem, ht, eq_self]))
  generalize hxs : D x.natAbs = ds at *
  generalize decide (x < 0) = sx at *
  refine LW.loopW hc ht (by kernel_rfl) (fun t => ∃ r4, t.sl 4 = .ptr r4 0 ∧ t.H r4 = some [.val (.bool sx), .sl ds.length (ds.map I)] ∧ ∃ k : Nat, k ≤ ds.length ∧ t.sl 7 = .val (.int .i64 ((k : Int) - 1)) ∧ t.sl 6 = .val (.int .i64 (sg sx (V (ds.drop k)))))
      (fun t => match t.sl 7 with | .val (.int _ j) => (j + 1).toNat | _ => 0) ?_ ?_
  · simp -implicitDefEqProofs (disch := omega) only [go_sem, ht, eq_self]
    refine ⟨_, rfl, by simp -implicitDefEqProofs (disch := omega) only [go_sem, ht, eq_self], ds.length, Nat.le_refl _, rfl, ?_⟩
    rw [List.drop_length, V_nil]
    cases sx <;> rfl
  · rintro t ⟨r4, h4, hH, k, hkl, h7, h6⟩
    by_cases hk0 : k = 0
    · subst hk0
      rw [List.drop_zero, hva, hsx] at h6
      simp -implicitDefEqProofs (disch := omega) only [go_sem, ht, h4, h6, h7, hH, eq_self]
      (refine end_treeW 0 ?_; simp -implicitDefEqProofs (disch := omega) only [go_sem, ht, eq_self])
    · have e1 : ((k : Int) - 1).toNat = k - 1 := by omega
      have e2 : k - 1 + 1 = k := by omega
      have hg := hlm.get (k - 1)
      have hV := V_drop ds (i := k - 1) (by omega)
      rw [e2] at hV
      have hle : V (ds.drop (k - 1)) ≤ V ds := by
        have := V_split ds (i := k - 1) (by omega)
        have h1 : V (ds.drop (k - 1)) ≤ 10000 ^ (k - 1) * V (ds.drop (k - 1)) := Nat.le_mul_of_pos_left _ (Nat.pow_pos (by decide))
        omega
      rw [hva] at hle
      obtain ⟨w1, ew1⟩ : ∃ w1, V (ds.drop (k - 1)) = w1 := ⟨_, rfl⟩
      rw [ew1] at hV hle
      generalize V (ds.drop k) = w at *
      cases sx
      · rw [sg_f] at h6
        simp -implicitDefEqProofs (disch := omega) only [go_sem, ht, h4, h6, h7, hH, e1, eq_self]
        rw [sg_f] at hsx
        refine ⟨⟨by omega, by omega⟩, ⟨r4, rfl, hH, k - 1, by omega, rfl, ?_⟩, by omega⟩
        rw [ew1, sg_f]
        congr 2; omega
      · rw [sg_t] at h6
        simp -implicitDefEqProofs (disch := omega) only [go_sem, ht, h4, h6, h7, hH, e1, eq_self]
        rw [sg_t] at hsx
        refine ⟨⟨r4, rfl, hH, k - 1, by omega, rfl, ?_⟩, by omega⟩
        rw [ew1, sg_t]
        congr 2; omega
end Go.Proofs.Ytfbmdbgjfnkmiaa.Ref
