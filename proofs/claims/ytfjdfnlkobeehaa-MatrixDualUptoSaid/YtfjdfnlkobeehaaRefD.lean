/- The document's numbers, with their signs. -/
import Derived.Test.YtfjdfnlkobeehaaRefC
import Derived.Test.YtfjdfnlkobeehaaWholeA
set_option maxRecDepth 100000
set_option linter.unusedVariables false
set_option linter.unusedSimpArgs false
namespace Go.Proofs.Ytfjdfnlkobeehaa.Ref

/-- A number of the document's. -/
def NZ (z : Int) : PV := NP (decide (z < 0)) z.natAbs
theorem NZ_def (z : Int) : NZ z = .agg [.val (.bool (decide (z < 0))), .sl (D z.natAbs).length ((D z.natAbs).map I)] := rfl
theorem NZ_sg (b : Bool) (n : Nat) : NP (b && decide (0 < n)) n = NZ (sg b n) := by
  unfold NZ
  rw [sg_abs]
  congr 1
  cases b
  · simp [sg]
  · simp only [sg, Bool.true_and, if_true, decide_eq_decide]
    omega
theorem NZ_nat (n : Nat) : NP false n = NZ n := by
  have := NZ_sg false n
  simpa [sg] using this
theorem made_z {xs : List Nat} {b : Bool} (h : Ok xs) : PT Try.prog 128 [.val (.bool b), SI xs] (isV (NZ (sg b (V xs)))) := by
  rw [← NZ_sg]; exact made_any h
theorem minus_z {z : Int} (h : Ok (D z.natAbs)) : PT Try.prog 108 [NZ z] (isV (NZ (-z))) := by
  have := minus_calls (neg := decide (z < 0)) h
  rw [NZ_sg] at this
  have e : sg (!decide (z < 0)) z.natAbs = -z := by
    by_cases hz : z < 0
    · simp [sg, hz]; omega
    · simp [sg, hz]; omega
  rwa [e] at this
theorem abs_z {z : Int} (h : Ok (D z.natAbs)) : PT Try.prog 134 [NZ z] (isV (NZ z.natAbs)) := by
  have := abs_calls (neg := decide (z < 0)) h
  rwa [NZ_nat] at this
theorem sign_z {z : Int} (h : Ok (D z.natAbs)) : PT Try.prog 96 [NZ z] (isV (.val (.int .i64 (cZ z 0)))) := by
  have hlen := h.len
  rw [NZ_def]
  refine PCalls.enter (n := 9) (rs := [.tmp 2]) (tb := []) Try.func96 rfl rfl rfl (by kernel_rfl) (by kernel_rfl) (by simp) fun c hc ht => ?_
  by_cases h0 : z = 0
  · subst h0
    have hz : (D (Int.natAbs 0)).length = 0 := D_len_zero.2 rfl
    rw [cZ_eq rfl]
    simp -implicitDefEqProofs (disch := omega) only [go_sem, ht, eq_self]
    (refine end_treeW 0 ?_; simp -implicitDefEqProofs (disch := omega) only [go_sem, ht, eq_self])
  · have hp := D_len_pos (n := z.natAbs) (by omega)
    by_cases hn : z < 0
    · have e := decide_eq_true hn
      rw [cZ_lt hn, e]
      simp -implicitDefEqProofs (disch := omega) only [go_sem, ht, eq_self]
      (refine end_treeW 0 ?_; simp -implicitDefEqProofs (disch := omega) only [go_sem, ht, eq_self])
    · have e := decide_eq_false hn
      rw [cZ_gt (by omega), e]
      simp -implicitDefEqProofs (disch := omega) only [go_sem, ht, eq_self]
      (refine end_treeW 0 ?_; simp -implicitDefEqProofs (disch := omega) only [go_sem, ht, eq_self])
-- left out: rafterref00.Cmp
theorem nadd_z {a b : Int} (ha : Ok (D a.natAbs)) (hb : Ok (D b.natAbs)) (hab : Ok (D (a.natAbs + b.natAbs))) : PT Try.prog 109 [NZ a, NZ b] (isV (NZ (a + b))) := by
  by_cases hs : decide (a < 0) = decide (b < 0)
  · have hp := plus_calls ha hb
    have hm := made_z (b := decide (b < 0)) hab
    rw [V_D] at hm
    have e : sg (decide (b < 0)) (a.natAbs + b.natAbs) = a + b := by
      rw [decide_eq_decide] at hs
      by_cases hz : b < 0
      · have := hs.2 hz; simp [sg, hz]; omega
      · have := mt hs.1 hz; simp [sg, hz]; omega
    rw [e] at hm
    generalize a + b = s at *
    rw [NZ_def] at hm
    rw [NZ_def, NZ_def, NZ_def, hs]
    generalize decide (b < 0) = sb at *
    refine PCalls.enter (n := 38) (rs := [.cell 4 103]) (tb := [(2, [(0, []), (1, []), (2, []), (3, []), (4, []), (5, []), (6, [0, 1]), (7, []), (8, [])]), (4, [(0, []), (1, []), (2, []), (3, []), (4, []), (5, []), (6, [0, 1]), (7, []), (8, [])]), (5, [(0, []), (1, []), (2, []), (3, []), (4, []), (5, []), (6, [0, 1]), (7, []), (8, [])])]) Try.func109 rfl rfl rfl (by kernel_rfl) (by kernel_rfl) (by simp) fun c hc ht => ?_
    simp -implicitDefEqProofs (disch := omega) only [go_sem, ht, eq_self]
    ((refine pCall_view (by simp -implicitDefEqProofs (disch := omega) only [go_sem, ht, eq_self] <;> rfl) (by simp -implicitDefEqProofs (disch := omega) only [go_sem, ht, eq_self]) (by first | (apply Or.inl; simp -implicitDefEqProofs (disch := omega) only [go_sem, ht, eq_self]; done) | (apply Or.inr; rintro r rfl; rfl)) (hp) ?_; rintro _ nx_1 - rfl hnx_1; (try simp only [put_nx, withH_nx, begP_nx] at hnx_1); simp -implicitDefEqProofs (disch := omega) only [go_sem, ht, eq_self]); (refine pCall_view (by simp -implicitDefEqProofs (disch := omega) only [go_sem, ht, eq_self] <;> rfl) (by simp -implicitDefEqProofs (disch := omega) only [go_sem, ht, eq_self]) (by first | (apply Or.inl; simp -implicitDefEqProofs (disch := omega) only [go_sem, ht, eq_self]; done) | (apply Or.inr; rintro r rfl; rfl)) (hm) ?_; rintro _ nx_2 - rfl hnx_2; (try simp only [put_nx, withH_nx, begP_nx] at hnx_2); simp -implicitDefEqProofs (disch := omega) only [go_sem, ht, eq_self]))
    (refine end_treeN 2 ?_; simp -implicitDefEqProofs (disch := omega) only [go_sem, ht, eq_self])
  · have hne : (decide (a < 0) == decide (b < 0)) = false := by simpa using hs
    have hsz := size_calls (f := decide (a < 0)) (g := decide (b < 0)) ha hb
    by_cases hle : b.natAbs ≤ a.natAbs
    · by_cases h0 : a.natAbs = 0
      · rw [decide_eq_decide] at hs; exact absurd (by omega) hs
      have hl := less_calls ha hb h0 hle
      have hge : 0 ≤ cmpI a.natAbs b.natAbs := by
        unfold cmpI; split
        · omega
        · split <;> omega
      have hm := made_z (xs := lessL a.natAbs b.natAbs) (b := decide (a < 0)) ⟨lessL_lm _ _, by rw [lessL_len]; exact ha.len⟩
      rw [lessL_V] at hm
      have e : sg (decide (a < 0)) (a.natAbs - b.natAbs) = a + b := by
        rw [decide_eq_decide] at hs
        by_cases hz : a < 0
        · have : ¬ b < 0 := fun h => hs ⟨fun _ => h, fun _ => hz⟩
          simp [sg, hz]; omega
        · have : b < 0 := by
            refine Decidable.byContradiction fun h => hs ⟨fun h' => absurd h' hz, fun h' => absurd h' h⟩
          simp [sg, hz]; omega
      rw [e] at hm
      generalize cmpI a.natAbs b.natAbs = cm at *
      generalize a + b = s at *
      rw [NZ_def] at hm
      rw [NP_def, NP_def] at hsz
      rw [NZ_def, NZ_def, NZ_def]
      refine PCalls.enter (n := 38) (rs := [.cell 4 103]) (tb := [(2, [(0, []), (1, []), (2, []), (3, []), (4, []), (5, []), (6, [0, 1]), (7, []), (8, [])]), (4, [(0, []), (1, []), (2, []), (3, []), (4, []), (5, []), (6, [0, 1]), (7, []), (8, [])]), (5, [(0, []), (1, []), (2, []), (3, []), (4, []), (5, []), (6, [0, 1]), (7, []), (8, [])])]) Try.func109 rfl rfl rfl (by kernel_rfl) (by kernel_rfl) (by simp) fun c hc ht => ?_
      simp -implicitDefEqProofs (disch := omega) only [go_sem, ht, hne, eq_self]
      ((refine pCall_view (by simp -implicitDefEqProofs (disch := omega) only [go_sem, ht, eq_self] <;> rfl) (by simp -implicitDefEqProofs (disch := omega) only [go_sem, ht, eq_self]) (by first | (apply Or.inl; simp -implicitDefEqProofs (disch := omega) only [go_sem, ht, eq_self]; done) | (apply Or.inr; rintro r rfl; rfl)) (hsz) ?_; rintro _ nx_3 - rfl hnx_3; (try simp only [put_nx, withH_nx, begP_nx] at hnx_3); simp -implicitDefEqProofs (disch := omega) only [go_sem, ht, eq_self]); (refine pCall_view (by simp -implicitDefEqProofs (disch := omega) only [go_sem, ht, eq_self] <;> rfl) (by simp -implicitDefEqProofs (disch := omega) only [go_sem, ht, eq_self]) (by first | (apply Or.inl; simp -implicitDefEqProofs (disch := omega) only [go_sem, ht, eq_self]; done) | (apply Or.inr; rintro r rfl; rfl)) (hl) ?_; rintro _ nx_4 - rfl hnx_4; (try simp only [put_nx, withH_nx, begP_nx] at hnx_4); simp -implicitDefEqProofs (disch := omega) only [go_sem, ht, eq_self]); (refine pCall_view (by simp -implicitDefEqProofs (disch := omega) only [go_sem, ht, eq_self] <;> rfl) (by simp -implicitDefEqProofs (disch := omega) only [go_sem, ht, eq_self]) (by first | (apply Or.inl; simp -implicitDefEqProofs (disch := omega) only [go_sem, ht, eq_self]; done) | (apply Or.inr; rintro r rfl; rfl)) (hm) ?_; rintro _ nx_5 - rfl hnx_5; (try simp only [put_nx, withH_nx, begP_nx] at hnx_5); simp -implicitDefEqProofs (disch := omega) only [go_sem, ht, eq_self]))
      (refine end_treeN 2 ?_; simp -implicitDefEqProofs (disch := omega) only [go_sem, ht, eq_self])
    · have h0 : b.natAbs ≠ 0 := by omega
      have hl := less_calls hb ha h0 (by omega)
      have hlt : cmpI a.natAbs b.natAbs = -1 := cmpI_lt (by omega)
      rw [hlt] at hsz
      have hm := made_z (xs := lessL b.natAbs a.natAbs) (b := decide (b < 0)) ⟨lessL_lm _ _, by rw [lessL_len]; exact hb.len⟩
      rw [lessL_V] at hm
      have e : sg (decide (b < 0)) (b.natAbs - a.natAbs) = a + b := by
        rw [decide_eq_decide] at hs
        by_cases hz : b < 0
        · have : ¬ a < 0 := fun h => hs ⟨fun _ => hz, fun _ => h⟩
          simp [sg, hz]; omega
        · have : a < 0 := by
            refine Decidable.byContradiction fun h => hs ⟨fun h' => absurd h' h, fun h' => absurd h' hz⟩
          simp [sg, hz]; omega
      rw [e] at hm
      generalize a + b = s at *
      rw [NZ_def] at hm
      rw [NP_def, NP_def] at hsz
      rw [NZ_def, NZ_def, NZ_def]
      refine PCalls.enter (n := 38) (rs := [.cell 4 103]) (tb := [(2, [(0, []), (1, []), (2, []), (3, []), (4, []), (5, []), (6, [0, 1]), (7, []), (8, [])]), (4, [(0, []), (1, []), (2, []), (3, []), (4, []), (5, []), (6, [0, 1]), (7, []), (8, [])]), (5, [(0, []), (1, []), (2, []), (3, []), (4, []), (5, []), (6, [0, 1]), (7, []), (8, [])])]) Try.func109 rfl rfl rfl (by kernel_rfl) (by kernel_rfl) (by simp) fun c hc ht => ?_
      simp -implicitDefEqProofs (disch := omega) only [go_sem, ht, hne, eq_self]
      ((refine pCall_view (by simp -implicitDefEqProofs (disch := omega) only [go_sem, ht, eq_self] <;> rfl) (by simp -implicitDefEqProofs (disch := omega) only [go_sem, ht, eq_self]) (by first | (apply Or.inl; simp -implicitDefEqProofs (disch := omega) only [go_sem, ht, eq_self]; done) | (apply Or.inr; rintro r rfl; rfl)) (hsz) ?_; rintro _ nx_6 - rfl hnx_6; (try simp only [put_nx, withH_nx, begP_nx] at hnx_6); simp -implicitDefEqProofs (disch := omega) only [go_sem, ht, eq_self]); (refine pCall_view (by simp -implicitDefEqProofs (disch := omega) only [go_sem, ht, eq_self] <;> rfl) (by simp -implicitDefEqProofs (disch := omega) only [go_sem, ht, eq_self]) (by first | (apply Or.inl; simp -implicitDefEqProofs (disch := omega) only [go_sem, ht, eq_self]; done) | (apply Or.inr; rintro r rfl; rfl)) (hl) ?_; rintro _ nx_7 - rfl hnx_7; (try simp only [put_nx, withH_nx, begP_nx] at hnx_7); simp -implicitDefEqProofs (disch := omega) only [go_sem, ht, eq_self]); (refine pCall_view (by simp -implicitDefEqProofs (disch := omega) only [go_sem, ht, eq_self] <;> rfl) (by simp -implicitDefEqProofs (disch := omega) only [go_sem, ht, eq_self]) (by first | (apply Or.inl; simp -implicitDefEqProofs (disch := omega) only [go_sem, ht, eq_self]; done) | (apply Or.inr; rintro r rfl; rfl)) (hm) ?_; rintro _ nx_8 - rfl hnx_8; (try simp only [put_nx, withH_nx, begP_nx] at hnx_8); simp -implicitDefEqProofs (disch := omega) only [go_sem, ht, eq_self]))
      (refine end_treeN 2 ?_; simp -implicitDefEqProofs (disch := omega) only [go_sem, ht, eq_self])
theorem nsub_z {a b : Int} (ha : Ok (D a.natAbs)) (hb : Ok (D b.natAbs)) (hab : Ok (D (a.natAbs + b.natAbs))) : PT Try.prog 122 [NZ a, NZ b] (isV (NZ (a - b))) := by
  have hmi := minus_z hb
  have had := nadd_z ha (b := -b) (by rw [Int.natAbs_neg]; exact hb) (by rw [Int.natAbs_neg]; exact hab)
  rw [← Int.sub_eq_add_neg] at had
  generalize -b = c0 at *
  generalize a - b = s at *
  rw [NZ_def, NZ_def] at hmi
  rw [NZ_def, NZ_def, NZ_def] at had
  rw [NZ_def, NZ_def, NZ_def]
  refine PCalls.enter (n := 9) (rs := [.cell 4 103]) (tb := [(1, [(0, []), (1, []), (2, [0]), (3, []), (4, [])])]) Try.func122 rfl rfl rfl (by kernel_rfl) (by kernel_rfl) (by simp) fun c hc ht => ?_
  simp -implicitDefEqProofs (disch := omega) only [go_sem, ht, eq_self]
  ((refine pCall_view (by simp -implicitDefEqProofs (disch := omega) only [go_sem, ht, eq_self] <;> rfl) (by simp -implicitDefEqProofs (disch := omega) only [go_sem, ht, eq_self]) (by first | (apply Or.inl; simp -implicitDefEqProofs (disch := omega) only [go_sem, ht, eq_self]; done) | (apply Or.inr; rintro r rfl; rfl)) (hmi) ?_; rintro _ nx_9 - rfl hnx_9; (try simp only [put_nx, withH_nx, begP_nx] at hnx_9); simp -implicitDefEqProofs (disch := omega) only [go_sem, ht, eq_self]); (refine pCall_view (by simp -implicitDefEqProofs (disch := omega) only [go_sem, ht, eq_self] <;> rfl) (by simp -implicitDefEqProofs (disch := omega) only [go_sem, ht, eq_self]) (by first | (apply Or.inl; simp -implicitDefEqProofs (disch := omega) only [go_sem, ht, eq_self]; done) | (apply Or.inr; rintro r rfl; rfl)) (had) ?_; rintro _ nx_10 - rfl hnx_10; (try simp only [put_nx, withH_nx, begP_nx] at hnx_10); simp -implicitDefEqProofs (disch := omega) only [go_sem, ht, eq_self]))
  (refine end_treeN 2 ?_; simp -implicitDefEqProofs (disch := omega) only [go_sem, ht, eq_self])
theorem sg_self {z : Int} : sg (decide (z < 0)) z.natAbs = z := by
  by_cases h : z < 0
  · simp [sg, h]; omega
  · simp [sg, h]; omega
theorem nmul_z {a b : Int} (ha : Ok (D a.natAbs)) (hb : Ok (D b.natAbs)) (hab : (D a.natAbs).length + (D b.natAbs).length + 1 ≤ 1099511627776) : PT Try.prog 106 [NZ a, NZ b] (isV (NZ (a * b))) := by
  have := nmul_any (f := decide (a < 0)) (g := decide (b < 0)) ha hb hab
  rw [NZ_sg] at this
  have e : sg (decide (a < 0) != decide (b < 0)) (a.natAbs * b.natAbs) = a * b := by
    have h1 := @sg_self a
    have h2 := @sg_self b
    conv => rhs; rw [← h1, ← h2]
    generalize decide (a < 0) = f
    generalize decide (b < 0) = g
    cases f <;> cases g <;> simp [sg, Int.mul_neg, Int.neg_mul]
  rwa [e] at this
theorem divided_z {a b : Int} (ha : Ok (D a.natAbs)) (hb : Ok (D b.natAbs)) (hb0 : b ≠ 0) (hsz : (D b.natAbs).length + 1 ≤ 1099511627776) :
    PT Try.prog 135 [NZ a, NZ b] (isV (.tup [NZ (a.natAbs / b.natAbs : Nat), NZ (a.natAbs % b.natAbs : Nat)])) := by
  have := divided_calls (fa := decide (a < 0)) (fb := decide (b < 0)) ha hb (by omega) hsz
  rwa [NZ_nat, NZ_nat] at this
end Go.Proofs.Ytfjdfnlkobeehaa.Ref
