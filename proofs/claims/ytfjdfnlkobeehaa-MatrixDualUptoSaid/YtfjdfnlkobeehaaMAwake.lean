/- The matrix laws' first call. -/
import Derived.Test.YtfjdfnlkobeehaaMatrix1
set_option maxRecDepth 100000
set_option linter.unusedVariables false
set_option linter.unusedSimpArgs false
namespace Go.Proofs.Ytfjdfnlkobeehaa

theorem awake_ech : echT [[2, 4, 2], [1, 2, 3]] 3 = [[1, 2, 0], [0, 0, 1]] := by decide +kernel
theorem awake_piv : (echW [[2, 4, 2], [1, 2, 3]] 3).2 = [0, 2] := by decide +kernel
theorem D_small {n : Nat} (h : n < 4294967296) : (D n).length ≤ 1 := by
  by_cases h0 : n = 0
  · subst h0; rw [D_zero]; simp
  · rw [D_one (by omega) h]; simp
theorem CZ_lm (zs : List Int) : ∀ p ∈ CZ zs, Lm p.2 := fun p hp => by
  obtain ⟨z, hz, rfl⟩ := List.mem_map.1 hp
  exact Lm_D _
theorem CZ_ok {zs : List Int} {k : Nat} (h : ∀ z ∈ zs, Z k z) (hk : k ≤ 1099511627776) : ∀ p ∈ CZ zs, Ok p.2 := fun p hp => by
  obtain ⟨z, hz, rfl⟩ := List.mem_map.1 hp
  exact (h z hz).ok hk
theorem lenW_CZ {zs : List Int} {k : Nat} (h : ∀ z ∈ zs, Z k z) : lenW (CZ zs) ≤ zs.length * (k + 1) := by
  induction zs with
  | nil => simp [CZ, lenW]
  | cons z zs ih =>
    have h1 := (h z (List.mem_cons_self ..)).len
    have h2 := ih fun x hx => h x (List.mem_cons_of_mem _ hx)
    have e : CZ (z :: zs) = toC z :: CZ zs := rfl
    rw [e]
    simp only [lenW, toC, List.length_cons, Nat.succ_mul]
    omega
theorem lenM_CZ {W : List (List Int)} {k cols : Nat} (h : ∀ z ∈ W, z.length ≤ cols ∧ ∀ x ∈ z, Z k x) : lenM (W.map CZ) ≤ W.length * (1 + cols * (k + 1)) := by
  unfold lenM
  induction W with
  | nil => simp
  | cons z W ih =>
    obtain ⟨h1, h2⟩ := h z (List.mem_cons_self ..)
    have h3 := ih fun x hx => h x (List.mem_cons_of_mem _ hx)
    have h4 := lenW_CZ h2
    have h5 : z.length * (k + 1) ≤ cols * (k + 1) := Nat.mul_le_mul_right _ h1
    simp only [List.map_cons, List.sum_cons, List.length_cons, Nat.succ_mul]
    omega
theorem Mx.C {W : List (List Int)} {k cols B : Nat} (h : ∀ z ∈ W, z.length ≤ cols ∧ ∀ x ∈ z, Z k x) (hB : W.length * (1 + cols * (k + 1)) ≤ B) (h2 : 2 * (B + 1) + 1 ≤ 1000000) : Mx (W.map CZ) B :=
  ⟨fun l hl p hp => by obtain ⟨z, hz, rfl⟩ := List.mem_map.1 hl; exact CZ_lm z p hp, Nat.le_trans (lenM_CZ h) hB, h2⟩
theorem awake_matrix : PT Try.prog 11 [] (isV (.val (.bool true))) := by
  have hz : ∀ (zs : List Int), (∀ z ∈ zs, 0 ≤ z ∧ z ≤ 4) → ∀ z ∈ zs, -9223372036854775808 ≤ z ∧ z ≤ 9223372036854775807 := fun zs h z hz => by have := h z hz; omega
  have hZ : ∀ (zs : List Int), (∀ z ∈ zs, 0 ≤ z ∧ z ≤ 4) → ∀ z ∈ zs, Z 1 z := fun zs h z hz => Z2 (by have := h z hz; omega)
  have a1 : ∀ z ∈ [2, 4, 2], (0 : Int) ≤ z ∧ z ≤ 4 := by decide
  have a2 : ∀ z ∈ [1, 2, 3], (0 : Int) ≤ z ∧ z ≤ 4 := by decide
  have a3 : ∀ z ∈ [1, 2, 0], (0 : Int) ≤ z ∧ z ≤ 4 := by decide
  have a4 : ∀ z ∈ [0, 0, 1], (0 : Int) ≤ z ∧ z ≤ 4 := by decide
  have r1 := row_calls (zs := [2, 4, 2]) (hz _ a1) (by simp)
  have r2 := row_calls (zs := [1, 2, 3]) (hz _ a2) (by simp)
  have r3 := row_calls (zs := [1, 2, 0]) (hz _ a3) (by simp)
  have r4 := row_calls (zs := [0, 0, 1]) (hz _ a4) (by simp)
  have hm : Mx ([[2, 4, 2], [1, 2, 3]].map CZ) 100 := .C (k := 1) (cols := 3) (fun z hz => by
    rcases List.mem_cons.1 hz with rfl | hz
    · exact ⟨by simp, hZ _ a1⟩
    · have : z = [1, 2, 3] := by simpa using hz
      subst this; exact ⟨by simp, hZ _ a2⟩) (by simp) (by omega)
  have he := mech_calls hm (cn := 3)
  have hv : ([[2, 4, 2], [1, 2, 3]].map CZ).map vals = [[2, 4, 2], [1, 2, 3]] := by simp [vals_CZ]
  have hw : wrongM ([[2, 4, 2], [1, 2, 3]].map CZ) 3 = false := decide_eq_false (by simp [CZ_len])
  have hlg : longZ [[1, 2, 0], [0, 0, 1]] = false := decide_eq_false (by
    rintro ⟨z, hzm, x, hx, hlt⟩
    have : x.natAbs < 4294967296 := by
      rcases List.mem_cons.1 hzm with rfl | hzm
      · have := a3 x hx; omega
      · have : z = [0, 0, 1] := by simpa using hzm
        subst this; have := a4 x hx; omega
    have := D_small this
    omega)
  have e : mEch ([[2, 4, 2], [1, 2, 3]].map CZ) 3 = ([[1, 2, 0], [0, 0, 1]], 0) := by
    unfold mEch
    rw [hw, if_neg (by simp), hv, show (3 : Int).toNat = 3 from rfl, awake_ech, hlg, if_neg (by simp)]
  rw [e] at he
  have hs := same_rows (m := [[1, 2, 0], [0, 0, 1]].map CZ) (m' := [[1, 2, 0], [0, 0, 1]].map CZ) (fun l hl => by
    rcases List.mem_cons.1 hl with rfl | hl
    · exact ⟨CZ_ok (hZ _ a3) (by omega), by simp [CZ_len]⟩
    · have : l = CZ [0, 0, 1] := by simpa using hl
      subst this; exact ⟨CZ_ok (hZ _ a4) (by omega), by simp [CZ_len]⟩) (fun l hl => by
    rcases List.mem_cons.1 hl with rfl | hl
    · exact CZ_ok (hZ _ a3) (by omega)
    · have : l = CZ [0, 0, 1] := by simpa using hl
      subst this; exact CZ_ok (hZ _ a4) (by omega)) (by simp)
  rw [decide_eq_true rfl] at hs
  have l1 := CZ_len [2, 4, 2]
  have l2 := CZ_len [1, 2, 3]
  have l3 := CZ_len [1, 2, 0]
  have l4 := CZ_len [0, 0, 1]
  simp only [List.map_cons, List.map_nil, vi_def, List.length_cons, List.length_nil, SM_def] at r1 r2 r3 r4 he hs l1 l2 l3 l4
  refine PCalls.enter (n := 23) (rs := [.tmp 0]) (tb := []) Try.func11 rfl rfl rfl (by kernel_rfl) (by kernel_rfl) (by simp) fun c hc ht => ?_
  simp -implicitDefEqProofs (disch := omega) only [go_sem, ht, eq_self]
  (refine pCall_frz (fun _ => true) 1 (by simp -implicitDefEqProofs (disch := omega) only [go_sem, ht, eq_self] <;> rfl) (by simp -implicitDefEqProofs (disch := omega) only [go_sem, ht, eq_self]) (by simp -implicitDefEqProofs (disch := omega) only [go_sem, ht, eq_self] <;> rfl) (by simp -implicitDefEqProofs (disch := omega) only [go_sem, ht, eq_self]) (r1) ?_; rintro _ nx - rfl hnx; (try simp only [put_nx, withH_nx, begP_nx] at hnx); simp -implicitDefEqProofs (disch := omega) only [go_sem, ht, eq_self])
  (refine pCall_frz (fun _ => true) 1 (by simp -implicitDefEqProofs (disch := omega) only [go_sem, ht, eq_self] <;> rfl) (by simp -implicitDefEqProofs (disch := omega) only [go_sem, ht, eq_self]) (by simp -implicitDefEqProofs (disch := omega) only [go_sem, ht, eq_self] <;> rfl) (by simp -implicitDefEqProofs (disch := omega) only [go_sem, ht, eq_self]) (r2) ?_; rintro _ nx - rfl hnx; (try simp only [put_nx, withH_nx, begP_nx] at hnx); simp -implicitDefEqProofs (disch := omega) only [go_sem, ht, eq_self])
  (refine pCall_frz (fun _ => true) 1 (by simp -implicitDefEqProofs (disch := omega) only [go_sem, ht, eq_self] <;> rfl) (by simp -implicitDefEqProofs (disch := omega) only [go_sem, ht, eq_self]) (by simp -implicitDefEqProofs (disch := omega) only [go_sem, ht, eq_self] <;> rfl) (by simp -implicitDefEqProofs (disch := omega) only [go_sem, ht, eq_self]) (he) ?_; rintro _ nx - rfl hnx; (try simp only [put_nx, withH_nx, begP_nx] at hnx); simp -implicitDefEqProofs (disch := omega) only [go_sem, ht, eq_self])
  (refine pCall_frz (fun _ => true) 1 (by simp -implicitDefEqProofs (disch := omega) only [go_sem, ht, eq_self] <;> rfl) (by simp -implicitDefEqProofs (disch := omega) only [go_sem, ht, eq_self]) (by simp -implicitDefEqProofs (disch := omega) only [go_sem, ht, eq_self] <;> rfl) (by simp -implicitDefEqProofs (disch := omega) only [go_sem, ht, eq_self]) (r3) ?_; rintro _ nx - rfl hnx; (try simp only [put_nx, withH_nx, begP_nx] at hnx); simp -implicitDefEqProofs (disch := omega) only [go_sem, ht, eq_self])
  (refine pCall_frz (fun _ => true) 1 (by simp -implicitDefEqProofs (disch := omega) only [go_sem, ht, eq_self] <;> rfl) (by simp -implicitDefEqProofs (disch := omega) only [go_sem, ht, eq_self]) (by simp -implicitDefEqProofs (disch := omega) only [go_sem, ht, eq_self] <;> rfl) (by simp -implicitDefEqProofs (disch := omega) only [go_sem, ht, eq_self]) (r4) ?_; rintro _ nx - rfl hnx; (try simp only [put_nx, withH_nx, begP_nx] at hnx); simp -implicitDefEqProofs (disch := omega) only [go_sem, ht, eq_self])
  (refine pCall_frz (fun _ => true) 1 (by simp -implicitDefEqProofs (disch := omega) only [go_sem, ht, eq_self] <;> rfl) (by simp -implicitDefEqProofs (disch := omega) only [go_sem, ht, eq_self]) (by simp -implicitDefEqProofs (disch := omega) only [go_sem, ht, eq_self] <;> rfl) (by simp -implicitDefEqProofs (disch := omega) only [go_sem, ht, eq_self]) (hs) ?_; rintro _ nx - rfl hnx; (try simp only [put_nx, withH_nx, begP_nx] at hnx); simp -implicitDefEqProofs (disch := omega) only [go_sem, ht, eq_self])
  (refine end_treeW 0 ?_; simp -implicitDefEqProofs (disch := omega) only [go_sem, ht, eq_self])
end Go.Proofs.Ytfjdfnlkobeehaa
