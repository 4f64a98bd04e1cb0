/- The program's limbs: long division. -/
import Derived.Test.YtbbncddbdflmbaaLimbs10
set_option maxRecDepth 100000
set_option linter.unusedVariables false
set_option linter.unusedSimpArgs false
namespace Go.Proofs.Ytbbncddbdflmbaa

theorem lz_calls {x : Nat} (hx : x < 4294967296) : PT Try.prog 70 [.val (.int .u32 x)] (isV (.val (.int .i64 (32 - bl x : Nat)))) := by
  have hb : bl x ≤ 32 := bl_le.2 hx
  refine PCalls.enter (n := 6) (rs := [.tmp 2]) (tb := []) Try.func70 rfl rfl rfl (by kernel_rfl) (by kernel_rfl) (by simp) fun c hc ht => ?_
  simp -implicitDefEqProofs (disch := omega) only [go_sem, ht, reduceIte, ↓reduceIte, Nat.reduceEqDiff, Nat.reduceAdd, Nat.reduceMul, Nat.reduceSub, Nat.reduceLT, Nat.reduceLeDiff, Int.reduceToNat, Int.reduceLE, Int.reduceLT, Int.reduceAdd, Int.reduceMul, Int.reduceSub, Nat.sub_zero, Int.reducePow, Nat.reducePow, Int.reduceNeg, Int.reduceEq, Int.reduceNe, eq_self]
  (refine pCall_view (by simp -implicitDefEqProofs (disch := omega) only [go_sem, ht, reduceIte, ↓reduceIte, Nat.reduceEqDiff, Nat.reduceAdd, Nat.reduceMul, Nat.reduceSub, Nat.reduceLT, Nat.reduceLeDiff, Int.reduceToNat, Int.reduceLE, Int.reduceLT, Int.reduceAdd, Int.reduceMul, Int.reduceSub, Nat.sub_zero, Int.reducePow, Nat.reducePow, Int.reduceNeg, Int.reduceEq, Int.reduceNe, eq_self] <;> rfl) (by simp -implicitDefEqProofs (disch := omega) only [go_sem, ht, reduceIte, ↓reduceIte, Nat.reduceEqDiff, Nat.reduceAdd, Nat.reduceMul, Nat.reduceSub, Nat.reduceLT, Nat.reduceLeDiff, Int.reduceToNat, Int.reduceLE, Int.reduceLT, Int.reduceAdd, Int.reduceMul, Int.reduceSub, Nat.sub_zero, Int.reducePow, Nat.reducePow, Int.reduceNeg, Int.reduceEq, Int.reduceNe, eq_self]) (by first | exact .inl (by simp -implicitDefEqProofs (disch := omega) only [go_sem, ht, reduceIte, ↓reduceIte, Nat.reduceEqDiff, Nat.reduceAdd, Nat.reduceMul, Nat.reduceSub, Nat.reduceLT, Nat.reduceLeDiff, Int.reduceToNat, Int.reduceLE, Int.reduceLT, Int.reduceAdd, Int.reduceMul, Int.reduceSub, Nat.sub_zero, Int.reducePow, Nat.reducePow, Int.reduceNeg, Int.reduceEq, Int.reduceNe, eq_self]) | exact .inr (by rintro r rfl; rfl)) (len32_calls hx) ?_; rintro _ nx - rfl hnx; (try simp only [put_nx, withH_nx, begP_nx] at hnx); simp -implicitDefEqProofs (disch := omega) only [go_sem, ht, reduceIte, ↓reduceIte, Nat.reduceEqDiff, Nat.reduceAdd, Nat.reduceMul, Nat.reduceSub, Nat.reduceLT, Nat.reduceLeDiff, Int.reduceToNat, Int.reduceLE, Int.reduceLT, Int.reduceAdd, Int.reduceMul, Int.reduceSub, Nat.sub_zero, Int.reducePow, Nat.reducePow, Int.reduceNeg, Int.reduceEq, Int.reduceNe, eq_self])
  (refine end_treeW 0 ?_; simp -implicitDefEqProofs (disch := omega) only [go_sem, ht, reduceIte, ↓reduceIte, Nat.reduceEqDiff, Nat.reduceAdd, Nat.reduceMul, Nat.reduceSub, Nat.reduceLT, Nat.reduceLeDiff, Int.reduceToNat, Int.reduceLE, Int.reduceLT, Int.reduceAdd, Int.reduceMul, Int.reduceSub, Nat.sub_zero, Int.reducePow, Nat.reducePow, Int.reduceNeg, Int.reduceEq, Int.reduceNe, eq_self])
  congr 2
  omega

theorem take_U {ws : List Nat} {l : List PV} {m : Nat} (h : m ≤ ws.length) : List.take m (ws.map U ++ l) = (ws.take m).map U := by
  rw [List.take_append_of_le_length (by simpa using h), List.map_take]

theorem norm_top {B m s : Nat} (hB : B ≠ 0) (hm : (D B).length = m) (hs : s = 32 - bl ((D B).getD (m - 1) 0)) : s < 32 ∧ B * 2 ^ s < 4294967296 ^ m ∧ 2147483648 ≤ (pad m (B * 2 ^ s)).getD (m - 1) 0 := by
  have hl := D_len_pos hB
  have hg := (Lm_D B).get (m - 1)
  have hb : bl ((D B).getD (m - 1) 0) ≤ 32 := bl_le.2 hg
  have hne := D_last B hB
  rw [hm] at hne
  have hb1 : bl ((D B).getD (m - 1) 0) ≠ 0 := fun h => hne (by have := bl_lt (n := (D B).getD (m - 1) 0); rw [h] at this; omega)
  have ht := bl_top hB
  rw [hm] at ht
  have e1 : bl B + s = 32 * m := by omega
  have h1 : B * 2 ^ s < 4294967296 ^ m := by
    rw [pow32, ← e1, Nat.pow_add]
    exact Nat.mul_lt_mul_of_pos_right bl_lt (Nat.pow_pos (by decide))
  refine ⟨by omega, h1, ?_⟩
  -- the top limb
  have h2 : 2 ^ (bl B - 1) ≤ B := bl_ge hB
  have h3 : 2 ^ (32 * m - 1) ≤ B * 2 ^ s := by
    rw [show 32 * m - 1 = (bl B - 1) + s by omega, Nat.pow_add]
    exact Nat.mul_le_mul_right _ h2
  have hv := pad_V m (B * 2 ^ s)
  rw [Nat.mod_eq_of_lt h1] at hv
  rw [← hv] at h3
  have hp := pad_len m (B * 2 ^ s)
  have hpm := pad_lm m (B * 2 ^ s)
  generalize pad m (B * 2 ^ s) = ps at *
  obtain ⟨k, rfl⟩ : ∃ k, m = k + 1 := ⟨m - 1, by omega⟩
  have h4 := V_take_succ ps (i := k) (by omega)
  rw [← hp, List.take_length] at h4
  have h5 := V_lt (hpm.take k)
  rw [List.length_take_of_le (by omega), pow32] at h5
  rw [h4, show 32 * (k + 1) - 1 = 32 * k + 31 by omega, Nat.pow_add, pow32] at h3
  rw [Nat.add_sub_cancel]
  generalize 2 ^ (32 * k) = P at *
  rcases Nat.lt_or_ge (ps.getD k 0) 2147483648 with h | h
  · exfalso
    have h6 : P * (ps.getD k 0 + 1) ≤ P * 2147483648 := Nat.mul_le_mul_left _ h
    rw [Nat.mul_add, Nat.mul_one] at h6
    have e : 2 ^ 31 = 2147483648 := by decide
    rw [e] at h3
    omega
  · exact h

theorem long_top {u v : List Nat} {la A s : Nat} (hu : u.length = la + 1) (hm : 2 ≤ v.length) (hml : v.length ≤ la) (hA : A < 4294967296 ^ la) (hs : s < 32) (h : V u = A * 2 ^ s) (htop : 2147483648 ≤ v.getD (v.length - 1) 0) :
    V (u.drop (u.length - v.length)) < V v := by
  have h1 : 2 ^ s ≤ 2147483648 := Nat.pow_le_pow_right (n := 2) (by decide) (show s ≤ 31 by omega)
  have h2 : V u < 4294967296 ^ la * 2147483648 := by
    rw [h]
    exact Nat.lt_of_le_of_lt (Nat.mul_le_mul_left _ h1) (Nat.mul_lt_mul_of_pos_right hA (Nat.succ_pos _))
  have h3 := V_split u (i := u.length - v.length) (Nat.sub_le _ _)
  have e : la = (u.length - v.length) + (v.length - 1) := by omega
  have h4 : 4294967296 ^ la = 4294967296 ^ (u.length - v.length) * 4294967296 ^ (v.length - 1) := by
    conv => lhs; rw [e, Nat.pow_add]
  rw [h4, Nat.mul_assoc] at h2
  have h5 : 4294967296 ^ (u.length - v.length) * V (u.drop (u.length - v.length)) < 4294967296 ^ (u.length - v.length) * (4294967296 ^ (v.length - 1) * 2147483648) := Nat.lt_of_le_of_lt (h3 ▸ Nat.le_add_left _ _) h2
  have h6 := Nat.lt_of_mul_lt_mul_left h5
  have h7 := V_take_succ v (i := v.length - 1) (by omega)
  rw [show v.length - 1 + 1 = v.length by omega, List.take_length] at h7
  refine Nat.lt_of_lt_of_le h6 (Nat.le_trans (Nat.mul_le_mul_left _ htop) ?_)
  rw [h7]
  exact Nat.le_add_left _ _

theorem dec_eq {g F r T : Nat} (h : g * F + r = T) (hg : 0 < g) : (g - 1) * F + (r + F) = T := by
  obtain ⟨k, rfl⟩ : ∃ k, g = k + 1 := ⟨g - 1, by omega⟩
  rw [Nat.add_mul, Nat.one_mul] at h
  rw [Nat.add_sub_cancel]; omega
theorem guess_lt {g F r T : Nat} (h : g * F + r = T) (ht : T < 4294967296 * F + 4294967296) (hr : 4294967296 ≤ r) : g < 4294967296 :=
  Nat.lt_of_mul_lt_mul_right (a := F) (by omega)

theorem long_calls {A B : Nat} (hA : Ok (D A)) (hB : Ok (D B)) (h2 : 4294967296 ≤ B) (hBA : B ≤ A) : PT Try.prog 58 [SU (D A), SU (D B)] (isV (.tup [SU (D (A / B)), SU (D (A % B))])) := by
  have hm2 := D_two h2
  have hla := D_len_mono hBA
  have hAl := hA.len
  have hBl := hB.len
  have hlz := lz_calls ((Lm_D B).get ((D B).length - 1))
  obtain ⟨hs, hBs, htop⟩ := norm_top (B := B) (m := (D B).length) (s := 32 - bl ((D B).getD ((D B).length - 1) 0)) (by omega) rfl rfl
  generalize hes : 32 - bl ((D B).getD ((D B).length - 1) 0) = s at *
  have hmu := moved_calls (n := (D A).length + 1) hA hs (by omega)
  have hmv := PLtree (moved_calls (n := (D B).length) hB hs (by omega))
  rw [V_D] at hmu hmv
  have hAs : A * 2 ^ s < 4294967296 ^ ((D A).length + 1) := by
    have h1 := V_lt (Lm_D A)
    rw [V_D] at h1
    rw [Nat.pow_succ]
    have h2 : 2 ^ s ≤ 4294967296 := by
      have := Nat.pow_le_pow_right (n := 2) (by decide) (show s ≤ 32 by omega)
      simpa using this
    exact Nat.lt_of_le_of_lt (Nat.mul_le_mul_left _ h2) (Nat.mul_lt_mul_of_pos_right h1 (by decide))
  have huV := pad_V ((D A).length + 1) (A * 2 ^ s)
  rw [Nat.mod_eq_of_lt hAs] at huV
  have huL := pad_len ((D A).length + 1) (A * 2 ^ s)
  have hum := pad_lm ((D A).length + 1) (A * 2 ^ s)
  have hvV := pad_V (D B).length (B * 2 ^ s)
  rw [Nat.mod_eq_of_lt hBs] at hvV
  have hvL := pad_len (D B).length (B * 2 ^ s)
  have hvm := pad_lm (D B).length (B * 2 ^ s)
  generalize hu0 : pad ((D A).length + 1) (A * 2 ^ s) = u0 at *
  generalize hv0 : pad (D B).length (B * 2 ^ s) = v at *
  have hAs := Hide.mk hAs
  have hBs := Hide.mk hBs
  have hvg := hvm.get (v.length - 1)
  have hvg2 := hvm.get (v.length - 2)
  have hZ0 : 0 < V v := by rw [hvV]; exact Nat.mul_pos (by omega) (Nat.pow_pos (by decide))
  have hZm : Hide (V v < 4294967296 ^ v.length) := Hide.mk (by rw [hvV, hvL]; exact hBs.out)
  have htop' : 2147483648 ≤ v.getD (v.length - 1) 0 := by rw [hvL]; exact htop
  have hu0t : Hide (V (u0.drop (u0.length - v.length)) < V v) := Hide.mk (long_top (A := A) huL (by omega) (by omega) (by have h1 := V_lt (Lm_D A); rwa [V_D] at h1) hs huV htop')
  have hdv := Hide.mk (div_parts (v := v) (m := v.length) (by omega) rfl)
  have hm3 : 2 ≤ v.length := by omega
  have hml : v.length ≤ (D A).length := by omega
  have hqe : A / B = V u0 / V v := by rw [huV, hvV, Nat.mul_div_mul_right _ _ (Nat.pow_pos (by decide))]
  have hre : A % B = (V u0 % V v) / 2 ^ s := by rw [huV, hvV, Nat.mul_mod_mul_right, Nat.mul_div_cancel _ (Nat.pow_pos (by decide))]
  refine PCalls.enter (n := 137) (rs := [.tmp 4, .tmp 5]) (tb := [(5, [(0, []), (1, []), (2, []), (3, []), (4, []), (5, []), (6, []), (7, []), (8, []), (9, []), (10, []), (11, []), (12, []), (13, [])]), (9, [(0, []), (1, []), (2, []), (3, []), (4, []), (5, []), (6, []), (7, []), (8, []), (9, []), (10, []), (11, []), (12, []), (13, []), (14, []), (15, []), (16, []), (17, [])]), (10, [(0, []), (1, []), (2, []), (3, []), (4, []), (5, []), (6, []), (7, [])])]) Try.func58 rfl rfl rfl (by kernel_rfl) (by kernel_rfl) (by simp) fun c hc ht => ?_
  simp -implicitDefEqProofs (disch := omega) only [go_sem, ht, reduceIte, ↓reduceIte, Nat.reduceEqDiff, Nat.reduceAdd, Nat.reduceMul, Nat.reduceSub, Nat.reduceLT, Nat.reduceLeDiff, Int.reduceToNat, Int.reduceLE, Int.reduceLT, Int.reduceAdd, Int.reduceMul, Int.reduceSub, Nat.sub_zero, Int.reducePow, Nat.reducePow, Int.reduceNeg, Int.reduceEq, Int.reduceNe, eq_self]
  (refine pCall_view (by simp -implicitDefEqProofs (disch := omega) only [go_sem, ht, reduceIte, ↓reduceIte, Nat.reduceEqDiff, Nat.reduceAdd, Nat.reduceMul, Nat.reduceSub, Nat.reduceLT, Nat.reduceLeDiff, Int.reduceToNat, Int.reduceLE, Int.reduceLT, Int.reduceAdd, Int.reduceMul, Int.reduceSub, Nat.sub_zero, Int.reducePow, Nat.reducePow, Int.reduceNeg, Int.reduceEq, Int.reduceNe, eq_self] <;> rfl) (by simp -implicitDefEqProofs (disch := omega) only [go_sem, ht, reduceIte, ↓reduceIte, Nat.reduceEqDiff, Nat.reduceAdd, Nat.reduceMul, Nat.reduceSub, Nat.reduceLT, Nat.reduceLeDiff, Int.reduceToNat, Int.reduceLE, Int.reduceLT, Int.reduceAdd, Int.reduceMul, Int.reduceSub, Nat.sub_zero, Int.reducePow, Nat.reducePow, Int.reduceNeg, Int.reduceEq, Int.reduceNe, eq_self]) (by first | exact .inl (by simp -implicitDefEqProofs (disch := omega) only [go_sem, ht, reduceIte, ↓reduceIte, Nat.reduceEqDiff, Nat.reduceAdd, Nat.reduceMul, Nat.reduceSub, Nat.reduceLT, Nat.reduceLeDiff, Int.reduceToNat, Int.reduceLE, Int.reduceLT, Int.reduceAdd, Int.reduceMul, Int.reduceSub, Nat.sub_zero, Int.reducePow, Nat.reducePow, Int.reduceNeg, Int.reduceEq, Int.reduceNe, eq_self]) | exact .inr (by rintro r rfl; rfl)) (hlz) ?_; rintro _ nx - rfl hnx; (try simp only [put_nx, withH_nx, begP_nx] at hnx); simp -implicitDefEqProofs (disch := omega) only [go_sem, ht, reduceIte, ↓reduceIte, Nat.reduceEqDiff, Nat.reduceAdd, Nat.reduceMul, Nat.reduceSub, Nat.reduceLT, Nat.reduceLeDiff, Int.reduceToNat, Int.reduceLE, Int.reduceLT, Int.reduceAdd, Int.reduceMul, Int.reduceSub, Nat.sub_zero, Int.reducePow, Nat.reducePow, Int.reduceNeg, Int.reduceEq, Int.reduceNe, eq_self])
  (refine pCall_own1 (mk := fun p => p) (mk_id) (by simp -implicitDefEqProofs (disch := omega) only [go_sem, ht, reduceIte, ↓reduceIte, Nat.reduceEqDiff, Nat.reduceAdd, Nat.reduceMul, Nat.reduceSub, Nat.reduceLT, Nat.reduceLeDiff, Int.reduceToNat, Int.reduceLE, Int.reduceLT, Int.reduceAdd, Int.reduceMul, Int.reduceSub, Nat.sub_zero, Int.reducePow, Nat.reducePow, Int.reduceNeg, Int.reduceEq, Int.reduceNe, eq_self] <;> rfl) (by simp -implicitDefEqProofs (disch := omega) only [go_sem, ht, reduceIte, ↓reduceIte, Nat.reduceEqDiff, Nat.reduceAdd, Nat.reduceMul, Nat.reduceSub, Nat.reduceLT, Nat.reduceLeDiff, Int.reduceToNat, Int.reduceLE, Int.reduceLT, Int.reduceAdd, Int.reduceMul, Int.reduceSub, Nat.sub_zero, Int.reducePow, Nat.reducePow, Int.reduceNeg, Int.reduceEq, Int.reduceNe, eq_self]) (closedL_U _) (flatL_U _) (hmu) ?_; intro id1 cap1 rest1 nx1 hid1 hnx1 hcap1; simp only [put_nx, withH_nx, begP_nx, List.length_map] at hid1 hcap1; simp -implicitDefEqProofs (disch := omega) only [go_sem, ht, reduceIte, ↓reduceIte, Nat.reduceEqDiff, Nat.reduceAdd, Nat.reduceMul, Nat.reduceSub, Nat.reduceLT, Nat.reduceLeDiff, Int.reduceToNat, Int.reduceLE, Int.reduceLT, Int.reduceAdd, Int.reduceMul, Int.reduceSub, Nat.sub_zero, Int.reducePow, Nat.reducePow, Int.reduceNeg, Int.reduceEq, Int.reduceNe, eq_self])
  (refine pCall_view (by simp -implicitDefEqProofs (disch := omega) only [go_sem, ht, reduceIte, ↓reduceIte, Nat.reduceEqDiff, Nat.reduceAdd, Nat.reduceMul, Nat.reduceSub, Nat.reduceLT, Nat.reduceLeDiff, Int.reduceToNat, Int.reduceLE, Int.reduceLT, Int.reduceAdd, Int.reduceMul, Int.reduceSub, Nat.sub_zero, Int.reducePow, Nat.reducePow, Int.reduceNeg, Int.reduceEq, Int.reduceNe, eq_self] <;> rfl) (by simp -implicitDefEqProofs (disch := omega) only [go_sem, ht, reduceIte, ↓reduceIte, Nat.reduceEqDiff, Nat.reduceAdd, Nat.reduceMul, Nat.reduceSub, Nat.reduceLT, Nat.reduceLeDiff, Int.reduceToNat, Int.reduceLE, Int.reduceLT, Int.reduceAdd, Int.reduceMul, Int.reduceSub, Nat.sub_zero, Int.reducePow, Nat.reducePow, Int.reduceNeg, Int.reduceEq, Int.reduceNe, eq_self]) (by first | exact .inl (by simp -implicitDefEqProofs (disch := omega) only [go_sem, ht, reduceIte, ↓reduceIte, Nat.reduceEqDiff, Nat.reduceAdd, Nat.reduceMul, Nat.reduceSub, Nat.reduceLT, Nat.reduceLeDiff, Int.reduceToNat, Int.reduceLE, Int.reduceLT, Int.reduceAdd, Int.reduceMul, Int.reduceSub, Nat.sub_zero, Int.reducePow, Nat.reducePow, Int.reduceNeg, Int.reduceEq, Int.reduceNe, eq_self]) | exact .inr (by rintro r rfl; rfl)) (hmv) ?_; rintro _ nx - rfl hnx; (try simp only [put_nx, withH_nx, begP_nx] at hnx); simp -implicitDefEqProofs (disch := omega) only [go_sem, ht, reduceIte, ↓reduceIte, Nat.reduceEqDiff, Nat.reduceAdd, Nat.reduceMul, Nat.reduceSub, Nat.reduceLT, Nat.reduceLeDiff, Int.reduceToNat, Int.reduceLE, Int.reduceLT, Int.reduceAdd, Int.reduceMul, Int.reduceSub, Nat.sub_zero, Int.reducePow, Nat.reducePow, Int.reduceNeg, Int.reduceEq, Int.reduceNe, eq_self])
  clear hlz hmu hmv hv0 hu0 htop hes hBs hAs hvV hBA h2 hA hB
  rw [hqe, hre]
  have huV := Hide.mk huV
  clear hqe hre
  refine LW.loopW hc ht (by kernel_rfl) (fun t => t.sl 6 = .val (.int .i64 s) ∧ t.sl 8 = .sl v.length (v.map U) ∧ t.sl 9 = .val (.int .i64 v.length) ∧ t.sl 10 = .val (.int .u64 (v.getD (v.length - 1) 0 : Nat)) ∧ t.sl 11 = .val (.int .u64 (v.getD (v.length - 2) 0 : Nat)) ∧
      ∃ k : Nat, k ≤ u0.length - v.length ∧ t.sl 12 = .val (.int .i64 ((k : Int) - 1)) ∧ ∃ (idq idu : Nat) (qs ws : List Nat) (rest : List Value), idq ≠ idu ∧ idq < t.nx ∧ idu < t.nx ∧ qs.length = u0.length - v.length ∧ ws.length = u0.length ∧ Lm qs ∧ Lm ws ∧
        t.sl 4 = .ref idq 0 (u0.length - v.length) (u0.length - v.length) 1 ∧ t.sl 7 = .ref idu 0 u0.length cap1 1 ∧ t.H idq = some (qs.map U) ∧ t.H idu = some (ws.map U ++ List.map PV.val rest) ∧
        Hide (V ws + V v * (4294967296 ^ k * V (qs.drop k)) = V u0) ∧ Hide (V (ws.drop k) < V v))
      (fun t => match t.sl 12 with | .val (.int _ k) => (k + 1).toNat | _ => 0) ?_ ?_
  · simp -implicitDefEqProofs (disch := omega) only [go_sem, ht, reduceIte, ↓reduceIte, Nat.reduceEqDiff, Nat.reduceAdd, Nat.reduceMul, Nat.reduceSub, Nat.reduceLT, Nat.reduceLeDiff, Int.reduceToNat, Int.reduceLE, Int.reduceLT, Int.reduceAdd, Int.reduceMul, Int.reduceSub, Nat.sub_zero, Int.reducePow, Nat.reducePow, Int.reduceNeg, Int.reduceEq, Int.reduceNe, eq_self]
    exact ⟨u0.length - v.length, Nat.le_refl _, by congr 2; omega, nx, id1, List.replicate (u0.length - v.length) 0, u0, rest1, by omega, by omega, by omega, by simp, rfl, Lm_repl _, hum, by congr 1 <;> omega, rfl, by rw [upd_self], by rw [upd_ne _ _ (by omega)]; exact upd_self _ _ _, Hide.mk (by rw [List.drop_of_length_le (by simp)]; simp [V]), hu0t⟩
  · rintro t ⟨h6, h8, h9, h10, h11, k, hk, h12, idq, idu, qs, ws, rest, hne, hiq, hiu, hql, hwl, hqm, hwm, h4, h7, hHq, hHu, heq, hlt⟩
    by_cases hk0 : k = 0
    · subst hk0
      have hlt := hlt.out
      have heq := heq.out
      rw [List.drop_zero] at hlt heq
      rw [Nat.pow_zero, Nat.one_mul] at heq
      have q1 : V u0 / V v = V qs := by rw [← heq, Nat.add_comm, Nat.mul_add_div hZ0, Nat.div_eq_of_lt hlt, Nat.add_zero]
      have q2 : V u0 % V v = V ws := by rw [← heq, Nat.add_comm, Nat.mul_add_mod, Nat.mod_eq_of_lt hlt]
      have q3 : V (ws.take v.length) = V ws := by rw [V_take_mod hwm (by omega), Nat.mod_eq_of_lt (Nat.lt_trans hlt hZm.out)]
      rw [q1, q2]
      have hr := right_calls (xs := ws.take v.length) (s := (s : Int)) ⟨hwm.take _, by simp; omega⟩ (by omega) (by omega)
      rw [q3, if_neg (by omega), if_neg (by omega), Int.toNat_natCast, SU_def, List.length_take_of_le (show v.length ≤ ws.length by omega)] at hr
      have et := take_U (l := List.map PV.val rest) (show v.length ≤ ws.length by omega)
      have hqs : (qs.map U).take (D (V qs)).length = (D (V qs)).map U := by
        have := take_Ul (D (V qs)) ((List.replicate (qs.length - (D (V qs)).length) (Value.int .u32 0)).map .val)
        rwa [← own_split' hqm] at this
      have hql2 := D_len_V hqm
      have hrl : (D (V ws / 2 ^ s)).length ≤ u0.length := Nat.le_trans (D_len_mono (Nat.div_le_self _ _)) (by have := D_len_V hwm; omega)
      clear q1 q2 q3 hlt heq
      simp -implicitDefEqProofs (disch := omega) only [go_sem, ht, h6, h8, h9, h10, h11, h12, h4, h7, hHq, hHu, reduceIte, ↓reduceIte, Nat.reduceEqDiff, Nat.reduceAdd, Nat.reduceMul, Nat.reduceSub, Nat.reduceLT, Nat.reduceLeDiff, Int.reduceToNat, Int.reduceLE, Int.reduceLT, Int.reduceAdd, Int.reduceMul, Int.reduceSub, Nat.sub_zero, Int.reducePow, Nat.reducePow, Int.reduceNeg, Int.reduceEq, Int.reduceNe, eq_self]
      (refine pCall_own1 (mk := fun p => .tup [p, .val (.int .i64 0)]) (mk_b _) (by simp -implicitDefEqProofs (disch := omega) only [h6, h8, h9, h10, h11, h12, h4, h7, hHq, hHu, et, if_pos, go_sem, ht, reduceIte, ↓reduceIte, Nat.reduceEqDiff, Nat.reduceAdd, Nat.reduceMul, Nat.reduceSub, Nat.reduceLT, Nat.reduceLeDiff, Int.reduceToNat, Int.reduceLE, Int.reduceLT, Int.reduceAdd, Int.reduceMul, Int.reduceSub, Nat.sub_zero, Int.reducePow, Nat.reducePow, Int.reduceNeg, Int.reduceEq, Int.reduceNe, eq_self] <;> rfl) (by simp -implicitDefEqProofs (disch := omega) only [h6, h8, h9, h10, h11, h12, h4, h7, hHq, hHu, et, if_pos, go_sem, ht, reduceIte, ↓reduceIte, Nat.reduceEqDiff, Nat.reduceAdd, Nat.reduceMul, Nat.reduceSub, Nat.reduceLT, Nat.reduceLeDiff, Int.reduceToNat, Int.reduceLE, Int.reduceLT, Int.reduceAdd, Int.reduceMul, Int.reduceSub, Nat.sub_zero, Int.reducePow, Nat.reducePow, Int.reduceNeg, Int.reduceEq, Int.reduceNe, eq_self]) (closedL_U _) (flatL_U _) (hr) ?_; intro id2 cap2 rest2 nx2 hid2 hnx2 hcap2; simp only [put_nx, withH_nx, begP_nx, List.length_map] at hid2 hcap2; simp -implicitDefEqProofs (disch := omega) only [h6, h8, h9, h10, h11, h12, h4, h7, hHq, hHu, et, if_pos, go_sem, ht, reduceIte, ↓reduceIte, Nat.reduceEqDiff, Nat.reduceAdd, Nat.reduceMul, Nat.reduceSub, Nat.reduceLT, Nat.reduceLeDiff, Int.reduceToNat, Int.reduceLE, Int.reduceLT, Int.reduceAdd, Int.reduceMul, Int.reduceSub, Nat.sub_zero, Int.reducePow, Nat.reducePow, Int.reduceNeg, Int.reduceEq, Int.reduceNe, eq_self])
      (apply pCall_mem; exact (short_own (xs := qs) (rest := []) hqm hql (by omega) (Nat.le_refl _) (by simp -implicitDefEqProofs (disch := omega) only [hHq, List.map_nil, go_sem, ht, reduceIte, ↓reduceIte, Nat.reduceEqDiff, Nat.reduceAdd, Nat.reduceMul, Nat.reduceSub, Nat.reduceLT, Nat.reduceLeDiff, Int.reduceToNat, Int.reduceLE, Int.reduceLT, Int.reduceAdd, Int.reduceMul, Int.reduceSub, Nat.sub_zero, Int.reducePow, Nat.reducePow, Int.reduceNeg, Int.reduceEq, Int.reduceNe, eq_self] <;> rfl)); rintro _ _ _ ⟨rfl, rfl, rfl⟩ -; simp -implicitDefEqProofs (disch := omega) only [hHq, List.map_nil, go_sem, ht, reduceIte, ↓reduceIte, Nat.reduceEqDiff, Nat.reduceAdd, Nat.reduceMul, Nat.reduceSub, Nat.reduceLT, Nat.reduceLeDiff, Int.reduceToNat, Int.reduceLE, Int.reduceLT, Int.reduceAdd, Int.reduceMul, Int.reduceSub, Nat.sub_zero, Int.reducePow, Nat.reducePow, Int.reduceNeg, Int.reduceEq, Int.reduceNe, eq_self])
      (refine end_treeN 2 ?_; simp -implicitDefEqProofs (disch := omega) only [go_sem, ht, hHq, hqs, reduceIte, ↓reduceIte, Nat.reduceEqDiff, Nat.reduceAdd, Nat.reduceMul, Nat.reduceSub, Nat.reduceLT, Nat.reduceLeDiff, Int.reduceToNat, Int.reduceLE, Int.reduceLT, Int.reduceAdd, Int.reduceMul, Int.reduceSub, Nat.sub_zero, Int.reducePow, Nat.reducePow, Int.reduceNeg, Int.reduceEq, Int.reduceNe, eq_self])
      exact ⟨hql2, Nat.le_add_right _ _⟩
    · obtain ⟨j, rfl⟩ : ∃ j, k = j + 1 := ⟨k - 1, by omega⟩
      have e1 : (((j + 1 : Nat) : Int) - 1) = (j : Int) := by omega
      rw [e1] at h12
      obtain ⟨g1, g2, g3⟩ := long_tail (m := v.length) (by omega) hwm hZm.out hlt.out
      have hparts := guess_parts (m := v.length) (by omega) (by omega) g1
      have hx1 := hwm.get (j + v.length)
      have hx0 := hwm.get (j + v.length - 1)
      have hx2 := hwm.get (j + v.length - 2)
      have hwl2 := V_lt ((hwm.drop j).take (v.length - 2))
      rw [List.length_take_of_le (by simp; omega)] at hwl2
      have hlo2 := V_lt (hvm.take (v.length - 2))
      rw [List.length_take_of_le (by omega)] at hlo2
      have hfirst := Hide.mk (guess_first (Nat.pow_pos (by decide)) (by omega) hdv.out hparts hx2 hwl2)
      have htopb := guess_top (Nat.pow_pos (by decide)) hdv.out hparts hvg2 hlo2 g3
      have hagain : ∀ g r, V (ws.drop j) / V v ≤ g → g * v.getD (v.length - 1) 0 + r = ws.getD (j + v.length) 0 * 4294967296 + ws.getD (j + v.length - 1) 0 → (4294967296 ≤ g ∨ r * 4294967296 + ws.getD (j + v.length - 2) 0 < g * v.getD (v.length - 2) 0) → V (ws.drop j) / V v < g :=
        fun g r h1 h2 h3 => guess_again (Nat.pow_pos (by decide)) hdv.out hparts hwl2 g3 h1 h2 h3
      have hdone : ∀ g r, g * v.getD (v.length - 1) 0 + r = ws.getD (j + v.length) 0 * 4294967296 + ws.getD (j + v.length - 1) 0 → g < 4294967296 → (4294967296 ≤ r ∨ g * v.getD (v.length - 2) 0 ≤ r * 4294967296 + ws.getD (j + v.length - 2) 0) → g ≤ V (ws.drop j) / V v + 1 :=
        fun g r h1 h2 h3 => guess_done (Nat.pow_pos (by decide)) (by omega) hdv.out hparts hvg2 hlo2 h1 h2 h3
      have hstep := fun (w2 : List Nat) hl hp hd hv => long_step (N := V u0) (m := v.length) (qs := qs) (ws := ws) (w2 := w2) (W := V (ws.drop j)) (Z := V v) (by omega) hl (by omega) hZ0 hp hd hv g1 rfl heq.out
      clear hparts hwl2 hlo2
      have g2 := Hide.mk g2
      have g3 := Hide.mk g3
      clear heq hlt
      have hset : ∀ z, z < 4294967296 → Lm (qs.set j z) := fun z hz x hx => by
        rcases List.mem_or_eq_of_mem_set hx with h | h
        · exact hqm x h
        · omega
      have hTl : ws.getD (j + v.length) 0 * 4294967296 + ws.getD (j + v.length - 1) 0 < 18446744073709551616 := by omega
      have hTF := Nat.lt_of_le_of_lt (Nat.div_le_self (ws.getD (j + v.length) 0 * 4294967296 + ws.getD (j + v.length - 1) 0) (v.getD (v.length - 1) 0)) hTl
      have eTF := Nat.mod_eq_of_lt hTF
      have hTm := Nat.mod_lt (ws.getD (j + v.length) 0 * 4294967296 + ws.getD (j + v.length - 1) 0) (y := v.getD (v.length - 1) 0) (by omega)
      simp -implicitDefEqProofs (disch := omega) only [go_sem, ht, h6, h8, h9, h10, h11, h12, h4, h7, hHq, hHu, reduceIte, ↓reduceIte, Nat.reduceEqDiff, Nat.reduceAdd, Nat.reduceMul, Nat.reduceSub, Nat.reduceLT, Nat.reduceLeDiff, Int.reduceToNat, Int.reduceLE, Int.reduceLT, Int.reduceAdd, Int.reduceMul, Int.reduceSub, Nat.sub_zero, Int.reducePow, Nat.reducePow, Int.reduceNeg, Int.reduceEq, Int.reduceNe, eq_self]
      refine LW.loopW hc ht (by kernel_rfl) (fun s' => s'.sl 6 = .val (.int .i64 s) ∧ s'.sl 8 = .sl v.length (v.map U) ∧ s'.sl 9 = .val (.int .i64 v.length) ∧ s'.sl 10 = .val (.int .u64 (v.getD (v.length - 1) 0 : Nat)) ∧ s'.sl 11 = .val (.int .u64 (v.getD (v.length - 2) 0 : Nat)) ∧
          s'.sl 12 = .val (.int .i64 j) ∧ idq < s'.nx ∧ idu < s'.nx ∧ s'.sl 4 = .ref idq 0 (u0.length - v.length) (u0.length - v.length) 1 ∧ s'.sl 7 = .ref idu 0 u0.length cap1 1 ∧ s'.H idq = some (qs.map U) ∧ s'.H idu = some (ws.map U ++ List.map PV.val rest) ∧
          ∃ g r : Nat, s'.sl 14 = .val (.int .u64 g) ∧ s'.sl 15 = .val (.int .u64 r) ∧ g ≤ 18446744073709551615 ∧ r < 8589934592 ∧ Hide (g * v.getD (v.length - 1) 0 + r = ws.getD (j + v.length) 0 * 4294967296 + ws.getD (j + v.length - 1) 0) ∧ Hide (V (ws.drop j) / V v ≤ g))
        (fun s' => match s'.sl 14 with | .val (.int _ g) => g.toNat | _ => 0) ?_ ?_
      · simp -implicitDefEqProofs (disch := omega) only [go_sem, ht, h6, h8, h9, h10, h11, h12, h4, h7, hHq, hHu, reduceIte, ↓reduceIte, Nat.reduceEqDiff, Nat.reduceAdd, Nat.reduceMul, Nat.reduceSub, Nat.reduceLT, Nat.reduceLeDiff, Int.reduceToNat, Int.reduceLE, Int.reduceLT, Int.reduceAdd, Int.reduceMul, Int.reduceSub, Nat.sub_zero, Int.reducePow, Nat.reducePow, Int.reduceNeg, Int.reduceEq, Int.reduceNe, eq_self]
        try rw [eTF]
        exact ⟨hiq, hiu, _, _, rfl, rfl, Nat.le_of_lt_succ hTF, Nat.lt_trans hTm (by omega), Hide.mk (by rw [Nat.mul_comm]; exact Nat.div_add_mod _ _), hfirst⟩
      · clear hTl hTF eTF hTm hfirst
        rintro s' ⟨h6, h8, h9, h10, h11, h12', hiq, hiu, h4, h7, hHq, hHu, g, r, h14, h15, hg, hr, hgr, hqg⟩
        by_cases hrB : r < 4294967296
        · by_cases hgB : 4294967296 ≤ g
          · have := hagain g r hqg.out hgr.out (.inl hgB)
            have hg0 : 0 < g := Nat.lt_of_le_of_lt (Nat.zero_le _) this
            have k1 := Hide.mk (dec_eq hgr.out hg0)
            have k2 := Hide.mk (Nat.le_sub_one_of_lt this)
            clear this hgr hqg hagain hdone hstep htopb
            simp -implicitDefEqProofs (disch := omega) only [go_sem, ht, h6, h8, h9, h10, h11, h12', h4, h7, hHq, hHu, h14, h15, reduceIte, ↓reduceIte, Nat.reduceEqDiff, Nat.reduceAdd, Nat.reduceMul, Nat.reduceSub, Nat.reduceLT, Nat.reduceLeDiff, Int.reduceToNat, Int.reduceLE, Int.reduceLT, Int.reduceAdd, Int.reduceMul, Int.reduceSub, Nat.sub_zero, Int.reducePow, Nat.reducePow, Int.reduceNeg, Int.reduceEq, Int.reduceNe, eq_self]
            exact ⟨⟨hiq, hiu, _, _, rfl, rfl, by omega, by omega, k1, k2⟩, by omega⟩
          · have hgs : g * v.getD (v.length - 2) 0 ≤ 4294967295 * 4294967295 := Nat.mul_le_mul (by omega) (by omega)
            by_cases hcm : r * 4294967296 + ws.getD (j + v.length - 2) 0 < g * v.getD (v.length - 2) 0
            · have := hagain g r hqg.out hgr.out (.inr hcm)
              have hg0 : 0 < g := Nat.lt_of_le_of_lt (Nat.zero_le _) this
              have k1 := Hide.mk (dec_eq hgr.out hg0)
              have k2 := Hide.mk (Nat.le_sub_one_of_lt this)
              clear this hgr hqg hagain hdone hstep htopb
              simp -implicitDefEqProofs (disch := omega) only [go_sem, ht, h6, h8, h9, h10, h11, h12', h4, h7, hHq, hHu, h14, h15, reduceIte, ↓reduceIte, Nat.reduceEqDiff, Nat.reduceAdd, Nat.reduceMul, Nat.reduceSub, Nat.reduceLT, Nat.reduceLeDiff, Int.reduceToNat, Int.reduceLE, Int.reduceLT, Int.reduceAdd, Int.reduceMul, Int.reduceSub, Nat.sub_zero, Int.reducePow, Nat.reducePow, Int.reduceNeg, Int.reduceEq, Int.reduceNe, eq_self]
              exact ⟨⟨hiq, hiu, _, _, rfl, rfl, by omega, by omega, k1, k2⟩, by omega⟩
            · have := hdone g r hgr.out (by omega) (.inr (by omega))
              have k3 := Hide.mk this
              have hqB := Nat.lt_of_le_of_lt hqg.out (show g < 4294967296 by omega)
              clear this hgr hagain hdone htopb
              simp -implicitDefEqProofs (disch := omega) only [go_sem, ht, h6, h8, h9, h10, h11, h12', h4, h7, hHq, hHu, h14, h15, reduceIte, ↓reduceIte, Nat.reduceEqDiff, Nat.reduceAdd, Nat.reduceMul, Nat.reduceSub, Nat.reduceLT, Nat.reduceLeDiff, Int.reduceToNat, Int.reduceLE, Int.reduceLT, Int.reduceAdd, Int.reduceMul, Int.reduceSub, Nat.sub_zero, Int.reducePow, Nat.reducePow, Int.reduceNeg, Int.reduceEq, Int.reduceNe, eq_self]
              rw [if_neg (show ¬ cap1 = j by omega), show j + v.length + 1 - j = v.length + 1 by omega]
              apply pCall_mem
              exact take_calls (W := V (ws.drop j)) (zs := ws) (l := List.map PV.val rest) hvm rfl hwm (by omega) (by omega) (by omega) (by simp -implicitDefEqProofs (disch := omega) only [go_sem, ht, hHu, reduceIte, ↓reduceIte, Nat.reduceEqDiff, Nat.reduceAdd, Nat.reduceMul, Nat.reduceSub, Nat.reduceLT, Nat.reduceLeDiff, Int.reduceToNat, Int.reduceLE, Int.reduceLT, Int.reduceAdd, Int.reduceMul, Int.reduceSub, Nat.sub_zero, Int.reducePow, Nat.reducePow, Int.reduceNeg, Int.reduceEq, Int.reduceNe, eq_self]) g2.out.symm hZ0 (by omega) hqg.out k3.out
              rintro _ _ _ ⟨w2, hl2, hm2, hp2, hd2, hv2, rfl, rfl, rfl⟩ -
              obtain ⟨z1, z2⟩ := hstep w2 hl2 hp2 hd2 hv2
              have z1 := Hide.mk z1
              have z2 := Hide.mk z2
              clear hstep hp2 hd2 hv2 g2
              generalize V (ws.drop j) / V v = q at *
              simp -implicitDefEqProofs (disch := omega) only [go_sem, ht, h6, h8, h9, h10, h11, h12', h4, h7, hHq, hHu, h14, h15, reduceIte, ↓reduceIte, Nat.reduceEqDiff, Nat.reduceAdd, Nat.reduceMul, Nat.reduceSub, Nat.reduceLT, Nat.reduceLeDiff, Int.reduceToNat, Int.reduceLE, Int.reduceLT, Int.reduceAdd, Int.reduceMul, Int.reduceSub, Nat.sub_zero, Int.reducePow, Nat.reducePow, Int.reduceNeg, Int.reduceEq, Int.reduceNe, eq_self]
              exact ⟨⟨j, by omega, rfl, idq, idu, qs.set j q, w2, rest, hne, hiq, hiu, by simp [hql], by omega, hset q hqB, hm2, rfl, rfl, upd_self _ _ _, by rw [upd_ne _ _ (Ne.symm hne)]; exact upd_self _ _ _, z1, z2⟩, by omega⟩
        · have hgB := guess_lt hgr.out htopb (by omega)
          have this := hdone g r hgr.out hgB (.inl (by omega))
          have k3 := Hide.mk this
          have hqB := Nat.lt_of_le_of_lt hqg.out (show g < 4294967296 by omega)
          clear this hgr hagain hdone htopb
          simp -implicitDefEqProofs (disch := omega) only [go_sem, ht, h6, h8, h9, h10, h11, h12', h4, h7, hHq, hHu, h14, h15, reduceIte, ↓reduceIte, Nat.reduceEqDiff, Nat.reduceAdd, Nat.reduceMul, Nat.reduceSub, Nat.reduceLT, Nat.reduceLeDiff, Int.reduceToNat, Int.reduceLE, Int.reduceLT, Int.reduceAdd, Int.reduceMul, Int.reduceSub, Nat.sub_zero, Int.reducePow, Nat.reducePow, Int.reduceNeg, Int.reduceEq, Int.reduceNe, eq_self]
          rw [if_neg (show ¬ cap1 = j by omega), show j + v.length + 1 - j = v.length + 1 by omega]
          apply pCall_mem
          exact take_calls (W := V (ws.drop j)) (zs := ws) (l := List.map PV.val rest) hvm rfl hwm (by omega) (by omega) (by omega) (by simp -implicitDefEqProofs (disch := omega) only [go_sem, ht, hHu, reduceIte, ↓reduceIte, Nat.reduceEqDiff, Nat.reduceAdd, Nat.reduceMul, Nat.reduceSub, Nat.reduceLT, Nat.reduceLeDiff, Int.reduceToNat, Int.reduceLE, Int.reduceLT, Int.reduceAdd, Int.reduceMul, Int.reduceSub, Nat.sub_zero, Int.reducePow, Nat.reducePow, Int.reduceNeg, Int.reduceEq, Int.reduceNe, eq_self]) g2.out.symm hZ0 (by omega) hqg.out k3.out
          rintro _ _ _ ⟨w2, hl2, hm2, hp2, hd2, hv2, rfl, rfl, rfl⟩ -
          obtain ⟨z1, z2⟩ := hstep w2 hl2 hp2 hd2 hv2
          have z1 := Hide.mk z1
          have z2 := Hide.mk z2
          clear hstep hp2 hd2 hv2 g2
          generalize V (ws.drop j) / V v = q at *
          simp -implicitDefEqProofs (disch := omega) only [go_sem, ht, h6, h8, h9, h10, h11, h12', h4, h7, hHq, hHu, h14, h15, reduceIte, ↓reduceIte, Nat.reduceEqDiff, Nat.reduceAdd, Nat.reduceMul, Nat.reduceSub, Nat.reduceLT, Nat.reduceLeDiff, Int.reduceToNat, Int.reduceLE, Int.reduceLT, Int.reduceAdd, Int.reduceMul, Int.reduceSub, Nat.sub_zero, Int.reducePow, Nat.reducePow, Int.reduceNeg, Int.reduceEq, Int.reduceNe, eq_self]
          exact ⟨⟨j, by omega, rfl, idq, idu, qs.set j q, w2, rest, hne, hiq, hiu, by simp [hql], by omega, hset q hqB, hm2, rfl, rfl, upd_self _ _ _, by rw [upd_ne _ _ (Ne.symm hne)]; exact upd_self _ _ _, z1, z2⟩, by omega⟩
end Go.Proofs.Ytbbncddbdflmbaa
