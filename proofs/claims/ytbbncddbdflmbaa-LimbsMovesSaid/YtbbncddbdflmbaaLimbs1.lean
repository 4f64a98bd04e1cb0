/- The program's limbs: short, Cmp and what is alike. -/
import Derived.Test.YtbbncddbdflmbaaTy
import Derived.Test.YtbbncddbdflmbaaData
set_option maxRecDepth 100000
set_option linter.unusedVariables false
set_option linter.unusedSimpArgs false
namespace Go.Proofs.Ytbbncddbdflmbaa

/-- A list of limbs that a call may be handed. -/
structure Ok (xs : List Nat) : Prop where
  lm : Lm xs
  len : xs.length ≤ 1099511627776

theorem Ok.short {xs : List Nat} (h : Ok xs) : Ok (D (V xs)) := ⟨Lm_D _, Nat.le_trans (D_len_V h.lm) h.len⟩
theorem Ok.D {n k : Nat} (h : n < 4294967296 ^ k) (hk : k ≤ 1099511627776) : Ok (D n) := ⟨Lm_D _, Nat.le_trans (D_len_le.2 h) hk⟩

theorem short_calls {xs : List Nat} (h : Ok xs) : PT Try.prog 45 [SU xs] (isV (SU (D (V xs)))) := by
  have hlen := h.len

  refine PCalls.enter (n := 21) (rs := [.tmp 2]) (tb := []) Try.func45 rfl rfl rfl (by kernel_rfl) (by kernel_rfl) (by simp) fun c hc ht => ?_
  simp -implicitDefEqProofs (disch := omega) only [go_sem, ht, reduceIte, ↓reduceIte, Nat.reduceEqDiff, Nat.reduceAdd, Nat.reduceMul, Nat.reduceSub, Nat.reduceLT, Nat.reduceLeDiff, Int.reduceToNat, Int.reduceLE, Int.reduceLT, Int.reduceAdd, Int.reduceMul, Int.reduceSub, Nat.sub_zero, Int.reducePow, Nat.reducePow, Int.reduceNeg, Int.reduceEq, Int.reduceNe, eq_self]
  refine LW.loopW hc ht (by kernel_rfl) (fun s => s.sl 0 = .sl xs.length (xs.map U) ∧ ∃ k : Nat, k ≤ xs.length ∧ s.sl 3 = .val (.int .i64 k) ∧ ∀ i, k ≤ i → i < xs.length → xs.getD i 0 = 0)
    (fun s => match s.sl 3 with | .val (.int _ k) => k.toNat | _ => 0) ?_ ?_
  · simp -implicitDefEqProofs (disch := omega) only [go_sem, ht, reduceIte, ↓reduceIte, Nat.reduceEqDiff, Nat.reduceAdd, Nat.reduceMul, Nat.reduceSub, Nat.reduceLT, Nat.reduceLeDiff, Int.reduceToNat, Int.reduceLE, Int.reduceLT, Int.reduceAdd, Int.reduceMul, Int.reduceSub, Nat.sub_zero, Int.reducePow, Nat.reducePow, Int.reduceNeg, Int.reduceEq, Int.reduceNe, eq_self]
    exact ⟨_, Nat.le_refl _, rfl, fun i h h' => by omega⟩
  · rintro s ⟨h0, k, hk, h3, hz⟩
    by_cases hk0 : k = 0
    · subst hk0
      have e := D_take h.lm hk hz (.inl rfl)
      simp -implicitDefEqProofs (disch := omega) only [go_sem, ht, h0, h3, reduceIte, ↓reduceIte, Nat.reduceEqDiff, Nat.reduceAdd, Nat.reduceMul, Nat.reduceSub, Nat.reduceLT, Nat.reduceLeDiff, Int.reduceToNat, Int.reduceLE, Int.reduceLT, Int.reduceAdd, Int.reduceMul, Int.reduceSub, Nat.sub_zero, Int.reducePow, Nat.reducePow, Int.reduceNeg, Int.reduceEq, Int.reduceNe, eq_self]
      refine end_treeW 0 ?_
      simp -implicitDefEqProofs (disch := omega) only [go_sem, ht, reduceIte, ↓reduceIte, Nat.reduceEqDiff, Nat.reduceAdd, Nat.reduceMul, Nat.reduceSub, Nat.reduceLT, Nat.reduceLeDiff, Int.reduceToNat, Int.reduceLE, Int.reduceLT, Int.reduceAdd, Int.reduceMul, Int.reduceSub, Nat.sub_zero, Int.reducePow, Nat.reducePow, Int.reduceNeg, Int.reduceEq, Int.reduceNe, eq_self]
      rw [← e]; simp [SU]
    · simp -implicitDefEqProofs (disch := omega) only [go_sem, ht, h0, h3, reduceIte, ↓reduceIte, Nat.reduceEqDiff, Nat.reduceAdd, Nat.reduceMul, Nat.reduceSub, Nat.reduceLT, Nat.reduceLeDiff, Int.reduceToNat, Int.reduceLE, Int.reduceLT, Int.reduceAdd, Int.reduceMul, Int.reduceSub, Nat.sub_zero, Int.reducePow, Nat.reducePow, Int.reduceNeg, Int.reduceEq, Int.reduceNe, eq_self]
      have e1 : ((k : Int) - 1).toNat = k - 1 := by omega
      refine ⟨fun h => ⟨⟨k - 1, by omega, rfl, fun i h1 h2 => ?_⟩, by omega⟩, fun hn => ?_⟩
      · by_cases hi : i = k - 1
        · subst hi; omega
        · exact hz i (by omega) h2
      · have e := D_take h.lm hk hz (.inr (by omega))
        refine end_treeW 0 ?_
        simp -implicitDefEqProofs (disch := omega) only [go_sem, ht, reduceIte, ↓reduceIte, Nat.reduceEqDiff, Nat.reduceAdd, Nat.reduceMul, Nat.reduceSub, Nat.reduceLT, Nat.reduceLeDiff, Int.reduceToNat, Int.reduceLE, Int.reduceLT, Int.reduceAdd, Int.reduceMul, Int.reduceSub, Nat.sub_zero, Int.reducePow, Nat.reducePow, Int.reduceNeg, Int.reduceEq, Int.reduceNe, eq_self]
        rw [← e]; simp [SU, Nat.min_eq_left hk]

theorem same_calls {xs ys : List Nat} (hx : Ok xs) (hy : Ok ys) : PT Try.prog 20 [SU xs, SU ys] (isV (.val (.bool (decide (xs = ys))))) := by
  have := hx.len
  have := hy.len

  refine PCalls.enter (n := 26) (rs := [.tmp 4]) (tb := [(6, [(0, []), (1, []), (2, []), (3, []), (4, []), (5, []), (6, []), (7, []), (8, [])])]) Try.func20 rfl rfl rfl (by kernel_rfl) (by kernel_rfl) (by simp) fun c hc ht => ?_
  simp -implicitDefEqProofs (disch := omega) only [go_sem, ht, reduceIte, ↓reduceIte, Nat.reduceEqDiff, Nat.reduceAdd, Nat.reduceMul, Nat.reduceSub, Nat.reduceLT, Nat.reduceLeDiff, Int.reduceToNat, Int.reduceLE, Int.reduceLT, Int.reduceAdd, Int.reduceMul, Int.reduceSub, Nat.sub_zero, Int.reducePow, Nat.reducePow, Int.reduceNeg, Int.reduceEq, Int.reduceNe, eq_self]
  refine ⟨fun hne => ?_, fun he => ?_⟩
  · have : xs ≠ ys := fun e => hne (by rw [e])
    (refine end_treeW 0 ?_; simp -implicitDefEqProofs (disch := omega) only [go_sem, ht, reduceIte, ↓reduceIte, Nat.reduceEqDiff, Nat.reduceAdd, Nat.reduceMul, Nat.reduceSub, Nat.reduceLT, Nat.reduceLeDiff, Int.reduceToNat, Int.reduceLE, Int.reduceLT, Int.reduceAdd, Int.reduceMul, Int.reduceSub, Nat.sub_zero, Int.reducePow, Nat.reducePow, Int.reduceNeg, Int.reduceEq, Int.reduceNe, eq_self])
    simp [this]
  have he : xs.length = ys.length := by omega
  refine LW.loopW hc ht (by kernel_rfl) (fun s => s.sl 0 = .sl xs.length (xs.map U) ∧ s.sl 1 = .sl ys.length (ys.map U) ∧ ∃ k : Nat, k ≤ xs.length ∧ s.sl 5 = .val (.int .i64 k) ∧ ∀ i, i < k → xs.getD i 0 = ys.getD i 0)
    (fun s => match s.sl 5 with | .val (.int _ k) => xs.length - k.toNat | _ => 0) ?_ ?_
  · simp -implicitDefEqProofs (disch := omega) only [go_sem, ht, reduceIte, ↓reduceIte, Nat.reduceEqDiff, Nat.reduceAdd, Nat.reduceMul, Nat.reduceSub, Nat.reduceLT, Nat.reduceLeDiff, Int.reduceToNat, Int.reduceLE, Int.reduceLT, Int.reduceAdd, Int.reduceMul, Int.reduceSub, Nat.sub_zero, Int.reducePow, Nat.reducePow, Int.reduceNeg, Int.reduceEq, Int.reduceNe, eq_self]
    exact ⟨0, Nat.zero_le _, rfl, fun i h => by omega⟩
  · rintro s ⟨h0, h1, k, hk, h5, hs⟩
    by_cases hkl : k = xs.length
    · have := list_ext0 he (fun i hi => hs i (by omega))
      simp -implicitDefEqProofs (disch := omega) only [go_sem, ht, h0, h1, h5, reduceIte, ↓reduceIte, Nat.reduceEqDiff, Nat.reduceAdd, Nat.reduceMul, Nat.reduceSub, Nat.reduceLT, Nat.reduceLeDiff, Int.reduceToNat, Int.reduceLE, Int.reduceLT, Int.reduceAdd, Int.reduceMul, Int.reduceSub, Nat.sub_zero, Int.reducePow, Nat.reducePow, Int.reduceNeg, Int.reduceEq, Int.reduceNe, eq_self]
      (refine end_treeW 0 ?_; simp -implicitDefEqProofs (disch := omega) only [go_sem, ht, reduceIte, ↓reduceIte, Nat.reduceEqDiff, Nat.reduceAdd, Nat.reduceMul, Nat.reduceSub, Nat.reduceLT, Nat.reduceLeDiff, Int.reduceToNat, Int.reduceLE, Int.reduceLT, Int.reduceAdd, Int.reduceMul, Int.reduceSub, Nat.sub_zero, Int.reducePow, Nat.reducePow, Int.reduceNeg, Int.reduceEq, Int.reduceNe, eq_self])
      simp [this]
    · simp -implicitDefEqProofs (disch := omega) only [go_sem, ht, h0, h1, h5, reduceIte, ↓reduceIte, Nat.reduceEqDiff, Nat.reduceAdd, Nat.reduceMul, Nat.reduceSub, Nat.reduceLT, Nat.reduceLeDiff, Int.reduceToNat, Int.reduceLE, Int.reduceLT, Int.reduceAdd, Int.reduceMul, Int.reduceSub, Nat.sub_zero, Int.reducePow, Nat.reducePow, Int.reduceNeg, Int.reduceEq, Int.reduceNe, eq_self]
      refine ⟨fun hn => ?_, fun hn => ⟨⟨k + 1, by omega, rfl, fun i hi => ?_⟩, by omega⟩⟩
      · have : xs ≠ ys := fun e => hn (by rw [e])
        (refine end_treeW 0 ?_; simp -implicitDefEqProofs (disch := omega) only [go_sem, ht, reduceIte, ↓reduceIte, Nat.reduceEqDiff, Nat.reduceAdd, Nat.reduceMul, Nat.reduceSub, Nat.reduceLT, Nat.reduceLeDiff, Int.reduceToNat, Int.reduceLE, Int.reduceLT, Int.reduceAdd, Int.reduceMul, Int.reduceSub, Nat.sub_zero, Int.reducePow, Nat.reducePow, Int.reduceNeg, Int.reduceEq, Int.reduceNe, eq_self])
        simp [this]
      · by_cases hi' : i = k
        · subst hi'; omega
        · exact hs i (by omega)

theorem cmp_calls {xs ys : List Nat} (hx : Ok xs) (hy : Ok ys) : PT Try.prog 17 [SU xs, SU ys] (isV (.val (.int .i64 (cmpI (V xs) (V ys))))) := by
  have hx' := hx.short
  have hy' := hy.short
  have := hx'.len
  have := hy'.len
  have hdx := V_D (V xs)
  have hdy := V_D (V ys)
  refine PCalls.enter (n := 45) (rs := [.tmp 4]) (tb := [(9, [(0, []), (1, []), (2, []), (3, []), (4, []), (5, []), (6, []), (7, []), (8, [])]), (11, [(0, []), (1, []), (2, []), (3, []), (4, []), (5, []), (6, []), (7, []), (8, [])])]) Try.func17 rfl rfl rfl (by kernel_rfl) (by kernel_rfl) (by simp) fun c hc ht => ?_
  simp -implicitDefEqProofs (disch := omega) only [go_sem, ht, reduceIte, ↓reduceIte, Nat.reduceEqDiff, Nat.reduceAdd, Nat.reduceMul, Nat.reduceSub, Nat.reduceLT, Nat.reduceLeDiff, Int.reduceToNat, Int.reduceLE, Int.reduceLT, Int.reduceAdd, Int.reduceMul, Int.reduceSub, Nat.sub_zero, Int.reducePow, Nat.reducePow, Int.reduceNeg, Int.reduceEq, Int.reduceNe, eq_self]
  (refine pCall_view (by simp -implicitDefEqProofs (disch := omega) only [go_sem, ht, reduceIte, ↓reduceIte, Nat.reduceEqDiff, Nat.reduceAdd, Nat.reduceMul, Nat.reduceSub, Nat.reduceLT, Nat.reduceLeDiff, Int.reduceToNat, Int.reduceLE, Int.reduceLT, Int.reduceAdd, Int.reduceMul, Int.reduceSub, Nat.sub_zero, Int.reducePow, Nat.reducePow, Int.reduceNeg, Int.reduceEq, Int.reduceNe, eq_self] <;> rfl) (by simp -implicitDefEqProofs (disch := omega) only [go_sem, ht, reduceIte, ↓reduceIte, Nat.reduceEqDiff, Nat.reduceAdd, Nat.reduceMul, Nat.reduceSub, Nat.reduceLT, Nat.reduceLeDiff, Int.reduceToNat, Int.reduceLE, Int.reduceLT, Int.reduceAdd, Int.reduceMul, Int.reduceSub, Nat.sub_zero, Int.reducePow, Nat.reducePow, Int.reduceNeg, Int.reduceEq, Int.reduceNe, eq_self]) (by first | exact .inl (by simp -implicitDefEqProofs (disch := omega) only [go_sem, ht, reduceIte, ↓reduceIte, Nat.reduceEqDiff, Nat.reduceAdd, Nat.reduceMul, Nat.reduceSub, Nat.reduceLT, Nat.reduceLeDiff, Int.reduceToNat, Int.reduceLE, Int.reduceLT, Int.reduceAdd, Int.reduceMul, Int.reduceSub, Nat.sub_zero, Int.reducePow, Nat.reducePow, Int.reduceNeg, Int.reduceEq, Int.reduceNe, eq_self]) | exact .inr (by rintro r rfl; rfl)) (short_calls hx) ?_; rintro _ nx - rfl hnx; (try simp only [put_nx, withH_nx, begP_nx] at hnx); simp -implicitDefEqProofs (disch := omega) only [go_sem, ht, reduceIte, ↓reduceIte, Nat.reduceEqDiff, Nat.reduceAdd, Nat.reduceMul, Nat.reduceSub, Nat.reduceLT, Nat.reduceLeDiff, Int.reduceToNat, Int.reduceLE, Int.reduceLT, Int.reduceAdd, Int.reduceMul, Int.reduceSub, Nat.sub_zero, Int.reducePow, Nat.reducePow, Int.reduceNeg, Int.reduceEq, Int.reduceNe, eq_self])
  (refine pCall_view (by simp -implicitDefEqProofs (disch := omega) only [go_sem, ht, reduceIte, ↓reduceIte, Nat.reduceEqDiff, Nat.reduceAdd, Nat.reduceMul, Nat.reduceSub, Nat.reduceLT, Nat.reduceLeDiff, Int.reduceToNat, Int.reduceLE, Int.reduceLT, Int.reduceAdd, Int.reduceMul, Int.reduceSub, Nat.sub_zero, Int.reducePow, Nat.reducePow, Int.reduceNeg, Int.reduceEq, Int.reduceNe, eq_self] <;> rfl) (by simp -implicitDefEqProofs (disch := omega) only [go_sem, ht, reduceIte, ↓reduceIte, Nat.reduceEqDiff, Nat.reduceAdd, Nat.reduceMul, Nat.reduceSub, Nat.reduceLT, Nat.reduceLeDiff, Int.reduceToNat, Int.reduceLE, Int.reduceLT, Int.reduceAdd, Int.reduceMul, Int.reduceSub, Nat.sub_zero, Int.reducePow, Nat.reducePow, Int.reduceNeg, Int.reduceEq, Int.reduceNe, eq_self]) (by first | exact .inl (by simp -implicitDefEqProofs (disch := omega) only [go_sem, ht, reduceIte, ↓reduceIte, Nat.reduceEqDiff, Nat.reduceAdd, Nat.reduceMul, Nat.reduceSub, Nat.reduceLT, Nat.reduceLeDiff, Int.reduceToNat, Int.reduceLE, Int.reduceLT, Int.reduceAdd, Int.reduceMul, Int.reduceSub, Nat.sub_zero, Int.reducePow, Nat.reducePow, Int.reduceNeg, Int.reduceEq, Int.reduceNe, eq_self]) | exact .inr (by rintro r rfl; rfl)) (short_calls hy) ?_; rintro _ nx - rfl hnx; (try simp only [put_nx, withH_nx, begP_nx] at hnx); simp -implicitDefEqProofs (disch := omega) only [go_sem, ht, reduceIte, ↓reduceIte, Nat.reduceEqDiff, Nat.reduceAdd, Nat.reduceMul, Nat.reduceSub, Nat.reduceLT, Nat.reduceLeDiff, Int.reduceToNat, Int.reduceLE, Int.reduceLT, Int.reduceAdd, Int.reduceMul, Int.reduceSub, Nat.sub_zero, Int.reducePow, Nat.reducePow, Int.reduceNeg, Int.reduceEq, Int.reduceNe, eq_self])
  generalize V xs = a at *
  generalize V ys = b at *
  refine ⟨fun hne => ⟨fun hlt => ?_, fun hge => ?_⟩, fun he => ?_⟩
  · have := cmpI_lt (D_lt_of_len (a := a) (b := b) (by omega))
    (refine end_treeW 0 ?_; simp -implicitDefEqProofs (disch := omega) only [go_sem, ht, reduceIte, ↓reduceIte, Nat.reduceEqDiff, Nat.reduceAdd, Nat.reduceMul, Nat.reduceSub, Nat.reduceLT, Nat.reduceLeDiff, Int.reduceToNat, Int.reduceLE, Int.reduceLT, Int.reduceAdd, Int.reduceMul, Int.reduceSub, Nat.sub_zero, Int.reducePow, Nat.reducePow, Int.reduceNeg, Int.reduceEq, Int.reduceNe, eq_self])
    rw [this]
  · have := cmpI_gt (D_lt_of_len (a := b) (b := a) (by omega))
    (refine end_treeW 0 ?_; simp -implicitDefEqProofs (disch := omega) only [go_sem, ht, reduceIte, ↓reduceIte, Nat.reduceEqDiff, Nat.reduceAdd, Nat.reduceMul, Nat.reduceSub, Nat.reduceLT, Nat.reduceLeDiff, Int.reduceToNat, Int.reduceLE, Int.reduceLT, Int.reduceAdd, Int.reduceMul, Int.reduceSub, Nat.sub_zero, Int.reducePow, Nat.reducePow, Int.reduceNeg, Int.reduceEq, Int.reduceNe, eq_self])
    rw [this]
  have he : (D a).length = (D b).length := by omega
  refine LW.loopW hc ht (by kernel_rfl) (fun s => s.sl 0 = .sl (D a).length ((D a).map U) ∧ s.sl 1 = .sl (D b).length ((D b).map U) ∧ ∃ k : Nat, k ≤ (D a).length ∧ s.sl 5 = .val (.int .i64 ((k : Int) - 1)) ∧ V ((D a).drop k) = V ((D b).drop k))
    (fun s => match s.sl 5 with | .val (.int _ k) => (k + 1).toNat | _ => 0) ?_ ?_
  · simp -implicitDefEqProofs (disch := omega) only [go_sem, ht, reduceIte, ↓reduceIte, Nat.reduceEqDiff, Nat.reduceAdd, Nat.reduceMul, Nat.reduceSub, Nat.reduceLT, Nat.reduceLeDiff, Int.reduceToNat, Int.reduceLE, Int.reduceLT, Int.reduceAdd, Int.reduceMul, Int.reduceSub, Nat.sub_zero, Int.reducePow, Nat.reducePow, Int.reduceNeg, Int.reduceEq, Int.reduceNe, eq_self]
    exact ⟨(D a).length, Nat.le_refl _, rfl, by rw [List.drop_length, he, List.drop_length]⟩
  · rintro s ⟨h0, h1, k, hk, h5, hs⟩
    by_cases hk0 : k = 0
    · subst hk0
      have hab : a = b := by simpa [hdx, hdy] using hs
      simp -implicitDefEqProofs (disch := omega) only [go_sem, ht, h0, h1, h5, reduceIte, ↓reduceIte, Nat.reduceEqDiff, Nat.reduceAdd, Nat.reduceMul, Nat.reduceSub, Nat.reduceLT, Nat.reduceLeDiff, Int.reduceToNat, Int.reduceLE, Int.reduceLT, Int.reduceAdd, Int.reduceMul, Int.reduceSub, Nat.sub_zero, Int.reducePow, Nat.reducePow, Int.reduceNeg, Int.reduceEq, Int.reduceNe, eq_self]
      have := cmpI_eq hab
      (refine end_treeW 0 ?_; simp -implicitDefEqProofs (disch := omega) only [go_sem, ht, reduceIte, ↓reduceIte, Nat.reduceEqDiff, Nat.reduceAdd, Nat.reduceMul, Nat.reduceSub, Nat.reduceLT, Nat.reduceLeDiff, Int.reduceToNat, Int.reduceLE, Int.reduceLT, Int.reduceAdd, Int.reduceMul, Int.reduceSub, Nat.sub_zero, Int.reducePow, Nat.reducePow, Int.reduceNeg, Int.reduceEq, Int.reduceNe, eq_self])
      rw [this]
    · have e1 : ((k : Int) - 1).toNat = k - 1 := by omega
      have e2 : k - 1 + 1 = k := by omega
      simp -implicitDefEqProofs (disch := omega) only [go_sem, ht, h0, h1, h5, e1, reduceIte, ↓reduceIte, Nat.reduceEqDiff, Nat.reduceAdd, Nat.reduceMul, Nat.reduceSub, Nat.reduceLT, Nat.reduceLeDiff, Int.reduceToNat, Int.reduceLE, Int.reduceLT, Int.reduceAdd, Int.reduceMul, Int.reduceSub, Nat.sub_zero, Int.reducePow, Nat.reducePow, Int.reduceNeg, Int.reduceEq, Int.reduceNe, eq_self]
      refine ⟨fun hlt => ?_, fun hge => ⟨fun hgt => ?_, fun hle => ⟨⟨k - 1, by omega, by congr 2, ?_⟩, by omega⟩⟩⟩
      · have := cmpI_lt (show a < b by
          rw [← hdx, ← hdy]
          exact V_lt_of_top hx'.lm he (i := k - 1) (by omega) (by rw [e2]; exact hs) (by omega))
        (refine end_treeW 0 ?_; simp -implicitDefEqProofs (disch := omega) only [go_sem, ht, reduceIte, ↓reduceIte, Nat.reduceEqDiff, Nat.reduceAdd, Nat.reduceMul, Nat.reduceSub, Nat.reduceLT, Nat.reduceLeDiff, Int.reduceToNat, Int.reduceLE, Int.reduceLT, Int.reduceAdd, Int.reduceMul, Int.reduceSub, Nat.sub_zero, Int.reducePow, Nat.reducePow, Int.reduceNeg, Int.reduceEq, Int.reduceNe, eq_self])
        rw [this]
      · have := cmpI_gt (show b < a by
          rw [← hdx, ← hdy]
          exact V_lt_of_top hy'.lm he.symm (i := k - 1) (by omega) (by rw [e2]; exact hs.symm) (by omega))
        (refine end_treeW 0 ?_; simp -implicitDefEqProofs (disch := omega) only [go_sem, ht, reduceIte, ↓reduceIte, Nat.reduceEqDiff, Nat.reduceAdd, Nat.reduceMul, Nat.reduceSub, Nat.reduceLT, Nat.reduceLeDiff, Int.reduceToNat, Int.reduceLE, Int.reduceLT, Int.reduceAdd, Int.reduceMul, Int.reduceSub, Nat.sub_zero, Int.reducePow, Nat.reducePow, Int.reduceNeg, Int.reduceEq, Int.reduceNe, eq_self])
        rw [this]
      · rw [V_drop _ (by omega), V_drop (D b) (by omega), e2, hs]
        omega
end Go.Proofs.Ytbbncddbdflmbaa
