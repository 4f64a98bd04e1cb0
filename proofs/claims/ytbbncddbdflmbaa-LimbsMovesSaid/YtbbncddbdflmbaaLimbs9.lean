/- The program's limbs: Mul. -/
import Derived.Test.YtbbncddbdflmbaaLimbs8
set_option maxRecDepth 100000
set_option linter.unusedVariables false
set_option linter.unusedSimpArgs false
namespace Go.Proofs.Ytbbncddbdflmbaa

theorem V_set {zs : List Nat} {k v : Nat} (h : k < zs.length) : V (zs.set k v) + 4294967296 ^ k * zs.getD k 0 = V zs + 4294967296 ^ k * v := by
  induction zs generalizing k with
  | nil => simp at h
  | cons z zs ih =>
    cases k with
    | zero => simp [V]; omega
    | succ k =>
      have := ih (k := k) (by simpa using h)
      simp only [List.set_cons_succ, V, Nat.pow_succ, List.getD_cons_succ]
      have h2 : 4294967296 * (V (zs.set k v) + 4294967296 ^ k * zs.getD k 0) = 4294967296 * (V zs + 4294967296 ^ k * v) := by rw [this]
      rw [Nat.mul_add, Nat.mul_add, ← Nat.mul_assoc, ← Nat.mul_assoc, Nat.mul_comm 4294967296 (4294967296 ^ k)] at h2
      omega
theorem V_set_take {zs : List Nat} {k n v : Nat} (h : k < n) (hn : n ≤ zs.length) : V ((zs.set k v).take n) + 4294967296 ^ k * zs.getD k 0 = V (zs.take n) + 4294967296 ^ k * v := by
  have := V_set (zs := zs.take n) (k := k) (v := v) (by simp; omega)
  rw [← List.take_set, List.getD_eq_getElem?_getD, List.getElem?_take, if_pos h, ← List.getD_eq_getElem?_getD] at this
  exact this
theorem mul_step {zs vs : List Nat} {A x y c i j m P : Nat} (hm : j < m) (hz : i + m ≤ zs.length) (hv : V (vs.take (j + 1)) = V (vs.take j) + 4294967296 ^ j * y) (h : V (zs.take (i + m)) + 4294967296 ^ (i + j) * c = P + 4294967296 ^ i * (x * V (vs.take j))) :
    V ((zs.set (i + j) ((c + (x * y + zs.getD (i + j) 0)) % 4294967296)).take (i + m)) + 4294967296 ^ (i + (j + 1)) * ((c + (x * y + zs.getD (i + j) 0)) / 4294967296) = P + 4294967296 ^ i * (x * V (vs.take (j + 1))) := by
  have h1 := V_set_take (zs := zs) (k := i + j) (n := i + m) (v := (c + (x * y + zs.getD (i + j) 0)) % 4294967296) (by omega) hz
  generalize zs.getD (i + j) 0 = z at *
  have h2 := Nat.mod_add_div (c + (x * y + z)) 4294967296
  generalize (c + (x * y + z)) % 4294967296 = r at *
  generalize (c + (x * y + z)) / 4294967296 = q at *
  have h3 : 4294967296 ^ (i + j) * (r + 4294967296 * q) = 4294967296 ^ (i + j) * (c + (x * y + z)) := by rw [h2]
  have h4 : 4294967296 ^ i * (x * V (vs.take (j + 1))) = 4294967296 ^ i * (x * V (vs.take j)) + 4294967296 ^ (i + j) * (x * y) := by
    rw [hv, Nat.mul_add, Nat.mul_add, Nat.pow_add, Nat.mul_left_comm x, Nat.mul_assoc]
  rw [h4, ← Nat.add_assoc i j 1, Nat.pow_succ, Nat.mul_assoc]
  rw [Nat.mul_add, Nat.mul_add, Nat.mul_add] at h3
  omega
theorem mul_end {us zs : List Nat} {c i m W : Nat} (hi : i < us.length) (hz : i + m < zs.length) (h : V (zs.take (i + m)) + 4294967296 ^ (i + m) * c = V (us.take i) * W + 4294967296 ^ i * (us.getD i 0 * W)) :
    V ((zs.set (i + m) c).take (i + 1 + m)) = V (us.take (i + 1)) * W := by
  rw [Nat.add_right_comm, V_take_succ _ (by simpa using hz), List.take_set_of_le (Nat.le_refl _), List.getD_eq_getElem?_getD, List.getElem?_set_self hz, V_take_succ us hi, Nat.add_mul, Nat.mul_assoc, ← h]
  rfl

theorem mul_calls {xs ys : List Nat} (hx : Ok xs) (hy : Ok ys) : PL 43 [SU xs, SU ys] (D (V xs * V ys)) := by
  have hx' := hx.short
  have hy' := hy.short
  have hdx := V_D (V xs)
  have hdy := V_D (V ys)
  have := hx.short.len
  have := hy.short.len
  refine PCalls.enter (n := 79) (rs := [.tmp 4]) (tb := []) Try.func43 rfl rfl rfl (by kernel_rfl) (by kernel_rfl) (by simp) fun c hc ht => ?_
  simp -implicitDefEqProofs (disch := omega) only [go_sem, ht, reduceIte, ↓reduceIte, Nat.reduceEqDiff, Nat.reduceAdd, Nat.reduceMul, Nat.reduceSub, Nat.reduceLT, Nat.reduceLeDiff, Int.reduceToNat, Int.reduceLE, Int.reduceLT, Int.reduceAdd, Int.reduceMul, Int.reduceSub, Nat.sub_zero, Int.reducePow, Nat.reducePow, Int.reduceNeg, Int.reduceEq, Int.reduceNe, eq_self]
  by_cases h0 : V xs = 0
  · have hl : (D (V xs)).length = 0 := D_len_zero.2 h0
    (refine pCall_view (by simp -implicitDefEqProofs (disch := omega) only [go_sem, ht, reduceIte, ↓reduceIte, Nat.reduceEqDiff, Nat.reduceAdd, Nat.reduceMul, Nat.reduceSub, Nat.reduceLT, Nat.reduceLeDiff, Int.reduceToNat, Int.reduceLE, Int.reduceLT, Int.reduceAdd, Int.reduceMul, Int.reduceSub, Nat.sub_zero, Int.reducePow, Nat.reducePow, Int.reduceNeg, Int.reduceEq, Int.reduceNe, eq_self] <;> rfl) (by simp -implicitDefEqProofs (disch := omega) only [go_sem, ht, reduceIte, ↓reduceIte, Nat.reduceEqDiff, Nat.reduceAdd, Nat.reduceMul, Nat.reduceSub, Nat.reduceLT, Nat.reduceLeDiff, Int.reduceToNat, Int.reduceLE, Int.reduceLT, Int.reduceAdd, Int.reduceMul, Int.reduceSub, Nat.sub_zero, Int.reducePow, Nat.reducePow, Int.reduceNeg, Int.reduceEq, Int.reduceNe, eq_self]) (by first | exact .inl (by simp -implicitDefEqProofs (disch := omega) only [go_sem, ht, reduceIte, ↓reduceIte, Nat.reduceEqDiff, Nat.reduceAdd, Nat.reduceMul, Nat.reduceSub, Nat.reduceLT, Nat.reduceLeDiff, Int.reduceToNat, Int.reduceLE, Int.reduceLT, Int.reduceAdd, Int.reduceMul, Int.reduceSub, Nat.sub_zero, Int.reducePow, Nat.reducePow, Int.reduceNeg, Int.reduceEq, Int.reduceNe, eq_self]) | exact .inr (by rintro r rfl; rfl)) (short_calls hx) ?_; rintro _ nx - rfl hnx; (try simp only [put_nx, withH_nx, begP_nx] at hnx); simp -implicitDefEqProofs (disch := omega) only [go_sem, ht, reduceIte, ↓reduceIte, Nat.reduceEqDiff, Nat.reduceAdd, Nat.reduceMul, Nat.reduceSub, Nat.reduceLT, Nat.reduceLeDiff, Int.reduceToNat, Int.reduceLE, Int.reduceLT, Int.reduceAdd, Int.reduceMul, Int.reduceSub, Nat.sub_zero, Int.reducePow, Nat.reducePow, Int.reduceNeg, Int.reduceEq, Int.reduceNe, eq_self])
    (refine pCall_view (by simp -implicitDefEqProofs (disch := omega) only [go_sem, ht, reduceIte, ↓reduceIte, Nat.reduceEqDiff, Nat.reduceAdd, Nat.reduceMul, Nat.reduceSub, Nat.reduceLT, Nat.reduceLeDiff, Int.reduceToNat, Int.reduceLE, Int.reduceLT, Int.reduceAdd, Int.reduceMul, Int.reduceSub, Nat.sub_zero, Int.reducePow, Nat.reducePow, Int.reduceNeg, Int.reduceEq, Int.reduceNe, eq_self] <;> rfl) (by simp -implicitDefEqProofs (disch := omega) only [go_sem, ht, reduceIte, ↓reduceIte, Nat.reduceEqDiff, Nat.reduceAdd, Nat.reduceMul, Nat.reduceSub, Nat.reduceLT, Nat.reduceLeDiff, Int.reduceToNat, Int.reduceLE, Int.reduceLT, Int.reduceAdd, Int.reduceMul, Int.reduceSub, Nat.sub_zero, Int.reducePow, Nat.reducePow, Int.reduceNeg, Int.reduceEq, Int.reduceNe, eq_self]) (by first | exact .inl (by simp -implicitDefEqProofs (disch := omega) only [go_sem, ht, reduceIte, ↓reduceIte, Nat.reduceEqDiff, Nat.reduceAdd, Nat.reduceMul, Nat.reduceSub, Nat.reduceLT, Nat.reduceLeDiff, Int.reduceToNat, Int.reduceLE, Int.reduceLT, Int.reduceAdd, Int.reduceMul, Int.reduceSub, Nat.sub_zero, Int.reducePow, Nat.reducePow, Int.reduceNeg, Int.reduceEq, Int.reduceNe, eq_self]) | exact .inr (by rintro r rfl; rfl)) (short_calls hy) ?_; rintro _ nx - rfl hnx; (try simp only [put_nx, withH_nx, begP_nx] at hnx); simp -implicitDefEqProofs (disch := omega) only [go_sem, ht, reduceIte, ↓reduceIte, Nat.reduceEqDiff, Nat.reduceAdd, Nat.reduceMul, Nat.reduceSub, Nat.reduceLT, Nat.reduceLeDiff, Int.reduceToNat, Int.reduceLE, Int.reduceLT, Int.reduceAdd, Int.reduceMul, Int.reduceSub, Nat.sub_zero, Int.reducePow, Nat.reducePow, Int.reduceNeg, Int.reduceEq, Int.reduceNe, eq_self])
    rw [h0, Nat.zero_mul, D_zero]
    exact end_own_nil mk_id (by simp -implicitDefEqProofs (disch := omega) only [go_sem, ht, reduceIte, ↓reduceIte, Nat.reduceEqDiff, Nat.reduceAdd, Nat.reduceMul, Nat.reduceSub, Nat.reduceLT, Nat.reduceLeDiff, Int.reduceToNat, Int.reduceLE, Int.reduceLT, Int.reduceAdd, Int.reduceMul, Int.reduceSub, Nat.sub_zero, Int.reducePow, Nat.reducePow, Int.reduceNeg, Int.reduceEq, Int.reduceNe, eq_self])
  by_cases h1 : V ys = 0
  · have hl : (D (V ys)).length = 0 := D_len_zero.2 h1
    have hl2 := D_len_pos h0
    (refine pCall_view (by simp -implicitDefEqProofs (disch := omega) only [go_sem, ht, reduceIte, ↓reduceIte, Nat.reduceEqDiff, Nat.reduceAdd, Nat.reduceMul, Nat.reduceSub, Nat.reduceLT, Nat.reduceLeDiff, Int.reduceToNat, Int.reduceLE, Int.reduceLT, Int.reduceAdd, Int.reduceMul, Int.reduceSub, Nat.sub_zero, Int.reducePow, Nat.reducePow, Int.reduceNeg, Int.reduceEq, Int.reduceNe, eq_self] <;> rfl) (by simp -implicitDefEqProofs (disch := omega) only [go_sem, ht, reduceIte, ↓reduceIte, Nat.reduceEqDiff, Nat.reduceAdd, Nat.reduceMul, Nat.reduceSub, Nat.reduceLT, Nat.reduceLeDiff, Int.reduceToNat, Int.reduceLE, Int.reduceLT, Int.reduceAdd, Int.reduceMul, Int.reduceSub, Nat.sub_zero, Int.reducePow, Nat.reducePow, Int.reduceNeg, Int.reduceEq, Int.reduceNe, eq_self]) (by first | exact .inl (by simp -implicitDefEqProofs (disch := omega) only [go_sem, ht, reduceIte, ↓reduceIte, Nat.reduceEqDiff, Nat.reduceAdd, Nat.reduceMul, Nat.reduceSub, Nat.reduceLT, Nat.reduceLeDiff, Int.reduceToNat, Int.reduceLE, Int.reduceLT, Int.reduceAdd, Int.reduceMul, Int.reduceSub, Nat.sub_zero, Int.reducePow, Nat.reducePow, Int.reduceNeg, Int.reduceEq, Int.reduceNe, eq_self]) | exact .inr (by rintro r rfl; rfl)) (short_calls hx) ?_; rintro _ nx - rfl hnx; (try simp only [put_nx, withH_nx, begP_nx] at hnx); simp -implicitDefEqProofs (disch := omega) only [go_sem, ht, reduceIte, ↓reduceIte, Nat.reduceEqDiff, Nat.reduceAdd, Nat.reduceMul, Nat.reduceSub, Nat.reduceLT, Nat.reduceLeDiff, Int.reduceToNat, Int.reduceLE, Int.reduceLT, Int.reduceAdd, Int.reduceMul, Int.reduceSub, Nat.sub_zero, Int.reducePow, Nat.reducePow, Int.reduceNeg, Int.reduceEq, Int.reduceNe, eq_self])
    (refine pCall_view (by simp -implicitDefEqProofs (disch := omega) only [go_sem, ht, reduceIte, ↓reduceIte, Nat.reduceEqDiff, Nat.reduceAdd, Nat.reduceMul, Nat.reduceSub, Nat.reduceLT, Nat.reduceLeDiff, Int.reduceToNat, Int.reduceLE, Int.reduceLT, Int.reduceAdd, Int.reduceMul, Int.reduceSub, Nat.sub_zero, Int.reducePow, Nat.reducePow, Int.reduceNeg, Int.reduceEq, Int.reduceNe, eq_self] <;> rfl) (by simp -implicitDefEqProofs (disch := omega) only [go_sem, ht, reduceIte, ↓reduceIte, Nat.reduceEqDiff, Nat.reduceAdd, Nat.reduceMul, Nat.reduceSub, Nat.reduceLT, Nat.reduceLeDiff, Int.reduceToNat, Int.reduceLE, Int.reduceLT, Int.reduceAdd, Int.reduceMul, Int.reduceSub, Nat.sub_zero, Int.reducePow, Nat.reducePow, Int.reduceNeg, Int.reduceEq, Int.reduceNe, eq_self]) (by first | exact .inl (by simp -implicitDefEqProofs (disch := omega) only [go_sem, ht, reduceIte, ↓reduceIte, Nat.reduceEqDiff, Nat.reduceAdd, Nat.reduceMul, Nat.reduceSub, Nat.reduceLT, Nat.reduceLeDiff, Int.reduceToNat, Int.reduceLE, Int.reduceLT, Int.reduceAdd, Int.reduceMul, Int.reduceSub, Nat.sub_zero, Int.reducePow, Nat.reducePow, Int.reduceNeg, Int.reduceEq, Int.reduceNe, eq_self]) | exact .inr (by rintro r rfl; rfl)) (short_calls hy) ?_; rintro _ nx - rfl hnx; (try simp only [put_nx, withH_nx, begP_nx] at hnx); simp -implicitDefEqProofs (disch := omega) only [go_sem, ht, reduceIte, ↓reduceIte, Nat.reduceEqDiff, Nat.reduceAdd, Nat.reduceMul, Nat.reduceSub, Nat.reduceLT, Nat.reduceLeDiff, Int.reduceToNat, Int.reduceLE, Int.reduceLT, Int.reduceAdd, Int.reduceMul, Int.reduceSub, Nat.sub_zero, Int.reducePow, Nat.reducePow, Int.reduceNeg, Int.reduceEq, Int.reduceNe, eq_self])
    rw [h1, Nat.mul_zero, D_zero]
    exact end_own_nil mk_id (by simp -implicitDefEqProofs (disch := omega) only [go_sem, ht, reduceIte, ↓reduceIte, Nat.reduceEqDiff, Nat.reduceAdd, Nat.reduceMul, Nat.reduceSub, Nat.reduceLT, Nat.reduceLeDiff, Int.reduceToNat, Int.reduceLE, Int.reduceLT, Int.reduceAdd, Int.reduceMul, Int.reduceSub, Nat.sub_zero, Int.reducePow, Nat.reducePow, Int.reduceNeg, Int.reduceEq, Int.reduceNe, eq_self])
  have hl0 := D_len_pos h0
  have hl1 := D_len_pos h1
  (refine pCall_view (by simp -implicitDefEqProofs (disch := omega) only [go_sem, ht, reduceIte, ↓reduceIte, Nat.reduceEqDiff, Nat.reduceAdd, Nat.reduceMul, Nat.reduceSub, Nat.reduceLT, Nat.reduceLeDiff, Int.reduceToNat, Int.reduceLE, Int.reduceLT, Int.reduceAdd, Int.reduceMul, Int.reduceSub, Nat.sub_zero, Int.reducePow, Nat.reducePow, Int.reduceNeg, Int.reduceEq, Int.reduceNe, eq_self] <;> rfl) (by simp -implicitDefEqProofs (disch := omega) only [go_sem, ht, reduceIte, ↓reduceIte, Nat.reduceEqDiff, Nat.reduceAdd, Nat.reduceMul, Nat.reduceSub, Nat.reduceLT, Nat.reduceLeDiff, Int.reduceToNat, Int.reduceLE, Int.reduceLT, Int.reduceAdd, Int.reduceMul, Int.reduceSub, Nat.sub_zero, Int.reducePow, Nat.reducePow, Int.reduceNeg, Int.reduceEq, Int.reduceNe, eq_self]) (by first | exact .inl (by simp -implicitDefEqProofs (disch := omega) only [go_sem, ht, reduceIte, ↓reduceIte, Nat.reduceEqDiff, Nat.reduceAdd, Nat.reduceMul, Nat.reduceSub, Nat.reduceLT, Nat.reduceLeDiff, Int.reduceToNat, Int.reduceLE, Int.reduceLT, Int.reduceAdd, Int.reduceMul, Int.reduceSub, Nat.sub_zero, Int.reducePow, Nat.reducePow, Int.reduceNeg, Int.reduceEq, Int.reduceNe, eq_self]) | exact .inr (by rintro r rfl; rfl)) (short_calls hx) ?_; rintro _ nx - rfl hnx; (try simp only [put_nx, withH_nx, begP_nx] at hnx); simp -implicitDefEqProofs (disch := omega) only [go_sem, ht, reduceIte, ↓reduceIte, Nat.reduceEqDiff, Nat.reduceAdd, Nat.reduceMul, Nat.reduceSub, Nat.reduceLT, Nat.reduceLeDiff, Int.reduceToNat, Int.reduceLE, Int.reduceLT, Int.reduceAdd, Int.reduceMul, Int.reduceSub, Nat.sub_zero, Int.reducePow, Nat.reducePow, Int.reduceNeg, Int.reduceEq, Int.reduceNe, eq_self])
  (refine pCall_view (by simp -implicitDefEqProofs (disch := omega) only [go_sem, ht, reduceIte, ↓reduceIte, Nat.reduceEqDiff, Nat.reduceAdd, Nat.reduceMul, Nat.reduceSub, Nat.reduceLT, Nat.reduceLeDiff, Int.reduceToNat, Int.reduceLE, Int.reduceLT, Int.reduceAdd, Int.reduceMul, Int.reduceSub, Nat.sub_zero, Int.reducePow, Nat.reducePow, Int.reduceNeg, Int.reduceEq, Int.reduceNe, eq_self] <;> rfl) (by simp -implicitDefEqProofs (disch := omega) only [go_sem, ht, reduceIte, ↓reduceIte, Nat.reduceEqDiff, Nat.reduceAdd, Nat.reduceMul, Nat.reduceSub, Nat.reduceLT, Nat.reduceLeDiff, Int.reduceToNat, Int.reduceLE, Int.reduceLT, Int.reduceAdd, Int.reduceMul, Int.reduceSub, Nat.sub_zero, Int.reducePow, Nat.reducePow, Int.reduceNeg, Int.reduceEq, Int.reduceNe, eq_self]) (by first | exact .inl (by simp -implicitDefEqProofs (disch := omega) only [go_sem, ht, reduceIte, ↓reduceIte, Nat.reduceEqDiff, Nat.reduceAdd, Nat.reduceMul, Nat.reduceSub, Nat.reduceLT, Nat.reduceLeDiff, Int.reduceToNat, Int.reduceLE, Int.reduceLT, Int.reduceAdd, Int.reduceMul, Int.reduceSub, Nat.sub_zero, Int.reducePow, Nat.reducePow, Int.reduceNeg, Int.reduceEq, Int.reduceNe, eq_self]) | exact .inr (by rintro r rfl; rfl)) (short_calls hy) ?_; rintro _ nx - rfl hnx; (try simp only [put_nx, withH_nx, begP_nx] at hnx); simp -implicitDefEqProofs (disch := omega) only [go_sem, ht, reduceIte, ↓reduceIte, Nat.reduceEqDiff, Nat.reduceAdd, Nat.reduceMul, Nat.reduceSub, Nat.reduceLT, Nat.reduceLeDiff, Int.reduceToNat, Int.reduceLE, Int.reduceLT, Int.reduceAdd, Int.reduceMul, Int.reduceSub, Nat.sub_zero, Int.reducePow, Nat.reducePow, Int.reduceNeg, Int.reduceEq, Int.reduceNe, eq_self])
  have e : V xs * V ys = V (D (V xs)) * V (D (V ys)) := by rw [hdx, hdy]
  rw [e]
  clear e
  generalize D (V xs) = us at *
  generalize D (V ys) = vs at *
  clear hx hy h0 h1 hdx hdy
  refine LW.loopW hc ht (by kernel_rfl) (fun s => s.sl 1 = .sl vs.length (vs.map U) ∧ s.sl 29 = .sl us.length (us.map U) ∧ s.sl 30 = .val (.int .i64 us.length) ∧ ∃ i : Nat, i ≤ us.length ∧ s.sl 31 = .val (.int .i64 i) ∧
      ∃ (zs : List Nat) (id : Nat), zs.length = us.length + vs.length ∧ s.sl 5 = .ref id 0 (us.length + vs.length) (us.length + vs.length) 1 ∧ s.H id = some (zs.map U) ∧ id < s.nx ∧ Lm zs ∧ Hide (V (zs.take (i + vs.length)) = V (us.take i) * V vs))
      (fun s => match s.sl 31 with | .val (.int _ i) => us.length - i.toNat | _ => 0) ?_ ?_
  · simp -implicitDefEqProofs (disch := omega) only [go_sem, ht, reduceIte, ↓reduceIte, Nat.reduceEqDiff, Nat.reduceAdd, Nat.reduceMul, Nat.reduceSub, Nat.reduceLT, Nat.reduceLeDiff, Int.reduceToNat, Int.reduceLE, Int.reduceLT, Int.reduceAdd, Int.reduceMul, Int.reduceSub, Nat.sub_zero, Int.reducePow, Nat.reducePow, Int.reduceNeg, Int.reduceEq, Int.reduceNe, eq_self]
    exact ⟨0, Nat.zero_le _, rfl, List.replicate (us.length + vs.length) 0, nx, by simp, rfl, by rw [upd_self], by omega, Lm_repl _, Hide.mk (by rw [List.take_replicate, V_repl]; simp [V])⟩
  · rintro s ⟨h1, h29, h30, i, hi, h31, zs, id, hzl, h5, hH, hid, hzm, heq⟩
    by_cases hil : i = us.length
    · have e : V us * V vs = V zs := by
        have := heq.out
        rw [hil, ← hzl, List.take_length, List.take_length] at this
        exact this.symm
      rw [e]
      have := D_len_V hzm
      simp -implicitDefEqProofs (disch := omega) only [go_sem, ht, h1, h29, h30, h31, h5, hH, reduceIte, ↓reduceIte, Nat.reduceEqDiff, Nat.reduceAdd, Nat.reduceMul, Nat.reduceSub, Nat.reduceLT, Nat.reduceLeDiff, Int.reduceToNat, Int.reduceLE, Int.reduceLT, Int.reduceAdd, Int.reduceMul, Int.reduceSub, Nat.sub_zero, Int.reducePow, Nat.reducePow, Int.reduceNeg, Int.reduceEq, Int.reduceNe, eq_self]
      (apply pCall_mem; exact (short_own (xs := zs) (rest := []) hzm hzl (by omega) (Nat.le_refl _) (by simp -implicitDefEqProofs (disch := omega) only [hH, List.map_nil, go_sem, ht, reduceIte, ↓reduceIte, Nat.reduceEqDiff, Nat.reduceAdd, Nat.reduceMul, Nat.reduceSub, Nat.reduceLT, Nat.reduceLeDiff, Int.reduceToNat, Int.reduceLE, Int.reduceLT, Int.reduceAdd, Int.reduceMul, Int.reduceSub, Nat.sub_zero, Int.reducePow, Nat.reducePow, Int.reduceNeg, Int.reduceEq, Int.reduceNe, eq_self] <;> rfl)); rintro _ _ _ ⟨rfl, rfl, rfl⟩ -; simp -implicitDefEqProofs (disch := omega) only [hH, List.map_nil, go_sem, ht, reduceIte, ↓reduceIte, Nat.reduceEqDiff, Nat.reduceAdd, Nat.reduceMul, Nat.reduceSub, Nat.reduceLT, Nat.reduceLeDiff, Int.reduceToNat, Int.reduceLE, Int.reduceLT, Int.reduceAdd, Int.reduceMul, Int.reduceSub, Nat.sub_zero, Int.reducePow, Nat.reducePow, Int.reduceNeg, Int.reduceEq, Int.reduceNe, eq_self])
      exact end_own1 (mk := fun p => p) (by simp -implicitDefEqProofs (disch := omega) only [hH, own_split' hzm, go_sem, ht, reduceIte, ↓reduceIte, Nat.reduceEqDiff, Nat.reduceAdd, Nat.reduceMul, Nat.reduceSub, Nat.reduceLT, Nat.reduceLeDiff, Int.reduceToNat, Int.reduceLE, Int.reduceLT, Int.reduceAdd, Int.reduceMul, Int.reduceSub, Nat.sub_zero, Int.reducePow, Nat.reducePow, Int.reduceNeg, Int.reduceEq, Int.reduceNe, eq_self] <;> rfl) (by simp -implicitDefEqProofs (disch := omega) only [hH, own_split' hzm, go_sem, ht, reduceIte, ↓reduceIte, Nat.reduceEqDiff, Nat.reduceAdd, Nat.reduceMul, Nat.reduceSub, Nat.reduceLT, Nat.reduceLeDiff, Int.reduceToNat, Int.reduceLE, Int.reduceLT, Int.reduceAdd, Int.reduceMul, Int.reduceSub, Nat.sub_zero, Int.reducePow, Nat.reducePow, Int.reduceNeg, Int.reduceEq, Int.reduceNe, eq_self] <;> rfl) (by simp <;> omega) (by simp <;> omega)
    · have hxg := hx'.lm.get i
      simp -implicitDefEqProofs (disch := omega) only [go_sem, ht, h1, h29, h30, h31, h5, hH, reduceIte, ↓reduceIte, Nat.reduceEqDiff, Nat.reduceAdd, Nat.reduceMul, Nat.reduceSub, Nat.reduceLT, Nat.reduceLeDiff, Int.reduceToNat, Int.reduceLE, Int.reduceLT, Int.reduceAdd, Int.reduceMul, Int.reduceSub, Nat.sub_zero, Int.reducePow, Nat.reducePow, Int.reduceNeg, Int.reduceEq, Int.reduceNe, eq_self]
      refine LW.loopW hc ht (by kernel_rfl) (fun t => t.sl 1 = .sl vs.length (vs.map U) ∧ t.sl 6 = .val (.int .i64 i) ∧ t.sl 7 = .val (.int .u32 (us.getD i 0 : Nat)) ∧ t.sl 29 = .sl us.length (us.map U) ∧ t.sl 30 = .val (.int .i64 us.length) ∧ t.sl 31 = .val (.int .i64 i) ∧
        t.sl 36 = .sl vs.length (vs.map U) ∧ t.sl 37 = .val (.int .i64 vs.length) ∧ ∃ j : Nat, j ≤ vs.length ∧ t.sl 38 = .val (.int .i64 j) ∧
        ∃ (zs : List Nat) (id c : Nat), zs.length = us.length + vs.length ∧ t.sl 5 = .ref id 0 (us.length + vs.length) (us.length + vs.length) 1 ∧ t.H id = some (zs.map U) ∧ id < t.nx ∧ Lm zs ∧ t.sl 8 = .val (.int .u64 c) ∧ c < 4294967296 ∧
          Hide (V (zs.take (i + vs.length)) + 4294967296 ^ (i + j) * c = V (us.take i) * V vs + 4294967296 ^ i * (us.getD i 0 * V (vs.take j))))
        (fun t => match t.sl 38 with | .val (.int _ j) => vs.length - j.toNat | _ => 0) ?_ ?_
      · simp -implicitDefEqProofs (disch := omega) only [go_sem, ht, h1, h29, h30, h31, h5, hH, reduceIte, ↓reduceIte, Nat.reduceEqDiff, Nat.reduceAdd, Nat.reduceMul, Nat.reduceSub, Nat.reduceLT, Nat.reduceLeDiff, Int.reduceToNat, Int.reduceLE, Int.reduceLT, Int.reduceAdd, Int.reduceMul, Int.reduceSub, Nat.sub_zero, Int.reducePow, Nat.reducePow, Int.reduceNeg, Int.reduceEq, Int.reduceNe, eq_self]
        exact ⟨0, Nat.zero_le _, rfl, zs, id, 0, hzl, rfl, hH, hid, hzm, rfl, by omega, Hide.mk (by rw [heq.out]; simp [V])⟩
      · clear h1 h29 h30 h5 hH hid hzm heq hzl zs id
        rintro t ⟨h1, h6, h7, h29, h30, h31', h36, h37, j, hj, h38, zs, id, c', hzl, h5, hH, hid, hzm, h8, hc', heq⟩
        have hset : ∀ k z, z < 4294967296 → Lm (zs.set k z) := fun k z hz x hx => by
          rcases List.mem_or_eq_of_mem_set hx with h | h
          · exact hzm x h
          · omega
        by_cases hjl : j = vs.length
        · have key : Hide (V ((zs.set (i + vs.length) c').take (i + 1 + vs.length)) = V (us.take (i + 1)) * V vs) := by
            have := heq.out
            rw [hjl, List.take_length] at this
            exact Hide.mk (mul_end (by omega) (by omega) this)
          clear heq
          simp -implicitDefEqProofs (disch := omega) only [go_sem, ht, h1, h6, h7, h29, h30, h31', h36, h37, h38, h5, hH, h8, reduceIte, ↓reduceIte, Nat.reduceEqDiff, Nat.reduceAdd, Nat.reduceMul, Nat.reduceSub, Nat.reduceLT, Nat.reduceLeDiff, Int.reduceToNat, Int.reduceLE, Int.reduceLT, Int.reduceAdd, Int.reduceMul, Int.reduceSub, Nat.sub_zero, Int.reducePow, Nat.reducePow, Int.reduceNeg, Int.reduceEq, Int.reduceNe, eq_self]
          exact ⟨⟨i + 1, by omega, rfl, _, id, by simp [hzl], rfl, upd_self _ _ _, hid, hset _ _ hc', key⟩, by omega⟩
        · have hyg := hy'.lm.get j
          have hzg := hzm.get (i + j)
          have key := Hide.mk (mul_step (A := 0) (by omega : j < vs.length) (by omega) (V_take_succ vs (by omega)) heq.out)
          have hxy : us.getD i 0 * vs.getD j 0 ≤ 4294967295 * 4294967295 := Nat.mul_le_mul (by omega) (by omega)
          clear heq
          simp -implicitDefEqProofs (disch := omega) only [go_sem, ht, h1, h6, h7, h29, h30, h31', h36, h37, h38, h5, hH, h8, reduceIte, ↓reduceIte, Nat.reduceEqDiff, Nat.reduceAdd, Nat.reduceMul, Nat.reduceSub, Nat.reduceLT, Nat.reduceLeDiff, Int.reduceToNat, Int.reduceLE, Int.reduceLT, Int.reduceAdd, Int.reduceMul, Int.reduceSub, Nat.sub_zero, Int.reducePow, Nat.reducePow, Int.reduceNeg, Int.reduceEq, Int.reduceNe, eq_self]
          exact ⟨⟨j + 1, by omega, rfl, _, id, _, by simp [hzl], rfl, upd_self _ _ _, hid, hset _ _ (Nat.mod_lt _ (by decide)), rfl, by omega, key⟩, by omega⟩
end Go.Proofs.Ytbbncddbdflmbaa
