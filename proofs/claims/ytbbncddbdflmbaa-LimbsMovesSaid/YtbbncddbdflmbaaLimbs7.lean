/- The program's limbs: division by one limb, and small numbers. -/
import Derived.Test.YtbbncddbdflmbaaLimbs6
set_option maxRecDepth 100000
set_option linter.unusedVariables false
set_option linter.unusedSimpArgs false
namespace Go.Proofs.Ytbbncddbdflmbaa

theorem spl_zero (a y : PV) (l : List PV) : spl (a :: l) 0 [y] = y :: l := by simp [spl]
theorem spl_succ (a y : PV) (l : List PV) (i : Nat) : spl (a :: l) (i + 1) [y] = a :: spl l i [y] := by simp [spl, Nat.add_right_comm]
attribute [go_sem] spl_zero spl_succ List.cons_append

theorem V_set_drop {zs : List Nat} {k v : Nat} (hk : k < zs.length) : V ((zs.set k v).drop k) = v + 4294967296 * V (zs.drop (k + 1)) := by
  rw [V_drop _ (by simpa using hk), List.getD_eq_getElem?_getD, List.getElem?_set_self hk, List.drop_set_of_lt (Nat.lt_succ_self k)]
  rfl

theorem byLimb_calls {xs : List Nat} {b : Nat} (h : Ok xs) (hb : b < 4294967296) (hb0 : 0 < b) : PO1 Try.prog 55 [SU xs, .val (.int .u32 b)]
    (fun p => .tup [p, .val (.int .u32 (V xs % b : Nat))]) ((D (V xs / b)).map U) := by
  have hlen := h.len
  refine PCalls.enter (n := 43) (rs := [.tmp 4, .tmp 5]) (tb := []) Try.func55 rfl rfl rfl (by kernel_rfl) (by kernel_rfl) (by simp) fun c hc ht => ?_
  simp -implicitDefEqProofs (disch := omega) only [go_sem, ht, reduceIte, ↓reduceIte, Nat.reduceEqDiff, Nat.reduceAdd, Nat.reduceMul, Nat.reduceSub, Nat.reduceLT, Nat.reduceLeDiff, Int.reduceToNat, Int.reduceLE, Int.reduceLT, Int.reduceAdd, Int.reduceMul, Int.reduceSub, Nat.sub_zero, Int.reducePow, Nat.reducePow, Int.reduceNeg, Int.reduceEq, Int.reduceNe, eq_self]
  refine LW.loopW hc ht (by kernel_rfl) (fun t => t.sl 0 = .sl xs.length (xs.map U) ∧ t.sl 1 = .val (.int .u32 b) ∧ ∃ k : Nat, k ≤ xs.length ∧ t.sl 8 = .val (.int .i64 ((k : Int) - 1)) ∧
      ∃ zs id r, zs.length = xs.length ∧ t.sl 6 = .ref id 0 xs.length xs.length 1 ∧ t.H id = some (zs.map U) ∧ id < t.nx ∧ t.sl 7 = .val (.int .u64 (r : Nat)) ∧ r < b ∧
      Lm zs ∧ Hide (V (zs.drop k) * b + r = V (xs.drop k)))
      (fun t => match t.sl 8 with | .val (.int _ j) => (j + 1).toNat | _ => 0) ?_ ?_
  · simp -implicitDefEqProofs (disch := omega) only [go_sem, ht, reduceIte, ↓reduceIte, Nat.reduceEqDiff, Nat.reduceAdd, Nat.reduceMul, Nat.reduceSub, Nat.reduceLT, Nat.reduceLeDiff, Int.reduceToNat, Int.reduceLE, Int.reduceLT, Int.reduceAdd, Int.reduceMul, Int.reduceSub, Nat.sub_zero, Int.reducePow, Nat.reducePow, Int.reduceNeg, Int.reduceEq, Int.reduceNe, eq_self]
    exact ⟨xs.length, Nat.le_refl _, rfl, List.replicate xs.length 0, 0, 0, by simp, rfl, by rw [upd_self], by omega, rfl, hb0, Lm_repl _, Hide.mk (by rw [List.drop_of_length_le (by simp), List.drop_of_length_le (by simp)]; simp [V])⟩
  · rintro t ⟨h0, h1, k, hk, h8, zs, id, r, hzl, h6, hH, hid, h7, hr, hzm, heq⟩
    by_cases hk0 : k = 0
    · subst hk0
      have heq := heq.out
      rw [List.drop_zero, List.drop_zero] at heq
      have e1 : V xs / b = V zs := by
        rw [← heq, Nat.mul_comm, Nat.mul_add_div hb0, Nat.div_eq_of_lt hr, Nat.add_zero]
      have e2 : V xs % b = r := by
        rw [← heq, Nat.mul_comm, Nat.mul_add_mod, Nat.mod_eq_of_lt hr]
      rw [e1, e2]
      clear e1 e2 heq
      have := D_len_V hzm
      simp -implicitDefEqProofs (disch := omega) only [go_sem, ht, h0, h1, h8, h7, h6, hH, reduceIte, ↓reduceIte, Nat.reduceEqDiff, Nat.reduceAdd, Nat.reduceMul, Nat.reduceSub, Nat.reduceLT, Nat.reduceLeDiff, Int.reduceToNat, Int.reduceLE, Int.reduceLT, Int.reduceAdd, Int.reduceMul, Int.reduceSub, Nat.sub_zero, Int.reducePow, Nat.reducePow, Int.reduceNeg, Int.reduceEq, Int.reduceNe, eq_self]
      (apply pCall_mem; exact (short_own (xs := zs) (rest := []) hzm hzl (by omega) (Nat.le_refl _) (by simp -implicitDefEqProofs (disch := omega) only [hH, h7, List.map_nil, go_sem, ht, reduceIte, ↓reduceIte, Nat.reduceEqDiff, Nat.reduceAdd, Nat.reduceMul, Nat.reduceSub, Nat.reduceLT, Nat.reduceLeDiff, Int.reduceToNat, Int.reduceLE, Int.reduceLT, Int.reduceAdd, Int.reduceMul, Int.reduceSub, Nat.sub_zero, Int.reducePow, Nat.reducePow, Int.reduceNeg, Int.reduceEq, Int.reduceNe, eq_self] <;> rfl)); rintro _ _ _ ⟨rfl, rfl, rfl⟩ -; simp -implicitDefEqProofs (disch := omega) only [hH, h7, List.map_nil, go_sem, ht, reduceIte, ↓reduceIte, Nat.reduceEqDiff, Nat.reduceAdd, Nat.reduceMul, Nat.reduceSub, Nat.reduceLT, Nat.reduceLeDiff, Int.reduceToNat, Int.reduceLE, Int.reduceLT, Int.reduceAdd, Int.reduceMul, Int.reduceSub, Nat.sub_zero, Int.reducePow, Nat.reducePow, Int.reduceNeg, Int.reduceEq, Int.reduceNe, eq_self])
      exact end_own1 (mk := fun p => .tup [p, .val (.int .u32 r)]) (by simp -implicitDefEqProofs (disch := omega) only [hH, own_split' hzm, go_sem, ht, reduceIte, ↓reduceIte, Nat.reduceEqDiff, Nat.reduceAdd, Nat.reduceMul, Nat.reduceSub, Nat.reduceLT, Nat.reduceLeDiff, Int.reduceToNat, Int.reduceLE, Int.reduceLT, Int.reduceAdd, Int.reduceMul, Int.reduceSub, Nat.sub_zero, Int.reducePow, Nat.reducePow, Int.reduceNeg, Int.reduceEq, Int.reduceNe, eq_self] <;> rfl) (by simp -implicitDefEqProofs (disch := omega) only [hH, own_split' hzm, go_sem, ht, reduceIte, ↓reduceIte, Nat.reduceEqDiff, Nat.reduceAdd, Nat.reduceMul, Nat.reduceSub, Nat.reduceLT, Nat.reduceLeDiff, Int.reduceToNat, Int.reduceLE, Int.reduceLT, Int.reduceAdd, Int.reduceMul, Int.reduceSub, Nat.sub_zero, Int.reducePow, Nat.reducePow, Int.reduceNeg, Int.reduceEq, Int.reduceNe, eq_self] <;> rfl) (by simp <;> omega) (by simp <;> omega)
    · have e1 : ((k : Int) - 1).toNat = k - 1 := by omega
      have e2 : k - 1 + 1 = k := by omega
      have hxg := h.lm.get (k - 1)
      have hd := V_drop xs (i := k - 1) (by omega)
      rw [e2, ← heq.out] at hd
      have hq : (r * 4294967296 + xs.getD (k - 1) 0) / b < 4294967296 := by
        rw [Nat.div_lt_iff_lt_mul hb0]
        have : (r + 1) * 4294967296 ≤ b * 4294967296 := Nat.mul_le_mul_right _ hr
        omega
      have hm : (r * 4294967296 + xs.getD (k - 1) 0) % b < b := Nat.mod_lt _ hb0
      have hset : Lm (zs.set (k - 1) ((r * 4294967296 + xs.getD (k - 1) 0) / b)) := fun x hx => by
        rcases List.mem_or_eq_of_mem_set hx with h | h
        · exact hzm x h
        · omega
      have key : Hide (V ((zs.set (k - 1) ((r * 4294967296 + xs.getD (k - 1) 0) / b)).drop (k - 1)) * b + (r * 4294967296 + xs.getD (k - 1) 0) % b = V (xs.drop (k - 1))) := by
        refine Hide.mk ?_
        rw [V_set_drop (by omega), hd, e2]
        have := Nat.div_add_mod (r * 4294967296 + xs.getD (k - 1) 0) b
        rw [Nat.add_mul, Nat.mul_comm _ b, Nat.mul_add 4294967296, ← Nat.mul_assoc]
        omega
      clear hd heq
      have hr' : r < 4294967296 := by omega
      have e3 := Nat.mod_eq_of_lt hq
      have e4 := Nat.mod_eq_of_lt (Nat.lt_trans hq (by decide : 4294967296 < 18446744073709551616))
      simp -implicitDefEqProofs (disch := omega) only [go_sem, ht, h0, h1, h8, h7, h6, hH, e1, e3, e4, reduceIte, ↓reduceIte, Nat.reduceEqDiff, Nat.reduceAdd, Nat.reduceMul, Nat.reduceSub, Nat.reduceLT, Nat.reduceLeDiff, Int.reduceToNat, Int.reduceLE, Int.reduceLT, Int.reduceAdd, Int.reduceMul, Int.reduceSub, Nat.sub_zero, Int.reducePow, Nat.reducePow, Int.reduceNeg, Int.reduceEq, Int.reduceNe, eq_self]
      exact ⟨⟨k - 1, by omega, by congr 2, _, id, _, by simp [hzl], rfl, upd_self _ _ _, hid, rfl, hm, hset, key⟩, by omega⟩

theorem small_calls {n : Nat} (hn : n < 18446744073709551616) : PL 34 [.val (.int .u64 n)] (D n) := by
  have hv : V [n % 4294967296, n / 4294967296] = n := by simp only [V]; omega
  have hm : Lm [n % 4294967296, n / 4294967296] := Lm_cons.2 ⟨by omega, Lm_cons.2 ⟨by omega, Lm_nil⟩⟩
  have := D_len_V hm
  rw [hv] at this
  simp only [List.length_cons, List.length_nil] at this
  refine PCalls.enter (n := 10) (rs := [.tmp 2]) (tb := []) Try.func34 rfl rfl rfl (by kernel_rfl) (by kernel_rfl) (by simp) fun c hc ht => ?_
  simp -implicitDefEqProofs (disch := omega) only [go_sem, ht, reduceIte, ↓reduceIte, Nat.reduceEqDiff, Nat.reduceAdd, Nat.reduceMul, Nat.reduceSub, Nat.reduceLT, Nat.reduceLeDiff, Int.reduceToNat, Int.reduceLE, Int.reduceLT, Int.reduceAdd, Int.reduceMul, Int.reduceSub, Nat.sub_zero, Int.reducePow, Nat.reducePow, Int.reduceNeg, Int.reduceEq, Int.reduceNe, eq_self]
  (apply pCall_mem; exact (short_own (xs := [n % 4294967296, n / 4294967296]) (rest := []) hm rfl (by omega) (Nat.le_refl _) (by simp -implicitDefEqProofs (disch := omega) only [upd_self, List.map_nil, go_sem, ht, reduceIte, ↓reduceIte, Nat.reduceEqDiff, Nat.reduceAdd, Nat.reduceMul, Nat.reduceSub, Nat.reduceLT, Nat.reduceLeDiff, Int.reduceToNat, Int.reduceLE, Int.reduceLT, Int.reduceAdd, Int.reduceMul, Int.reduceSub, Nat.sub_zero, Int.reducePow, Nat.reducePow, Int.reduceNeg, Int.reduceEq, Int.reduceNe, eq_self] <;> rfl)); rintro _ _ _ ⟨rfl, rfl, rfl⟩ -; simp -implicitDefEqProofs (disch := omega) only [upd_self, List.map_nil, go_sem, ht, reduceIte, ↓reduceIte, Nat.reduceEqDiff, Nat.reduceAdd, Nat.reduceMul, Nat.reduceSub, Nat.reduceLT, Nat.reduceLeDiff, Int.reduceToNat, Int.reduceLE, Int.reduceLT, Int.reduceAdd, Int.reduceMul, Int.reduceSub, Nat.sub_zero, Int.reducePow, Nat.reducePow, Int.reduceNeg, Int.reduceEq, Int.reduceNe, eq_self])
  have hs : [PV.val (.int .u32 ((n % 4294967296 : Nat) : Int)), PV.val (.int .u32 ((n / 4294967296 : Nat) : Int))] = _ := own_split' hm
  rw [hv] at hs ⊢
  exact end_own1 (mk := fun p => p) (by simp -implicitDefEqProofs (disch := omega) only [upd_self, hs, go_sem, ht, reduceIte, ↓reduceIte, Nat.reduceEqDiff, Nat.reduceAdd, Nat.reduceMul, Nat.reduceSub, Nat.reduceLT, Nat.reduceLeDiff, Int.reduceToNat, Int.reduceLE, Int.reduceLT, Int.reduceAdd, Int.reduceMul, Int.reduceSub, Nat.sub_zero, Int.reducePow, Nat.reducePow, Int.reduceNeg, Int.reduceEq, Int.reduceNe, eq_self] <;> rfl) (by simp -implicitDefEqProofs (disch := omega) only [upd_self, hs, go_sem, ht, reduceIte, ↓reduceIte, Nat.reduceEqDiff, Nat.reduceAdd, Nat.reduceMul, Nat.reduceSub, Nat.reduceLT, Nat.reduceLeDiff, Int.reduceToNat, Int.reduceLE, Int.reduceLT, Int.reduceAdd, Int.reduceMul, Int.reduceSub, Nat.sub_zero, Int.reducePow, Nat.reducePow, Int.reduceNeg, Int.reduceEq, Int.reduceNe, eq_self] <;> rfl) (by simp <;> omega) (by simp <;> omega)
end Go.Proofs.Ytbbncddbdflmbaa
