/- The program's limbs: Right. -/
import Derived.Test.YtbbncddbdflmbaaLimbs5
set_option maxRecDepth 100000
set_option linter.unusedVariables false
set_option linter.unusedSimpArgs false
namespace Go.Proofs.Ytbbncddbdflmbaa

theorem right_calls {xs : List Nat} {s : Int} (h : Ok xs) (hs : s ≤ 9223372036854775807) (hs' : -9223372036854775808 ≤ s) : PO1 Try.prog 25 [SU xs, .val (.int .i64 s)]
    (fun p => .tup [p, .val (.int .i64 (if s < 0 then 1 else 0))]) ((if s < 0 then [] else D (V xs / 2 ^ s.toNat)).map U) := by
  have hlen := h.short.len
  have hcx : V (D (V xs)) = V xs := V_D _
  have hlm := Lm_D (V xs)
  have hv := V_lt (Lm_D (V xs))
  refine PCalls.enter (n := 60) (rs := [.tmp 4, .tmp 5]) (tb := []) Try.func25 rfl rfl rfl (by kernel_rfl) (by kernel_rfl) (by simp) fun c hc ht => ?_
  by_cases h1 : s < 0
  · rw [if_pos h1, if_pos h1]
    simp -implicitDefEqProofs (disch := omega) only [go_sem, ht, reduceIte, ↓reduceIte, Nat.reduceEqDiff, Nat.reduceAdd, Nat.reduceMul, Nat.reduceSub, Nat.reduceLT, Nat.reduceLeDiff, Int.reduceToNat, Int.reduceLE, Int.reduceLT, Int.reduceAdd, Int.reduceMul, Int.reduceSub, Nat.sub_zero, Int.reducePow, Nat.reducePow, Int.reduceNeg, Int.reduceEq, Int.reduceNe, eq_self]
    exact end_own_nil (mk_b _) (by simp -implicitDefEqProofs (disch := omega) only [go_sem, ht, reduceIte, ↓reduceIte, Nat.reduceEqDiff, Nat.reduceAdd, Nat.reduceMul, Nat.reduceSub, Nat.reduceLT, Nat.reduceLeDiff, Int.reduceToNat, Int.reduceLE, Int.reduceLT, Int.reduceAdd, Int.reduceMul, Int.reduceSub, Nat.sub_zero, Int.reducePow, Nat.reducePow, Int.reduceNeg, Int.reduceEq, Int.reduceNe, eq_self])
  rw [if_neg h1, if_neg h1]
  obtain ⟨k, rfl⟩ := Int.eq_ofNat_of_zero_le (show 0 ≤ s by omega)
  simp -implicitDefEqProofs (disch := omega) only [go_sem, ht, reduceIte, ↓reduceIte, Nat.reduceEqDiff, Nat.reduceAdd, Nat.reduceMul, Nat.reduceSub, Nat.reduceLT, Nat.reduceLeDiff, Int.reduceToNat, Int.reduceLE, Int.reduceLT, Int.reduceAdd, Int.reduceMul, Int.reduceSub, Nat.sub_zero, Int.reducePow, Nat.reducePow, Int.reduceNeg, Int.reduceEq, Int.reduceNe, eq_self]
  by_cases hn : (D (V xs)).length ≤ k / 32
  · (refine pCall_view (by simp -implicitDefEqProofs (disch := omega) only [go_sem, ht, reduceIte, ↓reduceIte, Nat.reduceEqDiff, Nat.reduceAdd, Nat.reduceMul, Nat.reduceSub, Nat.reduceLT, Nat.reduceLeDiff, Int.reduceToNat, Int.reduceLE, Int.reduceLT, Int.reduceAdd, Int.reduceMul, Int.reduceSub, Nat.sub_zero, Int.reducePow, Nat.reducePow, Int.reduceNeg, Int.reduceEq, Int.reduceNe, eq_self] <;> rfl) (by simp -implicitDefEqProofs (disch := omega) only [go_sem, ht, reduceIte, ↓reduceIte, Nat.reduceEqDiff, Nat.reduceAdd, Nat.reduceMul, Nat.reduceSub, Nat.reduceLT, Nat.reduceLeDiff, Int.reduceToNat, Int.reduceLE, Int.reduceLT, Int.reduceAdd, Int.reduceMul, Int.reduceSub, Nat.sub_zero, Int.reducePow, Nat.reducePow, Int.reduceNeg, Int.reduceEq, Int.reduceNe, eq_self]) (by first | exact .inl (by simp -implicitDefEqProofs (disch := omega) only [go_sem, ht, reduceIte, ↓reduceIte, Nat.reduceEqDiff, Nat.reduceAdd, Nat.reduceMul, Nat.reduceSub, Nat.reduceLT, Nat.reduceLeDiff, Int.reduceToNat, Int.reduceLE, Int.reduceLT, Int.reduceAdd, Int.reduceMul, Int.reduceSub, Nat.sub_zero, Int.reducePow, Nat.reducePow, Int.reduceNeg, Int.reduceEq, Int.reduceNe, eq_self]) | exact .inr (by rintro r rfl; rfl)) (short_calls h) ?_; rintro _ nx - rfl hnx; (try simp only [put_nx, withH_nx, begP_nx] at hnx); simp -implicitDefEqProofs (disch := omega) only [go_sem, ht, reduceIte, ↓reduceIte, Nat.reduceEqDiff, Nat.reduceAdd, Nat.reduceMul, Nat.reduceSub, Nat.reduceLT, Nat.reduceLeDiff, Int.reduceToNat, Int.reduceLE, Int.reduceLT, Int.reduceAdd, Int.reduceMul, Int.reduceSub, Nat.sub_zero, Int.reducePow, Nat.reducePow, Int.reduceNeg, Int.reduceEq, Int.reduceNe, eq_self])
    have e : D (V xs / 2 ^ k) = [] := by
      rw [D_nil, Nat.div_eq_zero_iff]
      right
      rw [hcx, pow32] at hv
      exact Nat.lt_of_lt_of_le hv (Nat.pow_le_pow_right (by decide) (by omega))
    rw [e]
    exact end_own_nil (mk_b _) (by simp -implicitDefEqProofs (disch := omega) only [go_sem, ht, reduceIte, ↓reduceIte, Nat.reduceEqDiff, Nat.reduceAdd, Nat.reduceMul, Nat.reduceSub, Nat.reduceLT, Nat.reduceLeDiff, Int.reduceToNat, Int.reduceLE, Int.reduceLT, Int.reduceAdd, Int.reduceMul, Int.reduceSub, Nat.sub_zero, Int.reducePow, Nat.reducePow, Int.reduceNeg, Int.reduceEq, Int.reduceNe, eq_self])
  · (refine pCall_view (by simp -implicitDefEqProofs (disch := omega) only [go_sem, ht, reduceIte, ↓reduceIte, Nat.reduceEqDiff, Nat.reduceAdd, Nat.reduceMul, Nat.reduceSub, Nat.reduceLT, Nat.reduceLeDiff, Int.reduceToNat, Int.reduceLE, Int.reduceLT, Int.reduceAdd, Int.reduceMul, Int.reduceSub, Nat.sub_zero, Int.reducePow, Nat.reducePow, Int.reduceNeg, Int.reduceEq, Int.reduceNe, eq_self] <;> rfl) (by simp -implicitDefEqProofs (disch := omega) only [go_sem, ht, reduceIte, ↓reduceIte, Nat.reduceEqDiff, Nat.reduceAdd, Nat.reduceMul, Nat.reduceSub, Nat.reduceLT, Nat.reduceLeDiff, Int.reduceToNat, Int.reduceLE, Int.reduceLT, Int.reduceAdd, Int.reduceMul, Int.reduceSub, Nat.sub_zero, Int.reducePow, Nat.reducePow, Int.reduceNeg, Int.reduceEq, Int.reduceNe, eq_self]) (by first | exact .inl (by simp -implicitDefEqProofs (disch := omega) only [go_sem, ht, reduceIte, ↓reduceIte, Nat.reduceEqDiff, Nat.reduceAdd, Nat.reduceMul, Nat.reduceSub, Nat.reduceLT, Nat.reduceLeDiff, Int.reduceToNat, Int.reduceLE, Int.reduceLT, Int.reduceAdd, Int.reduceMul, Int.reduceSub, Nat.sub_zero, Int.reducePow, Nat.reducePow, Int.reduceNeg, Int.reduceEq, Int.reduceNe, eq_self]) | exact .inr (by rintro r rfl; rfl)) (short_calls h) ?_; rintro _ nx - rfl hnx; (try simp only [put_nx, withH_nx, begP_nx] at hnx); simp -implicitDefEqProofs (disch := omega) only [go_sem, ht, reduceIte, ↓reduceIte, Nat.reduceEqDiff, Nat.reduceAdd, Nat.reduceMul, Nat.reduceSub, Nat.reduceLT, Nat.reduceLeDiff, Int.reduceToNat, Int.reduceLE, Int.reduceLT, Int.reduceAdd, Int.reduceMul, Int.reduceSub, Nat.sub_zero, Int.reducePow, Nat.reducePow, Int.reduceNeg, Int.reduceEq, Int.reduceNe, eq_self])
    have hus : V ((D (V xs)).drop (k / 32)) = V xs / 4294967296 ^ (k / 32) := by rw [V_drop_div hlm (by omega), hcx]
    have hul : ((D (V xs)).drop (k / 32)).length = (D (V xs)).length - k / 32 := by simp
    have hum := hlm.drop (k / 32)
    have hW : V ((D (V xs)).drop (k / 32)) / 2 ^ (k % 32) = V xs / 2 ^ k := by
      rw [hus, Nat.div_div_eq_div_mul, pow32, ← Nat.pow_add, Nat.div_add_mod]
    generalize hU : (D (V xs)).drop (k / 32) = us at *
    have hr : k % 32 < 32 := Nat.mod_lt _ (by decide)
    rw [← hW]
    have hlen : us.length ≤ 1099511627776 := by omega
    refine LW.loopW hc ht (by kernel_rfl) (fun t => t.sl 0 = .sl us.length (us.map U) ∧ t.sl 1 = .val (.int .i64 k) ∧ t.sl 26 = .val (.int .i64 us.length) ∧ ∃ j : Nat, j ≤ us.length ∧ t.sl 27 = .val (.int .i64 j) ∧
      ∃ zs id, zs.length = us.length ∧ t.sl 6 = .ref id 0 us.length us.length 1 ∧ t.H id = some (zs.map U) ∧ id < t.nx ∧
      Lm zs ∧ Hide (V (zs.take j) = V us / 2 ^ (k % 32) % 4294967296 ^ j))
      (fun t => match t.sl 27 with | .val (.int _ j) => us.length - j.toNat | _ => 0) ?_ ?_
    · simp -implicitDefEqProofs (disch := omega) only [go_sem, ht, reduceIte, ↓reduceIte, Nat.reduceEqDiff, Nat.reduceAdd, Nat.reduceMul, Nat.reduceSub, Nat.reduceLT, Nat.reduceLeDiff, Int.reduceToNat, Int.reduceLE, Int.reduceLT, Int.reduceAdd, Int.reduceMul, Int.reduceSub, Nat.sub_zero, Int.reducePow, Nat.reducePow, Int.reduceNeg, Int.reduceEq, Int.reduceNe, eq_self]
      exact ⟨by rw [← List.map_drop, hU, hul, List.take_of_length_le (by simp [hul])], by rw [hul], 0, Nat.zero_le _, rfl, List.replicate us.length 0, nx, by simp, by rw [hul], by rw [upd_self, hul], by omega, Lm_repl _, Hide.mk (by simp [V, Nat.mod_one])⟩
    · clear h hcx hlm hv hus hW hU
      rintro t ⟨h0, h1, h26, j, hj, h27, zs, id, hzl, h6, hH, hid, hzm, heq⟩
      by_cases hjl : j = us.length
      · have e : D (V us / 2 ^ (k % 32)) = D (V zs) := by
          have hv := V_lt hum
          have heq := heq.out
          rw [hjl, ← hzl, List.take_length, Nat.mod_eq_of_lt] at heq
          · rw [heq]
          · rw [hzl]; exact Nat.lt_of_le_of_lt (Nat.div_le_self _ _) hv
        rw [e]
        have := D_len_V hzm
        simp -implicitDefEqProofs (disch := omega) only [go_sem, ht, h0, h1, h26, h27, h6, hH, reduceIte, ↓reduceIte, Nat.reduceEqDiff, Nat.reduceAdd, Nat.reduceMul, Nat.reduceSub, Nat.reduceLT, Nat.reduceLeDiff, Int.reduceToNat, Int.reduceLE, Int.reduceLT, Int.reduceAdd, Int.reduceMul, Int.reduceSub, Nat.sub_zero, Int.reducePow, Nat.reducePow, Int.reduceNeg, Int.reduceEq, Int.reduceNe, eq_self]
        (apply pCall_mem; exact (short_own (xs := zs) (rest := []) hzm hzl (by omega) (Nat.le_refl _) (by simp -implicitDefEqProofs (disch := omega) only [hH, List.map_nil, go_sem, ht, reduceIte, ↓reduceIte, Nat.reduceEqDiff, Nat.reduceAdd, Nat.reduceMul, Nat.reduceSub, Nat.reduceLT, Nat.reduceLeDiff, Int.reduceToNat, Int.reduceLE, Int.reduceLT, Int.reduceAdd, Int.reduceMul, Int.reduceSub, Nat.sub_zero, Int.reducePow, Nat.reducePow, Int.reduceNeg, Int.reduceEq, Int.reduceNe, eq_self] <;> rfl)); rintro _ _ _ ⟨rfl, rfl, rfl⟩ -; simp -implicitDefEqProofs (disch := omega) only [hH, List.map_nil, go_sem, ht, reduceIte, ↓reduceIte, Nat.reduceEqDiff, Nat.reduceAdd, Nat.reduceMul, Nat.reduceSub, Nat.reduceLT, Nat.reduceLeDiff, Int.reduceToNat, Int.reduceLE, Int.reduceLT, Int.reduceAdd, Int.reduceMul, Int.reduceSub, Nat.sub_zero, Int.reducePow, Nat.reducePow, Int.reduceNeg, Int.reduceEq, Int.reduceNe, eq_self])
        exact end_own1 (mk := fun p => .tup [p, .val (.int .i64 0)]) (by simp -implicitDefEqProofs (disch := omega) only [hH, own_split' hzm, go_sem, ht, reduceIte, ↓reduceIte, Nat.reduceEqDiff, Nat.reduceAdd, Nat.reduceMul, Nat.reduceSub, Nat.reduceLT, Nat.reduceLeDiff, Int.reduceToNat, Int.reduceLE, Int.reduceLT, Int.reduceAdd, Int.reduceMul, Int.reduceSub, Nat.sub_zero, Int.reducePow, Nat.reducePow, Int.reduceNeg, Int.reduceEq, Int.reduceNe, eq_self] <;> rfl) (by simp -implicitDefEqProofs (disch := omega) only [hH, own_split' hzm, go_sem, ht, reduceIte, ↓reduceIte, Nat.reduceEqDiff, Nat.reduceAdd, Nat.reduceMul, Nat.reduceSub, Nat.reduceLT, Nat.reduceLeDiff, Int.reduceToNat, Int.reduceLE, Int.reduceLT, Int.reduceAdd, Int.reduceMul, Int.reduceSub, Nat.sub_zero, Int.reducePow, Nat.reducePow, Int.reduceNeg, Int.reduceEq, Int.reduceNe, eq_self] <;> rfl) (by simp <;> omega) (by simp <;> omega)
      · have hxg := hum.get j
        have hd := V_drop_div hum (i := j) hj
        have hd1 := V_drop us (i := j) (by omega)
        have hp : 0 < 2 ^ (k % 32) := Nat.pow_pos (by decide)
        have key : ∀ v : Nat, (∃ w, V (us.drop j) = v + 18446744073709551616 * w) →
            V ((zs.set j (v / 2 ^ (k % 32) % 4294967296)).take (j + 1)) = V us / 2 ^ (k % 32) % 4294967296 ^ (j + 1) := by
          rintro v ⟨w, hw⟩
          rw [V_take_succ _ (by simp; omega), List.take_set_of_le (Nat.le_refl _), List.getD_eq_getElem?_getD, List.getElem?_set_self (by omega), heq.out, Nat.pow_succ, Nat.mod_mul]
          simp only [Option.getD_some]
          congr 2
          rw [Nat.div_div_eq_div_mul, Nat.mul_comm (2 ^ (k % 32)), ← Nat.div_div_eq_div_mul, ← hd, hw]
          exact (right_step hr v w).symm
        have hset : ∀ z, z < 4294967296 → Lm (zs.set j z) := fun z hz x hx => by
          rcases List.mem_or_eq_of_mem_set hx with h | h
          · exact hzm x h
          · omega
        by_cases hj1 : j + 1 < us.length
        · have hxg1 := hum.get (j + 1)
          have hd2 := V_drop us (i := j + 1) hj1
          have k2 := Hide.mk (key (us.getD j 0 + us.getD (j + 1) 0 * 4294967296) ⟨V (us.drop (j + 1 + 1)), by omega⟩)
          clear heq key hd hd1 hd2
          simp -implicitDefEqProofs (disch := omega) only [go_sem, ht, h0, h1, h26, h27, h6, hH, reduceIte, ↓reduceIte, Nat.reduceEqDiff, Nat.reduceAdd, Nat.reduceMul, Nat.reduceSub, Nat.reduceLT, Nat.reduceLeDiff, Int.reduceToNat, Int.reduceLE, Int.reduceLT, Int.reduceAdd, Int.reduceMul, Int.reduceSub, Nat.sub_zero, Int.reducePow, Nat.reducePow, Int.reduceNeg, Int.reduceEq, Int.reduceNe, eq_self]
          exact ⟨⟨j + 1, by omega, rfl, _, id, by simp [hzl], rfl, upd_self _ _ _, hid, hset _ (Nat.mod_lt _ (by decide)), k2⟩, by omega⟩
        · have hd2 : V (us.drop (j + 1)) = 0 := by rw [List.drop_of_length_le (by omega)]; rfl
          have k2 := Hide.mk (key (us.getD j 0) ⟨0, by omega⟩)
          have hlt : us.getD j 0 / 2 ^ (k % 32) < 4294967296 := Nat.lt_of_le_of_lt (Nat.div_le_self _ _) hxg
          clear heq key hd hd1 hd2
          simp -implicitDefEqProofs (disch := omega) only [go_sem, ht, h0, h1, h26, h27, h6, hH, reduceIte, ↓reduceIte, Nat.reduceEqDiff, Nat.reduceAdd, Nat.reduceMul, Nat.reduceSub, Nat.reduceLT, Nat.reduceLeDiff, Int.reduceToNat, Int.reduceLE, Int.reduceLT, Int.reduceAdd, Int.reduceMul, Int.reduceSub, Nat.sub_zero, Int.reducePow, Nat.reducePow, Int.reduceNeg, Int.reduceEq, Int.reduceNe, eq_self]
          exact ⟨⟨j + 1, by omega, rfl, _, id, by simp [hzl], rfl, upd_self _ _ _, hid, hset _ (Nat.mod_lt _ (by decide)), k2⟩, by omega⟩
end Go.Proofs.Ytbbncddbdflmbaa
