/- The program's limbs: sums and what is alike. -/
import Derived.Test.YtbbncddbdflmbaaLimbs2
set_option maxRecDepth 100000
set_option linter.unusedVariables false
set_option linter.unusedSimpArgs false
namespace Go.Proofs.Ytbbncddbdflmbaa

theorem short_own {H : Nat → Option (List PV)} {nx id n cap : Nat} {xs : List Nat} {rest : List Value} (hlm : Lm xs) (hn : xs.length = n) (hlen : n ≤ 2199023255552) (hcap : n ≤ cap) (hH : H id = some (xs.map U ++ rest.map .val)) :
    PCalls Try.prog 45 [.ref id 0 n cap 1] H nx (memQ (.ref id 0 (D (V xs)).length cap 1) H nx) := by
  refine PCalls.enter (n := 21) (rs := [.tmp 2]) (tb := []) Try.func45 rfl rfl rfl (by kernel_rfl) (by kernel_rfl) (by simp) fun c hc ht => ?_
  simp -implicitDefEqProofs (disch := omega) only [go_sem, ht, reduceIte, ↓reduceIte, Nat.reduceEqDiff, Nat.reduceAdd, Nat.reduceMul, Nat.reduceSub, Nat.reduceLT, Nat.reduceLeDiff, Int.reduceToNat, Int.reduceLE, Int.reduceLT, Int.reduceAdd, Int.reduceMul, Int.reduceSub, Nat.sub_zero, Int.reducePow, Nat.reducePow, Int.reduceNeg, Int.reduceEq, Int.reduceNe, eq_self]
  refine LW.loopW hc ht (by kernel_rfl) (fun s => s.H = H ∧ s.nx = nx ∧ s.sl 0 = .ref id 0 n cap 1 ∧ ∃ k : Nat, k ≤ n ∧ s.sl 3 = .val (.int .i64 k) ∧ ∀ i, k ≤ i → i < xs.length → xs.getD i 0 = 0)
    (fun s => match s.sl 3 with | .val (.int _ k) => k.toNat | _ => 0) ?_ ?_
  · simp -implicitDefEqProofs (disch := omega) only [go_sem, ht, reduceIte, ↓reduceIte, Nat.reduceEqDiff, Nat.reduceAdd, Nat.reduceMul, Nat.reduceSub, Nat.reduceLT, Nat.reduceLeDiff, Int.reduceToNat, Int.reduceLE, Int.reduceLT, Int.reduceAdd, Int.reduceMul, Int.reduceSub, Nat.sub_zero, Int.reducePow, Nat.reducePow, Int.reduceNeg, Int.reduceEq, Int.reduceNe, eq_self]
    exact ⟨_, Nat.le_refl _, rfl, fun i h h' => by omega⟩
  · rintro s ⟨eH, en, h0, k, hk, h3, hz⟩
    by_cases hk0 : k = 0
    · subst hk0
      have e := D_take hlm (Nat.zero_le _) hz (.inl rfl)
      simp -implicitDefEqProofs (disch := omega) only [go_sem, ht, h0, h3, reduceIte, ↓reduceIte, Nat.reduceEqDiff, Nat.reduceAdd, Nat.reduceMul, Nat.reduceSub, Nat.reduceLT, Nat.reduceLeDiff, Int.reduceToNat, Int.reduceLE, Int.reduceLT, Int.reduceAdd, Int.reduceMul, Int.reduceSub, Nat.sub_zero, Int.reducePow, Nat.reducePow, Int.reduceNeg, Int.reduceEq, Int.reduceNe, eq_self]
      (refine end_plain (by simp -implicitDefEqProofs (disch := omega) only [eH, en, go_sem, ht, reduceIte, ↓reduceIte, Nat.reduceEqDiff, Nat.reduceAdd, Nat.reduceMul, Nat.reduceSub, Nat.reduceLT, Nat.reduceLeDiff, Int.reduceToNat, Int.reduceLE, Int.reduceLT, Int.reduceAdd, Int.reduceMul, Int.reduceSub, Nat.sub_zero, Int.reducePow, Nat.reducePow, Int.reduceNeg, Int.reduceEq, Int.reduceNe, eq_self] <;> rfl) ?_; simp only [tupP_1, tupP_2]; refine ⟨?_, ?_, ?_⟩ <;> try simp -implicitDefEqProofs (disch := omega) only [eH, en, go_sem, ht, reduceIte, ↓reduceIte, Nat.reduceEqDiff, Nat.reduceAdd, Nat.reduceMul, Nat.reduceSub, Nat.reduceLT, Nat.reduceLeDiff, Int.reduceToNat, Int.reduceLE, Int.reduceLT, Int.reduceAdd, Int.reduceMul, Int.reduceSub, Nat.sub_zero, Int.reducePow, Nat.reducePow, Int.reduceNeg, Int.reduceEq, Int.reduceNe, eq_self])
      rw [← e]; simp
    · simp -implicitDefEqProofs (disch := omega) only [go_sem, ht, h0, h3, eH, en, hH, reduceIte, ↓reduceIte, Nat.reduceEqDiff, Nat.reduceAdd, Nat.reduceMul, Nat.reduceSub, Nat.reduceLT, Nat.reduceLeDiff, Int.reduceToNat, Int.reduceLE, Int.reduceLT, Int.reduceAdd, Int.reduceMul, Int.reduceSub, Nat.sub_zero, Int.reducePow, Nat.reducePow, Int.reduceNeg, Int.reduceEq, Int.reduceNe, eq_self]
      refine ⟨fun h => ⟨⟨k - 1, by omega, rfl, fun i h1 h2 => ?_⟩, by omega⟩, fun hn' => ?_⟩
      · by_cases hi : i = k - 1
        · subst hi; omega
        · exact hz i (by omega) h2
      · have e := D_take hlm (by omega : k ≤ xs.length) hz (.inr (by omega))
        (refine end_plain (by simp -implicitDefEqProofs (disch := omega) only [eH, en, go_sem, ht, reduceIte, ↓reduceIte, Nat.reduceEqDiff, Nat.reduceAdd, Nat.reduceMul, Nat.reduceSub, Nat.reduceLT, Nat.reduceLeDiff, Int.reduceToNat, Int.reduceLE, Int.reduceLT, Int.reduceAdd, Int.reduceMul, Int.reduceSub, Nat.sub_zero, Int.reducePow, Nat.reducePow, Int.reduceNeg, Int.reduceEq, Int.reduceNe, eq_self] <;> rfl) ?_; simp only [tupP_1, tupP_2]; refine ⟨?_, ?_, ?_⟩ <;> try simp -implicitDefEqProofs (disch := omega) only [eH, en, go_sem, ht, reduceIte, ↓reduceIte, Nat.reduceEqDiff, Nat.reduceAdd, Nat.reduceMul, Nat.reduceSub, Nat.reduceLT, Nat.reduceLeDiff, Int.reduceToNat, Int.reduceLE, Int.reduceLT, Int.reduceAdd, Int.reduceMul, Int.reduceSub, Nat.sub_zero, Int.reducePow, Nat.reducePow, Int.reduceNeg, Int.reduceEq, Int.reduceNe, eq_self])
        rw [← e]; simp; omega

theorem sub_calls {xs ys : List Nat} (hx : Ok xs) (hy : Ok ys) : PO1 Try.prog 41 [SU xs, SU ys] (fun p => .tup [p, .val (.bool (decide (V ys ≤ V xs)))]) ((D (V xs - V ys)).map U) := by
  have hx' := hx.short
  have hy' := hy.short
  have hdx := V_D (V xs)
  have hdy := V_D (V ys)
  have := hx.short.len
  have := hy.short.len
  refine PCalls.enter (n := 54) (rs := [.tmp 4, .tmp 5]) (tb := []) Try.func41 rfl rfl rfl (by kernel_rfl) (by kernel_rfl) (by simp) fun c hc ht => ?_
  simp -implicitDefEqProofs (disch := omega) only [go_sem, ht, reduceIte, ↓reduceIte, Nat.reduceEqDiff, Nat.reduceAdd, Nat.reduceMul, Nat.reduceSub, Nat.reduceLT, Nat.reduceLeDiff, Int.reduceToNat, Int.reduceLE, Int.reduceLT, Int.reduceAdd, Int.reduceMul, Int.reduceSub, Nat.sub_zero, Int.reducePow, Nat.reducePow, Int.reduceNeg, Int.reduceEq, Int.reduceNe, eq_self]
  (refine pCall_view (by simp -implicitDefEqProofs (disch := omega) only [go_sem, ht, reduceIte, ↓reduceIte, Nat.reduceEqDiff, Nat.reduceAdd, Nat.reduceMul, Nat.reduceSub, Nat.reduceLT, Nat.reduceLeDiff, Int.reduceToNat, Int.reduceLE, Int.reduceLT, Int.reduceAdd, Int.reduceMul, Int.reduceSub, Nat.sub_zero, Int.reducePow, Nat.reducePow, Int.reduceNeg, Int.reduceEq, Int.reduceNe, eq_self] <;> rfl) (by simp -implicitDefEqProofs (disch := omega) only [go_sem, ht, reduceIte, ↓reduceIte, Nat.reduceEqDiff, Nat.reduceAdd, Nat.reduceMul, Nat.reduceSub, Nat.reduceLT, Nat.reduceLeDiff, Int.reduceToNat, Int.reduceLE, Int.reduceLT, Int.reduceAdd, Int.reduceMul, Int.reduceSub, Nat.sub_zero, Int.reducePow, Nat.reducePow, Int.reduceNeg, Int.reduceEq, Int.reduceNe, eq_self]) (by first | exact .inl (by simp -implicitDefEqProofs (disch := omega) only [go_sem, ht, reduceIte, ↓reduceIte, Nat.reduceEqDiff, Nat.reduceAdd, Nat.reduceMul, Nat.reduceSub, Nat.reduceLT, Nat.reduceLeDiff, Int.reduceToNat, Int.reduceLE, Int.reduceLT, Int.reduceAdd, Int.reduceMul, Int.reduceSub, Nat.sub_zero, Int.reducePow, Nat.reducePow, Int.reduceNeg, Int.reduceEq, Int.reduceNe, eq_self]) | exact .inr (by rintro r rfl; rfl)) (short_calls hx) ?_; rintro _ nx - rfl hnx; (try simp only [put_nx, withH_nx, begP_nx] at hnx); simp -implicitDefEqProofs (disch := omega) only [go_sem, ht, reduceIte, ↓reduceIte, Nat.reduceEqDiff, Nat.reduceAdd, Nat.reduceMul, Nat.reduceSub, Nat.reduceLT, Nat.reduceLeDiff, Int.reduceToNat, Int.reduceLE, Int.reduceLT, Int.reduceAdd, Int.reduceMul, Int.reduceSub, Nat.sub_zero, Int.reducePow, Nat.reducePow, Int.reduceNeg, Int.reduceEq, Int.reduceNe, eq_self])
  (refine pCall_view (by simp -implicitDefEqProofs (disch := omega) only [go_sem, ht, reduceIte, ↓reduceIte, Nat.reduceEqDiff, Nat.reduceAdd, Nat.reduceMul, Nat.reduceSub, Nat.reduceLT, Nat.reduceLeDiff, Int.reduceToNat, Int.reduceLE, Int.reduceLT, Int.reduceAdd, Int.reduceMul, Int.reduceSub, Nat.sub_zero, Int.reducePow, Nat.reducePow, Int.reduceNeg, Int.reduceEq, Int.reduceNe, eq_self] <;> rfl) (by simp -implicitDefEqProofs (disch := omega) only [go_sem, ht, reduceIte, ↓reduceIte, Nat.reduceEqDiff, Nat.reduceAdd, Nat.reduceMul, Nat.reduceSub, Nat.reduceLT, Nat.reduceLeDiff, Int.reduceToNat, Int.reduceLE, Int.reduceLT, Int.reduceAdd, Int.reduceMul, Int.reduceSub, Nat.sub_zero, Int.reducePow, Nat.reducePow, Int.reduceNeg, Int.reduceEq, Int.reduceNe, eq_self]) (by first | exact .inl (by simp -implicitDefEqProofs (disch := omega) only [go_sem, ht, reduceIte, ↓reduceIte, Nat.reduceEqDiff, Nat.reduceAdd, Nat.reduceMul, Nat.reduceSub, Nat.reduceLT, Nat.reduceLeDiff, Int.reduceToNat, Int.reduceLE, Int.reduceLT, Int.reduceAdd, Int.reduceMul, Int.reduceSub, Nat.sub_zero, Int.reducePow, Nat.reducePow, Int.reduceNeg, Int.reduceEq, Int.reduceNe, eq_self]) | exact .inr (by rintro r rfl; rfl)) (short_calls hy) ?_; rintro _ nx - rfl hnx; (try simp only [put_nx, withH_nx, begP_nx] at hnx); simp -implicitDefEqProofs (disch := omega) only [go_sem, ht, reduceIte, ↓reduceIte, Nat.reduceEqDiff, Nat.reduceAdd, Nat.reduceMul, Nat.reduceSub, Nat.reduceLT, Nat.reduceLeDiff, Int.reduceToNat, Int.reduceLE, Int.reduceLT, Int.reduceAdd, Int.reduceMul, Int.reduceSub, Nat.sub_zero, Int.reducePow, Nat.reducePow, Int.reduceNeg, Int.reduceEq, Int.reduceNe, eq_self])
  (refine pCall_view (by simp -implicitDefEqProofs (disch := omega) only [go_sem, ht, reduceIte, ↓reduceIte, Nat.reduceEqDiff, Nat.reduceAdd, Nat.reduceMul, Nat.reduceSub, Nat.reduceLT, Nat.reduceLeDiff, Int.reduceToNat, Int.reduceLE, Int.reduceLT, Int.reduceAdd, Int.reduceMul, Int.reduceSub, Nat.sub_zero, Int.reducePow, Nat.reducePow, Int.reduceNeg, Int.reduceEq, Int.reduceNe, eq_self] <;> rfl) (by simp -implicitDefEqProofs (disch := omega) only [go_sem, ht, reduceIte, ↓reduceIte, Nat.reduceEqDiff, Nat.reduceAdd, Nat.reduceMul, Nat.reduceSub, Nat.reduceLT, Nat.reduceLeDiff, Int.reduceToNat, Int.reduceLE, Int.reduceLT, Int.reduceAdd, Int.reduceMul, Int.reduceSub, Nat.sub_zero, Int.reducePow, Nat.reducePow, Int.reduceNeg, Int.reduceEq, Int.reduceNe, eq_self]) (by first | exact .inl (by simp -implicitDefEqProofs (disch := omega) only [go_sem, ht, reduceIte, ↓reduceIte, Nat.reduceEqDiff, Nat.reduceAdd, Nat.reduceMul, Nat.reduceSub, Nat.reduceLT, Nat.reduceLeDiff, Int.reduceToNat, Int.reduceLE, Int.reduceLT, Int.reduceAdd, Int.reduceMul, Int.reduceSub, Nat.sub_zero, Int.reducePow, Nat.reducePow, Int.reduceNeg, Int.reduceEq, Int.reduceNe, eq_self]) | exact .inr (by rintro r rfl; rfl)) (cmp_calls hx' hy') ?_; rintro _ nx - rfl hnx; (try simp only [put_nx, withH_nx, begP_nx] at hnx); simp -implicitDefEqProofs (disch := omega) only [go_sem, ht, reduceIte, ↓reduceIte, Nat.reduceEqDiff, Nat.reduceAdd, Nat.reduceMul, Nat.reduceSub, Nat.reduceLT, Nat.reduceLeDiff, Int.reduceToNat, Int.reduceLE, Int.reduceLT, Int.reduceAdd, Int.reduceMul, Int.reduceSub, Nat.sub_zero, Int.reducePow, Nat.reducePow, Int.reduceNeg, Int.reduceEq, Int.reduceNe, eq_self])
  rw [hdx, hdy]
  refine ⟨fun hlt => ?_, fun hge => ?_⟩
  · have hlt : V xs < V ys := by
      unfold cmpI at hlt; split at hlt
      · assumption
      · split at hlt <;> simp at hlt
    have e1 : decide (V ys ≤ V xs) = false := by simp; omega
    have e2 : D (V xs - V ys) = [] := by rw [show V xs - V ys = 0 by omega, D_zero]
    rw [e1, e2]
    exact end_own_nil (mk_b _) (by simp -implicitDefEqProofs (disch := omega) only [go_sem, ht, reduceIte, ↓reduceIte, Nat.reduceEqDiff, Nat.reduceAdd, Nat.reduceMul, Nat.reduceSub, Nat.reduceLT, Nat.reduceLeDiff, Int.reduceToNat, Int.reduceLE, Int.reduceLT, Int.reduceAdd, Int.reduceMul, Int.reduceSub, Nat.sub_zero, Int.reducePow, Nat.reducePow, Int.reduceNeg, Int.reduceEq, Int.reduceNe, eq_self])
  · have hge : V ys ≤ V xs := by
      unfold cmpI at hge; split at hge
      · simp at hge
      · omega
    have e1 : decide (V ys ≤ V xs) = true := by simp; omega
    rw [e1]
    have hle := D_len_mono hge
    generalize D (V xs) = us at *
    generalize D (V ys) = vs at *
    rw [← hdx, ← hdy] at hge ⊢
    clear hx hy
    refine LW.loopW hc ht (by kernel_rfl) (fun s => s.sl 0 = .sl us.length (us.map U) ∧ s.sl 1 = .sl vs.length (vs.map U) ∧ s.sl 22 = .val (.int .i64 us.length) ∧ ∃ k : Nat, k ≤ us.length ∧ s.sl 23 = .val (.int .i64 k) ∧
      ∃ b : Nat, b ≤ 1 ∧ s.sl 7 = .val (.int .u64 b) ∧ ∃ zs id, zs.length = us.length ∧ s.sl 6 = .ref id 0 us.length us.length 1 ∧ s.H id = some (zs.map U) ∧ id < s.nx ∧
      Lm zs ∧ V (zs.take k) + V (vs.take k) = V (us.take k) + 4294967296 ^ k * b)
      (fun s => match s.sl 23 with | .val (.int _ k) => us.length - k.toNat | _ => 0) ?_ ?_
    · simp -implicitDefEqProofs (disch := omega) only [go_sem, ht, reduceIte, ↓reduceIte, Nat.reduceEqDiff, Nat.reduceAdd, Nat.reduceMul, Nat.reduceSub, Nat.reduceLT, Nat.reduceLeDiff, Int.reduceToNat, Int.reduceLE, Int.reduceLT, Int.reduceAdd, Int.reduceMul, Int.reduceSub, Nat.sub_zero, Int.reducePow, Nat.reducePow, Int.reduceNeg, Int.reduceEq, Int.reduceNe, eq_self]
      exact ⟨0, Nat.zero_le _, rfl, 0, by omega, rfl, List.replicate us.length 0, nx, by simp, rfl, by rw [upd_self], by omega, Lm_repl _, by simp [V]⟩
    · rintro s ⟨h0, h1, h22, k, hk, h23, b, hb, h7, zs, id, hzl, h6, hH, hid, hzm, heq⟩
      by_cases hkl : k = us.length
      · simp -implicitDefEqProofs (disch := omega) only [go_sem, ht, h0, h1, h22, h23, h7, h6, hH, reduceIte, ↓reduceIte, Nat.reduceEqDiff, Nat.reduceAdd, Nat.reduceMul, Nat.reduceSub, Nat.reduceLT, Nat.reduceLeDiff, Int.reduceToNat, Int.reduceLE, Int.reduceLT, Int.reduceAdd, Int.reduceMul, Int.reduceSub, Nat.sub_zero, Int.reducePow, Nat.reducePow, Int.reduceNeg, Int.reduceEq, Int.reduceNe, eq_self]
        (apply pCall_mem; exact (short_own (xs := zs) (rest := []) hzm hzl (by omega) (Nat.le_refl _) (by simp -implicitDefEqProofs (disch := omega) only [hH, List.map_nil, go_sem, ht, reduceIte, ↓reduceIte, Nat.reduceEqDiff, Nat.reduceAdd, Nat.reduceMul, Nat.reduceSub, Nat.reduceLT, Nat.reduceLeDiff, Int.reduceToNat, Int.reduceLE, Int.reduceLT, Int.reduceAdd, Int.reduceMul, Int.reduceSub, Nat.sub_zero, Int.reducePow, Nat.reducePow, Int.reduceNeg, Int.reduceEq, Int.reduceNe, eq_self] <;> rfl)); rintro _ _ _ ⟨rfl, rfl, rfl⟩ -; simp -implicitDefEqProofs (disch := omega) only [hH, List.map_nil, go_sem, ht, reduceIte, ↓reduceIte, Nat.reduceEqDiff, Nat.reduceAdd, Nat.reduceMul, Nat.reduceSub, Nat.reduceLT, Nat.reduceLeDiff, Int.reduceToNat, Int.reduceLE, Int.reduceLT, Int.reduceAdd, Int.reduceMul, Int.reduceSub, Nat.sub_zero, Int.reducePow, Nat.reducePow, Int.reduceNeg, Int.reduceEq, Int.reduceNe, eq_self])
        have e : D (V us - V vs) = D (V zs) := by
          rw [hkl, List.take_length, List.take_of_length_le hle, List.take_of_length_le (by omega)] at heq
          have h1 := V_lt hzm
          have h2 := V_lt hx'.lm
          rw [hzl] at h1
          have : b = 0 := by
            rcases Nat.lt_or_ge 0 b with hb' | hb'
            · have : b = 1 := by omega
              subst this; omega
            · omega
          subst this
          congr 1; omega
        rw [e]
        have := D_len_V hzm
        exact end_own1 (mk := fun p => .tup [p, .val (.bool true)]) (by simp -implicitDefEqProofs (disch := omega) only [hH, own_split' hzm, go_sem, ht, reduceIte, ↓reduceIte, Nat.reduceEqDiff, Nat.reduceAdd, Nat.reduceMul, Nat.reduceSub, Nat.reduceLT, Nat.reduceLeDiff, Int.reduceToNat, Int.reduceLE, Int.reduceLT, Int.reduceAdd, Int.reduceMul, Int.reduceSub, Nat.sub_zero, Int.reducePow, Nat.reducePow, Int.reduceNeg, Int.reduceEq, Int.reduceNe, eq_self] <;> rfl) (by simp -implicitDefEqProofs (disch := omega) only [hH, own_split' hzm, go_sem, ht, reduceIte, ↓reduceIte, Nat.reduceEqDiff, Nat.reduceAdd, Nat.reduceMul, Nat.reduceSub, Nat.reduceLT, Nat.reduceLeDiff, Int.reduceToNat, Int.reduceLE, Int.reduceLT, Int.reduceAdd, Int.reduceMul, Int.reduceSub, Nat.sub_zero, Int.reducePow, Nat.reducePow, Int.reduceNeg, Int.reduceEq, Int.reduceNe, eq_self] <;> rfl) (by simp <;> omega) (by simp <;> omega)
      · have hk' : k < us.length := by omega
        have hug := hx'.lm.get k
        have hvg := hy'.lm.get k
        have hV := V_take_succ us hk'
        have key : ∀ v z b' : Nat, V (vs.take (k + 1)) = V (vs.take k) + 4294967296 ^ k * v → z < 4294967296 → z + v + b = us.getD k 0 + 4294967296 * b' →
            V ((zs.set k z).take (k + 1)) + V (vs.take (k + 1)) = V (us.take (k + 1)) + 4294967296 ^ (k + 1) * b' := by
          intro v z b' hv hz hs
          rw [V_take_succ _ (by simp; omega), hv, hV, List.take_set_of_le (Nat.le_refl _), List.getD_eq_getElem?_getD, List.getElem?_set_self (by omega)]
          simp only [Option.getD_some, Nat.pow_succ]
          have : 4294967296 ^ k * (z + v + b) = 4294967296 ^ k * (us.getD k 0 + 4294967296 * b') := by rw [hs]
          simp only [Nat.mul_add, ← Nat.mul_assoc] at this
          omega
        have hset : ∀ z, z < 4294967296 → Lm (zs.set k z) := fun z hz x hx => by
          rcases List.mem_or_eq_of_mem_set hx with h | h
          · exact hzm x h
          · omega
        by_cases hkv : k < vs.length
        · have hV2 := V_take_succ vs hkv
          obtain ⟨z, b', hz, hb', e1, e2, e3⟩ := sub_step hug hvg hb
          simp -implicitDefEqProofs (disch := omega) only [go_sem, ht, h0, h1, h22, h23, h7, h6, hH, e1, e2, reduceIte, ↓reduceIte, Nat.reduceEqDiff, Nat.reduceAdd, Nat.reduceMul, Nat.reduceSub, Nat.reduceLT, Nat.reduceLeDiff, Int.reduceToNat, Int.reduceLE, Int.reduceLT, Int.reduceAdd, Int.reduceMul, Int.reduceSub, Nat.sub_zero, Int.reducePow, Nat.reducePow, Int.reduceNeg, Int.reduceEq, Int.reduceNe, eq_self]
          exact ⟨⟨k + 1, by omega, rfl, b', hb', rfl, zs.set k z, id, by simp [hzl], rfl, upd_self _ _ _, hid, hset z hz, key _ z b' hV2 hz e3⟩, by omega⟩
        · have hV2 : V (vs.take (k + 1)) = V (vs.take k) + 4294967296 ^ k * 0 := by
            rw [List.take_of_length_le (by omega), List.take_of_length_le (by omega)]; simp
          obtain ⟨z, b', hz, hb', e1, e2, e3⟩ := sub_step hug (by omega : 0 < 4294967296) hb
          rw [show (((us.getD k 0 : Nat) : Int) - b) % 18446744073709551616 - ((0 : Nat) : Int) = (((us.getD k 0 : Nat) : Int) - b) % 18446744073709551616 by omega, Int.emod_emod] at e1 e2
          simp -implicitDefEqProofs (disch := omega) only [go_sem, ht, h0, h1, h22, h23, h7, h6, hH, e1, e2, reduceIte, ↓reduceIte, Nat.reduceEqDiff, Nat.reduceAdd, Nat.reduceMul, Nat.reduceSub, Nat.reduceLT, Nat.reduceLeDiff, Int.reduceToNat, Int.reduceLE, Int.reduceLT, Int.reduceAdd, Int.reduceMul, Int.reduceSub, Nat.sub_zero, Int.reducePow, Nat.reducePow, Int.reduceNeg, Int.reduceEq, Int.reduceNe, eq_self]
          exact ⟨⟨k + 1, by omega, rfl, b', hb', rfl, zs.set k z, id, by simp [hzl], rfl, upd_self _ _ _, hid, hset z hz, key _ z b' hV2 hz e3⟩, by omega⟩
end Go.Proofs.Ytbbncddbdflmbaa
