/- The document's numbers: cutBy, made, FromLimbs, Limbs. -/
import Derived.Test.YtbbncddbdflmbaaRef1
set_option maxRecDepth 100000
set_option linter.unusedVariables false
set_option linter.unusedSimpArgs false
namespace Go.Proofs.Ytbbncddbdflmbaa.Ref

theorem spl_full2 (a b x y : PV) : spl [a, b] 0 [x, y] = [x, y] := rfl
attribute [go_sem] spl_full2
/-- A nil slice is an empty list that is only read. -/
theorem nilS {st : PS} (t : Nat) (ht : st.sl t = .val (.slice none 0 0)) : Gh st { st with sl := upd st.sl t (.sl 0 []) } := by
  rintro c a w ⟨ρ, h⟩
  refine ⟨ρ, h.own, fun u => ?_, h.size, h.defers, h.frame, h.grow, h.ids, h.ρk, h.fF, h.fA, h.sw⟩
  by_cases hu : u = t
  · subst hu
    show Rep _ (upd st.sl u _ u) _
    rw [upd_self]
    have := nn1_rep (h.slots u)
    rw [ht] at this
    exact this
  · show Rep _ (upd st.sl t _ u) _
    rw [upd_ne _ _ hu]; exact h.slots u

/-- A number of the document's. -/
def NP (neg : Bool) (n : Nat) : PV := .agg [.val (.bool neg), SI (D n)]
theorem NP_def (neg : Bool) (n : Nat) : NP neg n = .agg [.val (.bool neg), .sl (D n).length ((D n).map I)] := rfl

theorem cutBy_calls {xs : List Nat} (h : Ok xs) : PT Try.prog 59 [SI xs, .val (.int .i64 4294967296)] (isV (.tup [SI (D (V xs / 4294967296)), .val (.int .i64 (V xs % 4294967296 : Nat))])) := by
  have hlen := h.len
  refine PCalls.enter (n := 38) (rs := [.tmp 4, .tmp 5]) (tb := []) Try.func59 rfl rfl rfl (by kernel_rfl) (by kernel_rfl) (by simp) fun c hc ht => ?_
  simp -implicitDefEqProofs (disch := omega) only [go_sem, ht, reduceIte, ↓reduceIte, Nat.reduceEqDiff, Nat.reduceAdd, Nat.reduceMul, Nat.reduceSub, Nat.reduceLT, Nat.reduceLeDiff, Int.reduceToNat, Int.reduceLE, Int.reduceLT, Int.reduceAdd, Int.reduceMul, Int.reduceSub, Nat.sub_zero, Int.reducePow, Nat.reducePow, Int.reduceNeg, Int.reduceEq, Int.reduceNe, eq_self]
  refine LW.loopW hc ht (by kernel_rfl) (fun t => t.sl 0 = .sl xs.length (xs.map I) ∧ t.sl 1 = .val (.int .i64 4294967296) ∧ ∃ k : Nat, k ≤ xs.length ∧ t.sl 8 = .val (.int .i64 ((k : Int) - 1)) ∧
      ∃ (zs : List Nat) (id r : Nat), zs.length = xs.length ∧ t.sl 6 = .ref id 0 xs.length xs.length 1 ∧ t.H id = some (zs.map I) ∧ id < t.nx ∧ t.sl 7 = .val (.int .i64 (r : Nat)) ∧ r < 4294967296 ∧
      Lm zs ∧ Hide (V (zs.drop k) * 4294967296 + r = V (xs.drop k)))
      (fun t => match t.sl 8 with | .val (.int _ j) => (j + 1).toNat | _ => 0) ?_ ?_
  · simp -implicitDefEqProofs (disch := omega) only [go_sem, ht, reduceIte, ↓reduceIte, Nat.reduceEqDiff, Nat.reduceAdd, Nat.reduceMul, Nat.reduceSub, Nat.reduceLT, Nat.reduceLeDiff, Int.reduceToNat, Int.reduceLE, Int.reduceLT, Int.reduceAdd, Int.reduceMul, Int.reduceSub, Nat.sub_zero, Int.reducePow, Nat.reducePow, Int.reduceNeg, Int.reduceEq, Int.reduceNe, eq_self]
    exact ⟨xs.length, Nat.le_refl _, rfl, List.replicate xs.length 0, 0, 0, by simp, rfl, by rw [upd_self], by omega, rfl, by omega, Lm_repl _, Hide.mk (by rw [List.drop_of_length_le (by simp), List.drop_of_length_le (by simp)]; simp [V])⟩
  · rintro t ⟨h0, h1, k, hk, h8, zs, id, r, hzl, h6, hH, hid, h7, hr, hzm, heq⟩
    by_cases hk0 : k = 0
    · subst hk0
      have heq := heq.out
      rw [List.drop_zero, List.drop_zero] at heq
      have e1 : V xs / 4294967296 = V zs := by omega
      have e2 : V xs % 4294967296 = r := by omega
      rw [e1, e2]
      clear e1 e2 heq
      have hdl := D_len_V hzm
      have hqs : (zs.map I).take (D (V zs)).length = (D (V zs)).map I := by
        have := take_Il (D (V zs)) ((List.replicate (zs.length - (D (V zs)).length) (Value.int .i64 0)).map .val)
        rwa [← own_split' hzm] at this
      simp -implicitDefEqProofs (disch := omega) only [go_sem, ht, h0, h1, h8, h7, h6, hH, reduceIte, ↓reduceIte, Nat.reduceEqDiff, Nat.reduceAdd, Nat.reduceMul, Nat.reduceSub, Nat.reduceLT, Nat.reduceLeDiff, Int.reduceToNat, Int.reduceLE, Int.reduceLT, Int.reduceAdd, Int.reduceMul, Int.reduceSub, Nat.sub_zero, Int.reducePow, Nat.reducePow, Int.reduceNeg, Int.reduceEq, Int.reduceNe, eq_self]
      (apply pCall_mem; exact (cut_own (xs := zs) (rest := []) hzm hzl (by omega) (Nat.le_refl _) (by simp -implicitDefEqProofs (disch := omega) only [hH, h7, List.map_nil, go_sem, ht, reduceIte, ↓reduceIte, Nat.reduceEqDiff, Nat.reduceAdd, Nat.reduceMul, Nat.reduceSub, Nat.reduceLT, Nat.reduceLeDiff, Int.reduceToNat, Int.reduceLE, Int.reduceLT, Int.reduceAdd, Int.reduceMul, Int.reduceSub, Nat.sub_zero, Int.reducePow, Nat.reducePow, Int.reduceNeg, Int.reduceEq, Int.reduceNe, eq_self] <;> rfl)); rintro _ _ _ ⟨rfl, rfl, rfl⟩ -; simp -implicitDefEqProofs (disch := omega) only [hH, h7, List.map_nil, go_sem, ht, reduceIte, ↓reduceIte, Nat.reduceEqDiff, Nat.reduceAdd, Nat.reduceMul, Nat.reduceSub, Nat.reduceLT, Nat.reduceLeDiff, Int.reduceToNat, Int.reduceLE, Int.reduceLT, Int.reduceAdd, Int.reduceMul, Int.reduceSub, Nat.sub_zero, Int.reducePow, Nat.reducePow, Int.reduceNeg, Int.reduceEq, Int.reduceNe, eq_self])
      (refine end_treeN 2 ?_; simp -implicitDefEqProofs (disch := omega) only [go_sem, ht, hH, hqs, reduceIte, ↓reduceIte, Nat.reduceEqDiff, Nat.reduceAdd, Nat.reduceMul, Nat.reduceSub, Nat.reduceLT, Nat.reduceLeDiff, Int.reduceToNat, Int.reduceLE, Int.reduceLT, Int.reduceAdd, Int.reduceMul, Int.reduceSub, Nat.sub_zero, Int.reducePow, Nat.reducePow, Int.reduceNeg, Int.reduceEq, Int.reduceNe, eq_self])
      exact hdl
    · have e1 : ((k : Int) - 1).toNat = k - 1 := by omega
      have e2 : k - 1 + 1 = k := by omega
      have hxg := h.lm.get (k - 1)
      have hd := V_drop xs (i := k - 1) (by omega)
      rw [e2, ← heq.out] at hd
      have hq : (r * 10000 + xs.getD (k - 1) 0) / 4294967296 < 10000 := by omega
      have hset : Lm (zs.set (k - 1) ((r * 10000 + xs.getD (k - 1) 0) / 4294967296)) := fun x hx => by
        rcases List.mem_or_eq_of_mem_set hx with h | h
        · exact hzm x h
        · omega
      have key : Hide (V ((zs.set (k - 1) ((r * 10000 + xs.getD (k - 1) 0) / 4294967296)).drop (k - 1)) * 4294967296 + (r * 10000 + xs.getD (k - 1) 0) % 4294967296 = V (xs.drop (k - 1))) := by
        refine Hide.mk ?_
        rw [V_set_drop (by omega), hd, e2]
        omega
      clear hd heq
      simp -implicitDefEqProofs (disch := omega) only [go_sem, ht, h0, h1, h8, h7, h6, hH, e1, reduceIte, ↓reduceIte, Nat.reduceEqDiff, Nat.reduceAdd, Nat.reduceMul, Nat.reduceSub, Nat.reduceLT, Nat.reduceLeDiff, Int.reduceToNat, Int.reduceLE, Int.reduceLT, Int.reduceAdd, Int.reduceMul, Int.reduceSub, Nat.sub_zero, Int.reducePow, Nat.reducePow, Int.reduceNeg, Int.reduceEq, Int.reduceNe, eq_self]
      exact ⟨⟨k - 1, by omega, by congr 2, _, id, _, by simp [hzl], rfl, upd_self _ _ _, hid, rfl, by omega, hset, key⟩, by omega⟩

theorem made_calls {xs : List Nat} (h : Ok xs) : PT Try.prog 61 [.val (.bool false), SI xs] (isV (NP false (V xs))) := by
  have hlen := h.short.len
  rw [NP_def]
  refine PCalls.enter (n := 15) (rs := [.cell 4 64]) (tb := []) Try.func61 rfl rfl rfl (by kernel_rfl) (by kernel_rfl) (by simp) fun c hc ht => ?_
  simp -implicitDefEqProofs (disch := omega) only [go_sem, ht, reduceIte, ↓reduceIte, Nat.reduceEqDiff, Nat.reduceAdd, Nat.reduceMul, Nat.reduceSub, Nat.reduceLT, Nat.reduceLeDiff, Int.reduceToNat, Int.reduceLE, Int.reduceLT, Int.reduceAdd, Int.reduceMul, Int.reduceSub, Nat.sub_zero, Int.reducePow, Nat.reducePow, Int.reduceNeg, Int.reduceEq, Int.reduceNe, eq_self]
  (refine pCall_view (by simp -implicitDefEqProofs (disch := omega) only [go_sem, ht, reduceIte, ↓reduceIte, Nat.reduceEqDiff, Nat.reduceAdd, Nat.reduceMul, Nat.reduceSub, Nat.reduceLT, Nat.reduceLeDiff, Int.reduceToNat, Int.reduceLE, Int.reduceLT, Int.reduceAdd, Int.reduceMul, Int.reduceSub, Nat.sub_zero, Int.reducePow, Nat.reducePow, Int.reduceNeg, Int.reduceEq, Int.reduceNe, eq_self] <;> rfl) (by simp -implicitDefEqProofs (disch := omega) only [go_sem, ht, reduceIte, ↓reduceIte, Nat.reduceEqDiff, Nat.reduceAdd, Nat.reduceMul, Nat.reduceSub, Nat.reduceLT, Nat.reduceLeDiff, Int.reduceToNat, Int.reduceLE, Int.reduceLT, Int.reduceAdd, Int.reduceMul, Int.reduceSub, Nat.sub_zero, Int.reducePow, Nat.reducePow, Int.reduceNeg, Int.reduceEq, Int.reduceNe, eq_self]) (by first | exact .inl (by simp -implicitDefEqProofs (disch := omega) only [go_sem, ht, reduceIte, ↓reduceIte, Nat.reduceEqDiff, Nat.reduceAdd, Nat.reduceMul, Nat.reduceSub, Nat.reduceLT, Nat.reduceLeDiff, Int.reduceToNat, Int.reduceLE, Int.reduceLT, Int.reduceAdd, Int.reduceMul, Int.reduceSub, Nat.sub_zero, Int.reducePow, Nat.reducePow, Int.reduceNeg, Int.reduceEq, Int.reduceNe, eq_self]) | exact .inr (by rintro r rfl; rfl)) (cut_calls h) ?_; rintro _ nx - rfl hnx; (try simp only [put_nx, withH_nx, begP_nx] at hnx); simp -implicitDefEqProofs (disch := omega) only [go_sem, ht, reduceIte, ↓reduceIte, Nat.reduceEqDiff, Nat.reduceAdd, Nat.reduceMul, Nat.reduceSub, Nat.reduceLT, Nat.reduceLeDiff, Int.reduceToNat, Int.reduceLE, Int.reduceLT, Int.reduceAdd, Int.reduceMul, Int.reduceSub, Nat.sub_zero, Int.reducePow, Nat.reducePow, Int.reduceNeg, Int.reduceEq, Int.reduceNe, eq_self])
  (refine end_treeN 2 ?_; simp -implicitDefEqProofs (disch := omega) only [go_sem, ht, reduceIte, ↓reduceIte, Nat.reduceEqDiff, Nat.reduceAdd, Nat.reduceMul, Nat.reduceSub, Nat.reduceLT, Nat.reduceLeDiff, Int.reduceToNat, Int.reduceLE, Int.reduceLT, Int.reduceAdd, Int.reduceMul, Int.reduceSub, Nat.sub_zero, Int.reducePow, Nat.reducePow, Int.reduceNeg, Int.reduceEq, Int.reduceNe, eq_self])

theorem from_calls {xs : List Nat} (h : Ytbbncddbdflmbaa.Lm xs) (hl : xs.length ≤ 1000000) : PT Try.prog 48 [Ytbbncddbdflmbaa.SU xs] (isV (NP false (Ytbbncddbdflmbaa.V xs))) := by
  have hok : ∀ k, k ≤ xs.length → Ok (D (Ytbbncddbdflmbaa.V (xs.drop k))) := fun k hk => ⟨Lm_D _, by
    have h1 := Ytbbncddbdflmbaa.V_lt (h.drop k)
    rw [List.length_drop] at h1
    have h2 : Ytbbncddbdflmbaa.V (xs.drop k) < 10000 ^ (3 * (xs.length - k)) := by
      rw [Nat.pow_mul]
      exact Nat.lt_of_lt_of_le h1 (Nat.pow_le_pow_left (by decide) _)
    have := D_len_le.2 h2
    omega⟩
  refine PCalls.enter (n := 21) (rs := [.cell 2 64]) (tb := []) Try.func48 rfl rfl rfl (by kernel_rfl) (by kernel_rfl) (by simp) fun c hc ht => ?_
  simp -implicitDefEqProofs (disch := omega) only [go_sem, ht, reduceIte, ↓reduceIte, Nat.reduceEqDiff, Nat.reduceAdd, Nat.reduceMul, Nat.reduceSub, Nat.reduceLT, Nat.reduceLeDiff, Int.reduceToNat, Int.reduceLE, Int.reduceLT, Int.reduceAdd, Int.reduceMul, Int.reduceSub, Nat.sub_zero, Int.reducePow, Nat.reducePow, Int.reduceNeg, Int.reduceEq, Int.reduceNe, eq_self]
  refine LW.ghost (nilS 3 (by simp -implicitDefEqProofs (disch := omega) only [go_sem, ht, reduceIte, ↓reduceIte, Nat.reduceEqDiff, Nat.reduceAdd, Nat.reduceMul, Nat.reduceSub, Nat.reduceLT, Nat.reduceLeDiff, Int.reduceToNat, Int.reduceLE, Int.reduceLT, Int.reduceAdd, Int.reduceMul, Int.reduceSub, Nat.sub_zero, Int.reducePow, Nat.reducePow, Int.reduceNeg, Int.reduceEq, Int.reduceNe, eq_self])) ?_
  refine LW.loopW hc ht (by kernel_rfl) (fun t => t.sl 0 = .sl xs.length (xs.map Ytbbncddbdflmbaa.U) ∧ t.sl 2 = .ptr 0 0 ∧ t.H 0 = some [.val (.bool false), .val (.slice none 0 0)] ∧ 0 < t.nx ∧ ∃ k : Nat, k ≤ xs.length ∧ t.sl 4 = .val (.int .i64 ((k : Int) - 1)) ∧
      t.sl 3 = .sl (D (Ytbbncddbdflmbaa.V (xs.drop k))).length ((D (Ytbbncddbdflmbaa.V (xs.drop k))).map I))
      (fun t => match t.sl 4 with | .val (.int _ j) => (j + 1).toNat | _ => 0) ?_ ?_
  · simp -implicitDefEqProofs (disch := omega) only [go_sem, ht, reduceIte, ↓reduceIte, Nat.reduceEqDiff, Nat.reduceAdd, Nat.reduceMul, Nat.reduceSub, Nat.reduceLT, Nat.reduceLeDiff, Int.reduceToNat, Int.reduceLE, Int.reduceLT, Int.reduceAdd, Int.reduceMul, Int.reduceSub, Nat.sub_zero, Int.reducePow, Nat.reducePow, Int.reduceNeg, Int.reduceEq, Int.reduceNe, eq_self]
    exact ⟨xs.length, Nat.le_refl _, rfl, by rw [List.drop_length, Ytbbncddbdflmbaa.V_nil, D_zero]; rfl⟩
  · rintro t ⟨h0, h2, hH, hnx, k, hk, h4, h3⟩
    by_cases hk0 : k = 0
    · subst hk0
      have hmd := made_calls (hok 0 hk)
      rw [V_D, List.drop_zero] at hmd
      rw [List.drop_zero] at h3
      have hl2 := (hok 0 hk).len
      rw [List.drop_zero] at hl2
      rw [NP_def] at hmd ⊢
      simp -implicitDefEqProofs (disch := omega) only [go_sem, ht, h0, h2, h4, h3, reduceIte, ↓reduceIte, Nat.reduceEqDiff, Nat.reduceAdd, Nat.reduceMul, Nat.reduceSub, Nat.reduceLT, Nat.reduceLeDiff, Int.reduceToNat, Int.reduceLE, Int.reduceLT, Int.reduceAdd, Int.reduceMul, Int.reduceSub, Nat.sub_zero, Int.reducePow, Nat.reducePow, Int.reduceNeg, Int.reduceEq, Int.reduceNe, eq_self]
      (refine pCall_view (by simp -implicitDefEqProofs (disch := omega) only [h0, h2, h4, h3, hH, go_sem, ht, reduceIte, ↓reduceIte, Nat.reduceEqDiff, Nat.reduceAdd, Nat.reduceMul, Nat.reduceSub, Nat.reduceLT, Nat.reduceLeDiff, Int.reduceToNat, Int.reduceLE, Int.reduceLT, Int.reduceAdd, Int.reduceMul, Int.reduceSub, Nat.sub_zero, Int.reducePow, Nat.reducePow, Int.reduceNeg, Int.reduceEq, Int.reduceNe, eq_self] <;> rfl) (by simp -implicitDefEqProofs (disch := omega) only [h0, h2, h4, h3, hH, go_sem, ht, reduceIte, ↓reduceIte, Nat.reduceEqDiff, Nat.reduceAdd, Nat.reduceMul, Nat.reduceSub, Nat.reduceLT, Nat.reduceLeDiff, Int.reduceToNat, Int.reduceLE, Int.reduceLT, Int.reduceAdd, Int.reduceMul, Int.reduceSub, Nat.sub_zero, Int.reducePow, Nat.reducePow, Int.reduceNeg, Int.reduceEq, Int.reduceNe, eq_self]) (by first | exact .inl (by simp -implicitDefEqProofs (disch := omega) only [h0, h2, h4, h3, hH, go_sem, ht, reduceIte, ↓reduceIte, Nat.reduceEqDiff, Nat.reduceAdd, Nat.reduceMul, Nat.reduceSub, Nat.reduceLT, Nat.reduceLeDiff, Int.reduceToNat, Int.reduceLE, Int.reduceLT, Int.reduceAdd, Int.reduceMul, Int.reduceSub, Nat.sub_zero, Int.reducePow, Nat.reducePow, Int.reduceNeg, Int.reduceEq, Int.reduceNe, eq_self]) | exact .inr (by rintro r rfl; rfl)) (hmd) ?_; rintro _ nx - rfl hnx; (try simp only [put_nx, withH_nx, begP_nx] at hnx); simp -implicitDefEqProofs (disch := omega) only [h0, h2, h4, h3, hH, go_sem, ht, reduceIte, ↓reduceIte, Nat.reduceEqDiff, Nat.reduceAdd, Nat.reduceMul, Nat.reduceSub, Nat.reduceLT, Nat.reduceLeDiff, Int.reduceToNat, Int.reduceLE, Int.reduceLT, Int.reduceAdd, Int.reduceMul, Int.reduceSub, Nat.sub_zero, Int.reducePow, Nat.reducePow, Int.reduceNeg, Int.reduceEq, Int.reduceNe, eq_self])
      (refine end_treeN 2 ?_; simp -implicitDefEqProofs (disch := omega) only [go_sem, ht, hH, h2, reduceIte, ↓reduceIte, Nat.reduceEqDiff, Nat.reduceAdd, Nat.reduceMul, Nat.reduceSub, Nat.reduceLT, Nat.reduceLeDiff, Int.reduceToNat, Int.reduceLE, Int.reduceLT, Int.reduceAdd, Int.reduceMul, Int.reduceSub, Nat.sub_zero, Int.reducePow, Nat.reducePow, Int.reduceNeg, Int.reduceEq, Int.reduceNe, eq_self])
    · have e1 : ((k : Int) - 1).toNat = k - 1 := by omega
      have e2 : k - 1 + 1 = k := by omega
      have hxg := h.get (k - 1)
      have hsm := small_calls (k := 4294967296) (more := xs.getD (k - 1) 0) (hok k hk) (Nat.le_refl _) (by omega)
      have ev : V (D (Ytbbncddbdflmbaa.V (xs.drop k))) * 4294967296 + xs.getD (k - 1) 0 = Ytbbncddbdflmbaa.V (xs.drop (k - 1)) := by
        rw [V_D, Ytbbncddbdflmbaa.V_drop xs (i := k - 1) (by omega), e2]; omega
      rw [ev] at hsm
      simp -implicitDefEqProofs (disch := omega) only [go_sem, ht, h0, h2, h4, h3, e1, reduceIte, ↓reduceIte, Nat.reduceEqDiff, Nat.reduceAdd, Nat.reduceMul, Nat.reduceSub, Nat.reduceLT, Nat.reduceLeDiff, Int.reduceToNat, Int.reduceLE, Int.reduceLT, Int.reduceAdd, Int.reduceMul, Int.reduceSub, Nat.sub_zero, Int.reducePow, Nat.reducePow, Int.reduceNeg, Int.reduceEq, Int.reduceNe, eq_self]
      (refine pCall_view (by simp -implicitDefEqProofs (disch := omega) only [h0, h2, h4, h3, e1, hH, go_sem, ht, reduceIte, ↓reduceIte, Nat.reduceEqDiff, Nat.reduceAdd, Nat.reduceMul, Nat.reduceSub, Nat.reduceLT, Nat.reduceLeDiff, Int.reduceToNat, Int.reduceLE, Int.reduceLT, Int.reduceAdd, Int.reduceMul, Int.reduceSub, Nat.sub_zero, Int.reducePow, Nat.reducePow, Int.reduceNeg, Int.reduceEq, Int.reduceNe, eq_self] <;> rfl) (by simp -implicitDefEqProofs (disch := omega) only [h0, h2, h4, h3, e1, hH, go_sem, ht, reduceIte, ↓reduceIte, Nat.reduceEqDiff, Nat.reduceAdd, Nat.reduceMul, Nat.reduceSub, Nat.reduceLT, Nat.reduceLeDiff, Int.reduceToNat, Int.reduceLE, Int.reduceLT, Int.reduceAdd, Int.reduceMul, Int.reduceSub, Nat.sub_zero, Int.reducePow, Nat.reducePow, Int.reduceNeg, Int.reduceEq, Int.reduceNe, eq_self]) (by first | exact .inl (by simp -implicitDefEqProofs (disch := omega) only [h0, h2, h4, h3, e1, hH, go_sem, ht, reduceIte, ↓reduceIte, Nat.reduceEqDiff, Nat.reduceAdd, Nat.reduceMul, Nat.reduceSub, Nat.reduceLT, Nat.reduceLeDiff, Int.reduceToNat, Int.reduceLE, Int.reduceLT, Int.reduceAdd, Int.reduceMul, Int.reduceSub, Nat.sub_zero, Int.reducePow, Nat.reducePow, Int.reduceNeg, Int.reduceEq, Int.reduceNe, eq_self]) | exact .inr (by rintro r rfl; rfl)) (hsm) ?_; rintro _ nx - rfl hnx; (try simp only [put_nx, withH_nx, begP_nx] at hnx); simp -implicitDefEqProofs (disch := omega) only [h0, h2, h4, h3, e1, hH, go_sem, ht, reduceIte, ↓reduceIte, Nat.reduceEqDiff, Nat.reduceAdd, Nat.reduceMul, Nat.reduceSub, Nat.reduceLT, Nat.reduceLeDiff, Int.reduceToNat, Int.reduceLE, Int.reduceLT, Int.reduceAdd, Int.reduceMul, Int.reduceSub, Nat.sub_zero, Int.reducePow, Nat.reducePow, Int.reduceNeg, Int.reduceEq, Int.reduceNe, eq_self])
      exact ⟨⟨by omega, k - 1, by omega, rfl, rfl⟩, by omega⟩
end Go.Proofs.Ytbbncddbdflmbaa.Ref
