/- The program's limbs: Parse. -/
import Derived.Test.YtbbncddbdflmbaaLimbs13
import Derived.Laws.Strings
set_option maxRecDepth 100000
set_option linter.unusedVariables false
set_option linter.unusedSimpArgs false
namespace Go.Proofs.Ytbbncddbdflmbaa

/-- The natural that decimal digits tell, the highest first. -/
def dv (l : List UInt8) : Nat := l.foldl (fun v b => 10 * v + (b.toNat - 48)) 0
theorem dv_nil : dv [] = 0 := rfl
theorem dv_app (l : List UInt8) (b : UInt8) : dv (l ++ [b]) = 10 * dv l + (b.toNat - 48) := by simp [dv]
/-- Is a byte a digit? -/
def isDg (b : UInt8) : Bool := decide (48 ≤ b.toNat) && decide (b.toNat ≤ 57)
/-- What Parse tells. -/
def parseP (s : ByteArray) : Nat × Int :=
  if 5120 < s.size then (0, 2) else if s.size = 0 then (0, 10) else if s.data.toList.all isDg then (dv s.data.toList, 0) else (0, 10)

theorem take_byte (s : ByteArray) {i : Nat} (h : i < s.size) : s.data.toList.take (i + 1) = s.data.toList.take i ++ [s[i]] := by
  have h' : i < s.data.toList.length := by simpa using h
  rw [List.take_add_one]
  rw [List.getElem?_eq_getElem h']
  rfl
theorem not_all {s : ByteArray} {i : Nat} (h : i < s.size) (hb : isDg s[i] = false) : s.data.toList.all isDg = false := by
  rw [List.all_eq_false]
  exact ⟨s[i], by
    have : s[i] = s.data[i] := rfl
    rw [this]; simp, by simp [hb]⟩
theorem pow10 {e : Nat} (h : e ≤ 8) : 10 ^ e ≤ 100000000 := Nat.pow_le_pow_right (n := 10) (by decide) h
theorem pow10' {e : Nat} (h : e ≤ 7) : 10 ^ e ≤ 10000000 := Nat.pow_le_pow_right (n := 10) (by decide) h

theorem parse_calls {s : ByteArray} (hs : s.size ≤ 140737488351232) : PO1 Try.prog 36 [.val (.string s)] (fun p => .tup [p, .val (.int .i64 (parseP s).2)]) ((D (parseP s).1).map U) := by
  refine PCalls.enter (n := 49) (rs := [.tmp 2, .tmp 3]) (tb := []) Try.func36 rfl rfl rfl (by kernel_rfl) (by kernel_rfl) (by simp) fun c hc ht => ?_
  by_cases h1 : 5120 < s.size
  · have e : parseP s = (0, 2) := if_pos h1
    rw [e, D_zero]
    simp -implicitDefEqProofs (disch := omega) only [go_sem, ht, reduceIte, ↓reduceIte, Nat.reduceEqDiff, Nat.reduceAdd, Nat.reduceMul, Nat.reduceSub, Nat.reduceLT, Nat.reduceLeDiff, Int.reduceToNat, Int.reduceLE, Int.reduceLT, Int.reduceAdd, Int.reduceMul, Int.reduceSub, Nat.sub_zero, Int.reducePow, Nat.reducePow, Int.reduceNeg, Int.reduceEq, Int.reduceNe, eq_self]
    exact end_own_nil (mk_b _) (by simp -implicitDefEqProofs (disch := omega) only [go_sem, ht, reduceIte, ↓reduceIte, Nat.reduceEqDiff, Nat.reduceAdd, Nat.reduceMul, Nat.reduceSub, Nat.reduceLT, Nat.reduceLeDiff, Int.reduceToNat, Int.reduceLE, Int.reduceLT, Int.reduceAdd, Int.reduceMul, Int.reduceSub, Nat.sub_zero, Int.reducePow, Nat.reducePow, Int.reduceNeg, Int.reduceEq, Int.reduceNe, eq_self])
  by_cases h2 : s.size = 0
  · have e : parseP s = (0, 10) := by unfold parseP; rw [if_neg h1, if_pos h2]
    rw [e, D_zero]
    have hse : s = ⟨#[]⟩ := by
      cases s with
      | mk d =>
        have : d = #[] := Array.eq_empty_of_size_eq_zero h2
        subst this; rfl
    subst hse
    simp -implicitDefEqProofs (disch := omega) only [go_sem, ht, reduceIte, ↓reduceIte, Nat.reduceEqDiff, Nat.reduceAdd, Nat.reduceMul, Nat.reduceSub, Nat.reduceLT, Nat.reduceLeDiff, Int.reduceToNat, Int.reduceLE, Int.reduceLT, Int.reduceAdd, Int.reduceMul, Int.reduceSub, Nat.sub_zero, Int.reducePow, Nat.reducePow, Int.reduceNeg, Int.reduceEq, Int.reduceNe, eq_self]
    exact end_own_nil (mk_b _) (by simp -implicitDefEqProofs (disch := omega) only [go_sem, ht, reduceIte, ↓reduceIte, Nat.reduceEqDiff, Nat.reduceAdd, Nat.reduceMul, Nat.reduceSub, Nat.reduceLT, Nat.reduceLeDiff, Int.reduceToNat, Int.reduceLE, Int.reduceLT, Int.reduceAdd, Int.reduceMul, Int.reduceSub, Nat.sub_zero, Int.reducePow, Nat.reducePow, Int.reduceNeg, Int.reduceEq, Int.reduceNe, eq_self])
  have hne : (s.toList == (⟨#[]⟩ : ByteArray).toList) = false := by
    rw [ByteArray.toList_eq, ByteArray.toList_eq]
    simp only [beq_eq_false_iff_ne]
    intro e
    exact h2 (by have := congrArg List.length e; simpa using this)
  have hp : parseP s = if s.data.toList.all isDg then (dv s.data.toList, 0) else (0, 10) := by unfold parseP; rw [if_neg h1, if_neg h2]
  have hlen : s.data.toList.length = s.size := by simp
  simp -implicitDefEqProofs (disch := omega) only [go_sem, ht, hne, reduceIte, ↓reduceIte, Nat.reduceEqDiff, Nat.reduceAdd, Nat.reduceMul, Nat.reduceSub, Nat.reduceLT, Nat.reduceLeDiff, Int.reduceToNat, Int.reduceLE, Int.reduceLT, Int.reduceAdd, Int.reduceMul, Int.reduceSub, Nat.sub_zero, Int.reducePow, Nat.reducePow, Int.reduceNeg, Int.reduceEq, Int.reduceNe, eq_self]
  refine LW.loopW hc ht (by kernel_rfl) (fun t => ∃ idit pos e M n : Nat, t.sl 20 = .ptr idit 0 ∧ pos ≤ s.size ∧ t.it idit = some (s, pos) ∧ idit < t.nx ∧ e ≤ 8 ∧ M ≤ 100000000 ∧ n < M ∧ t.sl 5 = .val (.int .u32 n) ∧ t.sl 6 = .val (.int .u32 M) ∧ Hide (M = 10 ^ e) ∧
      ∃ (zs : List Nat) (id cap : Nat) (rest : List Value), t.sl 4 = .ref id 0 zs.length cap 1 ∧ t.H id = some (zs.map U ++ rest.map .val) ∧ zs.length + rest.length = cap ∧ id < t.nx ∧ Lm zs ∧ zs.length ≤ pos ∧
        Hide ((s.data.toList.take pos).all isDg = true) ∧ Hide (V zs * M + n = dv (s.data.toList.take pos)))
      (fun t => match t.sl 20 with | .ptr i _ => (match t.it i with | some (_, pos) => s.size - pos | none => 0) | _ => 0) ?_ ?_
  · simp -implicitDefEqProofs (disch := omega) only [go_sem, ht, reduceIte, ↓reduceIte, Nat.reduceEqDiff, Nat.reduceAdd, Nat.reduceMul, Nat.reduceSub, Nat.reduceLT, Nat.reduceLeDiff, Int.reduceToNat, Int.reduceLE, Int.reduceLT, Int.reduceAdd, Int.reduceMul, Int.reduceSub, Nat.sub_zero, Int.reducePow, Nat.reducePow, Int.reduceNeg, Int.reduceEq, Int.reduceNe, eq_self]
    exact ⟨1, 0, 0, 1, 0, rfl, Nat.zero_le _, upd_self _ _ _, by omega, by omega, by omega, by omega, rfl, rfl, Hide.mk rfl, [], 0, s.size / 9 + 1, List.replicate (s.size / 9 + 1) (.int .u32 0), rfl, by rw [upd_self, replU_val], by simp, by omega, Lm_nil, Nat.zero_le _, Hide.mk rfl, Hide.mk (by simp [V, dv])⟩
  · rintro t ⟨idit, pos, e, M, n, h20, hpos, hit, hidit, he, hM, hn, h5, h6, hMe, zs, id, cap, rest, h4, hH, hcap, hid, hzm, hzl, hdg, heq⟩
    by_cases hpe : pos = s.size
    · have e1 : s.data.toList.take pos = s.data.toList := List.take_of_length_le (by omega)
      have hdg := hdg.out
      have heq := heq.out
      rw [e1] at hdg heq
      rw [hp, if_pos hdg]
      have heq := Hide.mk heq
      simp -implicitDefEqProofs (disch := omega) only [go_sem, ht, h20, hit, h4, h5, h6, hH, reduceIte, ↓reduceIte, Nat.reduceEqDiff, Nat.reduceAdd, Nat.reduceMul, Nat.reduceSub, Nat.reduceLT, Nat.reduceLeDiff, Int.reduceToNat, Int.reduceLE, Int.reduceLT, Int.reduceAdd, Int.reduceMul, Int.reduceSub, Nat.sub_zero, Int.reducePow, Nat.reducePow, Int.reduceNeg, Int.reduceEq, Int.reduceNe, eq_self]
      apply pCall_mem
      exact grow_calls (zs := zs) (rest := rest) (by omega) (by omega) hzm rfl (by omega) hcap (by simp -implicitDefEqProofs (disch := omega) only [go_sem, ht, hH, reduceIte, ↓reduceIte, Nat.reduceEqDiff, Nat.reduceAdd, Nat.reduceMul, Nat.reduceSub, Nat.reduceLT, Nat.reduceLeDiff, Int.reduceToNat, Int.reduceLE, Int.reduceLT, Int.reduceAdd, Int.reduceMul, Int.reduceSub, Nat.sub_zero, Int.reducePow, Nat.reducePow, Int.reduceNeg, Int.reduceEq, Int.reduceNe, eq_self]) (by simp -implicitDefEqProofs (disch := omega) only [go_sem, ht, reduceIte, ↓reduceIte, Nat.reduceEqDiff, Nat.reduceAdd, Nat.reduceMul, Nat.reduceSub, Nat.reduceLT, Nat.reduceLeDiff, Int.reduceToNat, Int.reduceLE, Int.reduceLT, Int.reduceAdd, Int.reduceMul, Int.reduceSub, Nat.sub_zero, Int.reducePow, Nat.reducePow, Int.reduceNeg, Int.reduceEq, Int.reduceNe, eq_self]; exact hid)
      rintro _ H2 nx2 ⟨ws, id2, cap2, rest2, rfl, hH2, hc2, hi2, hw2, hv2, hl2⟩ -
      rw [heq.out] at hv2
      simp -implicitDefEqProofs (disch := omega) only [go_sem, ht, h20, h4, h5, h6, hH2, reduceIte, ↓reduceIte, Nat.reduceEqDiff, Nat.reduceAdd, Nat.reduceMul, Nat.reduceSub, Nat.reduceLT, Nat.reduceLeDiff, Int.reduceToNat, Int.reduceLE, Int.reduceLT, Int.reduceAdd, Int.reduceMul, Int.reduceSub, Nat.sub_zero, Int.reducePow, Nat.reducePow, Int.reduceNeg, Int.reduceEq, Int.reduceNe, eq_self]
      have hdl := D_len_V hw2
      (apply pCall_mem; exact (short_own (xs := ws) (rest := rest2) hw2 rfl (by omega) (show ws.length ≤ cap2 by omega) (by simp -implicitDefEqProofs (disch := omega) only [hH2, go_sem, ht, reduceIte, ↓reduceIte, Nat.reduceEqDiff, Nat.reduceAdd, Nat.reduceMul, Nat.reduceSub, Nat.reduceLT, Nat.reduceLeDiff, Int.reduceToNat, Int.reduceLE, Int.reduceLT, Int.reduceAdd, Int.reduceMul, Int.reduceSub, Nat.sub_zero, Int.reducePow, Nat.reducePow, Int.reduceNeg, Int.reduceEq, Int.reduceNe, eq_self] <;> rfl)); rintro _ _ _ ⟨rfl, rfl, rfl⟩ -; simp -implicitDefEqProofs (disch := omega) only [hH2, go_sem, ht, reduceIte, ↓reduceIte, Nat.reduceEqDiff, Nat.reduceAdd, Nat.reduceMul, Nat.reduceSub, Nat.reduceLT, Nat.reduceLeDiff, Int.reduceToNat, Int.reduceLE, Int.reduceLT, Int.reduceAdd, Int.reduceMul, Int.reduceSub, Nat.sub_zero, Int.reducePow, Nat.reducePow, Int.reduceNeg, Int.reduceEq, Int.reduceNe, eq_self])
      rw [← hv2]
      exact end_own1 (mk := fun p => .tup [p, .val (.int .i64 0)]) (by simp -implicitDefEqProofs (disch := omega) only [hH2, own_split hw2 rest2, go_sem, ht, reduceIte, ↓reduceIte, Nat.reduceEqDiff, Nat.reduceAdd, Nat.reduceMul, Nat.reduceSub, Nat.reduceLT, Nat.reduceLeDiff, Int.reduceToNat, Int.reduceLE, Int.reduceLT, Int.reduceAdd, Int.reduceMul, Int.reduceSub, Nat.sub_zero, Int.reducePow, Nat.reducePow, Int.reduceNeg, Int.reduceEq, Int.reduceNe, eq_self] <;> rfl) (by simp -implicitDefEqProofs (disch := omega) only [hH2, own_split hw2 rest2, go_sem, ht, reduceIte, ↓reduceIte, Nat.reduceEqDiff, Nat.reduceAdd, Nat.reduceMul, Nat.reduceSub, Nat.reduceLT, Nat.reduceLeDiff, Int.reduceToNat, Int.reduceLE, Int.reduceLT, Int.reduceAdd, Int.reduceMul, Int.reduceSub, Nat.sub_zero, Int.reducePow, Nat.reducePow, Int.reduceNeg, Int.reduceEq, Int.reduceNe, eq_self] <;> rfl) (by simp <;> omega) (by simp <;> omega)
    · have hlt : pos < s.size := by omega
      obtain ⟨x, hx⟩ : ∃ x, (s[pos]'hlt).toNat = x := ⟨_, rfl⟩
      by_cases hx1 : x < 128
      · have hdec := decode_ascii s pos hlt (by omega)
        rw [hx] at hdec
        by_cases hx2 : 48 ≤ x ∧ x ≤ 57
        · obtain ⟨hx2, hx3⟩ := hx2
          have hdg2 : Hide ((s.data.toList.take (pos + 1)).all isDg = true) := Hide.mk (by
            rw [take_byte s hlt, List.all_append, hdg.out]
            simp [isDg]; omega)
          have heq2 : Hide (V zs * (10 * M) + (10 * n + (x - 48)) = dv (s.data.toList.take (pos + 1))) := Hide.mk (by
            rw [take_byte s hlt, dv_app, ← heq.out, hx, Nat.mul_left_comm]; omega)
          by_cases hM8 : M = 100000000
          · subst hM8
            simp -implicitDefEqProofs (disch := omega) only [go_sem, ht, h20, hit, hdec, h4, h5, h6, hH, reduceIte, ↓reduceIte, Nat.reduceEqDiff, Nat.reduceAdd, Nat.reduceMul, Nat.reduceSub, Nat.reduceLT, Nat.reduceLeDiff, Int.reduceToNat, Int.reduceLE, Int.reduceLT, Int.reduceAdd, Int.reduceMul, Int.reduceSub, Nat.sub_zero, Int.reducePow, Nat.reducePow, Int.reduceNeg, Int.reduceEq, Int.reduceNe, eq_self]
            apply pCall_mem
            exact grow_calls (zs := zs) (rest := rest) (by omega) (by omega) hzm rfl (by omega) hcap (by simp -implicitDefEqProofs (disch := omega) only [go_sem, ht, hH, reduceIte, ↓reduceIte, Nat.reduceEqDiff, Nat.reduceAdd, Nat.reduceMul, Nat.reduceSub, Nat.reduceLT, Nat.reduceLeDiff, Int.reduceToNat, Int.reduceLE, Int.reduceLT, Int.reduceAdd, Int.reduceMul, Int.reduceSub, Nat.sub_zero, Int.reducePow, Nat.reducePow, Int.reduceNeg, Int.reduceEq, Int.reduceNe, eq_self]) (by simp -implicitDefEqProofs (disch := omega) only [go_sem, ht, reduceIte, ↓reduceIte, Nat.reduceEqDiff, Nat.reduceAdd, Nat.reduceMul, Nat.reduceSub, Nat.reduceLT, Nat.reduceLeDiff, Int.reduceToNat, Int.reduceLE, Int.reduceLT, Int.reduceAdd, Int.reduceMul, Int.reduceSub, Nat.sub_zero, Int.reducePow, Nat.reducePow, Int.reduceNeg, Int.reduceEq, Int.reduceNe, eq_self]; exact hid)
            rintro _ H2 nx2 ⟨ws, id2, cap2, rest2, rfl, hH2, hc2, hi2, hw2, hv2, hl2⟩ hnx2
            simp only [put_nx, withH_nx, withIt_nx] at hnx2
            have heq3 : Hide (V ws * 1 + 0 = dv (s.data.toList.take (pos + 1))) := Hide.mk (by rw [Nat.mul_one, Nat.add_zero, hv2]; exact heq2.out)
            clear heq heq2 hMe hv2
            simp -implicitDefEqProofs (disch := omega) only [go_sem, ht, h20, hit, hdec, h4, h5, h6, hH2, reduceIte, ↓reduceIte, Nat.reduceEqDiff, Nat.reduceAdd, Nat.reduceMul, Nat.reduceSub, Nat.reduceLT, Nat.reduceLeDiff, Int.reduceToNat, Int.reduceLE, Int.reduceLT, Int.reduceAdd, Int.reduceMul, Int.reduceSub, Nat.sub_zero, Int.reducePow, Nat.reducePow, Int.reduceNeg, Int.reduceEq, Int.reduceNe, eq_self]
            exact ⟨⟨idit, pos + 1, 0, 1, 0, rfl, by omega, upd_self _ _ _, by omega, by omega, by omega, by omega, rfl, rfl, Hide.mk rfl, ws, id2, cap2, rest2, rfl, hH2, hc2, hi2, hw2, by omega, hdg2, heq3⟩, by omega⟩
          · have hM7 : M ≤ 10000000 ∧ e ≤ 7 := by
              have h7 : e ≤ 7 := by
                rcases Nat.lt_or_ge e 8 with h | h
                · omega
                · have : e = 8 := by omega
                  exact absurd (by rw [hMe.out, this]) hM8
              exact ⟨by rw [hMe.out]; exact pow10' h7, h7⟩
            have hMe2 : Hide (10 * M = 10 ^ (e + 1)) := Hide.mk (by rw [hMe.out, Nat.pow_succ, Nat.mul_comm])
            clear hMe heq hdg
            simp -implicitDefEqProofs (disch := omega) only [go_sem, ht, h20, hit, hdec, h4, h5, h6, hH, reduceIte, ↓reduceIte, Nat.reduceEqDiff, Nat.reduceAdd, Nat.reduceMul, Nat.reduceSub, Nat.reduceLT, Nat.reduceLeDiff, Int.reduceToNat, Int.reduceLE, Int.reduceLT, Int.reduceAdd, Int.reduceMul, Int.reduceSub, Nat.sub_zero, Int.reducePow, Nat.reducePow, Int.reduceNeg, Int.reduceEq, Int.reduceNe, eq_self]
            exact ⟨⟨idit, pos + 1, e + 1, 10 * M, 10 * n + (x - 48), rfl, by omega, upd_self _ _ _, hidit, by omega, by omega, by omega, rfl, rfl, hMe2, zs, id, cap, rest, rfl, hH, hcap, hid, hzm, by omega, hdg2, heq2⟩, by omega⟩
        · have hb : isDg (s[pos]'hlt) = false := by simp [isDg]; omega
          rw [hp, if_neg (by rw [not_all hlt hb]; simp), D_zero]
          by_cases hx4 : x < 48
          · simp -implicitDefEqProofs (disch := omega) only [go_sem, ht, h20, hit, hdec, h4, h5, h6, hH, reduceIte, ↓reduceIte, Nat.reduceEqDiff, Nat.reduceAdd, Nat.reduceMul, Nat.reduceSub, Nat.reduceLT, Nat.reduceLeDiff, Int.reduceToNat, Int.reduceLE, Int.reduceLT, Int.reduceAdd, Int.reduceMul, Int.reduceSub, Nat.sub_zero, Int.reducePow, Nat.reducePow, Int.reduceNeg, Int.reduceEq, Int.reduceNe, eq_self]
            exact end_own_nil (mk_b _) (by simp -implicitDefEqProofs (disch := omega) only [go_sem, ht, reduceIte, ↓reduceIte, Nat.reduceEqDiff, Nat.reduceAdd, Nat.reduceMul, Nat.reduceSub, Nat.reduceLT, Nat.reduceLeDiff, Int.reduceToNat, Int.reduceLE, Int.reduceLT, Int.reduceAdd, Int.reduceMul, Int.reduceSub, Nat.sub_zero, Int.reducePow, Nat.reducePow, Int.reduceNeg, Int.reduceEq, Int.reduceNe, eq_self])
          · simp -implicitDefEqProofs (disch := omega) only [go_sem, ht, h20, hit, hdec, h4, h5, h6, hH, reduceIte, ↓reduceIte, Nat.reduceEqDiff, Nat.reduceAdd, Nat.reduceMul, Nat.reduceSub, Nat.reduceLT, Nat.reduceLeDiff, Int.reduceToNat, Int.reduceLE, Int.reduceLT, Int.reduceAdd, Int.reduceMul, Int.reduceSub, Nat.sub_zero, Int.reducePow, Nat.reducePow, Int.reduceNeg, Int.reduceEq, Int.reduceNe, eq_self]
            exact end_own_nil (mk_b _) (by simp -implicitDefEqProofs (disch := omega) only [go_sem, ht, reduceIte, ↓reduceIte, Nat.reduceEqDiff, Nat.reduceAdd, Nat.reduceMul, Nat.reduceSub, Nat.reduceLT, Nat.reduceLeDiff, Int.reduceToNat, Int.reduceLE, Int.reduceLT, Int.reduceAdd, Int.reduceMul, Int.reduceSub, Nat.sub_zero, Int.reducePow, Nat.reducePow, Int.reduceNeg, Int.reduceEq, Int.reduceNe, eq_self])
      · have hd1 := (decode_high s pos hlt (by omega)).1
        have hd2 := decode_le s pos
        have hb : isDg (s[pos]'hlt) = false := by simp [isDg]; omega
        rw [hp, if_neg (by rw [not_all hlt hb]; simp), D_zero]
        simp -implicitDefEqProofs (disch := omega) only [go_sem, ht, h20, hit, h4, h5, h6, hH, reduceIte, ↓reduceIte, Nat.reduceEqDiff, Nat.reduceAdd, Nat.reduceMul, Nat.reduceSub, Nat.reduceLT, Nat.reduceLeDiff, Int.reduceToNat, Int.reduceLE, Int.reduceLT, Int.reduceAdd, Int.reduceMul, Int.reduceSub, Nat.sub_zero, Int.reducePow, Nat.reducePow, Int.reduceNeg, Int.reduceEq, Int.reduceNe, eq_self]
        exact end_own_nil (mk_b _) (by simp -implicitDefEqProofs (disch := omega) only [go_sem, ht, reduceIte, ↓reduceIte, Nat.reduceEqDiff, Nat.reduceAdd, Nat.reduceMul, Nat.reduceSub, Nat.reduceLT, Nat.reduceLeDiff, Int.reduceToNat, Int.reduceLE, Int.reduceLT, Int.reduceAdd, Int.reduceMul, Int.reduceSub, Nat.sub_zero, Int.reducePow, Nat.reducePow, Int.reduceNeg, Int.reduceEq, Int.reduceNe, eq_self])
end Go.Proofs.Ytbbncddbdflmbaa
