/- The program's limbs: grow. -/
import Derived.Test.YtbbncddbdflmbaaLimbs12
import Derived.Test.YtbbncddbdflmbaaStr
set_option maxRecDepth 100000
set_option linter.unusedVariables false
set_option linter.unusedSimpArgs false
namespace Go.Proofs.Ytbbncddbdflmbaa

/-- What grow leaves. -/
def growQ (zs : List Nat) (v : Nat) (r : PV) (H' : Nat → Option (List PV)) (nx' : Nat) : Prop :=
  ∃ (ws : List Nat) (id cap : Nat) (rest : List Value), r = .ref id 0 ws.length cap 1 ∧ H' id = some (ws.map U ++ rest.map .val) ∧ ws.length + rest.length = cap ∧ id < nx' ∧ Lm ws ∧ V ws = v ∧ ws.length ≤ zs.length + 1

theorem arith6 {a b P c z m t : Nat} (h : a + P * c = b) (ht : t = c + z * m) : (a + P * (t % 4294967296)) + (P * 4294967296) * (t / 4294967296) = b + P * (z * m) := by
  have h2 := Nat.mod_add_div t 4294967296
  generalize t % 4294967296 = r at *
  generalize t / 4294967296 = q at *
  rw [Nat.mul_assoc, Nat.add_assoc, ← Nat.mul_add, h2, ht, Nat.mul_add]
  omega

theorem grow_calls {H : Nat → Option (List PV)} {nx id n cap m k : Nat} {zs : List Nat} {rest : List Value} (hm : m < 4294967296) (hk : k < 4294967296) (hzs : Lm zs) (hn : zs.length = n) (hlen : zs.length ≤ 1099511627776)
    (hcap : zs.length + rest.length = cap) (hH : H id = some (zs.map U ++ rest.map .val)) (hid : id < nx) :
    PCalls Try.prog 54 [.ref id 0 n cap 1, .val (.int .u32 m), .val (.int .u32 k)] H nx (growQ zs (V zs * m + k)) := by
  subst hn
  refine PCalls.enter (n := 42) (rs := [.tmp 6]) (tb := []) Try.func54 rfl rfl rfl (by kernel_rfl) (by kernel_rfl) (by simp) fun c hc ht => ?_
  simp -implicitDefEqProofs (disch := omega) only [go_sem, ht, reduceIte, ↓reduceIte, Nat.reduceEqDiff, Nat.reduceAdd, Nat.reduceMul, Nat.reduceSub, Nat.reduceLT, Nat.reduceLeDiff, Int.reduceToNat, Int.reduceLE, Int.reduceLT, Int.reduceAdd, Int.reduceMul, Int.reduceSub, Nat.sub_zero, Int.reducePow, Nat.reducePow, Int.reduceNeg, Int.reduceEq, Int.reduceNe, eq_self]
  refine LW.loopW hc ht (by kernel_rfl) (fun t => t.sl 0 = .ref id 0 zs.length cap 1 ∧ t.sl 1 = .val (.int .u32 m) ∧ t.sl 12 = .val (.int .i64 zs.length) ∧ ∃ i : Nat, i ≤ zs.length ∧ t.sl 13 = .val (.int .i64 i) ∧
      ∃ (ws : List Nat) (c : Nat), ws.length = zs.length ∧ t.H id = some (ws.map U ++ rest.map .val) ∧ t.nx = nx ∧ Lm ws ∧ t.sl 7 = .val (.int .u64 c) ∧ c < 4294967296 ∧ ws.drop i = zs.drop i ∧
        Hide (V (ws.take i) + 4294967296 ^ i * c = V (zs.take i) * m + k))
      (fun t => match t.sl 13 with | .val (.int _ i) => zs.length - i.toNat | _ => 0) ?_ ?_
  · simp -implicitDefEqProofs (disch := omega) only [go_sem, ht, reduceIte, ↓reduceIte, Nat.reduceEqDiff, Nat.reduceAdd, Nat.reduceMul, Nat.reduceSub, Nat.reduceLT, Nat.reduceLeDiff, Int.reduceToNat, Int.reduceLE, Int.reduceLT, Int.reduceAdd, Int.reduceMul, Int.reduceSub, Nat.sub_zero, Int.reducePow, Nat.reducePow, Int.reduceNeg, Int.reduceEq, Int.reduceNe, eq_self]
    exact ⟨0, Nat.zero_le _, rfl, zs, k, rfl, hH, hzs, rfl, hk, rfl, Hide.mk (by simp [V])⟩
  · rintro t ⟨h0, h1, h12, i, hi, h13, ws, c', hwl, hH', en, hwm, h7, hc', hpost, heq⟩
    by_cases hil : i = zs.length
    · have hq := heq.out
      rw [hil, List.take_length, ← hwl, List.take_length] at hq
      by_cases hc0 : c' = 0
      · have hq2 : V ws = V zs * m + k := by rw [← hq, hc0, Nat.mul_zero, Nat.add_zero]
        have hq2 := Hide.mk hq2
        clear hq heq
        simp -implicitDefEqProofs (disch := omega) only [go_sem, ht, h0, h1, h12, h13, h7, hH', reduceIte, ↓reduceIte, Nat.reduceEqDiff, Nat.reduceAdd, Nat.reduceMul, Nat.reduceSub, Nat.reduceLT, Nat.reduceLeDiff, Int.reduceToNat, Int.reduceLE, Int.reduceLT, Int.reduceAdd, Int.reduceMul, Int.reduceSub, Nat.sub_zero, Int.reducePow, Nat.reducePow, Int.reduceNeg, Int.reduceEq, Int.reduceNe, eq_self]
        refine end_plain (by simp -implicitDefEqProofs (disch := omega) only [go_sem, ht, reduceIte, ↓reduceIte, Nat.reduceEqDiff, Nat.reduceAdd, Nat.reduceMul, Nat.reduceSub, Nat.reduceLT, Nat.reduceLeDiff, Int.reduceToNat, Int.reduceLE, Int.reduceLT, Int.reduceAdd, Int.reduceMul, Int.reduceSub, Nat.sub_zero, Int.reducePow, Nat.reducePow, Int.reduceNeg, Int.reduceEq, Int.reduceNe, eq_self] <;> rfl) ?_
        simp only [tupP_1]
        simp -implicitDefEqProofs (disch := omega) only [go_sem, ht, hH', en, reduceIte, ↓reduceIte, Nat.reduceEqDiff, Nat.reduceAdd, Nat.reduceMul, Nat.reduceSub, Nat.reduceLT, Nat.reduceLeDiff, Int.reduceToNat, Int.reduceLE, Int.reduceLT, Int.reduceAdd, Int.reduceMul, Int.reduceSub, Nat.sub_zero, Int.reducePow, Nat.reducePow, Int.reduceNeg, Int.reduceEq, Int.reduceNe, eq_self]
        exact ⟨ws, id, cap, rest, by rw [hwl], hH', by omega, hid, hwm, hq2.out, by omega⟩
      · have hq2 : V (ws ++ [c']) = V zs * m + k := by
          rw [← hq, V_append, V, V_nil, Nat.mul_zero, Nat.add_zero]
        have hq2 := Hide.mk hq2
        clear hq heq
        simp -implicitDefEqProofs (disch := omega) only [go_sem, ht, h0, h1, h12, h13, h7, hH', reduceIte, ↓reduceIte, Nat.reduceEqDiff, Nat.reduceAdd, Nat.reduceMul, Nat.reduceSub, Nat.reduceLT, Nat.reduceLeDiff, Int.reduceToNat, Int.reduceLE, Int.reduceLT, Int.reduceAdd, Int.reduceMul, Int.reduceSub, Nat.sub_zero, Int.reducePow, Nat.reducePow, Int.reduceNeg, Int.reduceEq, Int.reduceNe, eq_self]
        (refine append_own (by simp -implicitDefEqProofs (disch := omega) only [srcP_ref, srcP_sl, srcP_nil, Option.isSome_some, hH', go_sem, ht, reduceIte, ↓reduceIte, Nat.reduceEqDiff, Nat.reduceAdd, Nat.reduceMul, Nat.reduceSub, Nat.reduceLT, Nat.reduceLeDiff, Int.reduceToNat, Int.reduceLE, Int.reduceLT, Int.reduceAdd, Int.reduceMul, Int.reduceSub, Nat.sub_zero, Int.reducePow, Nat.reducePow, Int.reduceNeg, Int.reduceEq, Int.reduceNe, eq_self] <;> rfl) (by simp -implicitDefEqProofs (disch := omega) only [srcP_ref, srcP_sl, srcP_nil, Option.isSome_some, hH', go_sem, ht, reduceIte, ↓reduceIte, Nat.reduceEqDiff, Nat.reduceAdd, Nat.reduceMul, Nat.reduceSub, Nat.reduceLT, Nat.reduceLeDiff, Int.reduceToNat, Int.reduceLE, Int.reduceLT, Int.reduceAdd, Int.reduceMul, Int.reduceSub, Nat.sub_zero, Int.reducePow, Nat.reducePow, Int.reduceNeg, Int.reduceEq, Int.reduceNe, eq_self] <;> rfl) (by simp -implicitDefEqProofs (disch := omega) only [srcP_ref, srcP_sl, srcP_nil, Option.isSome_some, hH', go_sem, ht, reduceIte, ↓reduceIte, Nat.reduceEqDiff, Nat.reduceAdd, Nat.reduceMul, Nat.reduceSub, Nat.reduceLT, Nat.reduceLeDiff, Int.reduceToNat, Int.reduceLE, Int.reduceLT, Int.reduceAdd, Int.reduceMul, Int.reduceSub, Nat.sub_zero, Int.reducePow, Nat.reducePow, Int.reduceNeg, Int.reduceEq, Int.reduceNe, eq_self] <;> rfl) (by simp -implicitDefEqProofs (disch := omega) only [srcP_ref, srcP_sl, srcP_nil, Option.isSome_some, hH', go_sem, ht, reduceIte, ↓reduceIte, Nat.reduceEqDiff, Nat.reduceAdd, Nat.reduceMul, Nat.reduceSub, Nat.reduceLT, Nat.reduceLeDiff, Int.reduceToNat, Int.reduceLE, Int.reduceLT, Int.reduceAdd, Int.reduceMul, Int.reduceSub, Nat.sub_zero, Int.reducePow, Nat.reducePow, Int.reduceNeg, Int.reduceEq, Int.reduceNe, eq_self] <;> rfl) (by simp -implicitDefEqProofs (disch := omega) only [srcP_ref, srcP_sl, srcP_nil, Option.isSome_some, hH', go_sem, ht, reduceIte, ↓reduceIte, Nat.reduceEqDiff, Nat.reduceAdd, Nat.reduceMul, Nat.reduceSub, Nat.reduceLT, Nat.reduceLeDiff, Int.reduceToNat, Int.reduceLE, Int.reduceLT, Int.reduceAdd, Int.reduceMul, Int.reduceSub, Nat.sub_zero, Int.reducePow, Nat.reducePow, Int.reduceNeg, Int.reduceEq, Int.reduceNe, eq_self] <;> rfl) (by simp -implicitDefEqProofs (disch := omega) only [srcP_ref, srcP_sl, srcP_nil, Option.isSome_some, hH', go_sem, ht, reduceIte, ↓reduceIte, Nat.reduceEqDiff, Nat.reduceAdd, Nat.reduceMul, Nat.reduceSub, Nat.reduceLT, Nat.reduceLeDiff, Int.reduceToNat, Int.reduceLE, Int.reduceLT, Int.reduceAdd, Int.reduceMul, Int.reduceSub, Nat.sub_zero, Int.reducePow, Nat.reducePow, Int.reduceNeg, Int.reduceEq, Int.reduceNe, eq_self] <;> rfl) (by simp -implicitDefEqProofs (disch := omega) only [srcP_ref, srcP_sl, srcP_nil, Option.isSome_some, hH', go_sem, ht, reduceIte, ↓reduceIte, Nat.reduceEqDiff, Nat.reduceAdd, Nat.reduceMul, Nat.reduceSub, Nat.reduceLT, Nat.reduceLeDiff, Int.reduceToNat, Int.reduceLE, Int.reduceLT, Int.reduceAdd, Int.reduceMul, Int.reduceSub, Nat.sub_zero, Int.reducePow, Nat.reducePow, Int.reduceNeg, Int.reduceEq, Int.reduceNe, eq_self] <;> rfl) (by simp -implicitDefEqProofs (disch := omega) only [srcP_ref, srcP_sl, srcP_nil, Option.isSome_some, hH', go_sem, ht, reduceIte, ↓reduceIte, Nat.reduceEqDiff, Nat.reduceAdd, Nat.reduceMul, Nat.reduceSub, Nat.reduceLT, Nat.reduceLeDiff, Int.reduceToNat, Int.reduceLE, Int.reduceLT, Int.reduceAdd, Int.reduceMul, Int.reduceSub, Nat.sub_zero, Int.reducePow, Nat.reducePow, Int.reduceNeg, Int.reduceEq, Int.reduceNe, eq_self] <;> rfl) (by simp <;> omega) (by first | assumption | (simp <;> omega)) (by first | rfl | simp) (by first | omega | (simp <;> omega)) ?_; intro id1 cap1 rest1 H1 nx1 hH1 hcap1 hid1 hnx1 hfr1 hfs1; simp only [put_nx, withH_nx, put_H, withH_H] at hid1 hnx1 hfr1 hfs1; (try simp only [app_U, ← List.map_append] at hH1))
        simp -implicitDefEqProofs (disch := omega) only [go_sem, ht, h0, h1, h12, h13, h7, reduceIte, ↓reduceIte, Nat.reduceEqDiff, Nat.reduceAdd, Nat.reduceMul, Nat.reduceSub, Nat.reduceLT, Nat.reduceLeDiff, Int.reduceToNat, Int.reduceLE, Int.reduceLT, Int.reduceAdd, Int.reduceMul, Int.reduceSub, Nat.sub_zero, Int.reducePow, Nat.reducePow, Int.reduceNeg, Int.reduceEq, Int.reduceNe, eq_self]
        refine end_plain (by simp -implicitDefEqProofs (disch := omega) only [go_sem, ht, reduceIte, ↓reduceIte, Nat.reduceEqDiff, Nat.reduceAdd, Nat.reduceMul, Nat.reduceSub, Nat.reduceLT, Nat.reduceLeDiff, Int.reduceToNat, Int.reduceLE, Int.reduceLT, Int.reduceAdd, Int.reduceMul, Int.reduceSub, Nat.sub_zero, Int.reducePow, Nat.reducePow, Int.reduceNeg, Int.reduceEq, Int.reduceNe, eq_self] <;> rfl) ?_
        simp only [tupP_1]
        simp -implicitDefEqProofs (disch := omega) only [go_sem, ht, reduceIte, ↓reduceIte, Nat.reduceEqDiff, Nat.reduceAdd, Nat.reduceMul, Nat.reduceSub, Nat.reduceLT, Nat.reduceLeDiff, Int.reduceToNat, Int.reduceLE, Int.reduceLT, Int.reduceAdd, Int.reduceMul, Int.reduceSub, Nat.sub_zero, Int.reducePow, Nat.reducePow, Int.reduceNeg, Int.reduceEq, Int.reduceNe, eq_self]
        exact ⟨ws ++ [c'], id1, cap1, rest1, by simp [hwl], hH1, by simp; omega, by omega, Lm_append.2 ⟨hwm, Lm_cons.2 ⟨hc', Lm_nil⟩⟩, hq2.out, by simp; omega⟩
    · have hz := hwm.get i
      have hzm : ws.getD i 0 * m ≤ 4294967295 * 4294967295 := Nat.mul_le_mul (by omega) (by omega)
      have key : Hide (V ((ws.set i ((c' + ws.getD i 0 * m) % 4294967296)).take (i + 1)) + 4294967296 ^ (i + 1) * ((c' + ws.getD i 0 * m) / 4294967296) = V (zs.take (i + 1)) * m + k) := by
        have hy := getD_of_drop hpost
        refine Hide.mk ?_
        rw [V_take_succ _ (by simp; omega), List.take_set_of_le (Nat.le_refl _), List.getD_eq_getElem?_getD, List.getElem?_set_self (by omega), V_take_succ zs (by omega), Nat.add_mul, Nat.pow_succ]
        simp only [Option.getD_some]
        have := arith6 (z := ws.getD i 0) (m := m) heq.out rfl
        rw [this, hy, Nat.mul_assoc]
        omega
      have hp2 : (ws.set i ((c' + ws.getD i 0 * m) % 4294967296)).drop (i + 1) = zs.drop (i + 1) := drop_set_succ hpost
      have hset : ∀ z, z < 4294967296 → Lm (ws.set i z) := fun z hz x hx => by
        rcases List.mem_or_eq_of_mem_set hx with h | h
        · exact hwm x h
        · omega
      clear heq
      simp -implicitDefEqProofs (disch := omega) only [go_sem, ht, h0, h1, h12, h13, h7, hH', en, reduceIte, ↓reduceIte, Nat.reduceEqDiff, Nat.reduceAdd, Nat.reduceMul, Nat.reduceSub, Nat.reduceLT, Nat.reduceLeDiff, Int.reduceToNat, Int.reduceLE, Int.reduceLT, Int.reduceAdd, Int.reduceMul, Int.reduceSub, Nat.sub_zero, Int.reducePow, Nat.reducePow, Int.reduceNeg, Int.reduceEq, Int.reduceNe, eq_self]
      exact ⟨⟨i + 1, by omega, rfl, _, _, by simp [hwl], rfl, hset _ (Nat.mod_lt _ (by decide)), rfl, by omega, hp2, key⟩, by omega⟩
end Go.Proofs.Ytbbncddbdflmbaa
