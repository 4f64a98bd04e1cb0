/- The program's limbs: take. -/
import Derived.Test.YtbbncddbdflmbaaLongLaw
set_option maxRecDepth 100000
set_option linter.unusedVariables false
set_option linter.unusedSimpArgs false
namespace Go.Proofs.Ytbbncddbdflmbaa

/-- What take leaves. -/
def takeQ (H : Nat → Option (List PV)) (nx id off m Z W : Nat) (zs : List Nat) (l : List PV) (r : PV) (H' : Nat → Option (List PV)) (nx' : Nat) : Prop :=
  ∃ ws : List Nat, ws.length = zs.length ∧ Lm ws ∧ ws.take off = zs.take off ∧ ws.drop (off + (m + 1)) = zs.drop (off + (m + 1)) ∧ V ((ws.drop off).take (m + 1)) = W % Z ∧
    r = .val (.int .u32 (W / Z : Nat)) ∧ H' = upd H id (some (ws.map U ++ l)) ∧ nx' = nx

theorem take_calls {H : Nat → Option (List PV)} {nx id off m cap g W : Nat} {zs vs : List Nat} {l : List PV} (hvs : Lm vs) (hm : vs.length = m) (hzs : Lm zs) (hoff : off + (m + 1) ≤ zs.length) (hlen : zs.length ≤ 4398046511104)
    (hcap : m + 1 ≤ cap) (hH : H id = some (zs.map U ++ l)) (hW : V ((zs.drop off).take (m + 1)) = W) (hZ : 0 < V vs) (hg : g < 4294967296) (hg1 : W / V vs ≤ g) (hg2 : g ≤ W / V vs + 1) :
    PCalls Try.prog 71 [.ref id off (m + 1) cap 1, SU vs, .val (.int .u64 g)] H nx (takeQ H nx id off m (V vs) W zs l) := by
  subst hm
  refine PCalls.enter (n := 107) (rs := [.tmp 6]) (tb := [(19, [(0, []), (1, []), (2, []), (3, []), (4, []), (5, []), (6, []), (7, []), (8, []), (9, []), (10, []), (11, []), (12, []), (13, [])])]) Try.func71 rfl rfl rfl (by kernel_rfl) (by kernel_rfl) (by simp) fun c hc ht => ?_
  simp -implicitDefEqProofs (disch := omega) only [go_sem, ht, reduceIte, ↓reduceIte, Nat.reduceEqDiff, Nat.reduceAdd, Nat.reduceMul, Nat.reduceSub, Nat.reduceLT, Nat.reduceLeDiff, Int.reduceToNat, Int.reduceLE, Int.reduceLT, Int.reduceAdd, Int.reduceMul, Int.reduceSub, Nat.sub_zero, Int.reducePow, Nat.reducePow, Int.reduceNeg, Int.reduceEq, Int.reduceNe, eq_self]
  refine LW.loopW hc ht (by kernel_rfl) (fun t => t.sl 0 = .ref id off (vs.length + 1) cap 1 ∧ t.sl 1 = .sl vs.length (vs.map U) ∧ t.sl 2 = .val (.int .u64 g) ∧ t.sl 13 = .sl vs.length (vs.map U) ∧ t.sl 14 = .val (.int .i64 vs.length) ∧ ∃ i : Nat, i ≤ vs.length ∧ t.sl 15 = .val (.int .i64 i) ∧
      ∃ (ws : List Nat) (c b : Nat), ws.length = zs.length ∧ t.H = upd H id (some (ws.map U ++ l)) ∧ t.nx = nx ∧ Lm ws ∧ t.sl 7 = .val (.int .u64 c) ∧ c ≤ g - 1 ∧ t.sl 8 = .val (.int .u64 b) ∧ b ≤ 1 ∧ ws.take off = zs.take off ∧ ws.drop (off + i) = zs.drop (off + i) ∧
        Hide (V ((ws.drop off).take i) + g * V (vs.take i) = V ((zs.drop off).take i) + 4294967296 ^ i * (c + b)))
      (fun t => match t.sl 15 with | .val (.int _ i) => vs.length - i.toNat | _ => 0) ?_ ?_
  · simp -implicitDefEqProofs (disch := omega) only [go_sem, ht, reduceIte, ↓reduceIte, Nat.reduceEqDiff, Nat.reduceAdd, Nat.reduceMul, Nat.reduceSub, Nat.reduceLT, Nat.reduceLeDiff, Int.reduceToNat, Int.reduceLE, Int.reduceLT, Int.reduceAdd, Int.reduceMul, Int.reduceSub, Nat.sub_zero, Int.reducePow, Nat.reducePow, Int.reduceNeg, Int.reduceEq, Int.reduceNe, eq_self]
    exact ⟨0, Nat.zero_le _, rfl, zs, 0, 0, rfl, (upd_id hH).symm, hzs, rfl, by omega, rfl, by omega, rfl, rfl, Hide.mk (by simp [V])⟩
  · rintro t ⟨h0, h1, h2, h13, h14, i, hi, h15, ws, c', b, hwl, eH, en, hwm, h7, hc', h8, hb, hpre, hpost, heq⟩
    have hset : ∀ k z, z < 4294967296 → Lm (ws.set k z) := fun k z hz x hx => by
      rcases List.mem_or_eq_of_mem_set hx with h | h
      · exact hwm x h
      · omega
    have hu := hwm.get (off + i)
    by_cases hil : i = vs.length
    · have hq := heq.out
      clear heq
      rw [hil, List.take_length] at hq
      obtain ⟨z, b', hz, hb', e1, e2, e3⟩ := take_sub hu (show c' < 4294967296 by omega) hb
      have e4 : V (((ws.set (off + i) z).drop off).take (i + 1)) + g * V vs = W + 4294967296 ^ (i + 1) * b' := by
        have hy := getD_of_drop hpost
        rw [seg_set (by omega), ← hW, ← hil, seg_succ (by omega), ← hy, Nat.pow_succ, Nat.mul_assoc, hil]
        rw [hil] at e3
        have : 4294967296 ^ vs.length * (z + c' + b) = 4294967296 ^ vs.length * (ws.getD (off + vs.length) 0 + 4294967296 * b') := by rw [e3]
        simp only [Nat.mul_add] at this hq ⊢
        omega
      have hp1 : (ws.set (off + i) z).take off = zs.take off := by rw [List.take_set_of_le (by omega), hpre]
      have hp2 : (ws.set (off + i) z).drop (off + (i + 1)) = zs.drop (off + (i + 1)) := drop_set_succ hpost
      subst hil
      by_cases hb0 : b' = 0
      · have e5 : V (((ws.set (off + vs.length) z).drop off).take (vs.length + 1)) + g * V vs = W := by rw [e4, hb0, Nat.mul_zero, Nat.add_zero]
        clear e4
        have ez : ws.getD (off + vs.length) 0 - c' - b = z := by omega
        rw [hb0] at e2
        obtain ⟨q1, q2⟩ := take_end0 hZ e5 hg1
        have q2 := Hide.mk q2
        clear e5 hq hg1 hg2 hW
        simp -implicitDefEqProofs (disch := omega) only [go_sem, ht, h0, h1, h2, h13, h14, h15, h7, h8, eH, e1, e2, ez, reduceIte, ↓reduceIte, Nat.reduceEqDiff, Nat.reduceAdd, Nat.reduceMul, Nat.reduceSub, Nat.reduceLT, Nat.reduceLeDiff, Int.reduceToNat, Int.reduceLE, Int.reduceLT, Int.reduceAdd, Int.reduceMul, Int.reduceSub, Nat.sub_zero, Int.reducePow, Nat.reducePow, Int.reduceNeg, Int.reduceEq, Int.reduceNe, eq_self]
        refine end_plain (by simp -implicitDefEqProofs (disch := omega) only [go_sem, ht, reduceIte, ↓reduceIte, Nat.reduceEqDiff, Nat.reduceAdd, Nat.reduceMul, Nat.reduceSub, Nat.reduceLT, Nat.reduceLeDiff, Int.reduceToNat, Int.reduceLE, Int.reduceLT, Int.reduceAdd, Int.reduceMul, Int.reduceSub, Nat.sub_zero, Int.reducePow, Nat.reducePow, Int.reduceNeg, Int.reduceEq, Int.reduceNe, eq_self] <;> rfl) ?_
        simp only [tupP_1]
        simp -implicitDefEqProofs (disch := omega) only [go_sem, ht, eH, en, reduceIte, ↓reduceIte, Nat.reduceEqDiff, Nat.reduceAdd, Nat.reduceMul, Nat.reduceSub, Nat.reduceLT, Nat.reduceLeDiff, Int.reduceToNat, Int.reduceLE, Int.reduceLT, Int.reduceAdd, Int.reduceMul, Int.reduceSub, Nat.sub_zero, Int.reducePow, Nat.reducePow, Int.reduceNeg, Int.reduceEq, Int.reduceNe, eq_self]
        exact ⟨_, by simp [hwl], hset _ _ hz, hp1, hp2, q2.out, by rw [q1], rfl, rfl⟩
      · have hb1 : b' = 1 := by omega
        have e5 : V (((ws.set (off + vs.length) z).drop off).take (vs.length + 1)) + g * V vs = W + 4294967296 ^ (vs.length + 1) := by rw [e4, hb1, Nat.mul_one]
        clear e4
        rw [hb1] at e2
        have e4 := Hide.mk e5
        clear e5
        clear hq hW hg1
        simp -implicitDefEqProofs (disch := omega) only [go_sem, ht, h0, h1, h2, h13, h14, h15, h7, h8, eH, e1, e2, reduceIte, ↓reduceIte, Nat.reduceEqDiff, Nat.reduceAdd, Nat.reduceMul, Nat.reduceSub, Nat.reduceLT, Nat.reduceLeDiff, Int.reduceToNat, Int.reduceLE, Int.reduceLT, Int.reduceAdd, Int.reduceMul, Int.reduceSub, Nat.sub_zero, Int.reducePow, Nat.reducePow, Int.reduceNeg, Int.reduceEq, Int.reduceNe, eq_self]
        have hw1 := hset (off + vs.length) z hz
        have hl1 : (ws.set (off + vs.length) z).length = zs.length := by simp [hwl]
        generalize ws.set (off + vs.length) z = w1 at *
        clear hset hu e1 e2 e3 hpost hpre hwm h7 h8 h13 h14 h15 hc' hb
        refine LW.loopW hc ht (by kernel_rfl) (fun s => s.sl 0 = .ref id off (vs.length + 1) cap 1 ∧ s.sl 1 = .sl vs.length (vs.map U) ∧ s.sl 2 = .val (.int .u64 g) ∧ s.sl 69 = .sl vs.length (vs.map U) ∧ s.sl 70 = .val (.int .i64 vs.length) ∧ ∃ i : Nat, i ≤ vs.length ∧ s.sl 71 = .val (.int .i64 i) ∧
          ∃ (ws : List Nat) (c : Nat), ws.length = zs.length ∧ s.H = upd H id (some (ws.map U ++ l)) ∧ s.nx = nx ∧ Lm ws ∧ s.sl 7 = .val (.int .u64 c) ∧ c ≤ 1 ∧ ws.take off = zs.take off ∧ ws.drop (off + i) = w1.drop (off + i) ∧
            Hide (V ((ws.drop off).take i) + 4294967296 ^ i * c = V ((w1.drop off).take i) + V (vs.take i)))
          (fun s => match s.sl 71 with | .val (.int _ i) => vs.length - i.toNat | _ => 0) ?_ ?_
        · simp -implicitDefEqProofs (disch := omega) only [go_sem, ht, h0, h1, h2, eH, en, reduceIte, ↓reduceIte, Nat.reduceEqDiff, Nat.reduceAdd, Nat.reduceMul, Nat.reduceSub, Nat.reduceLT, Nat.reduceLeDiff, Int.reduceToNat, Int.reduceLE, Int.reduceLT, Int.reduceAdd, Int.reduceMul, Int.reduceSub, Nat.sub_zero, Int.reducePow, Nat.reducePow, Int.reduceNeg, Int.reduceEq, Int.reduceNe, eq_self]
          exact ⟨0, Nat.zero_le _, rfl, w1, 0, hl1, rfl, hw1, rfl, by omega, hp1, rfl, Hide.mk (by simp [V])⟩
        · clear h0 h1 h2 eH en hwl ws t
          rintro t ⟨h0, h1, h2, h69, h70, i, hi, h71, ws, c', hwl, eH, en, hwm, h7, hc', hpre, hpost, heq⟩
          have hset : ∀ k z, z < 4294967296 → Lm (ws.set k z) := fun k z hz x hx => by
            rcases List.mem_or_eq_of_mem_set hx with h | h
            · exact hwm x h
            · omega
          have hu := hwm.get (off + i)
          by_cases hil : i = vs.length
          · subst hil
            have f1 : V (((ws.set (off + vs.length) ((ws.getD (off + vs.length) 0 + c') % 4294967296)).drop off).take (vs.length + 1)) + 4294967296 ^ (vs.length + 1) * ((ws.getD (off + vs.length) 0 + c') / 4294967296) = V ((w1.drop off).take (vs.length + 1)) + V vs := by
              have hy := getD_of_drop hpost
              have heq := heq.out
              rw [List.take_length] at heq
              rw [seg_set (by omega), seg_succ (zs := w1) (by omega), ← hy, Nat.pow_succ, Nat.mul_assoc, Nat.add_assoc, ← Nat.mul_add, Nat.mod_add_div, Nat.mul_add]
              omega
            have hZB : V vs ≤ 4294967296 ^ (vs.length + 1) := by
              have := V_lt hvs
              rw [Nat.pow_succ]; omega
            have hwm2 := hset (off + vs.length) _ (Nat.mod_lt (ws.getD (off + vs.length) 0 + c') (by decide))
            have hF : V (((ws.set (off + vs.length) ((ws.getD (off + vs.length) 0 + c') % 4294967296)).drop off).take (vs.length + 1)) < 4294967296 ^ (vs.length + 1) := by
              have := V_lt ((hwm2.drop off).take (vs.length + 1))
              rwa [List.length_take_of_le (by simp; omega)] at this
            have hS : V ((w1.drop off).take (vs.length + 1)) < 4294967296 ^ (vs.length + 1) := by
              have := V_lt ((hw1.drop off).take (vs.length + 1))
              rwa [List.length_take_of_le (by simp; omega)] at this
            obtain ⟨q1, q0, q2⟩ := take_end1 hZ hZB e4.out hS hg2 hF f1
            have q2 := Hide.mk q2
            have hp3 : (ws.set (off + vs.length) ((ws.getD (off + vs.length) 0 + c') % 4294967296)).take off = zs.take off := by rw [List.take_set_of_le (by omega), hpre]
            have hp4 : (ws.set (off + vs.length) ((ws.getD (off + vs.length) 0 + c') % 4294967296)).drop (off + (vs.length + 1)) = zs.drop (off + (vs.length + 1)) := (drop_set_succ hpost).trans hp2
            clear f1 hZB hF hS e4 heq hg2
            simp -implicitDefEqProofs (disch := omega) only [go_sem, ht, h0, h1, h2, h69, h70, h71, h7, eH, en, reduceIte, ↓reduceIte, Nat.reduceEqDiff, Nat.reduceAdd, Nat.reduceMul, Nat.reduceSub, Nat.reduceLT, Nat.reduceLeDiff, Int.reduceToNat, Int.reduceLE, Int.reduceLT, Int.reduceAdd, Int.reduceMul, Int.reduceSub, Nat.sub_zero, Int.reducePow, Nat.reducePow, Int.reduceNeg, Int.reduceEq, Int.reduceNe, eq_self]
            refine end_plain (by simp -implicitDefEqProofs (disch := omega) only [go_sem, ht, reduceIte, ↓reduceIte, Nat.reduceEqDiff, Nat.reduceAdd, Nat.reduceMul, Nat.reduceSub, Nat.reduceLT, Nat.reduceLeDiff, Int.reduceToNat, Int.reduceLE, Int.reduceLT, Int.reduceAdd, Int.reduceMul, Int.reduceSub, Nat.sub_zero, Int.reducePow, Nat.reducePow, Int.reduceNeg, Int.reduceEq, Int.reduceNe, eq_self] <;> rfl) ?_
            simp only [tupP_1]
            simp -implicitDefEqProofs (disch := omega) only [go_sem, ht, eH, en, reduceIte, ↓reduceIte, Nat.reduceEqDiff, Nat.reduceAdd, Nat.reduceMul, Nat.reduceSub, Nat.reduceLT, Nat.reduceLeDiff, Int.reduceToNat, Int.reduceLE, Int.reduceLT, Int.reduceAdd, Int.reduceMul, Int.reduceSub, Nat.sub_zero, Int.reducePow, Nat.reducePow, Int.reduceNeg, Int.reduceEq, Int.reduceNe, eq_self]
            exact ⟨_, by simp [hwl], hwm2, hp3, hp4, q2.out, by rw [q1], rfl, rfl⟩
          · have hv := hvs.get i
            have key : Hide (V (((ws.set (off + i) ((c' + (ws.getD (off + i) 0 + vs.getD i 0)) % 4294967296)).drop off).take (i + 1)) + 4294967296 ^ (i + 1) * ((c' + (ws.getD (off + i) 0 + vs.getD i 0)) / 4294967296) = V ((w1.drop off).take (i + 1)) + V (vs.take (i + 1))) := by
              have hy := getD_of_drop hpost
              have heq := heq.out
              rw [seg_set (by omega), seg_succ (zs := w1) (by omega), V_take_succ vs (by omega), ← hy, Nat.pow_succ, Nat.mul_assoc, Nat.add_assoc, ← Nat.mul_add, Nat.mod_add_div, Nat.mul_add, Nat.mul_add]
              exact Hide.mk (by omega)
            have hp3 : (ws.set (off + i) ((c' + (ws.getD (off + i) 0 + vs.getD i 0)) % 4294967296)).take off = zs.take off := by rw [List.take_set_of_le (by omega), hpre]
            have hp4 : (ws.set (off + i) ((c' + (ws.getD (off + i) 0 + vs.getD i 0)) % 4294967296)).drop (off + (i + 1)) = w1.drop (off + (i + 1)) := drop_set_succ hpost
            clear heq hg2
            simp -implicitDefEqProofs (disch := omega) only [go_sem, ht, h0, h1, h2, h69, h70, h71, h7, eH, en, reduceIte, ↓reduceIte, Nat.reduceEqDiff, Nat.reduceAdd, Nat.reduceMul, Nat.reduceSub, Nat.reduceLT, Nat.reduceLeDiff, Int.reduceToNat, Int.reduceLE, Int.reduceLT, Int.reduceAdd, Int.reduceMul, Int.reduceSub, Nat.sub_zero, Int.reducePow, Nat.reducePow, Int.reduceNeg, Int.reduceEq, Int.reduceNe, eq_self]
            exact ⟨⟨i + 1, by omega, rfl, _, _, by simp [hwl], rfl, hset _ _ (Nat.mod_lt _ (by decide)), rfl, by omega, hp3, hp4, key⟩, by omega⟩
    · have hv := hvs.get i
      have hgv : g * vs.getD i 0 ≤ g * 4294967295 := Nat.mul_le_mul_left _ (by omega)
      obtain ⟨z, b', hz, hb', e1, e2, e3⟩ := take_sub hu (show (c' + g * vs.getD i 0) % 4294967296 < 4294967296 from Nat.mod_lt _ (by decide)) hb
      have key : Hide (V (((ws.set (off + i) z).drop off).take (i + 1)) + g * V (vs.take (i + 1)) = V ((zs.drop off).take (i + 1)) + 4294967296 ^ (i + 1) * ((c' + g * vs.getD i 0) / 4294967296 + b')) := by
        have hy := getD_of_drop hpost
        rw [seg_set (by omega), seg_succ (zs := zs) (by omega), V_take_succ vs (by omega), Nat.pow_succ, ← hy]
        exact Hide.mk (take_step heq.out e3)
      have hp1 : (ws.set (off + i) z).take off = zs.take off := by rw [List.take_set_of_le (by omega), hpre]
      have hp2 : (ws.set (off + i) z).drop (off + (i + 1)) = zs.drop (off + (i + 1)) := drop_set_succ hpost
      clear heq hg1 hg2 hW e3
      simp -implicitDefEqProofs (disch := omega) only [go_sem, ht, h0, h1, h2, h13, h14, h15, h7, h8, eH, en, e1, e2, reduceIte, ↓reduceIte, Nat.reduceEqDiff, Nat.reduceAdd, Nat.reduceMul, Nat.reduceSub, Nat.reduceLT, Nat.reduceLeDiff, Int.reduceToNat, Int.reduceLE, Int.reduceLT, Int.reduceAdd, Int.reduceMul, Int.reduceSub, Nat.sub_zero, Int.reducePow, Nat.reducePow, Int.reduceNeg, Int.reduceEq, Int.reduceNe, eq_self]
      exact ⟨⟨i + 1, by omega, rfl, _, _, _, by simp [hwl], rfl, hset _ _ hz, rfl, by omega, rfl, hb', hp1, hp2, key⟩, by omega⟩
end Go.Proofs.Ytbbncddbdflmbaa
