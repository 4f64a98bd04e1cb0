/- The document's numbers: differences. -/
import Derived.Test.YtbbncddbdflmbaaRef5
set_option maxRecDepth 100000
set_option linter.unusedVariables false
set_option linter.unusedSimpArgs false
namespace Go.Proofs.Ytbbncddbdflmbaa.Ref

theorem dropH_at (D : Nat → Bool) (H : Nat → Option (List PV)) (i : Nat) : dropH D H i = if D i = true then none else H i := rfl
theorem made_any {xs : List Nat} {neg : Bool} (h : Ok xs) : PT Try.prog 61 [.val (.bool neg), SI xs] (isV (NP (neg && decide (0 < V xs)) (V xs))) := by
  have hlen := h.short.len
  rw [NP_def]
  refine PCalls.enter (n := 15) (rs := [.cell 4 64]) (tb := []) Try.func61 rfl rfl rfl (by kernel_rfl) (by kernel_rfl) (by simp) fun c hc ht => ?_
  simp -implicitDefEqProofs (disch := omega) only [go_sem, ht, reduceIte, ↓reduceIte, Nat.reduceEqDiff, Nat.reduceAdd, Nat.reduceMul, Nat.reduceSub, Nat.reduceLT, Nat.reduceLeDiff, Int.reduceToNat, Int.reduceLE, Int.reduceLT, Int.reduceAdd, Int.reduceMul, Int.reduceSub, Nat.sub_zero, Int.reducePow, Nat.reducePow, Int.reduceNeg, Int.reduceEq, Int.reduceNe, eq_self]
  cases neg
  · (refine pCall_view (by simp -implicitDefEqProofs (disch := omega) only [go_sem, ht, reduceIte, ↓reduceIte, Nat.reduceEqDiff, Nat.reduceAdd, Nat.reduceMul, Nat.reduceSub, Nat.reduceLT, Nat.reduceLeDiff, Int.reduceToNat, Int.reduceLE, Int.reduceLT, Int.reduceAdd, Int.reduceMul, Int.reduceSub, Nat.sub_zero, Int.reducePow, Nat.reducePow, Int.reduceNeg, Int.reduceEq, Int.reduceNe, eq_self] <;> rfl) (by simp -implicitDefEqProofs (disch := omega) only [go_sem, ht, reduceIte, ↓reduceIte, Nat.reduceEqDiff, Nat.reduceAdd, Nat.reduceMul, Nat.reduceSub, Nat.reduceLT, Nat.reduceLeDiff, Int.reduceToNat, Int.reduceLE, Int.reduceLT, Int.reduceAdd, Int.reduceMul, Int.reduceSub, Nat.sub_zero, Int.reducePow, Nat.reducePow, Int.reduceNeg, Int.reduceEq, Int.reduceNe, eq_self]) (by first | (apply Or.inl; simp -implicitDefEqProofs (disch := omega) only [go_sem, ht, reduceIte, ↓reduceIte, Nat.reduceEqDiff, Nat.reduceAdd, Nat.reduceMul, Nat.reduceSub, Nat.reduceLT, Nat.reduceLeDiff, Int.reduceToNat, Int.reduceLE, Int.reduceLT, Int.reduceAdd, Int.reduceMul, Int.reduceSub, Nat.sub_zero, Int.reducePow, Nat.reducePow, Int.reduceNeg, Int.reduceEq, Int.reduceNe, eq_self]; done) | (apply Or.inr; rintro r rfl; rfl)) (cut_calls h) ?_; rintro _ nx - rfl hnx; (try simp only [put_nx, withH_nx, begP_nx] at hnx); simp -implicitDefEqProofs (disch := omega) only [go_sem, ht, reduceIte, ↓reduceIte, Nat.reduceEqDiff, Nat.reduceAdd, Nat.reduceMul, Nat.reduceSub, Nat.reduceLT, Nat.reduceLeDiff, Int.reduceToNat, Int.reduceLE, Int.reduceLT, Int.reduceAdd, Int.reduceMul, Int.reduceSub, Nat.sub_zero, Int.reducePow, Nat.reducePow, Int.reduceNeg, Int.reduceEq, Int.reduceNe, eq_self])
    (refine end_treeN 2 ?_; simp -implicitDefEqProofs (disch := omega) only [go_sem, ht, reduceIte, ↓reduceIte, Nat.reduceEqDiff, Nat.reduceAdd, Nat.reduceMul, Nat.reduceSub, Nat.reduceLT, Nat.reduceLeDiff, Int.reduceToNat, Int.reduceLE, Int.reduceLT, Int.reduceAdd, Int.reduceMul, Int.reduceSub, Nat.sub_zero, Int.reducePow, Nat.reducePow, Int.reduceNeg, Int.reduceEq, Int.reduceNe, eq_self])
    simp
  · by_cases h0 : V xs = 0
    · have hz : (D (V xs)).length = 0 := D_len_zero.2 h0
      have e : decide (0 < V xs) = false := by simp [h0]
      rw [e]
      (refine pCall_view (by simp -implicitDefEqProofs (disch := omega) only [go_sem, ht, reduceIte, ↓reduceIte, Nat.reduceEqDiff, Nat.reduceAdd, Nat.reduceMul, Nat.reduceSub, Nat.reduceLT, Nat.reduceLeDiff, Int.reduceToNat, Int.reduceLE, Int.reduceLT, Int.reduceAdd, Int.reduceMul, Int.reduceSub, Nat.sub_zero, Int.reducePow, Nat.reducePow, Int.reduceNeg, Int.reduceEq, Int.reduceNe, eq_self] <;> rfl) (by simp -implicitDefEqProofs (disch := omega) only [go_sem, ht, reduceIte, ↓reduceIte, Nat.reduceEqDiff, Nat.reduceAdd, Nat.reduceMul, Nat.reduceSub, Nat.reduceLT, Nat.reduceLeDiff, Int.reduceToNat, Int.reduceLE, Int.reduceLT, Int.reduceAdd, Int.reduceMul, Int.reduceSub, Nat.sub_zero, Int.reducePow, Nat.reducePow, Int.reduceNeg, Int.reduceEq, Int.reduceNe, eq_self]) (by first | (apply Or.inl; simp -implicitDefEqProofs (disch := omega) only [go_sem, ht, reduceIte, ↓reduceIte, Nat.reduceEqDiff, Nat.reduceAdd, Nat.reduceMul, Nat.reduceSub, Nat.reduceLT, Nat.reduceLeDiff, Int.reduceToNat, Int.reduceLE, Int.reduceLT, Int.reduceAdd, Int.reduceMul, Int.reduceSub, Nat.sub_zero, Int.reducePow, Nat.reducePow, Int.reduceNeg, Int.reduceEq, Int.reduceNe, eq_self]; done) | (apply Or.inr; rintro r rfl; rfl)) (cut_calls h) ?_; rintro _ nx - rfl hnx; (try simp only [put_nx, withH_nx, begP_nx] at hnx); simp -implicitDefEqProofs (disch := omega) only [go_sem, ht, reduceIte, ↓reduceIte, Nat.reduceEqDiff, Nat.reduceAdd, Nat.reduceMul, Nat.reduceSub, Nat.reduceLT, Nat.reduceLeDiff, Int.reduceToNat, Int.reduceLE, Int.reduceLT, Int.reduceAdd, Int.reduceMul, Int.reduceSub, Nat.sub_zero, Int.reducePow, Nat.reducePow, Int.reduceNeg, Int.reduceEq, Int.reduceNe, eq_self])
      (refine end_treeN 2 ?_; simp -implicitDefEqProofs (disch := omega) only [go_sem, ht, reduceIte, ↓reduceIte, Nat.reduceEqDiff, Nat.reduceAdd, Nat.reduceMul, Nat.reduceSub, Nat.reduceLT, Nat.reduceLeDiff, Int.reduceToNat, Int.reduceLE, Int.reduceLT, Int.reduceAdd, Int.reduceMul, Int.reduceSub, Nat.sub_zero, Int.reducePow, Nat.reducePow, Int.reduceNeg, Int.reduceEq, Int.reduceNe, eq_self])
      rw [hz]; rfl
    · have hp := D_len_pos h0
      have e : decide (0 < V xs) = true := by simp; omega
      rw [e]
      (refine pCall_view (by simp -implicitDefEqProofs (disch := omega) only [go_sem, ht, reduceIte, ↓reduceIte, Nat.reduceEqDiff, Nat.reduceAdd, Nat.reduceMul, Nat.reduceSub, Nat.reduceLT, Nat.reduceLeDiff, Int.reduceToNat, Int.reduceLE, Int.reduceLT, Int.reduceAdd, Int.reduceMul, Int.reduceSub, Nat.sub_zero, Int.reducePow, Nat.reducePow, Int.reduceNeg, Int.reduceEq, Int.reduceNe, eq_self] <;> rfl) (by simp -implicitDefEqProofs (disch := omega) only [go_sem, ht, reduceIte, ↓reduceIte, Nat.reduceEqDiff, Nat.reduceAdd, Nat.reduceMul, Nat.reduceSub, Nat.reduceLT, Nat.reduceLeDiff, Int.reduceToNat, Int.reduceLE, Int.reduceLT, Int.reduceAdd, Int.reduceMul, Int.reduceSub, Nat.sub_zero, Int.reducePow, Nat.reducePow, Int.reduceNeg, Int.reduceEq, Int.reduceNe, eq_self]) (by first | (apply Or.inl; simp -implicitDefEqProofs (disch := omega) only [go_sem, ht, reduceIte, ↓reduceIte, Nat.reduceEqDiff, Nat.reduceAdd, Nat.reduceMul, Nat.reduceSub, Nat.reduceLT, Nat.reduceLeDiff, Int.reduceToNat, Int.reduceLE, Int.reduceLT, Int.reduceAdd, Int.reduceMul, Int.reduceSub, Nat.sub_zero, Int.reducePow, Nat.reducePow, Int.reduceNeg, Int.reduceEq, Int.reduceNe, eq_self]; done) | (apply Or.inr; rintro r rfl; rfl)) (cut_calls h) ?_; rintro _ nx - rfl hnx; (try simp only [put_nx, withH_nx, begP_nx] at hnx); simp -implicitDefEqProofs (disch := omega) only [go_sem, ht, reduceIte, ↓reduceIte, Nat.reduceEqDiff, Nat.reduceAdd, Nat.reduceMul, Nat.reduceSub, Nat.reduceLT, Nat.reduceLeDiff, Int.reduceToNat, Int.reduceLE, Int.reduceLT, Int.reduceAdd, Int.reduceMul, Int.reduceSub, Nat.sub_zero, Int.reducePow, Nat.reducePow, Int.reduceNeg, Int.reduceEq, Int.reduceNe, eq_self])
      (refine end_treeN 2 ?_; simp -implicitDefEqProofs (disch := omega) only [go_sem, ht, reduceIte, ↓reduceIte, Nat.reduceEqDiff, Nat.reduceAdd, Nat.reduceMul, Nat.reduceSub, Nat.reduceLT, Nat.reduceLeDiff, Int.reduceToNat, Int.reduceLE, Int.reduceLT, Int.reduceAdd, Int.reduceMul, Int.reduceSub, Nat.sub_zero, Int.reducePow, Nat.reducePow, Int.reduceNeg, Int.reduceEq, Int.reduceNe, eq_self])
      rw [decide_eq_true (by omega)]

theorem minus_calls {n : Nat} {neg : Bool} (h : Ok (D n)) : PT Try.prog 67 [NP neg n] (isV (NP (!neg && decide (0 < n)) n)) := by
  have hlen := h.len
  have hm := made_any (neg := !neg) h
  rw [V_D] at hm
  rw [NP_def] at hm ⊢
  rw [NP_def] at *
  refine PCalls.enter (n := 10) (rs := [.cell 2 64]) (tb := [(1, [(0, []), (1, []), (2, []), (3, []), (4, []), (5, [0, 1, 2]), (6, []), (7, [])])]) Try.func67 rfl rfl rfl (by kernel_rfl) (by kernel_rfl) (by simp) fun c hc ht => ?_
  simp -implicitDefEqProofs (disch := omega) only [go_sem, ht, reduceIte, ↓reduceIte, Nat.reduceEqDiff, Nat.reduceAdd, Nat.reduceMul, Nat.reduceSub, Nat.reduceLT, Nat.reduceLeDiff, Int.reduceToNat, Int.reduceLE, Int.reduceLT, Int.reduceAdd, Int.reduceMul, Int.reduceSub, Nat.sub_zero, Int.reducePow, Nat.reducePow, Int.reduceNeg, Int.reduceEq, Int.reduceNe, eq_self]
  refine append_nil (e := 3) (b := 8) (m := (D n).length) (z := .int .i64 0) (ys := (D n).map I) T62_elem rfl T3_size T3_bytes T3_zero (by simp -implicitDefEqProofs (disch := omega) only [go_sem, ht, srcP_sl, reduceIte, ↓reduceIte, Nat.reduceEqDiff, Nat.reduceAdd, Nat.reduceMul, Nat.reduceSub, Nat.reduceLT, Nat.reduceLeDiff, Int.reduceToNat, Int.reduceLE, Int.reduceLT, Int.reduceAdd, Int.reduceMul, Int.reduceSub, Nat.sub_zero, Int.reducePow, Nat.reducePow, Int.reduceNeg, Int.reduceEq, Int.reduceNe, eq_self]) (by simp -implicitDefEqProofs (disch := omega) only [go_sem, ht, reduceIte, ↓reduceIte, Nat.reduceEqDiff, Nat.reduceAdd, Nat.reduceMul, Nat.reduceSub, Nat.reduceLT, Nat.reduceLeDiff, Int.reduceToNat, Int.reduceLE, Int.reduceLT, Int.reduceAdd, Int.reduceMul, Int.reduceSub, Nat.sub_zero, Int.reducePow, Nat.reducePow, Int.reduceNeg, Int.reduceEq, Int.reduceNe, eq_self]) (by omega) (fun h0 => ?_) fun cap' rest' h1 h2 => ?_
  · have hn := D_len_zero.1 h0
    subst hn
    rw [D_zero] at hm ⊢
    simp -implicitDefEqProofs (disch := omega) only [go_sem, ht, reduceIte, ↓reduceIte, Nat.reduceEqDiff, Nat.reduceAdd, Nat.reduceMul, Nat.reduceSub, Nat.reduceLT, Nat.reduceLeDiff, Int.reduceToNat, Int.reduceLE, Int.reduceLT, Int.reduceAdd, Int.reduceMul, Int.reduceSub, Nat.sub_zero, Int.reducePow, Nat.reducePow, Int.reduceNeg, Int.reduceEq, Int.reduceNe, eq_self]
    (refine pCall_view (by simp -implicitDefEqProofs (disch := omega) only [go_sem, ht, reduceIte, ↓reduceIte, Nat.reduceEqDiff, Nat.reduceAdd, Nat.reduceMul, Nat.reduceSub, Nat.reduceLT, Nat.reduceLeDiff, Int.reduceToNat, Int.reduceLE, Int.reduceLT, Int.reduceAdd, Int.reduceMul, Int.reduceSub, Nat.sub_zero, Int.reducePow, Nat.reducePow, Int.reduceNeg, Int.reduceEq, Int.reduceNe, eq_self] <;> rfl) (by simp -implicitDefEqProofs (disch := omega) only [go_sem, ht, reduceIte, ↓reduceIte, Nat.reduceEqDiff, Nat.reduceAdd, Nat.reduceMul, Nat.reduceSub, Nat.reduceLT, Nat.reduceLeDiff, Int.reduceToNat, Int.reduceLE, Int.reduceLT, Int.reduceAdd, Int.reduceMul, Int.reduceSub, Nat.sub_zero, Int.reducePow, Nat.reducePow, Int.reduceNeg, Int.reduceEq, Int.reduceNe, eq_self]) (by first | (apply Or.inl; simp -implicitDefEqProofs (disch := omega) only [go_sem, ht, reduceIte, ↓reduceIte, Nat.reduceEqDiff, Nat.reduceAdd, Nat.reduceMul, Nat.reduceSub, Nat.reduceLT, Nat.reduceLeDiff, Int.reduceToNat, Int.reduceLE, Int.reduceLT, Int.reduceAdd, Int.reduceMul, Int.reduceSub, Nat.sub_zero, Int.reducePow, Nat.reducePow, Int.reduceNeg, Int.reduceEq, Int.reduceNe, eq_self]; done) | (apply Or.inr; rintro r rfl; rfl)) (hm) ?_; rintro _ nx - rfl hnx; (try simp only [put_nx, withH_nx, begP_nx] at hnx); simp -implicitDefEqProofs (disch := omega) only [go_sem, ht, reduceIte, ↓reduceIte, Nat.reduceEqDiff, Nat.reduceAdd, Nat.reduceMul, Nat.reduceSub, Nat.reduceLT, Nat.reduceLeDiff, Int.reduceToNat, Int.reduceLE, Int.reduceLT, Int.reduceAdd, Int.reduceMul, Int.reduceSub, Nat.sub_zero, Int.reducePow, Nat.reducePow, Int.reduceNeg, Int.reduceEq, Int.reduceNe, eq_self])
    (refine end_treeN 2 ?_; simp -implicitDefEqProofs (disch := omega) only [go_sem, ht, reduceIte, ↓reduceIte, Nat.reduceEqDiff, Nat.reduceAdd, Nat.reduceMul, Nat.reduceSub, Nat.reduceLT, Nat.reduceLeDiff, Int.reduceToNat, Int.reduceLE, Int.reduceLT, Int.reduceAdd, Int.reduceMul, Int.reduceSub, Nat.sub_zero, Int.reducePow, Nat.reducePow, Int.reduceNeg, Int.reduceEq, Int.reduceNe, eq_self])
  · simp -implicitDefEqProofs (disch := omega) only [go_sem, ht, reduceIte, ↓reduceIte, Nat.reduceEqDiff, Nat.reduceAdd, Nat.reduceMul, Nat.reduceSub, Nat.reduceLT, Nat.reduceLeDiff, Int.reduceToNat, Int.reduceLE, Int.reduceLT, Int.reduceAdd, Int.reduceMul, Int.reduceSub, Nat.sub_zero, Int.reducePow, Nat.reducePow, Int.reduceNeg, Int.reduceEq, Int.reduceNe, eq_self]
    (refine pCall_frz (fun i => decide (i = 2)) 1 (by simp -implicitDefEqProofs (disch := omega) only [dropH_at, decide_eq_true_eq, if_pos, go_sem, ht, reduceIte, ↓reduceIte, Nat.reduceEqDiff, Nat.reduceAdd, Nat.reduceMul, Nat.reduceSub, Nat.reduceLT, Nat.reduceLeDiff, Int.reduceToNat, Int.reduceLE, Int.reduceLT, Int.reduceAdd, Int.reduceMul, Int.reduceSub, Nat.sub_zero, Int.reducePow, Nat.reducePow, Int.reduceNeg, Int.reduceEq, Int.reduceNe, eq_self] <;> rfl) (by simp -implicitDefEqProofs (disch := omega) only [dropH_at, decide_eq_true_eq, if_pos, go_sem, ht, reduceIte, ↓reduceIte, Nat.reduceEqDiff, Nat.reduceAdd, Nat.reduceMul, Nat.reduceSub, Nat.reduceLT, Nat.reduceLeDiff, Int.reduceToNat, Int.reduceLE, Int.reduceLT, Int.reduceAdd, Int.reduceMul, Int.reduceSub, Nat.sub_zero, Int.reducePow, Nat.reducePow, Int.reduceNeg, Int.reduceEq, Int.reduceNe, eq_self]) (by simp -implicitDefEqProofs (disch := omega) only [dropH_at, decide_eq_true_eq, if_pos, go_sem, ht, reduceIte, ↓reduceIte, Nat.reduceEqDiff, Nat.reduceAdd, Nat.reduceMul, Nat.reduceSub, Nat.reduceLT, Nat.reduceLeDiff, Int.reduceToNat, Int.reduceLE, Int.reduceLT, Int.reduceAdd, Int.reduceMul, Int.reduceSub, Nat.sub_zero, Int.reducePow, Nat.reducePow, Int.reduceNeg, Int.reduceEq, Int.reduceNe, eq_self] <;> rfl) (by simp -implicitDefEqProofs (disch := omega) only [dropH_at, decide_eq_true_eq, if_pos, go_sem, ht, reduceIte, ↓reduceIte, Nat.reduceEqDiff, Nat.reduceAdd, Nat.reduceMul, Nat.reduceSub, Nat.reduceLT, Nat.reduceLeDiff, Int.reduceToNat, Int.reduceLE, Int.reduceLT, Int.reduceAdd, Int.reduceMul, Int.reduceSub, Nat.sub_zero, Int.reducePow, Nat.reducePow, Int.reduceNeg, Int.reduceEq, Int.reduceNe, eq_self]) (hm) ?_; rintro _ nx - rfl hnx; (try simp only [put_nx, withH_nx, begP_nx] at hnx); simp -implicitDefEqProofs (disch := omega) only [dropH_at, decide_eq_true_eq, if_pos, go_sem, ht, reduceIte, ↓reduceIte, Nat.reduceEqDiff, Nat.reduceAdd, Nat.reduceMul, Nat.reduceSub, Nat.reduceLT, Nat.reduceLeDiff, Int.reduceToNat, Int.reduceLE, Int.reduceLT, Int.reduceAdd, Int.reduceMul, Int.reduceSub, Nat.sub_zero, Int.reducePow, Nat.reducePow, Int.reduceNeg, Int.reduceEq, Int.reduceNe, eq_self])
    (refine end_treeN 2 ?_; simp -implicitDefEqProofs (disch := omega) only [go_sem, ht, dropH_at, decide_eq_true_eq, reduceIte, ↓reduceIte, Nat.reduceEqDiff, Nat.reduceAdd, Nat.reduceMul, Nat.reduceSub, Nat.reduceLT, Nat.reduceLeDiff, Int.reduceToNat, Int.reduceLE, Int.reduceLT, Int.reduceAdd, Int.reduceMul, Int.reduceSub, Nat.sub_zero, Int.reducePow, Nat.reducePow, Int.reduceNeg, Int.reduceEq, Int.reduceNe, eq_self])

/-- An int. -/
def J (z : Int) : PV := .val (.int .i64 z)
theorem J_def (z : Int) : J z = .val (.int .i64 z) := rfl
theorem get_J {zs : List Int} {i : Nat} (l : List PV) (h : i < zs.length) : (zs.map J ++ l)[i]? = some (.val (.int .i64 (zs.getD i 0))) := by
  rw [List.getElem?_append_left (by simpa using h)]
  simp [h, J]
theorem set_J {zs : List Int} {i : Nat} {x : Int} (l : List PV) (h : i < zs.length) : spl (zs.map J ++ l) i [.val (.int .i64 x)] = (zs.set i x).map J ++ l := by
  unfold spl
  simp only [List.length_singleton]
  rw [List.take_append_of_le_length (by simpa using Nat.le_of_lt h), List.drop_append_of_le_length (by simp; omega), List.set_eq_take_append_cons_drop, if_pos h]
  simp [J]
theorem map_IJ (xs : List Nat) : xs.map I = (xs.map fun (x : Nat) => (x : Int)).map J := by simp [I, J]
attribute [go_sem] get_J set_J J_def
theorem getD_set {zs : List Int} {i : Nat} {x : Int} (h : i < zs.length) : (zs.set i x).getD i 0 = x := by
  rw [List.getD_eq_getElem?_getD, List.getElem?_set_self h]; rfl
theorem getD_set_ne {zs : List Int} {i j : Nat} {x : Int} (h : i ≠ j) : (zs.set i x).getD j 0 = zs.getD j 0 := by
  rw [List.getD_eq_getElem?_getD, List.getElem?_set_ne h, ← List.getD_eq_getElem?_getD]
theorem getD_cast (xs : List Nat) (j : Nat) : (xs.map fun (x : Nat) => (x : Int)).getD j 0 = (xs.getD j 0 : Nat) := by
  rw [List.getD_eq_getElem?_getD, List.getElem?_map, List.getD_eq_getElem?_getD]
  cases xs[j]? <;> rfl
theorem getD_app {ws : List Nat} {w j : Nat} (h : j < ws.length) : (ws ++ [w]).getD j 0 = ws.getD j 0 := by
  rw [List.getD_eq_getElem?_getD, List.getElem?_append_left h, ← List.getD_eq_getElem?_getD]
theorem getD_app_last {ws : List Nat} {w i : Nat} (h : ws.length = i) : (ws ++ [w]).getD i 0 = w := by
  subst h
  rw [List.getD_eq_getElem?_getD, List.getElem?_append_right (Nat.le_refl _)]; simp
theorem arith9 {w B A P b x y v b' : Nat} (h : w + B = A + P * b) (hv : v + y + b = x + 10000 * b') : (w + P * v) + (B + P * y) = (A + P * x) + (P * 10000) * b' := by
  have : P * (v + y + b) = P * (x + 10000 * b') := by rw [hv]
  simp only [Nat.mul_add] at this
  rw [Nat.mul_assoc]
  omega
theorem less_top {w A B P b x y : Nat} (hw : w < P) (h : w + B = A + P * b) (hle : B + P * y ≤ A + P * x) : y + b ≤ x := by
  rcases Nat.lt_or_ge x (y + b) with hlt | hge
  · exfalso
    have : P * (x + 1) ≤ P * (y + b) := Nat.mul_le_mul_left _ hlt
    simp only [Nat.mul_add, Nat.mul_one] at this
    omega
  · exact hge

/-- A difference, as less leaves it. -/
def lessL (a b : Nat) : List Nat := D (a - b) ++ List.replicate ((D a).length - (D (a - b)).length) 0
theorem lessL_V (a b : Nat) : V (lessL a b) = a - b := by unfold lessL; rw [V_append, V_repl, V_D, Nat.mul_zero, Nat.add_zero]
theorem lessL_lm (a b : Nat) : Lm (lessL a b) := Lm_append.2 ⟨Lm_D _, Lm_repl _⟩
theorem lessL_len {a b : Nat} : (lessL a b).length = (D a).length := by
  have := D_len_mono (Nat.sub_le a b)
  unfold lessL; simp; omega

theorem less_calls {a b : Nat} (ha : Ok (D a)) (hb : Ok (D b)) (h0 : a ≠ 0) (hle : b ≤ a) : PT Try.prog 69 [SI (D a), SI (D b)] (isV (SI (lessL a b))) := by
  have hal := ha.len
  have hbl := hb.len
  have hva := V_D a
  have hvb := V_D b
  have hmb := D_len_mono hle
  have hap := D_len_pos h0
  have hres : ∀ ws : List Nat, Lm ws → ws.length = (D a).length → V ws + b = a → ws = lessL a b := fun ws h1 h2 h3 =>
    V_inj h1 (lessL_lm a b) (by rw [lessL_len, h2]) (by rw [lessL_V]; omega)
  generalize lessL a b = res at *
  have hxm : Lm (D a) := ha.lm
  have hym : Lm (D b) := hb.lm
  generalize hxs : D a = xs at *
  generalize hys : D b = ys at *
  refine PCalls.enter (n := 55) (rs := [.tmp 4]) (tb := [(6, [(0, []), (1, []), (2, []), (3, []), (4, []), (5, []), (6, []), (7, []), (8, []), (9, []), (10, []), (11, []), (12, [])])]) Try.func69 rfl rfl rfl (by kernel_rfl) (by kernel_rfl) (by simp) fun c hc ht => ?_
  simp -implicitDefEqProofs (disch := omega) only [go_sem, ht, reduceIte, ↓reduceIte, Nat.reduceEqDiff, Nat.reduceAdd, Nat.reduceMul, Nat.reduceSub, Nat.reduceLT, Nat.reduceLeDiff, Int.reduceToNat, Int.reduceLE, Int.reduceLT, Int.reduceAdd, Int.reduceMul, Int.reduceSub, Nat.sub_zero, Int.reducePow, Nat.reducePow, Int.reduceNeg, Int.reduceEq, Int.reduceNe, eq_self]
  refine append_nil (e := 3) (b := 8) (m := xs.length) (z := .int .i64 0) (ys := xs.map I) T62_elem rfl T3_size T3_bytes T3_zero (by simp -implicitDefEqProofs (disch := omega) only [go_sem, ht, srcP_sl, reduceIte, ↓reduceIte, Nat.reduceEqDiff, Nat.reduceAdd, Nat.reduceMul, Nat.reduceSub, Nat.reduceLT, Nat.reduceLeDiff, Int.reduceToNat, Int.reduceLE, Int.reduceLT, Int.reduceAdd, Int.reduceMul, Int.reduceSub, Nat.sub_zero, Int.reducePow, Nat.reducePow, Int.reduceNeg, Int.reduceEq, Int.reduceNe, eq_self]) (by simp -implicitDefEqProofs (disch := omega) only [go_sem, ht, reduceIte, ↓reduceIte, Nat.reduceEqDiff, Nat.reduceAdd, Nat.reduceMul, Nat.reduceSub, Nat.reduceLT, Nat.reduceLeDiff, Int.reduceToNat, Int.reduceLE, Int.reduceLT, Int.reduceAdd, Int.reduceMul, Int.reduceSub, Nat.sub_zero, Int.reducePow, Nat.reducePow, Int.reduceNeg, Int.reduceEq, Int.reduceNe, eq_self]) (by omega) (fun h0 => absurd h0 (by omega)) fun cap' rest' h1 h2 => ?_
  simp -implicitDefEqProofs (disch := omega) only [go_sem, ht, reduceIte, ↓reduceIte, Nat.reduceEqDiff, Nat.reduceAdd, Nat.reduceMul, Nat.reduceSub, Nat.reduceLT, Nat.reduceLeDiff, Int.reduceToNat, Int.reduceLE, Int.reduceLT, Int.reduceAdd, Int.reduceMul, Int.reduceSub, Nat.sub_zero, Int.reducePow, Nat.reducePow, Int.reduceNeg, Int.reduceEq, Int.reduceNe, eq_self]
  refine LW.loopW hc ht (by kernel_rfl) (fun t => t.sl 0 = .sl xs.length (xs.map I) ∧ t.sl 1 = .sl ys.length (ys.map I) ∧ ∃ i b' : Nat, i ≤ xs.length ∧ t.sl 6 = .val (.int .i64 i) ∧ b' ≤ 1 ∧
      ∃ (zs : List Int) (ws : List Nat), zs.length = xs.length ∧ t.sl 5 = .ref 0 0 xs.length cap' 1 ∧ t.H 0 = some (zs.map J ++ rest'.map .val) ∧ ws.length = i ∧ Lm ws ∧ (∀ j, j < i → zs.getD j 0 = ws.getD j 0) ∧
        (i < xs.length → zs.getD i 0 = (xs.getD i 0 : Int) - b') ∧ (∀ j, i < j → j < xs.length → zs.getD j 0 = xs.getD j 0) ∧ (i = xs.length → b' = 0) ∧ Hide (V ws + V (ys.take i) = V (xs.take i) + 10000 ^ i * b'))
      (fun t => match t.sl 6 with | .val (.int _ i) => xs.length - i.toNat | _ => 0) ?_ ?_
  · simp -implicitDefEqProofs (disch := omega) only [go_sem, ht, reduceIte, ↓reduceIte, Nat.reduceEqDiff, Nat.reduceAdd, Nat.reduceMul, Nat.reduceSub, Nat.reduceLT, Nat.reduceLeDiff, Int.reduceToNat, Int.reduceLE, Int.reduceLT, Int.reduceAdd, Int.reduceMul, Int.reduceSub, Nat.sub_zero, Int.reducePow, Nat.reducePow, Int.reduceNeg, Int.reduceEq, Int.reduceNe, eq_self]
    exact ⟨0, 0, Nat.zero_le _, rfl, by omega, xs.map fun (x : Nat) => (x : Int), [], by simp, by rw [map_IJ], rfl, Lm_nil, fun j h => by omega, fun h => by rw [getD_cast]; simp, fun j _ _ => getD_cast xs j, fun _ => rfl, Hide.mk (by simp [V])⟩
  · rintro t ⟨hs0, hs1, i, b', hi, h6, hb', zs, ws, hzl, h5, hH, hwl, hwm, hz1, hz2, hz3, hz4, heq⟩
    by_cases hil : i = xs.length
    · have hb0 := hz4 hil
      have e : ws = res := by
        refine hres ws hwm (by omega) ?_
        have h := heq.out
        rw [hb0, Nat.mul_zero, Nat.add_zero, V_take_all (by omega), V_take_all (by omega), hva, hvb] at h
        exact h
      have ez : zs.map J = res.map I := by
        rw [map_IJ]
        congr 1
        apply List.ext_getElem (by simp [hzl, ← e, hwl, hil])
        intro j h1 h2
        have := hz1 j (by omega)
        rw [e] at this
        simp at h2
        simpa [h1, h2] using this
      have hrl : res.length = xs.length := by rw [← e]; omega
      have hT := take_Il res (List.map PV.val rest')
      rw [hrl] at hT
      simp -implicitDefEqProofs (disch := omega) only [go_sem, ht, hs0, hs1, h6, h5, hH, ez, reduceIte, ↓reduceIte, Nat.reduceEqDiff, Nat.reduceAdd, Nat.reduceMul, Nat.reduceSub, Nat.reduceLT, Nat.reduceLeDiff, Int.reduceToNat, Int.reduceLE, Int.reduceLT, Int.reduceAdd, Int.reduceMul, Int.reduceSub, Nat.sub_zero, Int.reducePow, Nat.reducePow, Int.reduceNeg, Int.reduceEq, Int.reduceNe, eq_self]
      (refine end_treeN 2 ?_; simp -implicitDefEqProofs (disch := omega) only [go_sem, ht, h5, hH, ez, hrl, hT, if_pos, reduceIte, ↓reduceIte, Nat.reduceEqDiff, Nat.reduceAdd, Nat.reduceMul, Nat.reduceSub, Nat.reduceLT, Nat.reduceLeDiff, Int.reduceToNat, Int.reduceLE, Int.reduceLT, Int.reduceAdd, Int.reduceMul, Int.reduceSub, Nat.sub_zero, Int.reducePow, Nat.reducePow, Int.reduceNeg, Int.reduceEq, Int.reduceNe, eq_self])
    · have hlt : i < xs.length := by omega
      obtain ⟨Z, hZ⟩ : ∃ Z, Z = (xs.getD i 0 : Int) - b' := ⟨_, rfl⟩
      have hz := hz2 hlt
      rw [← hZ] at hz
      have hxg := hxm.get i
      have hyg := hym.get i
      have key : ∀ v b2 : Nat, v + ys.getD i 0 + b' = xs.getD i 0 + 10000 * b2 → Hide (V (ws ++ [v]) + V (ys.take (i + 1)) = V (xs.take (i + 1)) + 10000 ^ (i + 1) * b2) := fun v b2 hv => by
        refine Hide.mk ?_
        rw [V_append, hwl, V_cons, V_nil, Nat.mul_zero, Nat.add_zero, V_take_next ys, V_take_next xs, Nat.pow_succ]
        exact arith9 heq.out hv
      have htop : i + 1 = xs.length → ys.getD i 0 + b' ≤ xs.getD i 0 := fun h => by
        have hw := V_lt hwm
        rw [hwl] at hw
        refine less_top hw heq.out ?_
        rw [← V_take_next ys, ← V_take_next xs, V_take_all (by omega), V_take_all (by omega), hva, hvb]
        exact hle
      have hpre : ∀ (v : Nat) (z2 : List Int), (∀ j, j < i → z2.getD j 0 = zs.getD j 0) → z2.getD i 0 = v → ∀ j, j < i + 1 → z2.getD j 0 = (ws ++ [v]).getD j 0 := fun v z2 g1 g2 j hj => by
        by_cases hji : j = i
        · subst hji; rw [g2, getD_app_last hwl]
        · rw [g1 j (by omega), hz1 j (by omega), getD_app (by omega)]
      have hnew : ∀ v, v < 10000 → Lm (ws ++ [v]) := fun v hv => Lm_append.2 ⟨hwm, fun x hx => by simp at hx; omega⟩
      by_cases hy : i < ys.length
      · have g1 : (zs.set i (Z - (ys.getD i 0 : Nat))).getD i 0 = Z - (ys.getD i 0 : Nat) := getD_set (by omega)
        have l1 : (zs.set i (Z - (ys.getD i 0 : Nat))).length = xs.length := by simp [hzl]
        have l2 : ((zs.set i (Z - (ys.getD i 0 : Nat))).set i (Z - (ys.getD i 0 : Nat) + 10000)).length = xs.length := by simp [hzl]
        by_cases hv : ys.getD i 0 + b' ≤ xs.getD i 0
        · have k1 := key (xs.getD i 0 - b' - ys.getD i 0) 0 (by omega)
          have k2 := hpre (xs.getD i 0 - b' - ys.getD i 0) (zs.set i (Z - (ys.getD i 0 : Nat))) (fun j hj => getD_set_ne (by omega)) (by rw [g1]; omega)
          have k3 := hnew (xs.getD i 0 - b' - ys.getD i 0) (by omega)
          clear heq key htop hz2
          simp -implicitDefEqProofs (disch := omega) only [go_sem, ht, hs0, hs1, h6, h5, hH, hz, g1, reduceIte, ↓reduceIte, Nat.reduceEqDiff, Nat.reduceAdd, Nat.reduceMul, Nat.reduceSub, Nat.reduceLT, Nat.reduceLeDiff, Int.reduceToNat, Int.reduceLE, Int.reduceLT, Int.reduceAdd, Int.reduceMul, Int.reduceSub, Nat.sub_zero, Int.reducePow, Nat.reducePow, Int.reduceNeg, Int.reduceEq, Int.reduceNe, eq_self]
          exact ⟨⟨i + 1, 0, by omega, rfl, by omega, _, _, by simp [hzl], rfl, by simp [hwl], k3, k2, fun h => by rw [getD_set_ne (by omega), hz3 _ (by omega) h]; omega, fun j h1 h2 => by rw [getD_set_ne (by omega)]; exact hz3 j (by omega) h2, fun _ => rfl, k1⟩, by omega⟩
        · have hi1 : i + 1 < xs.length := by
            rcases Nat.lt_or_ge (i + 1) xs.length with h | h
            · exact h
            · exact absurd (htop (by omega)) hv
          have g2 : ((zs.set i (Z - (ys.getD i 0 : Nat))).set i (Z - (ys.getD i 0 : Nat) + 10000)).getD (i + 1) 0 = (xs.getD (i + 1) 0 : Nat) := by
            rw [getD_set_ne (by omega), getD_set_ne (by omega)]; exact hz3 _ (by omega) hi1
          have hxg1 := hxm.get (i + 1)
          have k1 := key (xs.getD i 0 + 10000 - b' - ys.getD i 0) 1 (by omega)
          have k2 := hpre (xs.getD i 0 + 10000 - b' - ys.getD i 0) (((zs.set i (Z - (ys.getD i 0 : Nat))).set i (Z - (ys.getD i 0 : Nat) + 10000)).set (i + 1) ((xs.getD (i + 1) 0 : Nat) - 1))
            (fun j hj => by rw [getD_set_ne (by omega), getD_set_ne (by omega), getD_set_ne (by omega)]) (by rw [getD_set_ne (by omega), getD_set (by simp; omega)]; omega)
          have k3 := hnew (xs.getD i 0 + 10000 - b' - ys.getD i 0) (by omega)
          clear heq key htop hz2
          simp -implicitDefEqProofs (disch := omega) only [go_sem, ht, hs0, hs1, h6, h5, hH, hz, g1, g2, reduceIte, ↓reduceIte, Nat.reduceEqDiff, Nat.reduceAdd, Nat.reduceMul, Nat.reduceSub, Nat.reduceLT, Nat.reduceLeDiff, Int.reduceToNat, Int.reduceLE, Int.reduceLT, Int.reduceAdd, Int.reduceMul, Int.reduceSub, Nat.sub_zero, Int.reducePow, Nat.reducePow, Int.reduceNeg, Int.reduceEq, Int.reduceNe, eq_self]
          exact ⟨⟨i + 1, 1, by omega, rfl, by omega, _, _, by simp [hzl], rfl, by simp [hwl], k3, k2, fun h => by rw [getD_set (by simp; omega)]; omega, fun j h1 h2 => by rw [getD_set_ne (by omega), getD_set_ne (by omega), getD_set_ne (by omega)]; exact hz3 j (by omega) h2, fun h => by omega, k1⟩, by omega⟩
      · have hy0 : ys.getD i 0 = 0 := by rw [List.getD_eq_getElem?_getD, List.getElem?_eq_none (by omega)]; rfl
        rw [hy0] at key htop
        by_cases hv : b' ≤ xs.getD i 0
        · have k1 := key (xs.getD i 0 - b') 0 (by omega)
          have k2 := hpre (xs.getD i 0 - b') zs (fun j hj => rfl) (by rw [hz]; omega)
          have k3 := hnew (xs.getD i 0 - b') (by omega)
          clear heq key htop hz2
          simp -implicitDefEqProofs (disch := omega) only [go_sem, ht, hs0, hs1, h6, h5, hH, hz, reduceIte, ↓reduceIte, Nat.reduceEqDiff, Nat.reduceAdd, Nat.reduceMul, Nat.reduceSub, Nat.reduceLT, Nat.reduceLeDiff, Int.reduceToNat, Int.reduceLE, Int.reduceLT, Int.reduceAdd, Int.reduceMul, Int.reduceSub, Nat.sub_zero, Int.reducePow, Nat.reducePow, Int.reduceNeg, Int.reduceEq, Int.reduceNe, eq_self]
          exact ⟨⟨i + 1, 0, by omega, rfl, by omega, _, _, hzl, rfl, by simp [hwl], k3, k2, fun h => by rw [hz3 _ (by omega) h]; omega, fun j h1 h2 => hz3 j (by omega) h2, fun _ => rfl, k1⟩, by omega⟩
        · have hi1 : i + 1 < xs.length := by
            rcases Nat.lt_or_ge (i + 1) xs.length with h | h
            · exact h
            · exact absurd (htop (by omega)) (by omega)
          have l1 : (zs.set i (Z + 10000)).length = xs.length := by simp [hzl]
          have g2 : (zs.set i (Z + 10000)).getD (i + 1) 0 = (xs.getD (i + 1) 0 : Nat) := by
            rw [getD_set_ne (by omega)]; exact hz3 _ (by omega) hi1
          have hxg1 := hxm.get (i + 1)
          have k1 := key (xs.getD i 0 + 10000 - b') 1 (by omega)
          have k2 := hpre (xs.getD i 0 + 10000 - b') ((zs.set i (Z + 10000)).set (i + 1) ((xs.getD (i + 1) 0 : Nat) - 1))
            (fun j hj => by rw [getD_set_ne (by omega), getD_set_ne (by omega)]) (by rw [getD_set_ne (by omega), getD_set (by omega)]; omega)
          have k3 := hnew (xs.getD i 0 + 10000 - b') (by omega)
          clear heq key htop hz2
          simp -implicitDefEqProofs (disch := omega) only [go_sem, ht, hs0, hs1, h6, h5, hH, hz, g2, reduceIte, ↓reduceIte, Nat.reduceEqDiff, Nat.reduceAdd, Nat.reduceMul, Nat.reduceSub, Nat.reduceLT, Nat.reduceLeDiff, Int.reduceToNat, Int.reduceLE, Int.reduceLT, Int.reduceAdd, Int.reduceMul, Int.reduceSub, Nat.sub_zero, Int.reducePow, Nat.reducePow, Int.reduceNeg, Int.reduceEq, Int.reduceNe, eq_self]
          exact ⟨⟨i + 1, 1, by omega, rfl, by omega, _, _, by simp [hzl], rfl, by simp [hwl], k3, k2, fun h => by rw [getD_set (by simp; omega)]; omega, fun j h1 h2 => by rw [getD_set_ne (by omega), getD_set_ne (by omega)]; exact hz3 j (by omega) h2, fun h => by omega, k1⟩, by omega⟩
end Go.Proofs.Ytbbncddbdflmbaa.Ref
