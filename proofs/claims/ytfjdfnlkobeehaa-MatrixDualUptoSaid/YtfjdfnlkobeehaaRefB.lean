/- The document's numbers: sums. The document's numbers: differences. The document's numbers: Add, Sub; its answers for layer 1. The document's numbers: products. -/
import Derived.Test.YtfjdfnlkobeehaaRefA
set_option maxRecDepth 100000
set_option linter.unusedVariables false
set_option linter.unusedSimpArgs false
namespace Go.Proofs.Ytfjdfnlkobeehaa.Ref

theorem V_take_all {xs : List Nat} {i : Nat} (h : xs.length ≤ i) : V (xs.take i) = V xs := by rw [List.take_of_length_le h]
theorem V_take_next (xs : List Nat) (i : Nat) : V (xs.take (i + 1)) = V (xs.take i) + 10000 ^ i * xs.getD i 0 := by
  rcases Nat.lt_or_ge i xs.length with h | h
  · exact V_take_succ xs h
  · rw [V_take_all h, V_take_all (by omega)]
    have : xs.getD i 0 = 0 := by rw [List.getD_eq_getElem?_getD, List.getElem?_eq_none h]; rfl
    rw [this, Nat.mul_zero, Nat.add_zero]
theorem arith8 {d P c A B x y s : Nat} (h : d + P * c = A + B) (hs : s = c + x + y) : (d + P * (s % 10000)) + (P * 10000) * (s / 10000) = (A + P * x) + (B + P * y) := by
  have h2 := Nat.mod_add_div s 10000
  generalize s % 10000 = r at *
  generalize s / 10000 = q at *
  rw [Nat.mul_assoc, Nat.add_assoc, ← Nat.mul_add, h2, hs, Nat.mul_add, Nat.mul_add]
  omega

theorem plus_calls {a b : Nat} (ha : Ok (D a)) (hb : Ok (D b)) : PT Try.prog 129 [SI (D a), SI (D b)] (isV (SI (D (a + b)))) := by
  have hal := ha.len
  have hbl := hb.len
  have hva := V_D a
  have hvb := V_D b
  have hma := D_len_mono (Nat.le_add_right a b)
  have hmb := D_len_mono (Nat.le_add_left b a)
  obtain ⟨M, hM, hM1, hM2, hM3⟩ : ∃ M, M ≤ (D (a + b)).length ∧ (D a).length ≤ M ∧ (D b).length ≤ M ∧ (M = (D a).length ∨ M = (D b).length) := by
    rcases Nat.le_total (D a).length (D b).length with h | h
    · exact ⟨(D b).length, hmb, h, Nat.le_refl _, .inr rfl⟩
    · exact ⟨(D a).length, hma, Nat.le_refl _, h, .inl rfl⟩
  clear hma hmb
  generalize hxs : D a = xs at *
  generalize hys : D b = ys at *
  have hxm : Lm xs := ha.lm
  have hym : Lm ys := hb.lm
  refine PCalls.enter (n := 52) (rs := [.tmp 4]) (tb := []) Try.func129 rfl rfl rfl (by kernel_rfl) (by kernel_rfl) (by simp) fun c hc ht => ?_
  simp -implicitDefEqProofs (disch := omega) only [go_sem, ht, eq_self]
  refine LW.ghost (Gh.nil 5 1 (by simp -implicitDefEqProofs (disch := omega) only [go_sem, ht, eq_self])) ?_
  refine LW.loopW hc ht (by kernel_rfl) (fun t => t.sl 0 = .sl xs.length (xs.map I) ∧ t.sl 1 = .sl ys.length (ys.map I) ∧ ∃ i c : Nat, t.sl 7 = .val (.int .i64 i) ∧ t.sl 6 = .val (.int .i64 c) ∧ c ≤ 1 ∧ i ≤ M + 1 ∧ (i = M + 1 → c = 0 ∧ i ≤ (D (a + b)).length) ∧
      ∃ (ds : List Nat) (id cap : Nat) (rest : List Value), ds.length = i ∧ t.sl 5 = .ref id 0 i cap 1 ∧ t.H id = some (ds.map I ++ rest.map .val) ∧ i + rest.length = cap ∧ id < t.nx ∧ Lm ds ∧ Hide (V ds + 10000 ^ i * c = V (xs.take i) + V (ys.take i)))
      (fun t => match t.sl 7 with | .val (.int _ i) => M + 2 - i.toNat | _ => 0) ?_ ?_
  · simp -implicitDefEqProofs (disch := omega) only [go_sem, ht, eq_self]
    exact ⟨0, 0, rfl, rfl, by omega, by omega, fun h => by omega, [], 0, 0, [], rfl, rfl, by rw [upd_self]; rfl, rfl, by omega, Lm_nil, Hide.mk (by simp [V])⟩
  · rintro t ⟨h0, h1, i, c', h7, h6, hc', hi, hlast, ds, id, cap, rest, hdl, h5, hH, hcap, hid, hdm, heq⟩
    have key : ∀ s, s = c' + xs.getD i 0 + ys.getD i 0 → Hide (V (ds ++ [s % 10000]) + 10000 ^ (i + 1) * (s / 10000) = V (xs.take (i + 1)) + V (ys.take (i + 1))) := by
      intro s hs
      refine Hide.mk ?_
      rw [V_append, hdl, V_cons, V_nil, Nat.mul_zero, Nat.add_zero, Nat.pow_succ, arith8 heq.out hs, V_take_next xs, V_take_next ys]
    have hnew : ∀ s, Lm (ds ++ [s % 10000]) := fun s => Lm_append.2 ⟨hdm, fun x hx => by simp at hx; omega⟩
    by_cases hx : i < xs.length
    · have hxg := hxm.get i
      by_cases hy : i < ys.length
      · have hyg := hym.get i
        have k1 := key _ rfl
        clear heq key
        simp -implicitDefEqProofs (disch := omega) only [go_sem, ht, h0, h1, h7, h6, h5, hH, eq_self]
        (refine append_own (by simp -implicitDefEqProofs (disch := omega) only [srcP_ref, srcP_sl, srcP_nil, Option.isSome_some, hH, go_sem, ht, eq_self] <;> rfl) (by simp -implicitDefEqProofs (disch := omega) only [srcP_ref, srcP_sl, srcP_nil, Option.isSome_some, hH, go_sem, ht, eq_self] <;> rfl) (by simp -implicitDefEqProofs (disch := omega) only [srcP_ref, srcP_sl, srcP_nil, Option.isSome_some, hH, go_sem, ht, eq_self] <;> rfl) (by simp -implicitDefEqProofs (disch := omega) only [srcP_ref, srcP_sl, srcP_nil, Option.isSome_some, hH, go_sem, ht, eq_self] <;> rfl) (by simp -implicitDefEqProofs (disch := omega) only [srcP_ref, srcP_sl, srcP_nil, Option.isSome_some, hH, go_sem, ht, eq_self] <;> rfl) (by simp -implicitDefEqProofs (disch := omega) only [srcP_ref, srcP_sl, srcP_nil, Option.isSome_some, hH, go_sem, ht, eq_self] <;> rfl) (by simp -implicitDefEqProofs (disch := omega) only [srcP_ref, srcP_sl, srcP_nil, Option.isSome_some, hH, go_sem, ht, eq_self] <;> rfl) (by simp -implicitDefEqProofs (disch := omega) only [srcP_ref, srcP_sl, srcP_nil, Option.isSome_some, hH, go_sem, ht, eq_self] <;> rfl) (by simp <;> omega) (by first | assumption | (simp <;> omega)) (by first | rfl | simp) (by first | omega | (simp <;> omega)) ?_; intro id1 cap1 rest1 H1 nx1 hH1 hcap1 hid1 hnx1 hfr1 hfs1; simp only [put_nx, withH_nx, put_H, withH_H] at hid1 hnx1 hfr1 hfs1; (try simp only [app_U, ← List.map_append] at hH1))
        simp only [app_I] at hH1
        simp -implicitDefEqProofs (disch := omega) only [go_sem, ht, h0, h1, h7, h6, h5, eq_self]
        exact ⟨⟨i + 1, _, rfl, rfl, by omega, by omega, fun h => by omega, _, id1, cap1, rest1, by simp [hdl], rfl, hH1, hcap1, by omega, hnew _, k1⟩, by omega⟩
      · have hy0 : ys.getD i 0 = 0 := by rw [List.getD_eq_getElem?_getD, List.getElem?_eq_none (by omega)]; rfl
        have k1 := key (c' + xs.getD i 0) (by rw [hy0, Nat.add_zero])
        clear heq key
        simp -implicitDefEqProofs (disch := omega) only [go_sem, ht, h0, h1, h7, h6, h5, hH, eq_self]
        (refine append_own (by simp -implicitDefEqProofs (disch := omega) only [srcP_ref, srcP_sl, srcP_nil, Option.isSome_some, hH, go_sem, ht, eq_self] <;> rfl) (by simp -implicitDefEqProofs (disch := omega) only [srcP_ref, srcP_sl, srcP_nil, Option.isSome_some, hH, go_sem, ht, eq_self] <;> rfl) (by simp -implicitDefEqProofs (disch := omega) only [srcP_ref, srcP_sl, srcP_nil, Option.isSome_some, hH, go_sem, ht, eq_self] <;> rfl) (by simp -implicitDefEqProofs (disch := omega) only [srcP_ref, srcP_sl, srcP_nil, Option.isSome_some, hH, go_sem, ht, eq_self] <;> rfl) (by simp -implicitDefEqProofs (disch := omega) only [srcP_ref, srcP_sl, srcP_nil, Option.isSome_some, hH, go_sem, ht, eq_self] <;> rfl) (by simp -implicitDefEqProofs (disch := omega) only [srcP_ref, srcP_sl, srcP_nil, Option.isSome_some, hH, go_sem, ht, eq_self] <;> rfl) (by simp -implicitDefEqProofs (disch := omega) only [srcP_ref, srcP_sl, srcP_nil, Option.isSome_some, hH, go_sem, ht, eq_self] <;> rfl) (by simp -implicitDefEqProofs (disch := omega) only [srcP_ref, srcP_sl, srcP_nil, Option.isSome_some, hH, go_sem, ht, eq_self] <;> rfl) (by simp <;> omega) (by first | assumption | (simp <;> omega)) (by first | rfl | simp) (by first | omega | (simp <;> omega)) ?_; intro id1 cap1 rest1 H1 nx1 hH1 hcap1 hid1 hnx1 hfr1 hfs1; simp only [put_nx, withH_nx, put_H, withH_H] at hid1 hnx1 hfr1 hfs1; (try simp only [app_U, ← List.map_append] at hH1))
        simp only [app_I] at hH1
        simp -implicitDefEqProofs (disch := omega) only [go_sem, ht, h0, h1, h7, h6, h5, eq_self]
        exact ⟨⟨i + 1, _, rfl, rfl, by omega, by omega, fun h => by omega, _, id1, cap1, rest1, by simp [hdl], rfl, hH1, hcap1, by omega, hnew _, k1⟩, by omega⟩
    · have hx0 : xs.getD i 0 = 0 := by rw [List.getD_eq_getElem?_getD, List.getElem?_eq_none (by omega)]; rfl
      by_cases hy : i < ys.length
      · have hyg := hym.get i
        have k1 := key (c' + ys.getD i 0) (by rw [hx0, Nat.add_zero])
        clear heq key
        simp -implicitDefEqProofs (disch := omega) only [go_sem, ht, h0, h1, h7, h6, h5, hH, eq_self]
        (refine append_own (by simp -implicitDefEqProofs (disch := omega) only [srcP_ref, srcP_sl, srcP_nil, Option.isSome_some, hH, go_sem, ht, eq_self] <;> rfl) (by simp -implicitDefEqProofs (disch := omega) only [srcP_ref, srcP_sl, srcP_nil, Option.isSome_some, hH, go_sem, ht, eq_self] <;> rfl) (by simp -implicitDefEqProofs (disch := omega) only [srcP_ref, srcP_sl, srcP_nil, Option.isSome_some, hH, go_sem, ht, eq_self] <;> rfl) (by simp -implicitDefEqProofs (disch := omega) only [srcP_ref, srcP_sl, srcP_nil, Option.isSome_some, hH, go_sem, ht, eq_self] <;> rfl) (by simp -implicitDefEqProofs (disch := omega) only [srcP_ref, srcP_sl, srcP_nil, Option.isSome_some, hH, go_sem, ht, eq_self] <;> rfl) (by simp -implicitDefEqProofs (disch := omega) only [srcP_ref, srcP_sl, srcP_nil, Option.isSome_some, hH, go_sem, ht, eq_self] <;> rfl) (by simp -implicitDefEqProofs (disch := omega) only [srcP_ref, srcP_sl, srcP_nil, Option.isSome_some, hH, go_sem, ht, eq_self] <;> rfl) (by simp -implicitDefEqProofs (disch := omega) only [srcP_ref, srcP_sl, srcP_nil, Option.isSome_some, hH, go_sem, ht, eq_self] <;> rfl) (by simp <;> omega) (by first | assumption | (simp <;> omega)) (by first | rfl | simp) (by first | omega | (simp <;> omega)) ?_; intro id1 cap1 rest1 H1 nx1 hH1 hcap1 hid1 hnx1 hfr1 hfs1; simp only [put_nx, withH_nx, put_H, withH_H] at hid1 hnx1 hfr1 hfs1; (try simp only [app_U, ← List.map_append] at hH1))
        simp only [app_I] at hH1
        simp -implicitDefEqProofs (disch := omega) only [go_sem, ht, h0, h1, h7, h6, h5, eq_self]
        exact ⟨⟨i + 1, _, rfl, rfl, by omega, by omega, fun h => by omega, _, id1, cap1, rest1, by simp [hdl], rfl, hH1, hcap1, by omega, hnew _, k1⟩, by omega⟩
      · have et : V (xs.take i) + V (ys.take i) = a + b := by rw [V_take_all (by omega), V_take_all (by omega), hva, hvb]
        by_cases hc0 : c' = 0
        · have e : D (a + b) = ds := by
            have h := heq.out
            rw [et, hc0, Nat.mul_zero, Nat.add_zero] at h
            rw [← h]
            refine D_of_len hdm ?_
            rw [h, hdl]
            rcases Nat.lt_or_ge M i with h2 | h2
            · exact (hlast (by omega)).2
            · omega
          rw [e]
          subst hdl
          simp -implicitDefEqProofs (disch := omega) only [go_sem, ht, h0, h1, h7, h6, h5, hH, eq_self]
          (refine end_treeN 2 ?_; simp -implicitDefEqProofs (disch := omega) only [go_sem, ht, h5, hH, eq_self])
          exact Nat.le_add_right _ _
        · have hc1 : c' = 1 := by omega
          subst hc1
          have hiM : i = M := by
            rcases Nat.lt_or_ge i (M + 1) with h | h
            · omega
            · exact absurd (hlast (by omega)).1 (by omega)
          have hbig : i + 1 ≤ (D (a + b)).length := by
            have h := heq.out
            rw [et, Nat.mul_one] at h
            have := (D_len_gt (n := a + b) (k := i)).2 (by rw [← h]; exact Nat.le_add_left _ _)
            omega
          have hy0 : ys.getD i 0 = 0 := by rw [List.getD_eq_getElem?_getD, List.getElem?_eq_none (by omega)]; rfl
          have k1 := key 1 (by rw [hx0, hy0])
          clear heq key
          simp -implicitDefEqProofs (disch := omega) only [go_sem, ht, h0, h1, h7, h6, h5, hH, eq_self]
          (refine append_own (by simp -implicitDefEqProofs (disch := omega) only [srcP_ref, srcP_sl, srcP_nil, Option.isSome_some, hH, go_sem, ht, eq_self] <;> rfl) (by simp -implicitDefEqProofs (disch := omega) only [srcP_ref, srcP_sl, srcP_nil, Option.isSome_some, hH, go_sem, ht, eq_self] <;> rfl) (by simp -implicitDefEqProofs (disch := omega) only [srcP_ref, srcP_sl, srcP_nil, Option.isSome_some, hH, go_sem, ht, eq_self] <;> rfl) (by simp -implicitDefEqProofs (disch := omega) only [srcP_ref, srcP_sl, srcP_nil, Option.isSome_some, hH, go_sem, ht, eq_self] <;> rfl) (by simp -implicitDefEqProofs (disch := omega) only [srcP_ref, srcP_sl, srcP_nil, Option.isSome_some, hH, go_sem, ht, eq_self] <;> rfl) (by simp -implicitDefEqProofs (disch := omega) only [srcP_ref, srcP_sl, srcP_nil, Option.isSome_some, hH, go_sem, ht, eq_self] <;> rfl) (by simp -implicitDefEqProofs (disch := omega) only [srcP_ref, srcP_sl, srcP_nil, Option.isSome_some, hH, go_sem, ht, eq_self] <;> rfl) (by simp -implicitDefEqProofs (disch := omega) only [srcP_ref, srcP_sl, srcP_nil, Option.isSome_some, hH, go_sem, ht, eq_self] <;> rfl) (by simp <;> omega) (by first | assumption | (simp <;> omega)) (by first | rfl | simp) (by first | omega | (simp <;> omega)) ?_; intro id1 cap1 rest1 H1 nx1 hH1 hcap1 hid1 hnx1 hfr1 hfs1; simp only [put_nx, withH_nx, put_H, withH_H] at hid1 hnx1 hfr1 hfs1; (try simp only [app_U, ← List.map_append] at hH1))
          simp only [app_I] at hH1
          simp -implicitDefEqProofs (disch := omega) only [go_sem, ht, h0, h1, h7, h6, h5, eq_self]
          exact ⟨⟨i + 1, 1 / 10000, rfl, rfl, by omega, by omega, fun _ => ⟨rfl, hbig⟩, _, id1, cap1, rest1, by simp [hdl], rfl, hH1, hcap1, by omega, hnew _, k1⟩, by omega⟩
end Go.Proofs.Ytfjdfnlkobeehaa.Ref

namespace Go.Proofs.Ytfjdfnlkobeehaa.Ref

theorem dropH_at (D : Nat → Bool) (H : Nat → Option (List PV)) (i : Nat) : dropH D H i = if D i = true then none else H i := rfl
theorem made_any {xs : List Nat} {neg : Bool} (h : Ok xs) : PT Try.prog 128 [.val (.bool neg), SI xs] (isV (NP (neg && decide (0 < V xs)) (V xs))) := by
  have hlen := h.short.len
  rw [NP_def]
  refine PCalls.enter (n := 15) (rs := [.cell 4 103]) (tb := []) Try.func128 rfl rfl rfl (by kernel_rfl) (by kernel_rfl) (by simp) fun c hc ht => ?_
  simp -implicitDefEqProofs (disch := omega) only [go_sem, ht, eq_self]
  cases neg
  · (refine pCall_view (by simp -implicitDefEqProofs (disch := omega) only [go_sem, ht, eq_self] <;> rfl) (by simp -implicitDefEqProofs (disch := omega) only [go_sem, ht, eq_self]) (by first | (apply Or.inl; simp -implicitDefEqProofs (disch := omega) only [go_sem, ht, eq_self]; done) | (apply Or.inr; rintro r rfl; rfl)) (cut_calls h) ?_; rintro _ nx - rfl hnx; (try simp only [put_nx, withH_nx, begP_nx] at hnx); simp -implicitDefEqProofs (disch := omega) only [go_sem, ht, eq_self])
    (refine end_treeN 2 ?_; simp -implicitDefEqProofs (disch := omega) only [go_sem, ht, eq_self])
    simp
  · by_cases h0 : V xs = 0
    · have hz : (D (V xs)).length = 0 := D_len_zero.2 h0
      have e : decide (0 < V xs) = false := by simp [h0]
      rw [e]
      (refine pCall_view (by simp -implicitDefEqProofs (disch := omega) only [go_sem, ht, eq_self] <;> rfl) (by simp -implicitDefEqProofs (disch := omega) only [go_sem, ht, eq_self]) (by first | (apply Or.inl; simp -implicitDefEqProofs (disch := omega) only [go_sem, ht, eq_self]; done) | (apply Or.inr; rintro r rfl; rfl)) (cut_calls h) ?_; rintro _ nx - rfl hnx; (try simp only [put_nx, withH_nx, begP_nx] at hnx); simp -implicitDefEqProofs (disch := omega) only [go_sem, ht, eq_self])
      (refine end_treeN 2 ?_; simp -implicitDefEqProofs (disch := omega) only [go_sem, ht, eq_self])
      rw [hz]; rfl
    · have hp := D_len_pos h0
      have e : decide (0 < V xs) = true := by simp; omega
      rw [e]
      (refine pCall_view (by simp -implicitDefEqProofs (disch := omega) only [go_sem, ht, eq_self] <;> rfl) (by simp -implicitDefEqProofs (disch := omega) only [go_sem, ht, eq_self]) (by first | (apply Or.inl; simp -implicitDefEqProofs (disch := omega) only [go_sem, ht, eq_self]; done) | (apply Or.inr; rintro r rfl; rfl)) (cut_calls h) ?_; rintro _ nx - rfl hnx; (try simp only [put_nx, withH_nx, begP_nx] at hnx); simp -implicitDefEqProofs (disch := omega) only [go_sem, ht, eq_self])
      (refine end_treeN 2 ?_; simp -implicitDefEqProofs (disch := omega) only [go_sem, ht, eq_self])
      rw [decide_eq_true (by omega)]

theorem minus_calls {n : Nat} {neg : Bool} (h : Ok (D n)) : PT Try.prog 108 [NP neg n] (isV (NP (!neg && decide (0 < n)) n)) := by
  have hlen := h.len
  have hm := made_any (neg := !neg) h
  rw [V_D] at hm
  rw [NP_def] at hm ⊢
  rw [NP_def] at *
  refine PCalls.enter (n := 10) (rs := [.cell 2 103]) (tb := [(1, [(0, []), (1, []), (2, []), (3, []), (4, []), (5, [0, 1, 2]), (6, []), (7, [])])]) Try.func108 rfl rfl rfl (by kernel_rfl) (by kernel_rfl) (by simp) fun c hc ht => ?_
  simp -implicitDefEqProofs (disch := omega) only [go_sem, ht, eq_self]
  refine append_nil (e := 3) (b := 8) (m := (D n).length) (z := .int .i64 0) (ys := (D n).map I) T23_elem rfl T3_size T3_bytes T3_zero (by simp -implicitDefEqProofs (disch := omega) only [go_sem, ht, srcP_sl, eq_self]) (by simp -implicitDefEqProofs (disch := omega) only [go_sem, ht, eq_self]) (by omega) (fun h0 => ?_) fun cap' rest' h1 h2 => ?_
  · have hn := D_len_zero.1 h0
    subst hn
    rw [D_zero] at hm ⊢
    simp -implicitDefEqProofs (disch := omega) only [go_sem, ht, eq_self]
    (refine pCall_view (by simp -implicitDefEqProofs (disch := omega) only [go_sem, ht, eq_self] <;> rfl) (by simp -implicitDefEqProofs (disch := omega) only [go_sem, ht, eq_self]) (by first | (apply Or.inl; simp -implicitDefEqProofs (disch := omega) only [go_sem, ht, eq_self]; done) | (apply Or.inr; rintro r rfl; rfl)) (hm) ?_; rintro _ nx - rfl hnx; (try simp only [put_nx, withH_nx, begP_nx] at hnx); simp -implicitDefEqProofs (disch := omega) only [go_sem, ht, eq_self])
    (refine end_treeN 2 ?_; simp -implicitDefEqProofs (disch := omega) only [go_sem, ht, eq_self])
  · simp -implicitDefEqProofs (disch := omega) only [go_sem, ht, eq_self]
    (refine pCall_frz (fun i => decide (i = 2)) 1 (by simp -implicitDefEqProofs (disch := omega) only [dropH_at, decide_eq_true_eq, if_pos, go_sem, ht, eq_self] <;> rfl) (by simp -implicitDefEqProofs (disch := omega) only [dropH_at, decide_eq_true_eq, if_pos, go_sem, ht, eq_self]) (by simp -implicitDefEqProofs (disch := omega) only [dropH_at, decide_eq_true_eq, if_pos, go_sem, ht, eq_self] <;> rfl) (by simp -implicitDefEqProofs (disch := omega) only [dropH_at, decide_eq_true_eq, if_pos, go_sem, ht, eq_self]) (hm) ?_; rintro _ nx - rfl hnx; (try simp only [put_nx, withH_nx, begP_nx] at hnx); simp -implicitDefEqProofs (disch := omega) only [dropH_at, decide_eq_true_eq, if_pos, go_sem, ht, eq_self])
    (refine end_treeN 2 ?_; simp -implicitDefEqProofs (disch := omega) only [go_sem, ht, dropH_at, decide_eq_true_eq, eq_self])

/-- An int. -/
def J (z : Int) : PV := .val (.int .i64 z)
theorem J_def (z : Int) : J z = .val (.int .i64 z) := rfl
theorem get_J {zs : List Int} {i : Nat} (l : List PV) (h : i < zs.length) : (zs.map J ++ l)[i]? = some (.val (.int .i64 (zs.getD i 0))) := by
  rw [List.getElem?_append_left (by simpa using h)]
  simp [h, J]
theorem set_J {zs : List Int} {i : Nat} {x : Int} (l : List PV) (h : i < zs.length) : spl (zs.map J ++ l) i [.val (.int .i64 x)] = (zs.set i x).map J ++ l := by
  unfold spl
  simp only [List.length_singleton]
  rw [List.take_append_of_le_length (by simpa using Nat.le_of_lt h), List.drop_append_of_le_length (by simp; omega), List.set_eq_take_append_cons_drop, if_pos h]
  simp [J]
theorem map_IJ (xs : List Nat) : xs.map I = (xs.map fun (x : Nat) => (x : Int)).map J := by simp [I, J]
attribute [go_sem] get_J set_J J_def
theorem getD_set {zs : List Int} {i : Nat} {x : Int} (h : i < zs.length) : (zs.set i x).getD i 0 = x := by
  rw [List.getD_eq_getElem?_getD, List.getElem?_set_self h]; rfl
theorem getD_set_ne {zs : List Int} {i j : Nat} {x : Int} (h : i ≠ j) : (zs.set i x).getD j 0 = zs.getD j 0 := by
  rw [List.getD_eq_getElem?_getD, List.getElem?_set_ne h, ← List.getD_eq_getElem?_getD]
theorem getD_cast (xs : List Nat) (j : Nat) : (xs.map fun (x : Nat) => (x : Int)).getD j 0 = (xs.getD j 0 : Nat) := by
  rw [List.getD_eq_getElem?_getD, List.getElem?_map, List.getD_eq_getElem?_getD]
  cases xs[j]? <;> rfl
theorem getD_app {ws : List Nat} {w j : Nat} (h : j < ws.length) : (ws ++ [w]).getD j 0 = ws.getD j 0 := by
  rw [List.getD_eq_getElem?_getD, List.getElem?_append_left h, ← List.getD_eq_getElem?_getD]
theorem getD_app_last {ws : List Nat} {w i : Nat} (h : ws.length = i) : (ws ++ [w]).getD i 0 = w := by
  subst h
  rw [List.getD_eq_getElem?_getD, List.getElem?_append_right (Nat.le_refl _)]; simp
theorem arith9 {w B A P b x y v b' : Nat} (h : w + B = A + P * b) (hv : v + y + b = x + 10000 * b') : (w + P * v) + (B + P * y) = (A + P * x) + (P * 10000) * b' := by
  have : P * (v + y + b) = P * (x + 10000 * b') := by rw [hv]
  simp only [Nat.mul_add] at this
  rw [Nat.mul_assoc]
  omega
theorem less_top {w A B P b x y : Nat} (hw : w < P) (h : w + B = A + P * b) (hle : B + P * y ≤ A + P * x) : y + b ≤ x := by
  rcases Nat.lt_or_ge x (y + b) with hlt | hge
  · exfalso
    have : P * (x + 1) ≤ P * (y + b) := Nat.mul_le_mul_left _ hlt
    simp only [Nat.mul_add, Nat.mul_one] at this
    omega
  · exact hge

/-- A difference, as less leaves it. -/
def lessL (a b : Nat) : List Nat := D (a - b) ++ List.replicate ((D a).length - (D (a - b)).length) 0
theorem lessL_V (a b : Nat) : V (lessL a b) = a - b := by unfold lessL; rw [V_append, V_repl, V_D, Nat.mul_zero, Nat.add_zero]
theorem lessL_lm (a b : Nat) : Lm (lessL a b) := Lm_append.2 ⟨Lm_D _, Lm_repl _⟩
theorem lessL_len {a b : Nat} : (lessL a b).length = (D a).length := by
  have := D_len_mono (Nat.sub_le a b)
  unfold lessL; simp; omega

theorem less_calls {a b : Nat} (ha : Ok (D a)) (hb : Ok (D b)) (h0 : a ≠ 0) (hle : b ≤ a) : PT Try.prog 131 [SI (D a), SI (D b)] (isV (SI (lessL a b))) := by
  have hal := ha.len
  have hbl := hb.len
  have hva := V_D a
  have hvb := V_D b
  have hmb := D_len_mono hle
  have hap := D_len_pos h0
  have hres : ∀ ws : List Nat, Lm ws → ws.length = (D a).length → V ws + b = a → ws = lessL a b := fun ws h1 h2 h3 =>
    V_inj h1 (lessL_lm a b) (by rw [lessL_len, h2]) (by rw [lessL_V]; omega)
  generalize lessL a b = res at *
  have hxm : Lm (D a) := ha.lm
  have hym : Lm (D b) := hb.lm
  generalize hxs : D a = xs at *
  generalize hys : D b = ys at *
  refine PCalls.enter (n := 55) (rs := [.tmp 4]) (tb := [(6, [(0, []), (1, []), (2, []), (3, []), (4, []), (5, []), (6, []), (7, []), (8, []), (9, []), (10, []), (11, []), (12, [])]), (1000006, [(0, []), (0, []), (0, []), (0, []), (12, []), (28, []), (0, []), (0, []), (192, []), (448, []), (1020, []), (2047, []), (4095, [])])]) Try.func131 rfl rfl rfl (by kernel_rfl) (by kernel_rfl) (by simp) fun c hc ht => ?_
  simp -implicitDefEqProofs (disch := omega) only [go_sem, ht, eq_self]
  refine append_nil (e := 3) (b := 8) (m := xs.length) (z := .int .i64 0) (ys := xs.map I) T23_elem rfl T3_size T3_bytes T3_zero (by simp -implicitDefEqProofs (disch := omega) only [go_sem, ht, srcP_sl, eq_self]) (by simp -implicitDefEqProofs (disch := omega) only [go_sem, ht, eq_self]) (by omega) (fun h0 => absurd h0 (by omega)) fun cap' rest' h1 h2 => ?_
  simp -implicitDefEqProofs (disch := omega) only [go_sem, ht, eq_self]
  refine LW.loopW hc ht (by kernel_rfl) (fun t => t.sl 0 = .sl xs.length (xs.map I) ∧ t.sl 1 = .sl ys.length (ys.map I) ∧ ∃ i b' : Nat, i ≤ xs.length ∧ t.sl 6 = .val (.int .i64 i) ∧ b' ≤ 1 ∧
      ∃ (zs : List Int) (ws : List Nat), zs.length = xs.length ∧ t.sl 5 = .ref 0 0 xs.length cap' 1 ∧ t.H 0 = some (zs.map J ++ rest'.map .val) ∧ ws.length = i ∧ Lm ws ∧ (∀ j, j < i → zs.getD j 0 = ws.getD j 0) ∧
        (i < xs.length → zs.getD i 0 = (xs.getD i 0 : Int) - b') ∧ (∀ j, i < j → j < xs.length → zs.getD j 0 = xs.getD j 0) ∧ (i = xs.length → b' = 0) ∧ Hide (V ws + V (ys.take i) = V (xs.take i) + 10000 ^ i * b'))
      (fun t => match t.sl 6 with | .val (.int _ i) => xs.length - i.toNat | _ => 0) ?_ ?_
  · simp -implicitDefEqProofs (disch := omega) only [go_sem, ht, eq_self]
    exact ⟨0, 0, Nat.zero_le _, rfl, by omega, xs.map fun (x : Nat) => (x : Int), [], by simp, by rw [map_IJ], rfl, Lm_nil, fun j h => by omega, fun h => by rw [getD_cast]; simp, fun j _ _ => getD_cast xs j, fun _ => rfl, Hide.mk (by simp [V])⟩
  · rintro t ⟨hs0, hs1, i, b', hi, h6, hb', zs, ws, hzl, h5, hH, hwl, hwm, hz1, hz2, hz3, hz4, heq⟩
    by_cases hil : i = xs.length
    · have hb0 := hz4 hil
      have e : ws = res := by
        refine hres ws hwm (by omega) ?_
        have h := heq.out
        rw [hb0, Nat.mul_zero, Nat.add_zero, V_take_all (by omega), V_take_all (by omega), hva, hvb] at h
        exact h
      have ez : zs.map J = res.map I := by
        rw [map_IJ]
        congr 1
        apply List.ext_getElem (by simp [hzl, ← e, hwl, hil])
        intro j h1 h2
        have := hz1 j (by omega)
        rw [e] at this
        simp at h2
        simpa [h1, h2] using this
      have hrl : res.length = xs.length := by rw [← e]; omega
      have hT := take_Il res (List.map PV.val rest')
      rw [hrl] at hT
      simp -implicitDefEqProofs (disch := omega) only [go_sem, ht, hs0, hs1, h6, h5, hH, ez, eq_self]
      (refine end_treeN 2 ?_; simp -implicitDefEqProofs (disch := omega) only [go_sem, ht, h5, hH, ez, hrl, hT, if_pos, eq_self])
    · have hlt : i < xs.length := by omega
      obtain ⟨Z, hZ⟩ : ∃ Z, Z = (xs.getD i 0 : Int) - b' := ⟨_, rfl⟩
      have hz := hz2 hlt
      rw [← hZ] at hz
      have hxg := hxm.get i
      have hyg := hym.get i
      have key : ∀ v b2 : Nat, v + ys.getD i 0 + b' = xs.getD i 0 + 10000 * b2 → Hide (V (ws ++ [v]) + V (ys.take (i + 1)) = V (xs.take (i + 1)) + 10000 ^ (i + 1) * b2) := fun v b2 hv => by
        refine Hide.mk ?_
        rw [V_append, hwl, V_cons, V_nil, Nat.mul_zero, Nat.add_zero, V_take_next ys, V_take_next xs, Nat.pow_succ]
        exact arith9 heq.out hv
      have htop : i + 1 = xs.length → ys.getD i 0 + b' ≤ xs.getD i 0 := fun h => by
        have hw := V_lt hwm
        rw [hwl] at hw
        refine less_top hw heq.out ?_
        rw [← V_take_next ys, ← V_take_next xs, V_take_all (by omega), V_take_all (by omega), hva, hvb]
        exact hle
      have hpre : ∀ (v : Nat) (z2 : List Int), (∀ j, j < i → z2.getD j 0 = zs.getD j 0) → z2.getD i 0 = v → ∀ j, j < i + 1 → z2.getD j 0 = (ws ++ [v]).getD j 0 := fun v z2 g1 g2 j hj => by
        by_cases hji : j = i
        · subst hji; rw [g2, getD_app_last hwl]
        · rw [g1 j (by omega), hz1 j (by omega), getD_app (by omega)]
      have hnew : ∀ v, v < 10000 → Lm (ws ++ [v]) := fun v hv => Lm_append.2 ⟨hwm, fun x hx => by simp at hx; omega⟩
      by_cases hy : i < ys.length
      · have g1 : (zs.set i (Z - (ys.getD i 0 : Nat))).getD i 0 = Z - (ys.getD i 0 : Nat) := getD_set (by omega)
        have l1 : (zs.set i (Z - (ys.getD i 0 : Nat))).length = xs.length := by simp [hzl]
        have l2 : ((zs.set i (Z - (ys.getD i 0 : Nat))).set i (Z - (ys.getD i 0 : Nat) + 10000)).length = xs.length := by simp [hzl]
        by_cases hv : ys.getD i 0 + b' ≤ xs.getD i 0
        · have k1 := key (xs.getD i 0 - b' - ys.getD i 0) 0 (by omega)
          have k2 := hpre (xs.getD i 0 - b' - ys.getD i 0) (zs.set i (Z - (ys.getD i 0 : Nat))) (fun j hj => getD_set_ne (by omega)) (by rw [g1]; omega)
          have k3 := hnew (xs.getD i 0 - b' - ys.getD i 0) (by omega)
          clear heq key htop hz2
          simp -implicitDefEqProofs (disch := omega) only [go_sem, ht, hs0, hs1, h6, h5, hH, hz, g1, eq_self]
          exact ⟨⟨i + 1, 0, by omega, rfl, by omega, _, _, by simp [hzl], rfl, by simp [hwl], k3, k2, fun h => by rw [getD_set_ne (by omega), hz3 _ (by omega) h]; omega, fun j h1 h2 => by rw [getD_set_ne (by omega)]; exact hz3 j (by omega) h2, fun _ => rfl, k1⟩, by omega⟩
        · have hi1 : i + 1 < xs.length := by
            rcases Nat.lt_or_ge (i + 1) xs.length with h | h
            · exact h
            · exact absurd (htop (by omega)) hv
          have g2 : ((zs.set i (Z - (ys.getD i 0 : Nat))).set i (Z - (ys.getD i 0 : Nat) + 10000)).getD (i + 1) 0 = (xs.getD (i + 1) 0 : Nat) := by
            rw [getD_set_ne (by omega), getD_set_ne (by omega)]; exact hz3 _ (by omega) hi1
          have hxg1 := hxm.get (i + 1)
          have k1 := key (xs.getD i 0 + 10000 - b' - ys.getD i 0) 1 (by omega)
          have k2 := hpre (xs.getD i 0 + 10000 - b' - ys.getD i 0) (((zs.set i (Z - (ys.getD i 0 : Nat))).set i (Z - (ys.getD i 0 : Nat) + 10000)).set (i + 1) ((xs.getD (i + 1) 0 : Nat) - 1))
            (fun j hj => by rw [getD_set_ne (by omega), getD_set_ne (by omega), getD_set_ne (by omega)]) (by rw [getD_set_ne (by omega), getD_set (by simp; omega)]; omega)
          have k3 := hnew (xs.getD i 0 + 10000 - b' - ys.getD i 0) (by omega)
          clear heq key htop hz2
          simp -implicitDefEqProofs (disch := omega) only [go_sem, ht, hs0, hs1, h6, h5, hH, hz, g1, g2, eq_self]
          exact ⟨⟨i + 1, 1, by omega, rfl, by omega, _, _, by simp [hzl], rfl, by simp [hwl], k3, k2, fun h => by rw [getD_set (by simp; omega)]; omega, fun j h1 h2 => by rw [getD_set_ne (by omega), getD_set_ne (by omega), getD_set_ne (by omega)]; exact hz3 j (by omega) h2, fun h => by omega, k1⟩, by omega⟩
      · have hy0 : ys.getD i 0 = 0 := by rw [List.getD_eq_getElem?_getD, List.getElem?_eq_none (by omega)]; rfl
        rw [hy0] at key htop
        by_cases hv : b' ≤ xs.getD i 0
        · have k1 := key (xs.getD i 0 - b') 0 (by omega)
          have k2 := hpre (xs.getD i 0 - b') zs (fun j hj => rfl) (by rw [hz]; omega)
          have k3 := hnew (xs.getD i 0 - b') (by omega)
          clear heq key htop hz2
          simp -implicitDefEqProofs (disch := omega) only [go_sem, ht, hs0, hs1, h6, h5, hH, hz, eq_self]
          exact ⟨⟨i + 1, 0, by omega, rfl, by omega, _, _, hzl, rfl, by simp [hwl], k3, k2, fun h => by rw [hz3 _ (by omega) h]; omega, fun j h1 h2 => hz3 j (by omega) h2, fun _ => rfl, k1⟩, by omega⟩
        · have hi1 : i + 1 < xs.length := by
            rcases Nat.lt_or_ge (i + 1) xs.length with h | h
            · exact h
            · exact absurd (htop (by omega)) (by omega)
          have l1 : (zs.set i (Z + 10000)).length = xs.length := by simp [hzl]
          have g2 : (zs.set i (Z + 10000)).getD (i + 1) 0 = (xs.getD (i + 1) 0 : Nat) := by
            rw [getD_set_ne (by omega)]; exact hz3 _ (by omega) hi1
          have hxg1 := hxm.get (i + 1)
          have k1 := key (xs.getD i 0 + 10000 - b') 1 (by omega)
          have k2 := hpre (xs.getD i 0 + 10000 - b') ((zs.set i (Z + 10000)).set (i + 1) ((xs.getD (i + 1) 0 : Nat) - 1))
            (fun j hj => by rw [getD_set_ne (by omega), getD_set_ne (by omega)]) (by rw [getD_set_ne (by omega), getD_set (by omega)]; omega)
          have k3 := hnew (xs.getD i 0 + 10000 - b') (by omega)
          clear heq key htop hz2
          simp -implicitDefEqProofs (disch := omega) only [go_sem, ht, hs0, hs1, h6, h5, hH, hz, g2, eq_self]
          exact ⟨⟨i + 1, 1, by omega, rfl, by omega, _, _, by simp [hzl], rfl, by simp [hwl], k3, k2, fun h => by rw [getD_set (by simp; omega)]; omega, fun j h1 h2 => by rw [getD_set_ne (by omega), getD_set_ne (by omega)]; exact hz3 j (by omega) h2, fun h => by omega, k1⟩, by omega⟩
end Go.Proofs.Ytfjdfnlkobeehaa.Ref

namespace Go.Proofs.Ytfjdfnlkobeehaa.Ref

theorem nadd_calls {a b : Nat} (ha : Ok (D a)) (hb : Ok (D b)) (hab : Ok (D (a + b))) : PT Try.prog 109 [NP false a, NP false b] (isV (NP false (a + b))) := by
  have hp := plus_calls ha hb
  have hm := made_calls hab
  rw [V_D] at hm
  rw [NP_def] at hm
  rw [NP_def, NP_def, NP_def]
  refine PCalls.enter (n := 38) (rs := [.cell 4 103]) (tb := [(2, [(0, []), (1, []), (2, []), (3, []), (4, []), (5, []), (6, [0, 1]), (7, []), (8, [])]), (4, [(0, []), (1, []), (2, []), (3, []), (4, []), (5, []), (6, [0, 1]), (7, []), (8, [])]), (5, [(0, []), (1, []), (2, []), (3, []), (4, []), (5, []), (6, [0, 1]), (7, []), (8, [])])]) Try.func109 rfl rfl rfl (by kernel_rfl) (by kernel_rfl) (by simp) fun c hc ht => ?_
  simp -implicitDefEqProofs (disch := omega) only [go_sem, ht, eq_self]
  (refine pCall_view (by simp -implicitDefEqProofs (disch := omega) only [go_sem, ht, eq_self] <;> rfl) (by simp -implicitDefEqProofs (disch := omega) only [go_sem, ht, eq_self]) (by first | (apply Or.inl; simp -implicitDefEqProofs (disch := omega) only [go_sem, ht, eq_self]; done) | (apply Or.inr; rintro r rfl; rfl)) (hp) ?_; rintro _ nx - rfl hnx; (try simp only [put_nx, withH_nx, begP_nx] at hnx); simp -implicitDefEqProofs (disch := omega) only [go_sem, ht, eq_self])
  (refine pCall_view (by simp -implicitDefEqProofs (disch := omega) only [go_sem, ht, eq_self] <;> rfl) (by simp -implicitDefEqProofs (disch := omega) only [go_sem, ht, eq_self]) (by first | (apply Or.inl; simp -implicitDefEqProofs (disch := omega) only [go_sem, ht, eq_self]; done) | (apply Or.inr; rintro r rfl; rfl)) (hm) ?_; rintro _ nx - rfl hnx; (try simp only [put_nx, withH_nx, begP_nx] at hnx); simp -implicitDefEqProofs (disch := omega) only [go_sem, ht, eq_self])
  (refine end_treeN 2 ?_; simp -implicitDefEqProofs (disch := omega) only [go_sem, ht, eq_self])

theorem nsub_calls {a b : Nat} (ha : Ok (D a)) (hb : Ok (D b)) (h0 : a ≠ 0) (hle : b ≤ a) : PT Try.prog 109 [NP false a, NP true b] (isV (NP false (a - b))) := by
  have hl := less_calls ha hb h0 hle
  have hsz := size_calls (f := false) (g := true) ha hb
  have hge : 0 ≤ cmpI a b := by
    unfold cmpI; split
    · omega
    · split <;> omega
  generalize cmpI a b = cm at *
  have hm := made_calls (xs := lessL a b) ⟨lessL_lm a b, by rw [lessL_len]; exact ha.len⟩
  rw [lessL_V, NP_def] at hm
  rw [NP_def, NP_def] at hsz
  rw [NP_def, NP_def, NP_def]
  refine PCalls.enter (n := 38) (rs := [.cell 4 103]) (tb := [(2, [(0, []), (1, []), (2, []), (3, []), (4, []), (5, []), (6, [0, 1]), (7, []), (8, [])]), (4, [(0, []), (1, []), (2, []), (3, []), (4, []), (5, []), (6, [0, 1]), (7, []), (8, [])]), (5, [(0, []), (1, []), (2, []), (3, []), (4, []), (5, []), (6, [0, 1]), (7, []), (8, [])])]) Try.func109 rfl rfl rfl (by kernel_rfl) (by kernel_rfl) (by simp) fun c hc ht => ?_
  simp -implicitDefEqProofs (disch := omega) only [go_sem, ht, eq_self]
  (refine pCall_view (by simp -implicitDefEqProofs (disch := omega) only [go_sem, ht, eq_self] <;> rfl) (by simp -implicitDefEqProofs (disch := omega) only [go_sem, ht, eq_self]) (by first | (apply Or.inl; simp -implicitDefEqProofs (disch := omega) only [go_sem, ht, eq_self]; done) | (apply Or.inr; rintro r rfl; rfl)) (hsz) ?_; rintro _ nx - rfl hnx; (try simp only [put_nx, withH_nx, begP_nx] at hnx); simp -implicitDefEqProofs (disch := omega) only [go_sem, ht, eq_self])
  (refine pCall_view (by simp -implicitDefEqProofs (disch := omega) only [go_sem, ht, eq_self] <;> rfl) (by simp -implicitDefEqProofs (disch := omega) only [go_sem, ht, eq_self]) (by first | (apply Or.inl; simp -implicitDefEqProofs (disch := omega) only [go_sem, ht, eq_self]; done) | (apply Or.inr; rintro r rfl; rfl)) (hl) ?_; rintro _ nx - rfl hnx; (try simp only [put_nx, withH_nx, begP_nx] at hnx); simp -implicitDefEqProofs (disch := omega) only [go_sem, ht, eq_self])
  (refine pCall_view (by simp -implicitDefEqProofs (disch := omega) only [go_sem, ht, eq_self] <;> rfl) (by simp -implicitDefEqProofs (disch := omega) only [go_sem, ht, eq_self]) (by first | (apply Or.inl; simp -implicitDefEqProofs (disch := omega) only [go_sem, ht, eq_self]; done) | (apply Or.inr; rintro r rfl; rfl)) (hm) ?_; rintro _ nx - rfl hnx; (try simp only [put_nx, withH_nx, begP_nx] at hnx); simp -implicitDefEqProofs (disch := omega) only [go_sem, ht, eq_self])
  (refine end_treeN 2 ?_; simp -implicitDefEqProofs (disch := omega) only [go_sem, ht, eq_self])

theorem nminus_calls {a b : Nat} (ha : Ok (D a)) (hb : Ok (D b)) (hle : b ≤ a) : PT Try.prog 122 [NP false a, NP false b] (isV (NP false (a - b))) := by
  have hmi := minus_calls (neg := false) hb
  by_cases h0 : b = 0
  · have e : (!false && decide (0 < b)) = false := by simp [h0]
    have hab : Ok (D (a + b)) := by rw [h0]; exact ha
    have had := nadd_calls ha hb hab
    rw [e] at hmi
    have e2 : a - b = a + b := by omega
    rw [e2]
    rw [NP_def] at hmi had ⊢
    rw [NP_def, NP_def] at *
    refine PCalls.enter (n := 9) (rs := [.cell 4 103]) (tb := [(1, [(0, []), (1, []), (2, [0]), (3, []), (4, [])])]) Try.func122 rfl rfl rfl (by kernel_rfl) (by kernel_rfl) (by simp) fun c hc ht => ?_
    simp -implicitDefEqProofs (disch := omega) only [go_sem, ht, eq_self]
    (refine pCall_view (by simp -implicitDefEqProofs (disch := omega) only [go_sem, ht, eq_self] <;> rfl) (by simp -implicitDefEqProofs (disch := omega) only [go_sem, ht, eq_self]) (by first | (apply Or.inl; simp -implicitDefEqProofs (disch := omega) only [go_sem, ht, eq_self]; done) | (apply Or.inr; rintro r rfl; rfl)) (hmi) ?_; rintro _ nx - rfl hnx; (try simp only [put_nx, withH_nx, begP_nx] at hnx); simp -implicitDefEqProofs (disch := omega) only [go_sem, ht, eq_self])
    (refine pCall_view (by simp -implicitDefEqProofs (disch := omega) only [go_sem, ht, eq_self] <;> rfl) (by simp -implicitDefEqProofs (disch := omega) only [go_sem, ht, eq_self]) (by first | (apply Or.inl; simp -implicitDefEqProofs (disch := omega) only [go_sem, ht, eq_self]; done) | (apply Or.inr; rintro r rfl; rfl)) (had) ?_; rintro _ nx - rfl hnx; (try simp only [put_nx, withH_nx, begP_nx] at hnx); simp -implicitDefEqProofs (disch := omega) only [go_sem, ht, eq_self])
    (refine end_treeN 2 ?_; simp -implicitDefEqProofs (disch := omega) only [go_sem, ht, eq_self])
  · have e : (!false && decide (0 < b)) = true := by simp; omega
    have had := nsub_calls ha hb (by omega) hle
    rw [e] at hmi
    rw [NP_def, NP_def] at hmi
    rw [NP_def, NP_def, NP_def] at had
    rw [NP_def, NP_def, NP_def]
    refine PCalls.enter (n := 9) (rs := [.cell 4 103]) (tb := [(1, [(0, []), (1, []), (2, [0]), (3, []), (4, [])])]) Try.func122 rfl rfl rfl (by kernel_rfl) (by kernel_rfl) (by simp) fun c hc ht => ?_
    simp -implicitDefEqProofs (disch := omega) only [go_sem, ht, eq_self]
    (refine pCall_view (by simp -implicitDefEqProofs (disch := omega) only [go_sem, ht, eq_self] <;> rfl) (by simp -implicitDefEqProofs (disch := omega) only [go_sem, ht, eq_self]) (by first | (apply Or.inl; simp -implicitDefEqProofs (disch := omega) only [go_sem, ht, eq_self]; done) | (apply Or.inr; rintro r rfl; rfl)) (hmi) ?_; rintro _ nx - rfl hnx; (try simp only [put_nx, withH_nx, begP_nx] at hnx); simp -implicitDefEqProofs (disch := omega) only [go_sem, ht, eq_self])
    (refine pCall_view (by simp -implicitDefEqProofs (disch := omega) only [go_sem, ht, eq_self] <;> rfl) (by simp -implicitDefEqProofs (disch := omega) only [go_sem, ht, eq_self]) (by first | (apply Or.inl; simp -implicitDefEqProofs (disch := omega) only [go_sem, ht, eq_self]; done) | (apply Or.inr; rintro r rfl; rfl)) (had) ?_; rintro _ nx - rfl hnx; (try simp only [put_nx, withH_nx, begP_nx] at hnx); simp -implicitDefEqProofs (disch := omega) only [go_sem, ht, eq_self])
    (refine end_treeN 2 ?_; simp -implicitDefEqProofs (disch := omega) only [go_sem, ht, eq_self])

theorem add_D' {xs ys : List Nat} (hx : Ytfjdfnlkobeehaa.Lm xs) (hxl : xs.length ≤ 10000) (hy : Ytfjdfnlkobeehaa.Lm ys) (hyl : ys.length ≤ 10000) : Ok (D (Ytfjdfnlkobeehaa.V xs + Ytfjdfnlkobeehaa.V ys)) ∧ (Ytfjdfnlkobeehaa.D (Ytfjdfnlkobeehaa.V xs + Ytfjdfnlkobeehaa.V ys)).length ≤ 1099511627776 := by
  obtain ⟨K, hK, h1, h2⟩ : ∃ K, K ≤ 10000 ∧ xs.length ≤ K ∧ ys.length ≤ K := ⟨10000, Nat.le_refl _, hxl, hyl⟩
  have v1 := Nat.lt_of_lt_of_le (Ytfjdfnlkobeehaa.V_lt hx) (Nat.pow_le_pow_right (by decide) h1)
  have v2 := Nat.lt_of_lt_of_le (Ytfjdfnlkobeehaa.V_lt hy) (Nat.pow_le_pow_right (by decide) h2)
  have v3 : Ytfjdfnlkobeehaa.V xs + Ytfjdfnlkobeehaa.V ys < 4294967296 ^ (K + 1) := by
    rw [Nat.pow_succ]
    generalize 4294967296 ^ K = P at *
    omega
  have h3 := Ytfjdfnlkobeehaa.D_len_le.2 v3
  have v4 : Ytfjdfnlkobeehaa.V xs + Ytfjdfnlkobeehaa.V ys < 10000 ^ (3 * (K + 1)) := by
    rw [Nat.pow_mul]
    exact Nat.lt_of_lt_of_le v3 (Nat.pow_le_pow_left (by decide) _)
  have h4 := D_len_le.2 v4
  exact ⟨⟨Lm_D _, by omega⟩, by omega⟩

-- left out: rafterref01.Add
-- left out: rafterref01.Sub
end Go.Proofs.Ytfjdfnlkobeehaa.Ref

namespace Go.Proofs.Ytfjdfnlkobeehaa.Ref

theorem V_set {zs : List Nat} {k v : Nat} (h : k < zs.length) : V (zs.set k v) + 10000 ^ k * zs.getD k 0 = V zs + 10000 ^ k * v := by
  induction zs generalizing k with
  | nil => simp at h
  | cons z zs ih =>
    cases k with
    | zero => simp [V]; omega
    | succ k =>
      have := ih (k := k) (by simpa using h)
      simp only [List.set_cons_succ, V, Nat.pow_succ, List.getD_cons_succ]
      have h2 : 10000 * (V (zs.set k v) + 10000 ^ k * zs.getD k 0) = 10000 * (V zs + 10000 ^ k * v) := by rw [this]
      rw [Nat.mul_add, Nat.mul_add, ← Nat.mul_assoc, ← Nat.mul_assoc, Nat.mul_comm 10000 (10000 ^ k)] at h2
      omega
theorem V_set_take {zs : List Nat} {k n v : Nat} (h : k < n) (hn : n ≤ zs.length) : V ((zs.set k v).take n) + 10000 ^ k * zs.getD k 0 = V (zs.take n) + 10000 ^ k * v := by
  have := V_set (zs := zs.take n) (k := k) (v := v) (by simp; omega)
  rw [← List.take_set, List.getD_eq_getElem?_getD, List.getElem?_take, if_pos h, ← List.getD_eq_getElem?_getD] at this
  exact this
theorem mul_step {zs vs : List Nat} {A x y c i j m P : Nat} (hm : j < m) (hz : i + m ≤ zs.length) (hv : V (vs.take (j + 1)) = V (vs.take j) + 10000 ^ j * y) (h : V (zs.take (i + m)) + 10000 ^ (i + j) * c = P + 10000 ^ i * (x * V (vs.take j))) :
    V ((zs.set (i + j) ((c + (x * y + zs.getD (i + j) 0)) % 10000)).take (i + m)) + 10000 ^ (i + (j + 1)) * ((c + (x * y + zs.getD (i + j) 0)) / 10000) = P + 10000 ^ i * (x * V (vs.take (j + 1))) := by
  have h1 := V_set_take (zs := zs) (k := i + j) (n := i + m) (v := (c + (x * y + zs.getD (i + j) 0)) % 10000) (by omega) hz
  generalize zs.getD (i + j) 0 = z at *
  have h2 := Nat.mod_add_div (c + (x * y + z)) 10000
  generalize (c + (x * y + z)) % 10000 = r at *
  generalize (c + (x * y + z)) / 10000 = q at *
  have h3 : 10000 ^ (i + j) * (r + 10000 * q) = 10000 ^ (i + j) * (c + (x * y + z)) := by rw [h2]
  have h4 : 10000 ^ i * (x * V (vs.take (j + 1))) = 10000 ^ i * (x * V (vs.take j)) + 10000 ^ (i + j) * (x * y) := by
    rw [hv, Nat.mul_add, Nat.mul_add, Nat.pow_add, Nat.mul_left_comm x, Nat.mul_assoc]
  rw [h4, ← Nat.add_assoc i j 1, Nat.pow_succ, Nat.mul_assoc]
  rw [Nat.mul_add, Nat.mul_add, Nat.mul_add] at h3
  omega
theorem mul_end {us zs : List Nat} {c i m W : Nat} (hi : i < us.length) (hz : i + m < zs.length) (h : V (zs.take (i + m)) + 10000 ^ (i + m) * c = V (us.take i) * W + 10000 ^ i * (us.getD i 0 * W)) :
    V ((zs.set (i + m) c).take (i + 1 + m)) = V (us.take (i + 1)) * W := by
  rw [Nat.add_right_comm, V_take_succ _ (by simpa using hz), List.take_set_of_le (Nat.le_refl _), List.getD_eq_getElem?_getD, List.getElem?_set_self hz, V_take_succ us hi, Nat.add_mul, Nat.mul_assoc, ← h]
  rfl

theorem nmul_any {f g : Bool} {a b : Nat} (ha : Ok (D a)) (hb : Ok (D b)) (hab : (D a).length + (D b).length + 1 ≤ 1099511627776) : PT Try.prog 106 [NP f a, NP g b] (isV (NP ((f != g) && decide (0 < a * b)) (a * b))) := by
  have hal := ha.len
  have hbl := hb.len
  have e : a * b = V (D a) * V (D b) := by rw [V_D, V_D]
  rw [e]
  clear e
  rw [NP_def, NP_def]
  have hx' := ha.lm
  have hy' := hb.lm
  generalize D a = us at *
  generalize D b = vs at *
  refine PCalls.enter (n := 85) (rs := [.cell 4 103]) (tb := [(9, [(0, []), (1, []), (2, []), (3, []), (4, []), (5, []), (6, []), (7, []), (8, []), (9, []), (10, []), (11, []), (12, []), (13, []), (14, []), (15, []), (16, []), (17, []), (18, []), (19, []), (20, [])]), (1000009, [(0, []), (0, []), (0, []), (0, []), (12, []), (30, []), (62, []), (127, []), (0, []), (256, []), (0, []), (1792, []), (3840, []), (0, []), (8192, []), (0, []), (57344, []), (122880, []), (261888, []), (524287, []), (1048575, [])]), (12, [(0, []), (1, []), (2, []), (3, []), (4, []), (5, []), (6, []), (7, []), (8, []), (9, []), (10, []), (11, []), (12, []), (13, []), (14, []), (15, []), (16, []), (17, [])]), (1000012, [(0, []), (0, []), (0, []), (4, []), (12, []), (30, []), (0, []), (0, []), (0, []), (256, []), (768, []), (1920, []), (4032, []), (8128, []), (0, []), (32704, []), (65535, []), (131071, [])])]) Try.func106 rfl rfl rfl (by kernel_rfl) (by kernel_rfl) (by simp) fun c hc ht => ?_
  simp -implicitDefEqProofs (disch := omega) only [go_sem, ht, eq_self]
  refine LW.loopW hc ht (by kernel_rfl) (fun s => s.sl 2 = .ptr 0 0 ∧ s.sl 3 = .ptr 1 0 ∧ s.sl 4 = .ptr 2 0 ∧ s.H 0 = some [.val (.bool f), .sl us.length (us.map I)] ∧ s.H 1 = some [.val (.bool g), .sl vs.length (vs.map I)] ∧ s.H 2 = some [.val (.bool false), .val (.slice none 0 0)] ∧
      s.sl 5 = .ref 3 0 (us.length + vs.length + 1) (us.length + vs.length + 1) 1 ∧ 3 < s.nx ∧ ∃ i : Nat, i ≤ us.length ∧ s.sl 6 = .val (.int .i64 i) ∧
      ∃ zs : List Nat, zs.length = us.length + vs.length + 1 ∧ s.H 3 = some (zs.map I) ∧ Lm zs ∧ (∀ j, i + vs.length ≤ j → zs.getD j 0 = 0) ∧ Hide (V (zs.take (i + vs.length)) = V (us.take i) * V vs))
      (fun s => match s.sl 6 with | .val (.int _ i) => us.length - i.toNat | _ => 0) ?_ ?_
  · simp -implicitDefEqProofs (disch := omega) only [go_sem, ht, eq_self]
    exact ⟨0, Nat.zero_le _, rfl, List.replicate (us.length + vs.length + 1) 0, by simp, rfl, Lm_repl _, fun j _ => by rw [List.getD_eq_getElem?_getD, List.getElem?_replicate]; split <;> rfl, Hide.mk (by rw [List.take_replicate, V_repl]; simp [V])⟩
  · rintro s ⟨h2, h3, h4, hH0, hH1, hH2, h5, hnx3, i, hi, h6, zs, hzl, hH, hzm, hz0, heq⟩
    by_cases hil : i = us.length
    · have e : V us * V vs = V zs := by
        have h1 := heq.out
        have h2 := V_split zs (i := i + vs.length) (by omega)
        have h3 : V (zs.drop (i + vs.length)) = 0 := V_zero_of fun j hj => by
          rw [List.getD_eq_getElem?_getD, List.getElem?_drop, ← List.getD_eq_getElem?_getD]
          exact hz0 _ (Nat.le_add_right _ _)
        rw [h3, Nat.mul_zero, Nat.add_zero, h1, hil, List.take_length] at h2
        exact h2.symm
      have hmd := made_any (xs := zs) (neg := f != g) ⟨hzm, by omega⟩
      rw [SI_def, hzl] at hmd
      rw [e]
      generalize ((f != g) && decide (0 < V zs)) = sfg at *
      rw [NP_def] at hmd ⊢
      have hT : List.take (us.length + vs.length + 1) (zs.map I) = zs.map I := List.take_of_length_le (by simp [hzl])
      simp -implicitDefEqProofs (disch := omega) only [go_sem, ht, h2, h3, h4, h5, h6, hH0, hH1, hH2, hH, eq_self]
      (refine pCall_frz (fun i => decide (i = 3)) 1 (by simp -implicitDefEqProofs (disch := omega) only [dropH_at, decide_eq_true_eq, h2, h3, h4, h5, h6, hH0, hH1, hH2, hH, hT, hzl, if_pos, Nat.le_refl, go_sem, ht, eq_self] <;> rfl) (by simp -implicitDefEqProofs (disch := omega) only [dropH_at, decide_eq_true_eq, h2, h3, h4, h5, h6, hH0, hH1, hH2, hH, hT, hzl, if_pos, Nat.le_refl, go_sem, ht, eq_self]) (by simp -implicitDefEqProofs (disch := omega) only [dropH_at, decide_eq_true_eq, h2, h3, h4, h5, h6, hH0, hH1, hH2, hH, hT, hzl, if_pos, Nat.le_refl, go_sem, ht, eq_self] <;> rfl) (by simp -implicitDefEqProofs (disch := omega) only [dropH_at, decide_eq_true_eq, h2, h3, h4, h5, h6, hH0, hH1, hH2, hH, hT, hzl, if_pos, Nat.le_refl, go_sem, ht, eq_self]) (hmd) ?_; rintro _ nx - rfl hnx; (try simp only [put_nx, withH_nx, begP_nx] at hnx); simp -implicitDefEqProofs (disch := omega) only [dropH_at, decide_eq_true_eq, h2, h3, h4, h5, h6, hH0, hH1, hH2, hH, hT, hzl, if_pos, Nat.le_refl, go_sem, ht, eq_self])
      (refine end_treeN 2 ?_; simp -implicitDefEqProofs (disch := omega) only [go_sem, ht, h2, h3, h4, h5, h6, hH0, hH1, hH2, hH, eq_self])
    · have hxg := hx'.get i
      simp -implicitDefEqProofs (disch := omega) only [go_sem, ht, h2, h3, h4, h5, h6, hH0, hH1, hH2, hH, eq_self]
      refine LW.loopW hc ht (by kernel_rfl) (fun t => t.sl 2 = .ptr 0 0 ∧ t.sl 3 = .ptr 1 0 ∧ t.sl 4 = .ptr 2 0 ∧ t.H 0 = some [.val (.bool f), .sl us.length (us.map I)] ∧ t.H 1 = some [.val (.bool g), .sl vs.length (vs.map I)] ∧ t.H 2 = some [.val (.bool false), .val (.slice none 0 0)] ∧
        t.sl 5 = .ref 3 0 (us.length + vs.length + 1) (us.length + vs.length + 1) 1 ∧ 3 < t.nx ∧ t.sl 6 = .val (.int .i64 i) ∧ ∃ j : Nat, j ≤ vs.length ∧ t.sl 8 = .val (.int .i64 j) ∧
        ∃ (zs : List Nat) (c : Nat), zs.length = us.length + vs.length + 1 ∧ t.H 3 = some (zs.map I) ∧ Lm zs ∧ t.sl 7 = .val (.int .i64 c) ∧ c < 10000 ∧ (∀ j, i + vs.length ≤ j → zs.getD j 0 = 0) ∧
          Hide (V (zs.take (i + vs.length)) + 10000 ^ (i + j) * c = V (us.take i) * V vs + 10000 ^ i * (us.getD i 0 * V (vs.take j))))
        (fun t => match t.sl 8 with | .val (.int _ j) => vs.length - j.toNat | _ => 0) ?_ ?_
      · simp -implicitDefEqProofs (disch := omega) only [go_sem, ht, h2, h3, h4, h5, h6, hH0, hH1, hH2, hH, eq_self]
        exact ⟨hnx3, 0, Nat.zero_le _, rfl, zs, 0, hzl, rfl, hzm, rfl, by omega, hz0, Hide.mk (by rw [heq.out]; simp [V])⟩
      · clear h2 h3 h4 h5 hH0 hH1 hH2 hH hnx3 hzl hzm hz0 heq zs
        rintro t ⟨h2, h3, h4, hH0, hH1, hH2, h5, hnx3, h6', j, hj, h8, zs, c', hzl, hH, hzm, h7, hc', hz0, heq⟩
        have hset : ∀ k z, z < 10000 → Lm (zs.set k z) := fun k z hz x hx => by
          rcases List.mem_or_eq_of_mem_set hx with h | h
          · exact hzm x h
          · omega
        have hz0' : ∀ k z, k < i + vs.length → ∀ j, i + vs.length ≤ j → (zs.set k z).getD j 0 = 0 := fun k z hk j hj => by
          rw [List.getD_eq_getElem?_getD, List.getElem?_set_ne (by omega), ← List.getD_eq_getElem?_getD]; exact hz0 j hj
        by_cases hjl : j = vs.length
        · have key : Hide (V ((zs.set (i + vs.length) c').take (i + 1 + vs.length)) = V (us.take (i + 1)) * V vs) := by
            have := heq.out
            rw [hjl, List.take_length] at this
            exact Hide.mk (mul_end (by omega) (by omega) this)
          have hzz := hz0 (i + vs.length) (Nat.le_refl _)
          have hz1 : ∀ j, i + 1 + vs.length ≤ j → (zs.set (i + vs.length) c').getD j 0 = 0 := fun j hj => by
            rw [List.getD_eq_getElem?_getD, List.getElem?_set_ne (by omega), ← List.getD_eq_getElem?_getD]; exact hz0 j (by omega)
          clear heq
          simp -implicitDefEqProofs (disch := omega) only [go_sem, ht, h2, h3, h4, h5, h6', hH0, hH1, hH2, hH, h7, h8, hzz, eq_self]
          exact ⟨⟨hnx3, i + 1, by omega, rfl, _, by simp [hzl], rfl, hset _ _ hc', hz1, key⟩, by omega⟩
        · have hyg := hy'.get j
          have hzg := hzm.get (i + j)
          have key := Hide.mk (mul_step (A := 0) (by omega : j < vs.length) (by omega) (V_take_succ vs (by omega)) heq.out)
          have hxy : us.getD i 0 * vs.getD j 0 ≤ 9999 * 9999 := Nat.mul_le_mul (by omega) (by omega)
          have eo : c' + zs.getD (i + j) 0 + us.getD i 0 * vs.getD j 0 = c' + (us.getD i 0 * vs.getD j 0 + zs.getD (i + j) 0) := by omega
          clear heq
          simp -implicitDefEqProofs (disch := omega) only [go_sem, ht, h2, h3, h4, h5, h6', hH0, hH1, hH2, hH, h7, h8, eo, eq_self]
          exact ⟨⟨hnx3, j + 1, by omega, rfl, _, _, by simp [hzl], rfl, hset _ _ (Nat.mod_lt _ (by decide)), rfl, by omega, hz0' _ _ (by omega), key⟩, by omega⟩
theorem nmul_calls {a b : Nat} (ha : Ok (D a)) (hb : Ok (D b)) (hab : (D a).length + (D b).length + 1 ≤ 1099511627776) : PT Try.prog 106 [NP false a, NP false b] (isV (NP false (a * b))) :=
  nmul_any (f := false) (g := false) ha hb hab
end Go.Proofs.Ytfjdfnlkobeehaa.Ref
