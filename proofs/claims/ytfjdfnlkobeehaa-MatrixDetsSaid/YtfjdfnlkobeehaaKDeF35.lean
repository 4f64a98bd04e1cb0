/- Part 35 of the way to the statement: the walk and what it needs. -/
import Derived.Test.YtfjdfnlkobeehaaKDeF30
import Derived.Test.YtfjdfnlkobeehaaKDeF31
import Derived.Test.YtfjdfnlkobeehaaKDeF34
section
set_option maxRecDepth 100000
set_option linter.unusedVariables false
set_option linter.unusedSimpArgs false
namespace Go.Proofs.Ytfjdfnlkobeehaa.Ref

theorem V_take_all {xs : List Nat} {i : Nat} (h : xs.length ≤ i) : V (xs.take i) = V xs := by rw [List.take_of_length_le h]
theorem V_take_next (xs : List Nat) (i : Nat) : V (xs.take (i + 1)) = V (xs.take i) + 10000 ^ i * xs.getD i 0 := by
  rcases Nat.lt_or_ge i xs.length with h | h
  · exact V_take_succ xs h
  · rw [V_take_all h, V_take_all (by omega)]
    have : xs.getD i 0 = 0 := by rw [List.getD_eq_getElem?_getD, List.getElem?_eq_none h]; rfl
    rw [this, Nat.mul_zero, Nat.add_zero]
theorem arith8 {d P c A B x y s : Nat} (h : d + P * c = A + B) (hs : s = c + x + y) : (d + P * (s % 10000)) + (P * 10000) * (s / 10000) = (A + P * x) + (B + P * y) := by
  have h2 := Nat.mod_add_div s 10000
  generalize s % 10000 = r at *
  generalize s / 10000 = q at *
  rw [Nat.mul_assoc, Nat.add_assoc, ← Nat.mul_add, h2, hs, Nat.mul_add, Nat.mul_add]
  omega

theorem plus_calls {a b : Nat} (ha : Ok (D a)) (hb : Ok (D b)) : PT Try.prog 129 [SI (D a), SI (D b)] (isV (SI (D (a + b)))) := by
  have hal := ha.len
  have hbl := hb.len
  have hva := V_D a
  have hvb := V_D b
  have hma := D_len_mono (Nat.le_add_right a b)
  have hmb := D_len_mono (Nat.le_add_left b a)
  obtain ⟨M, hM, hM1, hM2, hM3⟩ : ∃ M, M ≤ (D (a + b)).length ∧ (D a).length ≤ M ∧ (D b).length ≤ M ∧ (M = (D a).length ∨ M = (D b).length) := by
    rcases Nat.le_total (D a).length (D b).length with h | h
    · exact ⟨(D b).length, hmb, h, Nat.le_refl _, .inr rfl⟩
    · exact ⟨(D a).length, hma, Nat.le_refl _, h, .inl rfl⟩
  clear hma hmb
  generalize hxs : D a = xs at *
  generalize hys : D b = ys at *
  have hxm : Lm xs := ha.lm
  have hym : Lm ys := hb.lm
  refine PCalls.enter (n := 52) (rs := [.tmp 4]) (tb := []) Try.func129 rfl rfl rfl (by kernel_rfl) (by kernel_rfl) (by simp) fun c hc ht => ?_
  simp -implicitDefEqProofs (disch := omega) only [go_sem, ht]
  refine LW.ghost (Gh.nil 5 1 (by simp -implicitDefEqProofs (disch := omega) only [go_sem, ht])) ?_
  refine LW.loopW hc ht (by kernel_rfl) (fun t => t.sl 0 = .sl xs.length (xs.map I) ∧ t.sl 1 = .sl ys.length (ys.map I) ∧ ∃ i c : Nat, t.sl 7 = .val (.int .i64 i) ∧ t.sl 6 = .val (.int .i64 c) ∧ c ≤ 1 ∧ i ≤ M + 1 ∧ (i = M + 1 → c = 0 ∧ i ≤ (D (a + b)).length) ∧
      ∃ (ds : List Nat) (id cap : Nat) (rest : List Value), ds.length = i ∧ t.sl 5 = .ref id 0 i cap 1 ∧ t.H id = some (ds.map I ++ rest.map .val) ∧ i + rest.length = cap ∧ id < t.nx ∧ Lm ds ∧ Hide (V ds + 10000 ^ i * c = V (xs.take i) + V (ys.take i)))
      (fun t => match t.sl 7 with | .val (.int _ i) => M + 2 - i.toNat | _ => 0) ?_ ?_
  · simp -implicitDefEqProofs (disch := omega) only [go_sem, ht]
    exact ⟨0, 0, rfl, rfl, by omega, by omega, fun h => by omega, [], 0, 0, [], rfl, rfl, by rw [upd_self]; rfl, rfl, by omega, Lm_nil, Hide.mk (by simp [V])⟩
  · rintro t ⟨h0, h1, i, c', h7, h6, hc', hi, hlast, ds, id, cap, rest, hdl, h5, hH, hcap, hid, hdm, heq⟩
    have key : ∀ s, s = c' + xs.getD i 0 + ys.getD i 0 → Hide (V (ds ++ [s % 10000]) + 10000 ^ (i + 1) * (s / 10000) = V (xs.take (i + 1)) + V (ys.take (i + 1))) := by
      intro s hs
      refine Hide.mk ?_
      rw [V_append, hdl, V_cons, V_nil, Nat.mul_zero, Nat.add_zero, Nat.pow_succ, arith8 heq.out hs, V_take_next xs, V_take_next ys]
    have hnew : ∀ s, Lm (ds ++ [s % 10000]) := fun s => Lm_append.2 ⟨hdm, fun x hx => by simp at hx; omega⟩
    by_cases hx : i < xs.length
    · have hxg := hxm.get i
      by_cases hy : i < ys.length
      · have hyg := hym.get i
        have k1 := key _ rfl
        clear heq key
        simp -implicitDefEqProofs (disch := omega) only [go_sem, ht, h0, h1, h7, h6, h5, hH]
        (refine append_ownX (by refine ⟨?_, ?_, ?_, ?_, ?_, ?_, ?_, ?_⟩ <;> (simp -implicitDefEqProofs (disch := omega) only [srcP_ref, srcP_sl, srcP_nil, Option.isSome_some, hH, go_sem, ht] <;> rfl)) (by simp <;> omega) (by first | assumption | (simp <;> omega)) (by first | rfl | simp) (by first | omega | (simp <;> omega)) ?_; intro id1 cap1 rest1 H1 nx1 hH1 hcap1 hid1 hnx1 hfr1 hfs1; simp only [put_nx, withH_nx, put_H, withH_H] at hid1 hnx1 hfr1 hfs1; (try simp only [app_U, ← List.map_append] at hH1))
        simp only [app_I] at hH1
        simp -implicitDefEqProofs (disch := omega) only [go_sem, ht, h0, h1, h7, h6, h5]
        exact ⟨⟨i + 1, _, rfl, rfl, by omega, by omega, fun h => by omega, _, id1, cap1, rest1, by simp [hdl], rfl, hH1, hcap1, by omega, hnew _, k1⟩, by omega⟩
      · have hy0 : ys.getD i 0 = 0 := by rw [List.getD_eq_getElem?_getD, List.getElem?_eq_none (by omega)]; rfl
        have k1 := key (c' + xs.getD i 0) (by rw [hy0, Nat.add_zero])
        clear heq key
        simp -implicitDefEqProofs (disch := omega) only [go_sem, ht, h0, h1, h7, h6, h5, hH]
        (refine append_ownX (by refine ⟨?_, ?_, ?_, ?_, ?_, ?_, ?_, ?_⟩ <;> (simp -implicitDefEqProofs (disch := omega) only [srcP_ref, srcP_sl, srcP_nil, Option.isSome_some, hH, go_sem, ht] <;> rfl)) (by simp <;> omega) (by first | assumption | (simp <;> omega)) (by first | rfl | simp) (by first | omega | (simp <;> omega)) ?_; intro id1 cap1 rest1 H1 nx1 hH1 hcap1 hid1 hnx1 hfr1 hfs1; simp only [put_nx, withH_nx, put_H, withH_H] at hid1 hnx1 hfr1 hfs1; (try simp only [app_U, ← List.map_append] at hH1))
        simp only [app_I] at hH1
        simp -implicitDefEqProofs (disch := omega) only [go_sem, ht, h0, h1, h7, h6, h5]
        exact ⟨⟨i + 1, _, rfl, rfl, by omega, by omega, fun h => by omega, _, id1, cap1, rest1, by simp [hdl], rfl, hH1, hcap1, by omega, hnew _, k1⟩, by omega⟩
    · have hx0 : xs.getD i 0 = 0 := by rw [List.getD_eq_getElem?_getD, List.getElem?_eq_none (by omega)]; rfl
      by_cases hy : i < ys.length
      · have hyg := hym.get i
        have k1 := key (c' + ys.getD i 0) (by rw [hx0, Nat.add_zero])
        clear heq key
        simp -implicitDefEqProofs (disch := omega) only [go_sem, ht, h0, h1, h7, h6, h5, hH]
        (refine append_ownX (by refine ⟨?_, ?_, ?_, ?_, ?_, ?_, ?_, ?_⟩ <;> (simp -implicitDefEqProofs (disch := omega) only [srcP_ref, srcP_sl, srcP_nil, Option.isSome_some, hH, go_sem, ht] <;> rfl)) (by simp <;> omega) (by first | assumption | (simp <;> omega)) (by first | rfl | simp) (by first | omega | (simp <;> omega)) ?_; intro id1 cap1 rest1 H1 nx1 hH1 hcap1 hid1 hnx1 hfr1 hfs1; simp only [put_nx, withH_nx, put_H, withH_H] at hid1 hnx1 hfr1 hfs1; (try simp only [app_U, ← List.map_append] at hH1))
        simp only [app_I] at hH1
        simp -implicitDefEqProofs (disch := omega) only [go_sem, ht, h0, h1, h7, h6, h5]
        exact ⟨⟨i + 1, _, rfl, rfl, by omega, by omega, fun h => by omega, _, id1, cap1, rest1, by simp [hdl], rfl, hH1, hcap1, by omega, hnew _, k1⟩, by omega⟩
      · have et : V (xs.take i) + V (ys.take i) = a + b := by rw [V_take_all (by omega), V_take_all (by omega), hva, hvb]
        by_cases hc0 : c' = 0
        · have e : D (a + b) = ds := by
            have h := heq.out
            rw [et, hc0, Nat.mul_zero, Nat.add_zero] at h
            rw [← h]
            refine D_of_len hdm ?_
            rw [h, hdl]
            rcases Nat.lt_or_ge M i with h2 | h2
            · exact (hlast (by omega)).2
            · omega
          rw [e]
          subst hdl
          simp -implicitDefEqProofs (disch := omega) only [go_sem, ht, h0, h1, h7, h6, h5, hH]
          (refine end_treeN 2 ?_; simp -implicitDefEqProofs (disch := omega) only [go_sem, ht, h5, hH])
          exact Nat.le_add_right _ _
        · have hc1 : c' = 1 := by omega
          subst hc1
          have hiM : i = M := by
            rcases Nat.lt_or_ge i (M + 1) with h | h
            · omega
            · exact absurd (hlast (by omega)).1 (by omega)
          have hbig : i + 1 ≤ (D (a + b)).length := by
            have h := heq.out
            rw [et, Nat.mul_one] at h
            have := (D_len_gt (n := a + b) (k := i)).2 (by rw [← h]; exact Nat.le_add_left _ _)
            omega
          have hy0 : ys.getD i 0 = 0 := by rw [List.getD_eq_getElem?_getD, List.getElem?_eq_none (by omega)]; rfl
          have k1 := key 1 (by rw [hx0, hy0])
          clear heq key
          simp -implicitDefEqProofs (disch := omega) only [go_sem, ht, h0, h1, h7, h6, h5, hH]
          (refine append_ownX (by refine ⟨?_, ?_, ?_, ?_, ?_, ?_, ?_, ?_⟩ <;> (simp -implicitDefEqProofs (disch := omega) only [srcP_ref, srcP_sl, srcP_nil, Option.isSome_some, hH, go_sem, ht] <;> rfl)) (by simp <;> omega) (by first | assumption | (simp <;> omega)) (by first | rfl | simp) (by first | omega | (simp <;> omega)) ?_; intro id1 cap1 rest1 H1 nx1 hH1 hcap1 hid1 hnx1 hfr1 hfs1; simp only [put_nx, withH_nx, put_H, withH_H] at hid1 hnx1 hfr1 hfs1; (try simp only [app_U, ← List.map_append] at hH1))
          simp only [app_I] at hH1
          simp -implicitDefEqProofs (disch := omega) only [go_sem, ht, h0, h1, h7, h6, h5]
          exact ⟨⟨i + 1, 1 / 10000, rfl, rfl, by omega, by omega, fun _ => ⟨rfl, hbig⟩, _, id1, cap1, rest1, by simp [hdl], rfl, hH1, hcap1, by omega, hnew _, k1⟩, by omega⟩
end Go.Proofs.Ytfjdfnlkobeehaa.Ref

namespace Go.Proofs.Ytfjdfnlkobeehaa.Ref

theorem dropH_at (D : Nat → Bool) (H : Nat → Option (List PV)) (i : Nat) : dropH D H i = if D i = true then none else H i := rfl
theorem made_any {xs : List Nat} {neg : Bool} (h : Ok xs) : PT Try.prog 128 [.val (.bool neg), SI xs] (isV (NP (neg && decide (0 < V xs)) (V xs))) := by
  have hlen := h.short.len
  rw [NP_def]
  refine PCalls.enter (n := 15) (rs := [.cell 4 103]) (tb := []) Try.func128 rfl rfl rfl (by kernel_rfl) (by kernel_rfl) (by simp) fun c hc ht => ?_
  simp -implicitDefEqProofs (disch := omega) only [go_sem, ht]
  cases neg
  · (refine pCall_vw (by refine ⟨⟨?_, ?_⟩, ?_, ?_⟩; rotate_left 2; (first | (right; rintro r rfl; rfl) | left); all_goals ((try simp -implicitDefEqProofs (disch := omega) only [go_sem, ht]) <;> rfl)) (cut_calls h) ?_; rintro _ nx - rfl hnx; simp -implicitDefEqProofs (disch := omega) only [go_sem, ht])
    (refine end_treeN 2 ?_; simp -implicitDefEqProofs (disch := omega) only [go_sem, ht])
    simp
  · by_cases h0 : V xs = 0
    · have hz : (D (V xs)).length = 0 := D_len_zero.2 h0
      have e : decide (0 < V xs) = false := by simp [h0]
      rw [e]
      (refine pCall_vw (by refine ⟨⟨?_, ?_⟩, ?_, ?_⟩; rotate_left 2; (first | (right; rintro r rfl; rfl) | left); all_goals ((try simp -implicitDefEqProofs (disch := omega) only [go_sem, ht]) <;> rfl)) (cut_calls h) ?_; rintro _ nx - rfl hnx; simp -implicitDefEqProofs (disch := omega) only [go_sem, ht])
      (refine end_treeN 2 ?_; simp -implicitDefEqProofs (disch := omega) only [go_sem, ht])
      rw [hz]; rfl
    · have hp := D_len_pos h0
      have e : decide (0 < V xs) = true := by simp; omega
      rw [e]
      (refine pCall_vw (by refine ⟨⟨?_, ?_⟩, ?_, ?_⟩; rotate_left 2; (first | (right; rintro r rfl; rfl) | left); all_goals ((try simp -implicitDefEqProofs (disch := omega) only [go_sem, ht]) <;> rfl)) (cut_calls h) ?_; rintro _ nx - rfl hnx; simp -implicitDefEqProofs (disch := omega) only [go_sem, ht])
      (refine end_treeN 2 ?_; simp -implicitDefEqProofs (disch := omega) only [go_sem, ht])
      rw [decide_eq_true (by omega)]

theorem minus_calls {n : Nat} {neg : Bool} (h : Ok (D n)) : PT Try.prog 108 [NP neg n] (isV (NP (!neg && decide (0 < n)) n)) := by
  have hlen := h.len
  have hm := made_any (neg := !neg) h
  rw [V_D] at hm
  rw [NP_def] at hm ⊢
  rw [NP_def] at *
  refine PCalls.enter (n := 10) (rs := [.cell 2 103]) (tb := [(1, [(0, []), (1, []), (2, []), (3, []), (4, []), (5, [0, 1, 2]), (6, []), (7, [])])]) Try.func108 rfl rfl rfl (by kernel_rfl) (by kernel_rfl) (by simp) fun c hc ht => ?_
  simp -implicitDefEqProofs (disch := omega) only [go_sem, ht]
  refine append_nil (e := 3) (b := 8) (m := (D n).length) (z := .int .i64 0) (ys := (D n).map I) T23_elem rfl T3_size T3_bytes T3_zero (by simp -implicitDefEqProofs (disch := omega) only [go_sem, ht, srcP_sl]) (by simp -implicitDefEqProofs (disch := omega) only [go_sem, ht]) (by omega) (fun h0 => ?_) fun cap' rest' h1 h2 => ?_
  · have hn := D_len_zero.1 h0
    subst hn
    rw [D_zero] at hm ⊢
    simp -implicitDefEqProofs (disch := omega) only [go_sem, ht]
    (refine pCall_vw (by refine ⟨⟨?_, ?_⟩, ?_, ?_⟩; rotate_left 2; (first | (right; rintro r rfl; rfl) | left); all_goals ((try simp -implicitDefEqProofs (disch := omega) only [go_sem, ht]) <;> rfl)) (hm) ?_; rintro _ nx - rfl hnx; simp -implicitDefEqProofs (disch := omega) only [go_sem, ht])
    (refine end_treeN 2 ?_; simp -implicitDefEqProofs (disch := omega) only [go_sem, ht])
  · simp -implicitDefEqProofs (disch := omega) only [go_sem, ht]
    (refine pCall_frz (fun i => decide (i = 2)) 1 (by simp -implicitDefEqProofs (disch := omega) only [dropH_at, decide_eq_true_eq, if_pos, go_sem, ht] <;> rfl) (by simp -implicitDefEqProofs (disch := omega) only [dropH_at, decide_eq_true_eq, if_pos, go_sem, ht]) (by simp -implicitDefEqProofs (disch := omega) only [dropH_at, decide_eq_true_eq, if_pos, go_sem, ht] <;> rfl) (by simp -implicitDefEqProofs (disch := omega) only [dropH_at, decide_eq_true_eq, if_pos, go_sem, ht]) (hm) ?_; rintro _ nx - rfl hnx; (try simp only [put_nx, withH_nx, begP_nx] at hnx); simp -implicitDefEqProofs (disch := omega) only [dropH_at, decide_eq_true_eq, if_pos, go_sem, ht])
    (refine end_treeN 2 ?_; simp -implicitDefEqProofs (disch := omega) only [go_sem, ht, dropH_at, decide_eq_true_eq])


def J (z : Int) : PV := .val (.int .i64 z)
theorem J_def (z : Int) : J z = .val (.int .i64 z) := rfl
theorem get_J {zs : List Int} {i : Nat} (l : List PV) (h : i < zs.length) : (zs.map J ++ l)[i]? = some (.val (.int .i64 (zs.getD i 0))) := by
  rw [List.getElem?_append_left (by simpa using h)]
  simp [h, J]
theorem set_J {zs : List Int} {i : Nat} {x : Int} (l : List PV) (h : i < zs.length) : spl (zs.map J ++ l) i [.val (.int .i64 x)] = (zs.set i x).map J ++ l := by
  unfold spl
  simp only [List.length_singleton]
  rw [List.take_append_of_le_length (by simpa using Nat.le_of_lt h), List.drop_append_of_le_length (by simp; omega), List.set_eq_take_append_cons_drop, if_pos h]
  simp [J]
theorem map_IJ (xs : List Nat) : xs.map I = (xs.map fun (x : Nat) => (x : Int)).map J := by simp [I, J]
attribute [go_sem] get_J set_J J_def
theorem getD_set {zs : List Int} {i : Nat} {x : Int} (h : i < zs.length) : (zs.set i x).getD i 0 = x := by
  rw [List.getD_eq_getElem?_getD, List.getElem?_set_self h]; rfl
theorem getD_set_ne {zs : List Int} {i j : Nat} {x : Int} (h : i ≠ j) : (zs.set i x).getD j 0 = zs.getD j 0 := by
  rw [List.getD_eq_getElem?_getD, List.getElem?_set_ne h, ← List.getD_eq_getElem?_getD]
theorem getD_cast (xs : List Nat) (j : Nat) : (xs.map fun (x : Nat) => (x : Int)).getD j 0 = (xs.getD j 0 : Nat) := by
  rw [List.getD_eq_getElem?_getD, List.getElem?_map, List.getD_eq_getElem?_getD]
  cases xs[j]? <;> rfl
theorem getD_app {ws : List Nat} {w j : Nat} (h : j < ws.length) : (ws ++ [w]).getD j 0 = ws.getD j 0 := by
  rw [List.getD_eq_getElem?_getD, List.getElem?_append_left h, ← List.getD_eq_getElem?_getD]
theorem getD_app_last {ws : List Nat} {w i : Nat} (h : ws.length = i) : (ws ++ [w]).getD i 0 = w := by
  subst h
  rw [List.getD_eq_getElem?_getD, List.getElem?_append_right (Nat.le_refl _)]; simp
theorem arith9 {w B A P b x y v b' : Nat} (h : w + B = A + P * b) (hv : v + y + b = x + 10000 * b') : (w + P * v) + (B + P * y) = (A + P * x) + (P * 10000) * b' := by
  have : P * (v + y + b) = P * (x + 10000 * b') := by rw [hv]
  simp only [Nat.mul_add] at this
  rw [Nat.mul_assoc]
  omega
theorem less_top {w A B P b x y : Nat} (hw : w < P) (h : w + B = A + P * b) (hle : B + P * y ≤ A + P * x) : y + b ≤ x := by
  rcases Nat.lt_or_ge x (y + b) with hlt | hge
  · exfalso
    have : P * (x + 1) ≤ P * (y + b) := Nat.mul_le_mul_left _ hlt
    simp only [Nat.mul_add, Nat.mul_one] at this
    omega
  · exact hge


def lessL (a b : Nat) : List Nat := D (a - b) ++ List.replicate ((D a).length - (D (a - b)).length) 0
theorem lessL_V (a b : Nat) : V (lessL a b) = a - b := by unfold lessL; rw [V_append, V_repl, V_D, Nat.mul_zero, Nat.add_zero]
theorem lessL_lm (a b : Nat) : Lm (lessL a b) := Lm_append.2 ⟨Lm_D _, Lm_repl _⟩
theorem lessL_len {a b : Nat} : (lessL a b).length = (D a).length := by
  have := D_len_mono (Nat.sub_le a b)
  unfold lessL; simp; omega

theorem less_calls {a b : Nat} (ha : Ok (D a)) (hb : Ok (D b)) (h0 : a ≠ 0) (hle : b ≤ a) : PT Try.prog 131 [SI (D a), SI (D b)] (isV (SI (lessL a b))) := by
  have hal := ha.len
  have hbl := hb.len
  have hva := V_D a
  have hvb := V_D b
  have hmb := D_len_mono hle
  have hap := D_len_pos h0
  have hres : ∀ ws : List Nat, Lm ws → ws.length = (D a).length → V ws + b = a → ws = lessL a b := fun ws h1 h2 h3 =>
    V_inj h1 (lessL_lm a b) (by rw [lessL_len, h2]) (by rw [lessL_V]; omega)
  generalize lessL a b = res at *
  have hxm : Lm (D a) := ha.lm
  have hym : Lm (D b) := hb.lm
  generalize hxs : D a = xs at *
  generalize hys : D b = ys at *
  refine PCalls.enter (n := 55) (rs := [.tmp 4]) (tb := [(6, [(0, []), (1, []), (2, []), (3, []), (4, []), (5, []), (6, []), (7, []), (8, []), (9, []), (10, []), (11, []), (12, [])]), (1000006, [(0, []), (0, []), (0, []), (0, []), (12, []), (28, []), (0, []), (0, []), (192, []), (448, []), (1020, []), (2047, []), (4095, [])])]) Try.func131 rfl rfl rfl (by kernel_rfl) (by kernel_rfl) (by simp) fun c hc ht => ?_
  simp -implicitDefEqProofs (disch := omega) only [go_sem, ht]
  refine append_nil (e := 3) (b := 8) (m := xs.length) (z := .int .i64 0) (ys := xs.map I) T23_elem rfl T3_size T3_bytes T3_zero (by simp -implicitDefEqProofs (disch := omega) only [go_sem, ht, srcP_sl]) (by simp -implicitDefEqProofs (disch := omega) only [go_sem, ht]) (by omega) (fun h0 => absurd h0 (by omega)) fun cap' rest' h1 h2 => ?_
  simp -implicitDefEqProofs (disch := omega) only [go_sem, ht]
  refine LW.loopW hc ht (by kernel_rfl) (fun t => t.sl 0 = .sl xs.length (xs.map I) ∧ t.sl 1 = .sl ys.length (ys.map I) ∧ ∃ i b' : Nat, i ≤ xs.length ∧ t.sl 6 = .val (.int .i64 i) ∧ b' ≤ 1 ∧
      ∃ (zs : List Int) (ws : List Nat), zs.length = xs.length ∧ t.sl 5 = .ref 0 0 xs.length cap' 1 ∧ t.H 0 = some (zs.map J ++ rest'.map .val) ∧ ws.length = i ∧ Lm ws ∧ (∀ j, j < i → zs.getD j 0 = ws.getD j 0) ∧
        (i < xs.length → zs.getD i 0 = (xs.getD i 0 : Int) - b') ∧ (∀ j, i < j → j < xs.length → zs.getD j 0 = xs.getD j 0) ∧ (i = xs.length → b' = 0) ∧ Hide (V ws + V (ys.take i) = V (xs.take i) + 10000 ^ i * b'))
      (fun t => match t.sl 6 with | .val (.int _ i) => xs.length - i.toNat | _ => 0) ?_ ?_
  · simp -implicitDefEqProofs (disch := omega) only [go_sem, ht]
    exact ⟨0, 0, Nat.zero_le _, rfl, by omega, xs.map fun (x : Nat) => (x : Int), [], by simp, by rw [map_IJ], rfl, Lm_nil, fun j h => by omega, fun h => by rw [getD_cast]; simp, fun j _ _ => getD_cast xs j, fun _ => rfl, Hide.mk (by simp [V])⟩
  · rintro t ⟨hs0, hs1, i, b', hi, h6, hb', zs, ws, hzl, h5, hH, hwl, hwm, hz1, hz2, hz3, hz4, heq⟩
    by_cases hil : i = xs.length
    · have hb0 := hz4 hil
      have e : ws = res := by
        refine hres ws hwm (by omega) ?_
        have h := heq.out
        rw [hb0, Nat.mul_zero, Nat.add_zero, V_take_all (by omega), V_take_all (by omega), hva, hvb] at h
        exact h
      have ez : zs.map J = res.map I := by
        rw [map_IJ]
        congr 1
        apply List.ext_getElem (by simp [hzl, ← e, hwl, hil])
        intro j h1 h2
        have := hz1 j (by omega)
        rw [e] at this
        simp at h2
        simpa [h1, h2] using this
      have hrl : res.length = xs.length := by rw [← e]; omega
      have hT := take_Il res (List.map PV.val rest')
      rw [hrl] at hT
      simp -implicitDefEqProofs (disch := omega) only [go_sem, ht, hs0, hs1, h6, h5, hH, ez]
      (refine end_treeN 2 ?_; simp -implicitDefEqProofs (disch := omega) only [go_sem, ht, h5, hH, ez, hrl, hT, if_pos])
    · have hlt : i < xs.length := by omega
      obtain ⟨Z, hZ⟩ : ∃ Z, Z = (xs.getD i 0 : Int) - b' := ⟨_, rfl⟩
      have hz := hz2 hlt
      rw [← hZ] at hz
      have hxg := hxm.get i
      have hyg := hym.get i
      have key : ∀ v b2 : Nat, v + ys.getD i 0 + b' = xs.getD i 0 + 10000 * b2 → Hide (V (ws ++ [v]) + V (ys.take (i + 1)) = V (xs.take (i + 1)) + 10000 ^ (i + 1) * b2) := fun v b2 hv => by
        refine Hide.mk ?_
        rw [V_append, hwl, V_cons, V_nil, Nat.mul_zero, Nat.add_zero, V_take_next ys, V_take_next xs, Nat.pow_succ]
        exact arith9 heq.out hv
      have htop : i + 1 = xs.length → ys.getD i 0 + b' ≤ xs.getD i 0 := fun h => by
        have hw := V_lt hwm
        rw [hwl] at hw
        refine less_top hw heq.out ?_
        rw [← V_take_next ys, ← V_take_next xs, V_take_all (by omega), V_take_all (by omega), hva, hvb]
        exact hle
      have hpre : ∀ (v : Nat) (z2 : List Int), (∀ j, j < i → z2.getD j 0 = zs.getD j 0) → z2.getD i 0 = v → ∀ j, j < i + 1 → z2.getD j 0 = (ws ++ [v]).getD j 0 := fun v z2 g1 g2 j hj => by
        by_cases hji : j = i
        · subst hji; rw [g2, getD_app_last hwl]
        · rw [g1 j (by omega), hz1 j (by omega), getD_app (by omega)]
      have hnew : ∀ v, v < 10000 → Lm (ws ++ [v]) := fun v hv => Lm_append.2 ⟨hwm, fun x hx => by simp at hx; omega⟩
      by_cases hy : i < ys.length
      · have g1 : (zs.set i (Z - (ys.getD i 0 : Nat))).getD i 0 = Z - (ys.getD i 0 : Nat) := getD_set (by omega)
        have l1 : (zs.set i (Z - (ys.getD i 0 : Nat))).length = xs.length := by simp [hzl]
        have l2 : ((zs.set i (Z - (ys.getD i 0 : Nat))).set i (Z - (ys.getD i 0 : Nat) + 10000)).length = xs.length := by simp [hzl]
        by_cases hv : ys.getD i 0 + b' ≤ xs.getD i 0
        · have k1 := key (xs.getD i 0 - b' - ys.getD i 0) 0 (by omega)
          have k2 := hpre (xs.getD i 0 - b' - ys.getD i 0) (zs.set i (Z - (ys.getD i 0 : Nat))) (fun j hj => getD_set_ne (by omega)) (by rw [g1]; omega)
          have k3 := hnew (xs.getD i 0 - b' - ys.getD i 0) (by omega)
          clear heq key htop hz2
          simp -implicitDefEqProofs (disch := omega) only [go_sem, ht, hs0, hs1, h6, h5, hH, hz, g1]
          exact ⟨⟨i + 1, 0, by omega, rfl, by omega, _, _, by simp [hzl], rfl, by simp [hwl], k3, k2, fun h => by rw [getD_set_ne (by omega), hz3 _ (by omega) h]; omega, fun j h1 h2 => by rw [getD_set_ne (by omega)]; exact hz3 j (by omega) h2, fun _ => rfl, k1⟩, by omega⟩
        · have hi1 : i + 1 < xs.length := by
            rcases Nat.lt_or_ge (i + 1) xs.length with h | h
            · exact h
            · exact absurd (htop (by omega)) hv
          have g2 : ((zs.set i (Z - (ys.getD i 0 : Nat))).set i (Z - (ys.getD i 0 : Nat) + 10000)).getD (i + 1) 0 = (xs.getD (i + 1) 0 : Nat) := by
            rw [getD_set_ne (by omega), getD_set_ne (by omega)]; exact hz3 _ (by omega) hi1
          have hxg1 := hxm.get (i + 1)
          have k1 := key (xs.getD i 0 + 10000 - b' - ys.getD i 0) 1 (by omega)
          have k2 := hpre (xs.getD i 0 + 10000 - b' - ys.getD i 0) (((zs.set i (Z - (ys.getD i 0 : Nat))).set i (Z - (ys.getD i 0 : Nat) + 10000)).set (i + 1) ((xs.getD (i + 1) 0 : Nat) - 1))
            (fun j hj => by rw [getD_set_ne (by omega), getD_set_ne (by omega), getD_set_ne (by omega)]) (by rw [getD_set_ne (by omega), getD_set (by simp; omega)]; omega)
          have k3 := hnew (xs.getD i 0 + 10000 - b' - ys.getD i 0) (by omega)
          clear heq key htop hz2
          simp -implicitDefEqProofs (disch := omega) only [go_sem, ht, hs0, hs1, h6, h5, hH, hz, g1, g2]
          exact ⟨⟨i + 1, 1, by omega, rfl, by omega, _, _, by simp [hzl], rfl, by simp [hwl], k3, k2, fun h => by rw [getD_set (by simp; omega)]; omega, fun j h1 h2 => by rw [getD_set_ne (by omega), getD_set_ne (by omega), getD_set_ne (by omega)]; exact hz3 j (by omega) h2, fun h => by omega, k1⟩, by omega⟩
      · have hy0 : ys.getD i 0 = 0 := by rw [List.getD_eq_getElem?_getD, List.getElem?_eq_none (by omega)]; rfl
        rw [hy0] at key htop
        by_cases hv : b' ≤ xs.getD i 0
        · have k1 := key (xs.getD i 0 - b') 0 (by omega)
          have k2 := hpre (xs.getD i 0 - b') zs (fun j hj => rfl) (by rw [hz]; omega)
          have k3 := hnew (xs.getD i 0 - b') (by omega)
          clear heq key htop hz2
          simp -implicitDefEqProofs (disch := omega) only [go_sem, ht, hs0, hs1, h6, h5, hH, hz]
          exact ⟨⟨i + 1, 0, by omega, rfl, by omega, _, _, hzl, rfl, by simp [hwl], k3, k2, fun h => by rw [hz3 _ (by omega) h]; omega, fun j h1 h2 => hz3 j (by omega) h2, fun _ => rfl, k1⟩, by omega⟩
        · have hi1 : i + 1 < xs.length := by
            rcases Nat.lt_or_ge (i + 1) xs.length with h | h
            · exact h
            · exact absurd (htop (by omega)) (by omega)
          have l1 : (zs.set i (Z + 10000)).length = xs.length := by simp [hzl]
          have g2 : (zs.set i (Z + 10000)).getD (i + 1) 0 = (xs.getD (i + 1) 0 : Nat) := by
            rw [getD_set_ne (by omega)]; exact hz3 _ (by omega) hi1
          have hxg1 := hxm.get (i + 1)
          have k1 := key (xs.getD i 0 + 10000 - b') 1 (by omega)
          have k2 := hpre (xs.getD i 0 + 10000 - b') ((zs.set i (Z + 10000)).set (i + 1) ((xs.getD (i + 1) 0 : Nat) - 1))
            (fun j hj => by rw [getD_set_ne (by omega), getD_set_ne (by omega)]) (by rw [getD_set_ne (by omega), getD_set (by omega)]; omega)
          have k3 := hnew (xs.getD i 0 + 10000 - b') (by omega)
          clear heq key htop hz2
          simp -implicitDefEqProofs (disch := omega) only [go_sem, ht, hs0, hs1, h6, h5, hH, hz, g2]
          exact ⟨⟨i + 1, 1, by omega, rfl, by omega, _, _, by simp [hzl], rfl, by simp [hwl], k3, k2, fun h => by rw [getD_set (by simp; omega)]; omega, fun j h1 h2 => by rw [getD_set_ne (by omega), getD_set_ne (by omega)]; exact hz3 j (by omega) h2, fun h => by omega, k1⟩, by omega⟩
end Go.Proofs.Ytfjdfnlkobeehaa.Ref

namespace Go.Proofs.Ytfjdfnlkobeehaa.Ref

theorem nadd_calls {a b : Nat} (ha : Ok (D a)) (hb : Ok (D b)) (hab : Ok (D (a + b))) : PT Try.prog 109 [NP false a, NP false b] (isV (NP false (a + b))) := by
  have hp := plus_calls ha hb
  have hm := made_calls hab
  rw [V_D] at hm
  rw [NP_def] at hm
  rw [NP_def, NP_def, NP_def]
  refine PCalls.enter (n := 38) (rs := [.cell 4 103]) (tb := [(2, [(0, []), (1, []), (2, []), (3, []), (4, []), (5, []), (6, [0, 1]), (7, []), (8, [])]), (4, [(0, []), (1, []), (2, []), (3, []), (4, []), (5, []), (6, [0, 1]), (7, []), (8, [])]), (5, [(0, []), (1, []), (2, []), (3, []), (4, []), (5, []), (6, [0, 1]), (7, []), (8, [])])]) Try.func109 rfl rfl rfl (by kernel_rfl) (by kernel_rfl) (by simp) fun c hc ht => ?_
  simp -implicitDefEqProofs (disch := omega) only [go_sem, ht]
  (refine pCall_vw (by refine ⟨⟨?_, ?_⟩, ?_, ?_⟩; rotate_left 2; (first | (right; rintro r rfl; rfl) | left); all_goals ((try simp -implicitDefEqProofs (disch := omega) only [go_sem, ht]) <;> rfl)) (hp) ?_; rintro _ nx - rfl hnx; simp -implicitDefEqProofs (disch := omega) only [go_sem, ht])
  (refine pCall_vw (by refine ⟨⟨?_, ?_⟩, ?_, ?_⟩; rotate_left 2; (first | (right; rintro r rfl; rfl) | left); all_goals ((try simp -implicitDefEqProofs (disch := omega) only [go_sem, ht]) <;> rfl)) (hm) ?_; rintro _ nx - rfl hnx; simp -implicitDefEqProofs (disch := omega) only [go_sem, ht])
  (refine end_treeN 2 ?_; simp -implicitDefEqProofs (disch := omega) only [go_sem, ht])

theorem nsub_calls {a b : Nat} (ha : Ok (D a)) (hb : Ok (D b)) (h0 : a ≠ 0) (hle : b ≤ a) : PT Try.prog 109 [NP false a, NP true b] (isV (NP false (a - b))) := by
  have hl := less_calls ha hb h0 hle
  have hsz := size_calls (f := false) (g := true) ha hb
  have hge : 0 ≤ cmpI a b := by
    unfold cmpI; split
    · omega
    · split <;> omega
  generalize cmpI a b = cm at *
  have hm := made_calls (xs := lessL a b) ⟨lessL_lm a b, by rw [lessL_len]; exact ha.len⟩
  rw [lessL_V, NP_def] at hm
  rw [NP_def, NP_def] at hsz
  rw [NP_def, NP_def, NP_def]
  refine PCalls.enter (n := 38) (rs := [.cell 4 103]) (tb := [(2, [(0, []), (1, []), (2, []), (3, []), (4, []), (5, []), (6, [0, 1]), (7, []), (8, [])]), (4, [(0, []), (1, []), (2, []), (3, []), (4, []), (5, []), (6, [0, 1]), (7, []), (8, [])]), (5, [(0, []), (1, []), (2, []), (3, []), (4, []), (5, []), (6, [0, 1]), (7, []), (8, [])])]) Try.func109 rfl rfl rfl (by kernel_rfl) (by kernel_rfl) (by simp) fun c hc ht => ?_
  simp -implicitDefEqProofs (disch := omega) only [go_sem, ht]
  (refine pCall_vw (by refine ⟨⟨?_, ?_⟩, ?_, ?_⟩; rotate_left 2; (first | (right; rintro r rfl; rfl) | left); all_goals ((try simp -implicitDefEqProofs (disch := omega) only [go_sem, ht]) <;> rfl)) (hsz) ?_; rintro _ nx - rfl hnx; simp -implicitDefEqProofs (disch := omega) only [go_sem, ht])
  (refine pCall_vw (by refine ⟨⟨?_, ?_⟩, ?_, ?_⟩; rotate_left 2; (first | (right; rintro r rfl; rfl) | left); all_goals ((try simp -implicitDefEqProofs (disch := omega) only [go_sem, ht]) <;> rfl)) (hl) ?_; rintro _ nx - rfl hnx; simp -implicitDefEqProofs (disch := omega) only [go_sem, ht])
  (refine pCall_vw (by refine ⟨⟨?_, ?_⟩, ?_, ?_⟩; rotate_left 2; (first | (right; rintro r rfl; rfl) | left); all_goals ((try simp -implicitDefEqProofs (disch := omega) only [go_sem, ht]) <;> rfl)) (hm) ?_; rintro _ nx - rfl hnx; simp -implicitDefEqProofs (disch := omega) only [go_sem, ht])
  (refine end_treeN 2 ?_; simp -implicitDefEqProofs (disch := omega) only [go_sem, ht])

theorem nminus_calls {a b : Nat} (ha : Ok (D a)) (hb : Ok (D b)) (hle : b ≤ a) : PT Try.prog 122 [NP false a, NP false b] (isV (NP false (a - b))) := by
  have hmi := minus_calls (neg := false) hb
  by_cases h0 : b = 0
  · have e : (!false && decide (0 < b)) = false := by simp [h0]
    have hab : Ok (D (a + b)) := by rw [h0]; exact ha
    have had := nadd_calls ha hb hab
    rw [e] at hmi
    have e2 : a - b = a + b := by omega
    rw [e2]
    rw [NP_def] at hmi had ⊢
    rw [NP_def, NP_def] at *
    refine PCalls.enter (n := 9) (rs := [.cell 4 103]) (tb := [(1, [(0, []), (1, []), (2, [0]), (3, []), (4, [])])]) Try.func122 rfl rfl rfl (by kernel_rfl) (by kernel_rfl) (by simp) fun c hc ht => ?_
    simp -implicitDefEqProofs (disch := omega) only [go_sem, ht]
    (refine pCall_vw (by refine ⟨⟨?_, ?_⟩, ?_, ?_⟩; rotate_left 2; (first | (right; rintro r rfl; rfl) | left); all_goals ((try simp -implicitDefEqProofs (disch := omega) only [go_sem, ht]) <;> rfl)) (hmi) ?_; rintro _ nx - rfl hnx; simp -implicitDefEqProofs (disch := omega) only [go_sem, ht])
    (refine pCall_vw (by refine ⟨⟨?_, ?_⟩, ?_, ?_⟩; rotate_left 2; (first | (right; rintro r rfl; rfl) | left); all_goals ((try simp -implicitDefEqProofs (disch := omega) only [go_sem, ht]) <;> rfl)) (had) ?_; rintro _ nx - rfl hnx; simp -implicitDefEqProofs (disch := omega) only [go_sem, ht])
    (refine end_treeN 2 ?_; simp -implicitDefEqProofs (disch := omega) only [go_sem, ht])
  · have e : (!false && decide (0 < b)) = true := by simp; omega
    have had := nsub_calls ha hb (by omega) hle
    rw [e] at hmi
    rw [NP_def, NP_def] at hmi
    rw [NP_def, NP_def, NP_def] at had
    rw [NP_def, NP_def, NP_def]
    refine PCalls.enter (n := 9) (rs := [.cell 4 103]) (tb := [(1, [(0, []), (1, []), (2, [0]), (3, []), (4, [])])]) Try.func122 rfl rfl rfl (by kernel_rfl) (by kernel_rfl) (by simp) fun c hc ht => ?_
    simp -implicitDefEqProofs (disch := omega) only [go_sem, ht]
    (refine pCall_vw (by refine ⟨⟨?_, ?_⟩, ?_, ?_⟩; rotate_left 2; (first | (right; rintro r rfl; rfl) | left); all_goals ((try simp -implicitDefEqProofs (disch := omega) only [go_sem, ht]) <;> rfl)) (hmi) ?_; rintro _ nx - rfl hnx; simp -implicitDefEqProofs (disch := omega) only [go_sem, ht])
    (refine pCall_vw (by refine ⟨⟨?_, ?_⟩, ?_, ?_⟩; rotate_left 2; (first | (right; rintro r rfl; rfl) | left); all_goals ((try simp -implicitDefEqProofs (disch := omega) only [go_sem, ht]) <;> rfl)) (had) ?_; rintro _ nx - rfl hnx; simp -implicitDefEqProofs (disch := omega) only [go_sem, ht])
    (refine end_treeN 2 ?_; simp -implicitDefEqProofs (disch := omega) only [go_sem, ht])

end Go.Proofs.Ytfjdfnlkobeehaa.Ref

namespace Go.Proofs.Ytfjdfnlkobeehaa.Ref

theorem V_set {zs : List Nat} {k v : Nat} (h : k < zs.length) : V (zs.set k v) + 10000 ^ k * zs.getD k 0 = V zs + 10000 ^ k * v := by
  induction zs generalizing k with
  | nil => simp at h
  | cons z zs ih =>
    cases k with
    | zero => simp [V]; omega
    | succ k =>
      have := ih (k := k) (by simpa using h)
      simp only [List.set_cons_succ, V, Nat.pow_succ, List.getD_cons_succ]
      have h2 : 10000 * (V (zs.set k v) + 10000 ^ k * zs.getD k 0) = 10000 * (V zs + 10000 ^ k * v) := by rw [this]
      rw [Nat.mul_add, Nat.mul_add, ← Nat.mul_assoc, ← Nat.mul_assoc, Nat.mul_comm 10000 (10000 ^ k)] at h2
      omega
theorem V_set_take {zs : List Nat} {k n v : Nat} (h : k < n) (hn : n ≤ zs.length) : V ((zs.set k v).take n) + 10000 ^ k * zs.getD k 0 = V (zs.take n) + 10000 ^ k * v := by
  have := V_set (zs := zs.take n) (k := k) (v := v) (by simp; omega)
  rw [← List.take_set, List.getD_eq_getElem?_getD, List.getElem?_take, if_pos h, ← List.getD_eq_getElem?_getD] at this
  exact this
theorem mul_step {zs vs : List Nat} {A x y c i j m P : Nat} (hm : j < m) (hz : i + m ≤ zs.length) (hv : V (vs.take (j + 1)) = V (vs.take j) + 10000 ^ j * y) (h : V (zs.take (i + m)) + 10000 ^ (i + j) * c = P + 10000 ^ i * (x * V (vs.take j))) :
    V ((zs.set (i + j) ((c + (x * y + zs.getD (i + j) 0)) % 10000)).take (i + m)) + 10000 ^ (i + (j + 1)) * ((c + (x * y + zs.getD (i + j) 0)) / 10000) = P + 10000 ^ i * (x * V (vs.take (j + 1))) := by
  have h1 := V_set_take (zs := zs) (k := i + j) (n := i + m) (v := (c + (x * y + zs.getD (i + j) 0)) % 10000) (by omega) hz
  generalize zs.getD (i + j) 0 = z at *
  have h2 := Nat.mod_add_div (c + (x * y + z)) 10000
  generalize (c + (x * y + z)) % 10000 = r at *
  generalize (c + (x * y + z)) / 10000 = q at *
  have h3 : 10000 ^ (i + j) * (r + 10000 * q) = 10000 ^ (i + j) * (c + (x * y + z)) := by rw [h2]
  have h4 : 10000 ^ i * (x * V (vs.take (j + 1))) = 10000 ^ i * (x * V (vs.take j)) + 10000 ^ (i + j) * (x * y) := by
    rw [hv, Nat.mul_add, Nat.mul_add, Nat.pow_add, Nat.mul_left_comm x, Nat.mul_assoc]
  rw [h4, ← Nat.add_assoc i j 1, Nat.pow_succ, Nat.mul_assoc]
  rw [Nat.mul_add, Nat.mul_add, Nat.mul_add] at h3
  omega
theorem mul_end {us zs : List Nat} {c i m W : Nat} (hi : i < us.length) (hz : i + m < zs.length) (h : V (zs.take (i + m)) + 10000 ^ (i + m) * c = V (us.take i) * W + 10000 ^ i * (us.getD i 0 * W)) :
    V ((zs.set (i + m) c).take (i + 1 + m)) = V (us.take (i + 1)) * W := by
  rw [Nat.add_right_comm, V_take_succ _ (by simpa using hz), List.take_set_of_le (Nat.le_refl _), List.getD_eq_getElem?_getD, List.getElem?_set_self hz, V_take_succ us hi, Nat.add_mul, Nat.mul_assoc, ← h]
  rfl

theorem nmul_any {f g : Bool} {a b : Nat} (ha : Ok (D a)) (hb : Ok (D b)) (hab : (D a).length + (D b).length + 1 ≤ 1099511627776) : PT Try.prog 106 [NP f a, NP g b] (isV (NP ((f != g) && decide (0 < a * b)) (a * b))) := by
  have hal := ha.len
  have hbl := hb.len
  have e : a * b = V (D a) * V (D b) := by rw [V_D, V_D]
  rw [e]
  clear e
  rw [NP_def, NP_def]
  have hx' := ha.lm
  have hy' := hb.lm
  generalize D a = us at *
  generalize D b = vs at *
  refine PCalls.enter (n := 85) (rs := [.cell 4 103]) (tb := [(9, [(0, []), (1, []), (2, []), (3, []), (4, []), (5, []), (6, []), (7, []), (8, []), (9, []), (10, []), (11, []), (12, []), (13, []), (14, []), (15, []), (16, []), (17, []), (18, []), (19, []), (20, [])]), (1000009, [(0, []), (0, []), (0, []), (0, []), (12, []), (30, []), (62, []), (127, []), (0, []), (256, []), (0, []), (1792, []), (3840, []), (0, []), (8192, []), (0, []), (57344, []), (122880, []), (261888, []), (524287, []), (1048575, [])]), (12, [(0, []), (1, []), (2, []), (3, []), (4, []), (5, []), (6, []), (7, []), (8, []), (9, []), (10, []), (11, []), (12, []), (13, []), (14, []), (15, []), (16, []), (17, [])]), (1000012, [(0, []), (0, []), (0, []), (4, []), (12, []), (30, []), (0, []), (0, []), (0, []), (256, []), (768, []), (1920, []), (4032, []), (8128, []), (0, []), (32704, []), (65535, []), (131071, [])])]) Try.func106 rfl rfl rfl (by kernel_rfl) (by kernel_rfl) (by simp) fun c hc ht => ?_
  simp -implicitDefEqProofs (disch := omega) only [go_sem, ht]
  refine LW.loopW hc ht (by kernel_rfl) (fun s => s.sl 2 = .ptr 0 0 ∧ s.sl 3 = .ptr 1 0 ∧ s.sl 4 = .ptr 2 0 ∧ s.H 0 = some [.val (.bool f), .sl us.length (us.map I)] ∧ s.H 1 = some [.val (.bool g), .sl vs.length (vs.map I)] ∧ s.H 2 = some [.val (.bool false), .val (.slice none 0 0)] ∧
      s.sl 5 = .ref 3 0 (us.length + vs.length + 1) (us.length + vs.length + 1) 1 ∧ 3 < s.nx ∧ ∃ i : Nat, i ≤ us.length ∧ s.sl 6 = .val (.int .i64 i) ∧
      ∃ zs : List Nat, zs.length = us.length + vs.length + 1 ∧ s.H 3 = some (zs.map I) ∧ Lm zs ∧ (∀ j, i + vs.length ≤ j → zs.getD j 0 = 0) ∧ Hide (V (zs.take (i + vs.length)) = V (us.take i) * V vs))
      (fun s => match s.sl 6 with | .val (.int _ i) => us.length - i.toNat | _ => 0) ?_ ?_
  · simp -implicitDefEqProofs (disch := omega) only [go_sem, ht]
    exact ⟨0, Nat.zero_le _, rfl, List.replicate (us.length + vs.length + 1) 0, by simp, rfl, Lm_repl _, fun j _ => by rw [List.getD_eq_getElem?_getD, List.getElem?_replicate]; split <;> rfl, Hide.mk (by rw [List.take_replicate, V_repl]; simp [V])⟩
  · rintro s ⟨h2, h3, h4, hH0, hH1, hH2, h5, hnx3, i, hi, h6, zs, hzl, hH, hzm, hz0, heq⟩
    by_cases hil : i = us.length
    · have e : V us * V vs = V zs := by
        have h1 := heq.out
        have h2 := V_split zs (i := i + vs.length) (by omega)
        have h3 : V (zs.drop (i + vs.length)) = 0 := V_zero_of fun j hj => by
          rw [List.getD_eq_getElem?_getD, List.getElem?_drop, ← List.getD_eq_getElem?_getD]
          exact hz0 _ (Nat.le_add_right _ _)
        rw [h3, Nat.mul_zero, Nat.add_zero, h1, hil, List.take_length] at h2
        exact h2.symm
      have hmd := made_any (xs := zs) (neg := f != g) ⟨hzm, by omega⟩
      rw [SI_def, hzl] at hmd
      rw [e]
      generalize ((f != g) && decide (0 < V zs)) = sfg at *
      rw [NP_def] at hmd ⊢
      have hT : List.take (us.length + vs.length + 1) (zs.map I) = zs.map I := List.take_of_length_le (by simp [hzl])
      simp -implicitDefEqProofs (disch := omega) only [go_sem, ht, h2, h3, h4, h5, h6, hH0, hH1, hH2, hH]
      (refine pCall_frz (fun i => decide (i = 3)) 1 (by simp -implicitDefEqProofs (disch := omega) only [dropH_at, decide_eq_true_eq, h2, h3, h4, h5, h6, hH0, hH1, hH2, hH, hT, hzl, if_pos, Nat.le_refl, go_sem, ht] <;> rfl) (by simp -implicitDefEqProofs (disch := omega) only [dropH_at, decide_eq_true_eq, h2, h3, h4, h5, h6, hH0, hH1, hH2, hH, hT, hzl, if_pos, Nat.le_refl, go_sem, ht]) (by simp -implicitDefEqProofs (disch := omega) only [dropH_at, decide_eq_true_eq, h2, h3, h4, h5, h6, hH0, hH1, hH2, hH, hT, hzl, if_pos, Nat.le_refl, go_sem, ht] <;> rfl) (by simp -implicitDefEqProofs (disch := omega) only [dropH_at, decide_eq_true_eq, h2, h3, h4, h5, h6, hH0, hH1, hH2, hH, hT, hzl, if_pos, Nat.le_refl, go_sem, ht]) (hmd) ?_; rintro _ nx - rfl hnx; (try simp only [put_nx, withH_nx, begP_nx] at hnx); simp -implicitDefEqProofs (disch := omega) only [dropH_at, decide_eq_true_eq, h2, h3, h4, h5, h6, hH0, hH1, hH2, hH, hT, hzl, if_pos, Nat.le_refl, go_sem, ht])
      (refine end_treeN 2 ?_; simp -implicitDefEqProofs (disch := omega) only [go_sem, ht, h2, h3, h4, h5, h6, hH0, hH1, hH2, hH])
    · have hxg := hx'.get i
      simp -implicitDefEqProofs (disch := omega) only [go_sem, ht, h2, h3, h4, h5, h6, hH0, hH1, hH2, hH]
      refine LW.loopW hc ht (by kernel_rfl) (fun t => t.sl 2 = .ptr 0 0 ∧ t.sl 3 = .ptr 1 0 ∧ t.sl 4 = .ptr 2 0 ∧ t.H 0 = some [.val (.bool f), .sl us.length (us.map I)] ∧ t.H 1 = some [.val (.bool g), .sl vs.length (vs.map I)] ∧ t.H 2 = some [.val (.bool false), .val (.slice none 0 0)] ∧
        t.sl 5 = .ref 3 0 (us.length + vs.length + 1) (us.length + vs.length + 1) 1 ∧ 3 < t.nx ∧ t.sl 6 = .val (.int .i64 i) ∧ ∃ j : Nat, j ≤ vs.length ∧ t.sl 8 = .val (.int .i64 j) ∧
        ∃ (zs : List Nat) (c : Nat), zs.length = us.length + vs.length + 1 ∧ t.H 3 = some (zs.map I) ∧ Lm zs ∧ t.sl 7 = .val (.int .i64 c) ∧ c < 10000 ∧ (∀ j, i + vs.length ≤ j → zs.getD j 0 = 0) ∧
          Hide (V (zs.take (i + vs.length)) + 10000 ^ (i + j) * c = V (us.take i) * V vs + 10000 ^ i * (us.getD i 0 * V (vs.take j))))
        (fun t => match t.sl 8 with | .val (.int _ j) => vs.length - j.toNat | _ => 0) ?_ ?_
      · simp -implicitDefEqProofs (disch := omega) only [go_sem, ht, h2, h3, h4, h5, h6, hH0, hH1, hH2, hH]
        exact ⟨hnx3, 0, Nat.zero_le _, rfl, zs, 0, hzl, rfl, hzm, rfl, by omega, hz0, Hide.mk (by rw [heq.out]; simp [V])⟩
      · clear h2 h3 h4 h5 hH0 hH1 hH2 hH hnx3 hzl hzm hz0 heq zs
        rintro t ⟨h2, h3, h4, hH0, hH1, hH2, h5, hnx3, h6', j, hj, h8, zs, c', hzl, hH, hzm, h7, hc', hz0, heq⟩
        have hset : ∀ k z, z < 10000 → Lm (zs.set k z) := fun k z hz x hx => by
          rcases List.mem_or_eq_of_mem_set hx with h | h
          · exact hzm x h
          · omega
        have hz0' : ∀ k z, k < i + vs.length → ∀ j, i + vs.length ≤ j → (zs.set k z).getD j 0 = 0 := fun k z hk j hj => by
          rw [List.getD_eq_getElem?_getD, List.getElem?_set_ne (by omega), ← List.getD_eq_getElem?_getD]; exact hz0 j hj
        by_cases hjl : j = vs.length
        · have key : Hide (V ((zs.set (i + vs.length) c').take (i + 1 + vs.length)) = V (us.take (i + 1)) * V vs) := by
            have := heq.out
            rw [hjl, List.take_length] at this
            exact Hide.mk (mul_end (by omega) (by omega) this)
          have hzz := hz0 (i + vs.length) (Nat.le_refl _)
          have hz1 : ∀ j, i + 1 + vs.length ≤ j → (zs.set (i + vs.length) c').getD j 0 = 0 := fun j hj => by
            rw [List.getD_eq_getElem?_getD, List.getElem?_set_ne (by omega), ← List.getD_eq_getElem?_getD]; exact hz0 j (by omega)
          clear heq
          simp -implicitDefEqProofs (disch := omega) only [go_sem, ht, h2, h3, h4, h5, h6', hH0, hH1, hH2, hH, h7, h8, hzz]
          exact ⟨⟨hnx3, i + 1, by omega, rfl, _, by simp [hzl], rfl, hset _ _ hc', hz1, key⟩, by omega⟩
        · have hyg := hy'.get j
          have hzg := hzm.get (i + j)
          have key := Hide.mk (mul_step (A := 0) (by omega : j < vs.length) (by omega) (V_take_succ vs (by omega)) heq.out)
          have hxy : us.getD i 0 * vs.getD j 0 ≤ 9999 * 9999 := Nat.mul_le_mul (by omega) (by omega)
          have eo : c' + zs.getD (i + j) 0 + us.getD i 0 * vs.getD j 0 = c' + (us.getD i 0 * vs.getD j 0 + zs.getD (i + j) 0) := by omega
          clear heq
          simp -implicitDefEqProofs (disch := omega) only [go_sem, ht, h2, h3, h4, h5, h6', hH0, hH1, hH2, hH, h7, h8, eo]
          exact ⟨⟨hnx3, j + 1, by omega, rfl, _, _, by simp [hzl], rfl, hset _ _ (Nat.mod_lt _ (by decide)), rfl, by omega, hz0' _ _ (by omega), key⟩, by omega⟩
end Go.Proofs.Ytfjdfnlkobeehaa.Ref
end

section
set_option maxRecDepth 100000
set_option linter.unusedVariables false
set_option linter.unusedSimpArgs false
namespace Go.Proofs.Ytfjdfnlkobeehaa.Ref

theorem abs_calls {n : Nat} {neg : Bool} (h : Ok (D n)) : PT Try.prog 134 [NP neg n] (isV (NP false n)) := by
  have hlen := h.len
  have hm := made_calls h
  rw [V_D, NP_def] at hm
  rw [NP_def, NP_def]
  refine PCalls.enter (n := 7) (rs := [.cell 2 103]) (tb := []) Try.func134 rfl rfl rfl (by kernel_rfl) (by kernel_rfl) (by simp) fun c hc ht => ?_
  simp -implicitDefEqProofs (disch := omega) only [go_sem, ht]
  refine append_nil (e := 3) (b := 8) (m := (D n).length) (z := .int .i64 0) (ys := (D n).map I) T23_elem rfl T3_size T3_bytes T3_zero (by simp -implicitDefEqProofs (disch := omega) only [go_sem, ht, srcP_sl]) (by simp -implicitDefEqProofs (disch := omega) only [go_sem, ht]) (by omega) (fun h0 => ?_) fun cap' rest' h1 h2 => ?_
  · have hn := D_len_zero.1 h0
    subst hn
    rw [D_zero] at hm ⊢
    simp -implicitDefEqProofs (disch := omega) only [go_sem, ht]
    (refine pCall_vw (by refine ⟨⟨?_, ?_⟩, ?_, ?_⟩; rotate_left 2; (first | (right; rintro r rfl; rfl) | left); all_goals ((try simp -implicitDefEqProofs (disch := omega) only [go_sem, ht]) <;> rfl)) (hm) ?_; rintro _ nx - rfl hnx; simp -implicitDefEqProofs (disch := omega) only [go_sem, ht])
    (refine end_treeN 2 ?_; simp -implicitDefEqProofs (disch := omega) only [go_sem, ht])
  · simp -implicitDefEqProofs (disch := omega) only [go_sem, ht]
    (refine pCall_frz (fun i => decide (i = 2)) 1 (by simp -implicitDefEqProofs (disch := omega) only [dropH_at, decide_eq_true_eq, if_pos, go_sem, ht] <;> rfl) (by simp -implicitDefEqProofs (disch := omega) only [dropH_at, decide_eq_true_eq, if_pos, go_sem, ht]) (by simp -implicitDefEqProofs (disch := omega) only [dropH_at, decide_eq_true_eq, if_pos, go_sem, ht] <;> rfl) (by simp -implicitDefEqProofs (disch := omega) only [dropH_at, decide_eq_true_eq, if_pos, go_sem, ht]) (hm) ?_; rintro _ nx - rfl hnx; (try simp only [put_nx, withH_nx, begP_nx] at hnx); simp -implicitDefEqProofs (disch := omega) only [dropH_at, decide_eq_true_eq, if_pos, go_sem, ht])
    (refine end_treeN 2 ?_; simp -implicitDefEqProofs (disch := omega) only [go_sem, ht, dropH_at, decide_eq_true_eq])

end Go.Proofs.Ytfjdfnlkobeehaa.Ref

namespace Go.Proofs.Ytfjdfnlkobeehaa.Ref

end Go.Proofs.Ytfjdfnlkobeehaa.Ref

namespace Go.Proofs.Ytfjdfnlkobeehaa.Ref

theorem div_alg {b Z R A x q : Nat} (h : b * Z + R = A) (hq : b * q ≤ R * 10000 + x) : b * (q + 10000 * Z) + (R * 10000 + x - b * q) = x + 10000 * A := by
  rw [Nat.mul_add, Nat.mul_left_comm b 10000 Z, ← h, Nat.mul_add]
  omega

set_option maxHeartbeats 4000000 in
theorem divided_calls {fa fb : Bool} {a b : Nat} (ha : Ok (D a)) (hb : Ok (D b)) (hb0 : b ≠ 0) (hsz : (D b).length + 1 ≤ 1099511627776) : PT Try.prog 135 [NP fa a, NP fb b] (isV (.tup [NP false (a / b), NP false (a % b)])) := by
  have hal := ha.len
  have hbl := hb.len
  have hva := V_D a
  have hvb := V_D b
  have hbp := D_len_pos hb0
  have hab := abs_calls (neg := fb) hb
  have hsmb := fun (k : Nat) (hk : k ≤ 9999) => small_calls (k := k) (more := 0) hb (by omega) (by omega)
  have hok : ∀ r, r < b * 10000 → Ok (D r) := fun r hr => ⟨Lm_D _, by
    have h1 := V_lt hb.lm
    rw [V_D] at h1
    have h2 : r < 10000 ^ ((D b).length + 1) := by rw [Nat.pow_succ]; omega
    have := D_len_le.2 h2
    omega⟩
  have hbig : 10000 ^ ((D b).length - 1) ≤ b := D_len_gt.1 (by omega)
  have hstart : ∀ S, (D a).length ≤ S + ((D b).length - 1) → V ((D a).drop S) < b := fun S hS => by
    have h1 := V_lt (ha.lm.drop S)
    rw [List.length_drop] at h1
    exact Nat.lt_of_lt_of_le (Nat.lt_of_lt_of_le h1 (Nat.pow_le_pow_right (by decide) (by omega))) hbig
  have hfin : ∀ zs R, b * V zs + R = a → R < b → a / b = V zs ∧ a % b = R := fun zs R h1 h2 => by
    rw [← h1, Nat.mul_add_div (by omega), Nat.div_eq_of_lt h2, Nat.mul_add_mod, Nat.mod_eq_of_lt h2]
    exact ⟨by omega, rfl⟩
  simp only [NP_def] at hab ⊢
  generalize hxs : D a = xs at *
  generalize hys : D b = ys at *
  have hxm : Lm xs := ha.lm
  clear hbig
  refine PCalls.enter (n := 84) (rs := [.cell 4 103, .cell 5 103]) (tb := [(10, [(0, []), (1, []), (2, []), (3, []), (4, []), (5, []), (6, []), (7, []), (8, [2]), (9, [])]), (15, [(0, []), (1, []), (2, []), (5, []), (3, [5]), (4, [5]), (6, []), (7, [])]), (19, [(0, []), (1, []), (2, []), (3, []), (4, [0]), (5, [0]), (6, []), (7, [])]), (20, [(0, []), (2, []), (1, [2]), (3, [2]), (4, [])])]) Try.func135 rfl rfl rfl (by kernel_rfl) (by kernel_rfl) (by simp) fun c hc ht => ?_
  simp -implicitDefEqProofs (disch := omega) only [go_sem, ht]
  by_cases hle : ys.length ≤ xs.length
  · (refine pCall_vw (by refine ⟨⟨?_, ?_⟩, ?_, ?_⟩; rotate_left 2; (first | (right; rintro r rfl; rfl) | left); all_goals ((try simp -implicitDefEqProofs (disch := omega) only [go_sem, ht]) <;> rfl)) (hab) ?_; rintro _ nx - rfl hnx; simp -implicitDefEqProofs (disch := omega) only [go_sem, ht])
    have hT : List.take (xs.length - (xs.length - ys.length + 1)) (List.drop (xs.length - ys.length + 1) (xs.map I)) = (xs.drop (xs.length - ys.length + 1)).map I := by rw [← List.map_drop]; exact List.take_of_length_le (by simp)
    have hdl : (xs.drop (xs.length - ys.length + 1)).length = xs.length - (xs.length - ys.length + 1) := List.length_drop
    have hmd := made_calls (xs := xs.drop (xs.length - ys.length + 1)) ⟨hxm.drop _, by omega⟩
    have hst := hstart (xs.length - ys.length + 1) (by omega)
    have hrl := Nat.le_trans (D_len_V (hxm.drop (xs.length - ys.length + 1))) (Nat.le_of_eq hdl)
    rw [NP_def, SI_def, hdl] at hmd
    refine append_nil (e := 3) (b := 8) (m := xs.length - (xs.length - ys.length + 1)) (z := .int .i64 0) (ys := (xs.drop (xs.length - ys.length + 1)).map I) T23_elem rfl T3_size T3_bytes T3_zero (by simp -implicitDefEqProofs (disch := omega) only [go_sem, ht, srcP_sl, hT, hdl, if_pos]) (by simp -implicitDefEqProofs (disch := omega) only [go_sem, ht]) (by omega) (fun h0 => ?_) fun cap' rest' h1 h2 => ?_
    · have hz : xs.drop (xs.length - ys.length + 1) = [] := List.eq_nil_of_length_eq_zero (by omega)
      have hst' := hst
      rw [h0, hz] at hmd
      simp -implicitDefEqProofs (disch := omega) only [go_sem, ht]
      (refine pCall_vw (by refine ⟨⟨?_, ?_⟩, ?_, ?_⟩; rotate_left 2; (first | (right; rintro r rfl; rfl) | left); all_goals ((try simp -implicitDefEqProofs (disch := omega) only [go_sem, ht]) <;> rfl)) (hmd) ?_; rintro _ nx - rfl hnx; simp -implicitDefEqProofs (disch := omega) only [go_sem, ht])
      refine LW.loopW hc ht (by kernel_rfl) (fun t => t.sl 2 = .ptr 0 0 ∧ t.sl 4 = .ptr 2 0 ∧ t.sl 5 = .ptr 3 0 ∧ t.sl 6 = .ref 4 0 xs.length xs.length 1 ∧ t.H 0 = some [.val (.bool fa), .sl xs.length (xs.map I)] ∧ t.H 2 = some [.val (.bool false), .val (.slice none 0 0)] ∧ t.H 3 = some [.val (.bool false), .val (.slice none 0 0)] ∧
          ∃ r7 r9 k R : Nat, t.sl 7 = .ptr r7 0 ∧ t.H r7 = some [.val (.bool false), .sl ys.length (ys.map I)] ∧ t.sl 9 = .ptr r9 0 ∧ 4 < r7 ∧ r7 < r9 ∧ r9 < t.nx ∧ t.H r9 = some [.val (.bool false), .sl (D R).length ((D R).map I)] ∧ k ≤ xs.length ∧ t.sl 10 = .val (.int .i64 ((k : Int) - 1)) ∧ R < b ∧
          ∃ zs : List Nat, zs.length = xs.length ∧ t.H 4 = some (zs.map I) ∧ Lm zs ∧ Hide (b * V (zs.drop k) + R = V (xs.drop k)))
          (fun t => match t.sl 10 with | .val (.int _ j) => (j + 1).toNat | _ => 0) ?_ ?_
      · simp -implicitDefEqProofs (disch := omega) only [go_sem, ht]
        refine ⟨_, _, (xs.length - ys.length + 1), V (xs.drop (xs.length - ys.length + 1)), rfl, ?_, rfl, by omega, by omega, by omega, ?_, by omega, by first | rfl | (congr 2; omega), hst, List.replicate xs.length 0, by simp, ?_, Lm_repl _, Hide.mk ?_⟩
        · simp -implicitDefEqProofs (disch := omega) only [go_sem, ht]
        · simp -implicitDefEqProofs (disch := omega) only [go_sem, ht]
          rw [hz]
        · simp -implicitDefEqProofs (disch := omega) only [go_sem, ht]
        · rw [List.drop_replicate, V_repl]; omega
      · rintro t ⟨h2, h4, h5, h6, hH0, hH2, hH3, r7, r9, k, R, h7, hH7, h9, hr1, hr2, hr3, hH9, hk, h10, hR, zs, hzl, hH4, hzm, heq⟩
        have hxk := ha.len
        by_cases hk0 : k = 0
        · subst hk0
          have hq := heq.out
          rw [List.drop_zero, List.drop_zero, hva] at hq
          obtain ⟨q1, q2⟩ := hfin zs R hq hR
          have hmz := made_calls (xs := zs) ⟨hzm, by omega⟩
          rw [NP_def, SI_def, hzl] at hmz
          have hT4 : List.take xs.length (zs.map I) = zs.map I := List.take_of_length_le (by simp [hzl])
          rw [q1, q2]
          clear q1 q2 hq heq
          simp -implicitDefEqProofs (disch := omega) only [go_sem, ht, h2, h4, h5, h6, h7, h9, h10, hH0, hH2, hH3, hH4, hH7, hH9]
          (refine pCall_frz (fun i => decide (i = 4)) 1 (by simp -implicitDefEqProofs (disch := omega) only [dropH_at, decide_eq_true_eq, h2, h4, h5, h6, h7, h9, h10, hH0, hH2, hH3, hH4, hH7, hH9, hT4, hzl, if_pos, if_neg, Nat.le_refl, go_sem, ht] <;> rfl) (by simp -implicitDefEqProofs (disch := omega) only [dropH_at, decide_eq_true_eq, h2, h4, h5, h6, h7, h9, h10, hH0, hH2, hH3, hH4, hH7, hH9, hT4, hzl, if_pos, if_neg, Nat.le_refl, go_sem, ht]) (by simp -implicitDefEqProofs (disch := omega) only [dropH_at, decide_eq_true_eq, h2, h4, h5, h6, h7, h9, h10, hH0, hH2, hH3, hH4, hH7, hH9, hT4, hzl, if_pos, if_neg, Nat.le_refl, go_sem, ht] <;> rfl) (by simp -implicitDefEqProofs (disch := omega) only [dropH_at, decide_eq_true_eq, h2, h4, h5, h6, h7, h9, h10, hH0, hH2, hH3, hH4, hH7, hH9, hT4, hzl, if_pos, if_neg, Nat.le_refl, go_sem, ht]) (hmz) ?_; rintro _ nx - rfl hnx; (try simp only [put_nx, withH_nx, begP_nx] at hnx); simp -implicitDefEqProofs (disch := omega) only [dropH_at, decide_eq_true_eq, h2, h4, h5, h6, h7, h9, h10, hH0, hH2, hH3, hH4, hH7, hH9, hT4, hzl, if_pos, if_neg, Nat.le_refl, go_sem, ht])
          (refine end_treeN 2 ?_; simp -implicitDefEqProofs (disch := omega) only [go_sem, ht, h2, h4, h5, h6, h7, h9, h10, hH0, hH2, hH3, hH4, hH7, hH9, if_neg])
        · obtain ⟨i, rfl⟩ : ∃ i, k = i + 1 := ⟨k - 1, by omega⟩
          have e1 : (((i + 1 : Nat) : Int) - 1) = (i : Int) := by omega
          rw [e1] at h10
          have hxg := hxm.get i
          have hR1 : R * 10000 + xs.getD i 0 < b * 10000 := by omega
          have hsm := small_calls (xs := D R) (k := 10000) (more := xs.getD i 0) (hok R (by omega)) (by omega) (by omega)
          rw [V_D] at hsm
          have hV := V_drop xs (i := i) (by omega)
          obtain ⟨R1, eR1⟩ : ∃ R1, R1 = R * 10000 + xs.getD i 0 := ⟨_, rfl⟩
          rw [← eR1] at hsm hR1
          have hm1 := made_calls (hok R1 hR1)
          rw [V_D, NP_def] at hm1
          have oR := hok R1 hR1
          have hoRl := oR.len
          have halg : ∀ q, b * q ≤ R1 → Hide (b * (q + 10000 * V (zs.drop (i + 1))) + (R1 - b * q) = V (xs.drop i)) := fun q hq => by
            rw [eR1] at hq ⊢
            rw [hV]
            exact Hide.mk (div_alg heq.out hq)
          clear heq hV
          simp -implicitDefEqProofs (disch := omega) only [go_sem, ht, h2, h4, h5, h6, h7, h9, h10, hH0, hH2, hH3, hH4, hH7, hH9]
          (refine pCall_vw (by refine ⟨⟨?_, ?_⟩, ?_, ?_⟩; rotate_left 2; (first | (right; rintro r rfl; rfl) | left); all_goals ((try simp -implicitDefEqProofs (disch := omega) only [h2, h4, h5, h6, h7, h9, h10, hH0, hH2, hH3, hH4, hH7, hH9, go_sem, ht]) <;> rfl)) (hsm) ?_; rintro _ nx - rfl hnx; simp -implicitDefEqProofs (disch := omega) only [h2, h4, h5, h6, h7, h9, h10, hH0, hH2, hH3, hH4, hH7, hH9, go_sem, ht])
          (refine pCall_vw (by refine ⟨⟨?_, ?_⟩, ?_, ?_⟩; rotate_left 2; (first | (right; rintro r rfl; rfl) | left); all_goals ((try simp -implicitDefEqProofs (disch := omega) only [h2, h4, h5, h6, h7, h9, h10, hH0, hH2, hH3, hH4, hH7, hH9, go_sem, ht]) <;> rfl)) (hm1) ?_; rintro _ nx - rfl hnx; simp -implicitDefEqProofs (disch := omega) only [h2, h4, h5, h6, h7, h9, h10, hH0, hH2, hH3, hH4, hH7, hH9, go_sem, ht])
          refine LW.loopW hc ht (by kernel_rfl) (fun s => s.sl 2 = .ptr 0 0 ∧ s.sl 4 = .ptr 2 0 ∧ s.sl 5 = .ptr 3 0 ∧ s.sl 6 = .ref 4 0 xs.length xs.length 1 ∧ s.sl 7 = .ptr r7 0 ∧ s.sl 9 = .ptr r9 0 ∧ s.sl 10 = .val (.int .i64 i) ∧ s.H 0 = some [.val (.bool fa), .sl xs.length (xs.map I)] ∧ s.H 2 = some [.val (.bool false), .val (.slice none 0 0)] ∧ s.H 3 = some [.val (.bool false), .val (.slice none 0 0)] ∧
              s.H 4 = some (zs.map I) ∧ s.H r7 = some [.val (.bool false), .sl ys.length (ys.map I)] ∧ s.H r9 = some [.val (.bool false), .sl (D R1).length ((D R1).map I)] ∧ r9 < s.nx ∧ ∃ lo hi : Nat, s.sl 11 = .val (.int .i64 lo) ∧ s.sl 12 = .val (.int .i64 hi) ∧ lo ≤ hi ∧ hi ≤ 9999 ∧ Hide (b * lo ≤ R1) ∧ Hide (R1 < b * (hi + 1)))
            (fun s => match s.sl 11, s.sl 12 with | .val (.int _ lo), .val (.int _ hi) => hi.toNat - lo.toNat | _, _ => 0) ?_ ?_
          · simp -implicitDefEqProofs (disch := omega) only [go_sem, ht, h2, h4, h5, h6, h7, h9, h10, hH0, hH2, hH3, hH4, hH7, hH9]
            exact ⟨by omega, 0, 9999, rfl, rfl, by omega, by omega, Hide.mk (by simp), Hide.mk hR1⟩
          · clear h2 h4 h5 h6 h7 h9 hH0 hH2 hH3 hH4 hH7 hH9
            rintro s ⟨g2, g4, g5, g6, g7, g9, g10, gH0, gH2, gH3, gH4, gH7, gH9, gnx, lo, hi, g11, g12, hlh, hhi, hlo, hhi2⟩
            by_cases hlt : lo < hi
            · have hmid : (lo + hi + 1) / 2 ≤ hi ∧ lo < (lo + hi + 1) / 2 := by omega
              obtain ⟨mid, emid⟩ : ∃ mid, mid = (lo + hi + 1) / 2 := ⟨_, rfl⟩
              rw [← emid] at hmid
              have hsmm := hsmb mid (by omega)
              rw [hvb, Nat.add_zero] at hsmm
              have hbm : b * mid < b * 10000 := Nat.mul_lt_mul_of_pos_left (by omega) (Nat.pos_of_ne_zero hb0)
              have hmm := made_calls (hok _ hbm)
              rw [V_D, NP_def] at hmm
              have hsz2 := size_calls (f := false) (g := false) (hok _ hbm) oR
              rw [NP_def, NP_def] at hsz2
              have hml := (hok _ hbm).len
              by_cases hcm : b * mid ≤ R1
              · have hc0 : cmpI (b * mid) R1 ≤ 0 := by
                  unfold cmpI; split
                  · omega
                  · split <;> omega
                have hcm := Hide.mk hcm
                generalize cmpI (b * mid) R1 = cm at *
                simp -implicitDefEqProofs (disch := omega) only [go_sem, ht, g2, g4, g5, g6, g7, g9, g10, g11, g12, gH0, gH2, gH3, gH4, gH7, gH9, emid.symm]
                (refine pCall_vw (by refine ⟨⟨?_, ?_⟩, ?_, ?_⟩; rotate_left 2; (first | (right; rintro r rfl; rfl) | left); all_goals ((try simp -implicitDefEqProofs (disch := omega) only [g2, g4, g5, g6, g7, g9, g10, g11, g12, gH0, gH2, gH3, gH4, gH7, gH9, emid.symm, go_sem, ht]) <;> rfl)) (hsmm) ?_; rintro _ nx - rfl hnx; simp -implicitDefEqProofs (disch := omega) only [g2, g4, g5, g6, g7, g9, g10, g11, g12, gH0, gH2, gH3, gH4, gH7, gH9, emid.symm, go_sem, ht])
                (refine pCall_vw (by refine ⟨⟨?_, ?_⟩, ?_, ?_⟩; rotate_left 2; (first | (right; rintro r rfl; rfl) | left); all_goals ((try simp -implicitDefEqProofs (disch := omega) only [g2, g4, g5, g6, g7, g9, g10, g11, g12, gH0, gH2, gH3, gH4, gH7, gH9, emid.symm, go_sem, ht]) <;> rfl)) (hmm) ?_; rintro _ nx - rfl hnx; simp -implicitDefEqProofs (disch := omega) only [g2, g4, g5, g6, g7, g9, g10, g11, g12, gH0, gH2, gH3, gH4, gH7, gH9, emid.symm, go_sem, ht])
                (refine pCall_vw (by refine ⟨⟨?_, ?_⟩, ?_, ?_⟩; rotate_left 2; (first | (right; rintro r rfl; rfl) | left); all_goals ((try simp -implicitDefEqProofs (disch := omega) only [g2, g4, g5, g6, g7, g9, g10, g11, g12, gH0, gH2, gH3, gH4, gH7, gH9, emid.symm, go_sem, ht]) <;> rfl)) (hsz2) ?_; rintro _ nx - rfl hnx; simp -implicitDefEqProofs (disch := omega) only [g2, g4, g5, g6, g7, g9, g10, g11, g12, gH0, gH2, gH3, gH4, gH7, gH9, emid.symm, go_sem, ht])
                exact ⟨⟨by omega, mid, hi, rfl, rfl, by omega, by omega, hcm, hhi2⟩, by omega⟩
              · have hc0 : 0 < cmpI (b * mid) R1 := by
                  unfold cmpI; split
                  · omega
                  · split <;> omega
                have hcm := Hide.mk (show R1 < b * (mid - 1 + 1) by rw [Nat.sub_add_cancel (by omega)]; omega)
                generalize cmpI (b * mid) R1 = cm at *
                simp -implicitDefEqProofs (disch := omega) only [go_sem, ht, g2, g4, g5, g6, g7, g9, g10, g11, g12, gH0, gH2, gH3, gH4, gH7, gH9, emid.symm]
                (refine pCall_vw (by refine ⟨⟨?_, ?_⟩, ?_, ?_⟩; rotate_left 2; (first | (right; rintro r rfl; rfl) | left); all_goals ((try simp -implicitDefEqProofs (disch := omega) only [g2, g4, g5, g6, g7, g9, g10, g11, g12, gH0, gH2, gH3, gH4, gH7, gH9, emid.symm, go_sem, ht]) <;> rfl)) (hsmm) ?_; rintro _ nx - rfl hnx; simp -implicitDefEqProofs (disch := omega) only [g2, g4, g5, g6, g7, g9, g10, g11, g12, gH0, gH2, gH3, gH4, gH7, gH9, emid.symm, go_sem, ht])
                (refine pCall_vw (by refine ⟨⟨?_, ?_⟩, ?_, ?_⟩; rotate_left 2; (first | (right; rintro r rfl; rfl) | left); all_goals ((try simp -implicitDefEqProofs (disch := omega) only [g2, g4, g5, g6, g7, g9, g10, g11, g12, gH0, gH2, gH3, gH4, gH7, gH9, emid.symm, go_sem, ht]) <;> rfl)) (hmm) ?_; rintro _ nx - rfl hnx; simp -implicitDefEqProofs (disch := omega) only [g2, g4, g5, g6, g7, g9, g10, g11, g12, gH0, gH2, gH3, gH4, gH7, gH9, emid.symm, go_sem, ht])
                (refine pCall_vw (by refine ⟨⟨?_, ?_⟩, ?_, ?_⟩; rotate_left 2; (first | (right; rintro r rfl; rfl) | left); all_goals ((try simp -implicitDefEqProofs (disch := omega) only [g2, g4, g5, g6, g7, g9, g10, g11, g12, gH0, gH2, gH3, gH4, gH7, gH9, emid.symm, go_sem, ht]) <;> rfl)) (hsz2) ?_; rintro _ nx - rfl hnx; simp -implicitDefEqProofs (disch := omega) only [g2, g4, g5, g6, g7, g9, g10, g11, g12, gH0, gH2, gH3, gH4, gH7, gH9, emid.symm, go_sem, ht])
                exact ⟨⟨by omega, lo, mid - 1, rfl, rfl, by omega, by omega, hlo, hcm⟩, by omega⟩
            · have hle2 : lo = hi := by omega
              subst hle2
              have hbm : b * lo < b * 10000 := Nat.mul_lt_mul_of_pos_left (by omega) (Nat.pos_of_ne_zero hb0)
              have hsmm := hsmb lo (by omega)
              rw [hvb, Nat.add_zero] at hsmm
              have hmm := made_calls (hok _ hbm)
              rw [V_D, NP_def] at hmm
              have hml := (hok _ hbm).len
              have hsub := nminus_calls oR (hok _ hbm) hlo.out
              simp only [NP_def] at hsub
              have hR2 : R1 - b * lo < b := by
                have h1 := hhi2.out
                have h2 := hlo.out
                rw [Nat.mul_add, Nat.mul_one] at h1
                omega
              have hal2 := halg lo hlo.out
              have hset : Lm (zs.set i lo) := fun x hx => by
                rcases List.mem_or_eq_of_mem_set hx with h | h
                · exact hzm x h
                · omega
              have hds : Hide (b * V ((zs.set i lo).drop i) + (R1 - b * lo) = V (xs.drop i)) := by
                rw [V_set_drop (by omega)]; exact hal2
              have hrl2 := (hok (R1 - b * lo) (by omega)).len
              clear halg hal2
              simp -implicitDefEqProofs (disch := omega) only [go_sem, ht, g2, g4, g5, g6, g7, g9, g10, g11, g12, gH0, gH2, gH3, gH4, gH7, gH9]
              (refine pCall_vw (by refine ⟨⟨?_, ?_⟩, ?_, ?_⟩; rotate_left 2; (first | (right; rintro r rfl; rfl) | left); all_goals ((try simp -implicitDefEqProofs (disch := omega) only [g2, g4, g5, g6, g7, g9, g10, g11, g12, gH0, gH2, gH3, gH4, gH7, gH9, go_sem, ht]) <;> rfl)) (hsmm) ?_; rintro _ nx - rfl hnx; simp -implicitDefEqProofs (disch := omega) only [g2, g4, g5, g6, g7, g9, g10, g11, g12, gH0, gH2, gH3, gH4, gH7, gH9, go_sem, ht])
              (refine pCall_vw (by refine ⟨⟨?_, ?_⟩, ?_, ?_⟩; rotate_left 2; (first | (right; rintro r rfl; rfl) | left); all_goals ((try simp -implicitDefEqProofs (disch := omega) only [g2, g4, g5, g6, g7, g9, g10, g11, g12, gH0, gH2, gH3, gH4, gH7, gH9, go_sem, ht]) <;> rfl)) (hmm) ?_; rintro _ nx - rfl hnx; simp -implicitDefEqProofs (disch := omega) only [g2, g4, g5, g6, g7, g9, g10, g11, g12, gH0, gH2, gH3, gH4, gH7, gH9, go_sem, ht])
              (refine pCall_vw (by refine ⟨⟨?_, ?_⟩, ?_, ?_⟩; rotate_left 2; (first | (right; rintro r rfl; rfl) | left); all_goals ((try simp -implicitDefEqProofs (disch := omega) only [g2, g4, g5, g6, g7, g9, g10, g11, g12, gH0, gH2, gH3, gH4, gH7, gH9, go_sem, ht]) <;> rfl)) (hsub) ?_; rintro _ nx - rfl hnx; simp -implicitDefEqProofs (disch := omega) only [g2, g4, g5, g6, g7, g9, g10, g11, g12, gH0, gH2, gH3, gH4, gH7, gH9, go_sem, ht])
              exact ⟨⟨r7, r9, i, R1 - b * lo, rfl, by simp -implicitDefEqProofs (disch := omega) only [go_sem, ht, gH7], rfl, by omega, by omega, by omega, by simp -implicitDefEqProofs (disch := omega) only [go_sem, ht], by omega, rfl, hR2, zs.set i lo, by simp [hzl], rfl, hset, hds⟩, by omega⟩
    · have hT2 : List.take (xs.length - (xs.length - ys.length + 1)) ((xs.drop (xs.length - ys.length + 1)).map I ++ List.map PV.val rest') = (xs.drop (xs.length - ys.length + 1)).map I := by rw [← hdl]; exact take_Il _ _
      simp -implicitDefEqProofs (disch := omega) only [go_sem, ht]
      (refine pCall_frz (fun i => decide (i = nx + 1)) 1 (by simp -implicitDefEqProofs (disch := omega) only [dropH_at, decide_eq_true_eq, hT2, if_pos, if_neg, go_sem, ht] <;> rfl) (by simp -implicitDefEqProofs (disch := omega) only [dropH_at, decide_eq_true_eq, hT2, if_pos, if_neg, go_sem, ht]) (by simp -implicitDefEqProofs (disch := omega) only [dropH_at, decide_eq_true_eq, hT2, if_pos, if_neg, go_sem, ht] <;> rfl) (by simp -implicitDefEqProofs (disch := omega) only [dropH_at, decide_eq_true_eq, hT2, if_pos, if_neg, go_sem, ht]) (hmd) ?_; rintro _ nx - rfl hnx; (try simp only [put_nx, withH_nx, begP_nx] at hnx); simp -implicitDefEqProofs (disch := omega) only [dropH_at, decide_eq_true_eq, hT2, if_pos, if_neg, go_sem, ht])
      refine LW.loopW hc ht (by kernel_rfl) (fun t => t.sl 2 = .ptr 0 0 ∧ t.sl 4 = .ptr 2 0 ∧ t.sl 5 = .ptr 3 0 ∧ t.sl 6 = .ref 4 0 xs.length xs.length 1 ∧ t.H 0 = some [.val (.bool fa), .sl xs.length (xs.map I)] ∧ t.H 2 = some [.val (.bool false), .val (.slice none 0 0)] ∧ t.H 3 = some [.val (.bool false), .val (.slice none 0 0)] ∧
          ∃ r7 r9 k R : Nat, t.sl 7 = .ptr r7 0 ∧ t.H r7 = some [.val (.bool false), .sl ys.length (ys.map I)] ∧ t.sl 9 = .ptr r9 0 ∧ 4 < r7 ∧ r7 < r9 ∧ r9 < t.nx ∧ t.H r9 = some [.val (.bool false), .sl (D R).length ((D R).map I)] ∧ k ≤ xs.length ∧ t.sl 10 = .val (.int .i64 ((k : Int) - 1)) ∧ R < b ∧
          ∃ zs : List Nat, zs.length = xs.length ∧ t.H 4 = some (zs.map I) ∧ Lm zs ∧ Hide (b * V (zs.drop k) + R = V (xs.drop k)))
          (fun t => match t.sl 10 with | .val (.int _ j) => (j + 1).toNat | _ => 0) ?_ ?_
      · simp -implicitDefEqProofs (disch := omega) only [go_sem, ht, dropH_at, decide_eq_true_eq, if_neg]
        refine ⟨_, _, (xs.length - ys.length + 1), V (xs.drop (xs.length - ys.length + 1)), rfl, ?_, rfl, by omega, by omega, by omega, ?_, by omega, by first | rfl | (congr 2; omega), hst, List.replicate xs.length 0, by simp, ?_, Lm_repl _, Hide.mk ?_⟩
        · simp -implicitDefEqProofs (disch := omega) only [go_sem, ht, dropH_at, decide_eq_true_eq, if_neg]
        · simp -implicitDefEqProofs (disch := omega) only [go_sem, ht, dropH_at, decide_eq_true_eq, if_neg]
        · simp -implicitDefEqProofs (disch := omega) only [go_sem, ht, dropH_at, decide_eq_true_eq, if_neg]
        · rw [List.drop_replicate, V_repl]; omega
      · rintro t ⟨h2, h4, h5, h6, hH0, hH2, hH3, r7, r9, k, R, h7, hH7, h9, hr1, hr2, hr3, hH9, hk, h10, hR, zs, hzl, hH4, hzm, heq⟩
        have hxk := ha.len
        by_cases hk0 : k = 0
        · subst hk0
          have hq := heq.out
          rw [List.drop_zero, List.drop_zero, hva] at hq
          obtain ⟨q1, q2⟩ := hfin zs R hq hR
          have hmz := made_calls (xs := zs) ⟨hzm, by omega⟩
          rw [NP_def, SI_def, hzl] at hmz
          have hT4 : List.take xs.length (zs.map I) = zs.map I := List.take_of_length_le (by simp [hzl])
          rw [q1, q2]
          clear q1 q2 hq heq
          simp -implicitDefEqProofs (disch := omega) only [go_sem, ht, h2, h4, h5, h6, h7, h9, h10, hH0, hH2, hH3, hH4, hH7, hH9]
          (refine pCall_frz (fun i => decide (i = 4)) 1 (by simp -implicitDefEqProofs (disch := omega) only [dropH_at, decide_eq_true_eq, h2, h4, h5, h6, h7, h9, h10, hH0, hH2, hH3, hH4, hH7, hH9, hT4, hzl, if_pos, if_neg, Nat.le_refl, go_sem, ht] <;> rfl) (by simp -implicitDefEqProofs (disch := omega) only [dropH_at, decide_eq_true_eq, h2, h4, h5, h6, h7, h9, h10, hH0, hH2, hH3, hH4, hH7, hH9, hT4, hzl, if_pos, if_neg, Nat.le_refl, go_sem, ht]) (by simp -implicitDefEqProofs (disch := omega) only [dropH_at, decide_eq_true_eq, h2, h4, h5, h6, h7, h9, h10, hH0, hH2, hH3, hH4, hH7, hH9, hT4, hzl, if_pos, if_neg, Nat.le_refl, go_sem, ht] <;> rfl) (by simp -implicitDefEqProofs (disch := omega) only [dropH_at, decide_eq_true_eq, h2, h4, h5, h6, h7, h9, h10, hH0, hH2, hH3, hH4, hH7, hH9, hT4, hzl, if_pos, if_neg, Nat.le_refl, go_sem, ht]) (hmz) ?_; rintro _ nx - rfl hnx; (try simp only [put_nx, withH_nx, begP_nx] at hnx); simp -implicitDefEqProofs (disch := omega) only [dropH_at, decide_eq_true_eq, h2, h4, h5, h6, h7, h9, h10, hH0, hH2, hH3, hH4, hH7, hH9, hT4, hzl, if_pos, if_neg, Nat.le_refl, go_sem, ht])
          (refine end_treeN 2 ?_; simp -implicitDefEqProofs (disch := omega) only [go_sem, ht, h2, h4, h5, h6, h7, h9, h10, hH0, hH2, hH3, hH4, hH7, hH9, if_neg])
        · obtain ⟨i, rfl⟩ : ∃ i, k = i + 1 := ⟨k - 1, by omega⟩
          have e1 : (((i + 1 : Nat) : Int) - 1) = (i : Int) := by omega
          rw [e1] at h10
          have hxg := hxm.get i
          have hR1 : R * 10000 + xs.getD i 0 < b * 10000 := by omega
          have hsm := small_calls (xs := D R) (k := 10000) (more := xs.getD i 0) (hok R (by omega)) (by omega) (by omega)
          rw [V_D] at hsm
          have hV := V_drop xs (i := i) (by omega)
          obtain ⟨R1, eR1⟩ : ∃ R1, R1 = R * 10000 + xs.getD i 0 := ⟨_, rfl⟩
          rw [← eR1] at hsm hR1
          have hm1 := made_calls (hok R1 hR1)
          rw [V_D, NP_def] at hm1
          have oR := hok R1 hR1
          have hoRl := oR.len
          have halg : ∀ q, b * q ≤ R1 → Hide (b * (q + 10000 * V (zs.drop (i + 1))) + (R1 - b * q) = V (xs.drop i)) := fun q hq => by
            rw [eR1] at hq ⊢
            rw [hV]
            exact Hide.mk (div_alg heq.out hq)
          clear heq hV
          simp -implicitDefEqProofs (disch := omega) only [go_sem, ht, h2, h4, h5, h6, h7, h9, h10, hH0, hH2, hH3, hH4, hH7, hH9]
          (refine pCall_vw (by refine ⟨⟨?_, ?_⟩, ?_, ?_⟩; rotate_left 2; (first | (right; rintro r rfl; rfl) | left); all_goals ((try simp -implicitDefEqProofs (disch := omega) only [h2, h4, h5, h6, h7, h9, h10, hH0, hH2, hH3, hH4, hH7, hH9, go_sem, ht]) <;> rfl)) (hsm) ?_; rintro _ nx - rfl hnx; simp -implicitDefEqProofs (disch := omega) only [h2, h4, h5, h6, h7, h9, h10, hH0, hH2, hH3, hH4, hH7, hH9, go_sem, ht])
          (refine pCall_vw (by refine ⟨⟨?_, ?_⟩, ?_, ?_⟩; rotate_left 2; (first | (right; rintro r rfl; rfl) | left); all_goals ((try simp -implicitDefEqProofs (disch := omega) only [h2, h4, h5, h6, h7, h9, h10, hH0, hH2, hH3, hH4, hH7, hH9, go_sem, ht]) <;> rfl)) (hm1) ?_; rintro _ nx - rfl hnx; simp -implicitDefEqProofs (disch := omega) only [h2, h4, h5, h6, h7, h9, h10, hH0, hH2, hH3, hH4, hH7, hH9, go_sem, ht])
          refine LW.loopW hc ht (by kernel_rfl) (fun s => s.sl 2 = .ptr 0 0 ∧ s.sl 4 = .ptr 2 0 ∧ s.sl 5 = .ptr 3 0 ∧ s.sl 6 = .ref 4 0 xs.length xs.length 1 ∧ s.sl 7 = .ptr r7 0 ∧ s.sl 9 = .ptr r9 0 ∧ s.sl 10 = .val (.int .i64 i) ∧ s.H 0 = some [.val (.bool fa), .sl xs.length (xs.map I)] ∧ s.H 2 = some [.val (.bool false), .val (.slice none 0 0)] ∧ s.H 3 = some [.val (.bool false), .val (.slice none 0 0)] ∧
              s.H 4 = some (zs.map I) ∧ s.H r7 = some [.val (.bool false), .sl ys.length (ys.map I)] ∧ s.H r9 = some [.val (.bool false), .sl (D R1).length ((D R1).map I)] ∧ r9 < s.nx ∧ ∃ lo hi : Nat, s.sl 11 = .val (.int .i64 lo) ∧ s.sl 12 = .val (.int .i64 hi) ∧ lo ≤ hi ∧ hi ≤ 9999 ∧ Hide (b * lo ≤ R1) ∧ Hide (R1 < b * (hi + 1)))
            (fun s => match s.sl 11, s.sl 12 with | .val (.int _ lo), .val (.int _ hi) => hi.toNat - lo.toNat | _, _ => 0) ?_ ?_
          · simp -implicitDefEqProofs (disch := omega) only [go_sem, ht, h2, h4, h5, h6, h7, h9, h10, hH0, hH2, hH3, hH4, hH7, hH9]
            exact ⟨by omega, 0, 9999, rfl, rfl, by omega, by omega, Hide.mk (by simp), Hide.mk hR1⟩
          · clear h2 h4 h5 h6 h7 h9 hH0 hH2 hH3 hH4 hH7 hH9
            rintro s ⟨g2, g4, g5, g6, g7, g9, g10, gH0, gH2, gH3, gH4, gH7, gH9, gnx, lo, hi, g11, g12, hlh, hhi, hlo, hhi2⟩
            by_cases hlt : lo < hi
            · have hmid : (lo + hi + 1) / 2 ≤ hi ∧ lo < (lo + hi + 1) / 2 := by omega
              obtain ⟨mid, emid⟩ : ∃ mid, mid = (lo + hi + 1) / 2 := ⟨_, rfl⟩
              rw [← emid] at hmid
              have hsmm := hsmb mid (by omega)
              rw [hvb, Nat.add_zero] at hsmm
              have hbm : b * mid < b * 10000 := Nat.mul_lt_mul_of_pos_left (by omega) (Nat.pos_of_ne_zero hb0)
              have hmm := made_calls (hok _ hbm)
              rw [V_D, NP_def] at hmm
              have hsz2 := size_calls (f := false) (g := false) (hok _ hbm) oR
              rw [NP_def, NP_def] at hsz2
              have hml := (hok _ hbm).len
              by_cases hcm : b * mid ≤ R1
              · have hc0 : cmpI (b * mid) R1 ≤ 0 := by
                  unfold cmpI; split
                  · omega
                  · split <;> omega
                have hcm := Hide.mk hcm
                generalize cmpI (b * mid) R1 = cm at *
                simp -implicitDefEqProofs (disch := omega) only [go_sem, ht, g2, g4, g5, g6, g7, g9, g10, g11, g12, gH0, gH2, gH3, gH4, gH7, gH9, emid.symm]
                (refine pCall_vw (by refine ⟨⟨?_, ?_⟩, ?_, ?_⟩; rotate_left 2; (first | (right; rintro r rfl; rfl) | left); all_goals ((try simp -implicitDefEqProofs (disch := omega) only [g2, g4, g5, g6, g7, g9, g10, g11, g12, gH0, gH2, gH3, gH4, gH7, gH9, emid.symm, go_sem, ht]) <;> rfl)) (hsmm) ?_; rintro _ nx - rfl hnx; simp -implicitDefEqProofs (disch := omega) only [g2, g4, g5, g6, g7, g9, g10, g11, g12, gH0, gH2, gH3, gH4, gH7, gH9, emid.symm, go_sem, ht])
                (refine pCall_vw (by refine ⟨⟨?_, ?_⟩, ?_, ?_⟩; rotate_left 2; (first | (right; rintro r rfl; rfl) | left); all_goals ((try simp -implicitDefEqProofs (disch := omega) only [g2, g4, g5, g6, g7, g9, g10, g11, g12, gH0, gH2, gH3, gH4, gH7, gH9, emid.symm, go_sem, ht]) <;> rfl)) (hmm) ?_; rintro _ nx - rfl hnx; simp -implicitDefEqProofs (disch := omega) only [g2, g4, g5, g6, g7, g9, g10, g11, g12, gH0, gH2, gH3, gH4, gH7, gH9, emid.symm, go_sem, ht])
                (refine pCall_vw (by refine ⟨⟨?_, ?_⟩, ?_, ?_⟩; rotate_left 2; (first | (right; rintro r rfl; rfl) | left); all_goals ((try simp -implicitDefEqProofs (disch := omega) only [g2, g4, g5, g6, g7, g9, g10, g11, g12, gH0, gH2, gH3, gH4, gH7, gH9, emid.symm, go_sem, ht]) <;> rfl)) (hsz2) ?_; rintro _ nx - rfl hnx; simp -implicitDefEqProofs (disch := omega) only [g2, g4, g5, g6, g7, g9, g10, g11, g12, gH0, gH2, gH3, gH4, gH7, gH9, emid.symm, go_sem, ht])
                exact ⟨⟨by omega, mid, hi, rfl, rfl, by omega, by omega, hcm, hhi2⟩, by omega⟩
              · have hc0 : 0 < cmpI (b * mid) R1 := by
                  unfold cmpI; split
                  · omega
                  · split <;> omega
                have hcm := Hide.mk (show R1 < b * (mid - 1 + 1) by rw [Nat.sub_add_cancel (by omega)]; omega)
                generalize cmpI (b * mid) R1 = cm at *
                simp -implicitDefEqProofs (disch := omega) only [go_sem, ht, g2, g4, g5, g6, g7, g9, g10, g11, g12, gH0, gH2, gH3, gH4, gH7, gH9, emid.symm]
                (refine pCall_vw (by refine ⟨⟨?_, ?_⟩, ?_, ?_⟩; rotate_left 2; (first | (right; rintro r rfl; rfl) | left); all_goals ((try simp -implicitDefEqProofs (disch := omega) only [g2, g4, g5, g6, g7, g9, g10, g11, g12, gH0, gH2, gH3, gH4, gH7, gH9, emid.symm, go_sem, ht]) <;> rfl)) (hsmm) ?_; rintro _ nx - rfl hnx; simp -implicitDefEqProofs (disch := omega) only [g2, g4, g5, g6, g7, g9, g10, g11, g12, gH0, gH2, gH3, gH4, gH7, gH9, emid.symm, go_sem, ht])
                (refine pCall_vw (by refine ⟨⟨?_, ?_⟩, ?_, ?_⟩; rotate_left 2; (first | (right; rintro r rfl; rfl) | left); all_goals ((try simp -implicitDefEqProofs (disch := omega) only [g2, g4, g5, g6, g7, g9, g10, g11, g12, gH0, gH2, gH3, gH4, gH7, gH9, emid.symm, go_sem, ht]) <;> rfl)) (hmm) ?_; rintro _ nx - rfl hnx; simp -implicitDefEqProofs (disch := omega) only [g2, g4, g5, g6, g7, g9, g10, g11, g12, gH0, gH2, gH3, gH4, gH7, gH9, emid.symm, go_sem, ht])
                (refine pCall_vw (by refine ⟨⟨?_, ?_⟩, ?_, ?_⟩; rotate_left 2; (first | (right; rintro r rfl; rfl) | left); all_goals ((try simp -implicitDefEqProofs (disch := omega) only [g2, g4, g5, g6, g7, g9, g10, g11, g12, gH0, gH2, gH3, gH4, gH7, gH9, emid.symm, go_sem, ht]) <;> rfl)) (hsz2) ?_; rintro _ nx - rfl hnx; simp -implicitDefEqProofs (disch := omega) only [g2, g4, g5, g6, g7, g9, g10, g11, g12, gH0, gH2, gH3, gH4, gH7, gH9, emid.symm, go_sem, ht])
                exact ⟨⟨by omega, lo, mid - 1, rfl, rfl, by omega, by omega, hlo, hcm⟩, by omega⟩
            · have hle2 : lo = hi := by omega
              subst hle2
              have hbm : b * lo < b * 10000 := Nat.mul_lt_mul_of_pos_left (by omega) (Nat.pos_of_ne_zero hb0)
              have hsmm := hsmb lo (by omega)
              rw [hvb, Nat.add_zero] at hsmm
              have hmm := made_calls (hok _ hbm)
              rw [V_D, NP_def] at hmm
              have hml := (hok _ hbm).len
              have hsub := nminus_calls oR (hok _ hbm) hlo.out
              simp only [NP_def] at hsub
              have hR2 : R1 - b * lo < b := by
                have h1 := hhi2.out
                have h2 := hlo.out
                rw [Nat.mul_add, Nat.mul_one] at h1
                omega
              have hal2 := halg lo hlo.out
              have hset : Lm (zs.set i lo) := fun x hx => by
                rcases List.mem_or_eq_of_mem_set hx with h | h
                · exact hzm x h
                · omega
              have hds : Hide (b * V ((zs.set i lo).drop i) + (R1 - b * lo) = V (xs.drop i)) := by
                rw [V_set_drop (by omega)]; exact hal2
              have hrl2 := (hok (R1 - b * lo) (by omega)).len
              clear halg hal2
              simp -implicitDefEqProofs (disch := omega) only [go_sem, ht, g2, g4, g5, g6, g7, g9, g10, g11, g12, gH0, gH2, gH3, gH4, gH7, gH9]
              (refine pCall_vw (by refine ⟨⟨?_, ?_⟩, ?_, ?_⟩; rotate_left 2; (first | (right; rintro r rfl; rfl) | left); all_goals ((try simp -implicitDefEqProofs (disch := omega) only [g2, g4, g5, g6, g7, g9, g10, g11, g12, gH0, gH2, gH3, gH4, gH7, gH9, go_sem, ht]) <;> rfl)) (hsmm) ?_; rintro _ nx - rfl hnx; simp -implicitDefEqProofs (disch := omega) only [g2, g4, g5, g6, g7, g9, g10, g11, g12, gH0, gH2, gH3, gH4, gH7, gH9, go_sem, ht])
              (refine pCall_vw (by refine ⟨⟨?_, ?_⟩, ?_, ?_⟩; rotate_left 2; (first | (right; rintro r rfl; rfl) | left); all_goals ((try simp -implicitDefEqProofs (disch := omega) only [g2, g4, g5, g6, g7, g9, g10, g11, g12, gH0, gH2, gH3, gH4, gH7, gH9, go_sem, ht]) <;> rfl)) (hmm) ?_; rintro _ nx - rfl hnx; simp -implicitDefEqProofs (disch := omega) only [g2, g4, g5, g6, g7, g9, g10, g11, g12, gH0, gH2, gH3, gH4, gH7, gH9, go_sem, ht])
              (refine pCall_vw (by refine ⟨⟨?_, ?_⟩, ?_, ?_⟩; rotate_left 2; (first | (right; rintro r rfl; rfl) | left); all_goals ((try simp -implicitDefEqProofs (disch := omega) only [g2, g4, g5, g6, g7, g9, g10, g11, g12, gH0, gH2, gH3, gH4, gH7, gH9, go_sem, ht]) <;> rfl)) (hsub) ?_; rintro _ nx - rfl hnx; simp -implicitDefEqProofs (disch := omega) only [g2, g4, g5, g6, g7, g9, g10, g11, g12, gH0, gH2, gH3, gH4, gH7, gH9, go_sem, ht])
              exact ⟨⟨r7, r9, i, R1 - b * lo, rfl, by simp -implicitDefEqProofs (disch := omega) only [go_sem, ht, gH7], rfl, by omega, by omega, by omega, by simp -implicitDefEqProofs (disch := omega) only [go_sem, ht], by omega, rfl, hR2, zs.set i lo, by simp [hzl], rfl, hset, hds⟩, by omega⟩
  · have hskip : (xs.length : Int) - ys.length + 1 ≤ 0 := by omega
    by_cases hs2 : ys.length = xs.length + 1
    · have hsk2 : (xs.length : Int) - ys.length + 1 = 0 := by omega
      (refine pCall_vw (by refine ⟨⟨?_, ?_⟩, ?_, ?_⟩; rotate_left 2; (first | (right; rintro r rfl; rfl) | left); all_goals ((try simp -implicitDefEqProofs (disch := omega) only [hsk2, go_sem, ht]) <;> rfl)) (hab) ?_; rintro _ nx - rfl hnx; simp -implicitDefEqProofs (disch := omega) only [hsk2, go_sem, ht])
      have hT : List.take (xs.length) ((xs.map I)) = (xs).map I := by exact List.take_of_length_le (by simp)
      have hdl : xs.length = xs.length := rfl
      have hmd := made_calls (xs := xs) ⟨hxm, by omega⟩
      have hst := (by have h := hstart 0 (by omega); rwa [List.drop_zero] at h : V xs < b)
      have hrl := Nat.le_trans (D_len_V (hxm)) (Nat.le_of_eq hdl)
      rw [NP_def, SI_def] at hmd
      refine append_nil (e := 3) (b := 8) (m := xs.length) (z := .int .i64 0) (ys := (xs).map I) T23_elem rfl T3_size T3_bytes T3_zero (by simp -implicitDefEqProofs (disch := omega) only [go_sem, ht, srcP_sl, hT, if_pos]) (by simp -implicitDefEqProofs (disch := omega) only [go_sem, ht]) (by omega) (fun h0 => ?_) fun cap' rest' h1 h2 => ?_
      · have hz : xs = [] := List.eq_nil_of_length_eq_zero (by omega)
        have hst' := hst
        rw [h0, hz] at hmd
        simp -implicitDefEqProofs (disch := omega) only [go_sem, ht]
        (refine pCall_vw (by refine ⟨⟨?_, ?_⟩, ?_, ?_⟩; rotate_left 2; (first | (right; rintro r rfl; rfl) | left); all_goals ((try simp -implicitDefEqProofs (disch := omega) only [go_sem, ht]) <;> rfl)) (hmd) ?_; rintro _ nx - rfl hnx; simp -implicitDefEqProofs (disch := omega) only [go_sem, ht])
        refine LW.loopW hc ht (by kernel_rfl) (fun t => t.sl 2 = .ptr 0 0 ∧ t.sl 4 = .ptr 2 0 ∧ t.sl 5 = .ptr 3 0 ∧ t.sl 6 = .ref 4 0 xs.length xs.length 1 ∧ t.H 0 = some [.val (.bool fa), .sl xs.length (xs.map I)] ∧ t.H 2 = some [.val (.bool false), .val (.slice none 0 0)] ∧ t.H 3 = some [.val (.bool false), .val (.slice none 0 0)] ∧
            ∃ r7 r9 k R : Nat, t.sl 7 = .ptr r7 0 ∧ t.H r7 = some [.val (.bool false), .sl ys.length (ys.map I)] ∧ t.sl 9 = .ptr r9 0 ∧ 4 < r7 ∧ r7 < r9 ∧ r9 < t.nx ∧ t.H r9 = some [.val (.bool false), .sl (D R).length ((D R).map I)] ∧ k ≤ xs.length ∧ t.sl 10 = .val (.int .i64 ((k : Int) - 1)) ∧ R < b ∧
            ∃ zs : List Nat, zs.length = xs.length ∧ t.H 4 = some (zs.map I) ∧ Lm zs ∧ Hide (b * V (zs.drop k) + R = V (xs.drop k)))
            (fun t => match t.sl 10 with | .val (.int _ j) => (j + 1).toNat | _ => 0) ?_ ?_
        · simp -implicitDefEqProofs (disch := omega) only [go_sem, ht]
          refine ⟨_, _, 0, V xs, rfl, ?_, rfl, by omega, by omega, by omega, ?_, by omega, by first | rfl | (congr 2; omega), hst, List.replicate xs.length 0, by simp, ?_, Lm_repl _, Hide.mk (by rw [List.drop_zero, List.drop_zero, V_repl]; omega)⟩
          · simp -implicitDefEqProofs (disch := omega) only [go_sem, ht]
          · simp -implicitDefEqProofs (disch := omega) only [go_sem, ht]
            rw [hz]
          · simp -implicitDefEqProofs (disch := omega) only [go_sem, ht]
        · rintro t ⟨h2, h4, h5, h6, hH0, hH2, hH3, r7, r9, k, R, h7, hH7, h9, hr1, hr2, hr3, hH9, hk, h10, hR, zs, hzl, hH4, hzm, heq⟩
          have hxk := ha.len
          by_cases hk0 : k = 0
          · subst hk0
            have hq := heq.out
            rw [List.drop_zero, List.drop_zero, hva] at hq
            obtain ⟨q1, q2⟩ := hfin zs R hq hR
            have hmz := made_calls (xs := zs) ⟨hzm, by omega⟩
            rw [NP_def, SI_def, hzl] at hmz
            have hT4 : List.take xs.length (zs.map I) = zs.map I := List.take_of_length_le (by simp [hzl])
            rw [q1, q2]
            clear q1 q2 hq heq
            simp -implicitDefEqProofs (disch := omega) only [go_sem, ht, h2, h4, h5, h6, h7, h9, h10, hH0, hH2, hH3, hH4, hH7, hH9]
            (refine pCall_frz (fun i => decide (i = 4)) 1 (by simp -implicitDefEqProofs (disch := omega) only [dropH_at, decide_eq_true_eq, h2, h4, h5, h6, h7, h9, h10, hH0, hH2, hH3, hH4, hH7, hH9, hT4, hzl, if_pos, if_neg, Nat.le_refl, go_sem, ht] <;> rfl) (by simp -implicitDefEqProofs (disch := omega) only [dropH_at, decide_eq_true_eq, h2, h4, h5, h6, h7, h9, h10, hH0, hH2, hH3, hH4, hH7, hH9, hT4, hzl, if_pos, if_neg, Nat.le_refl, go_sem, ht]) (by simp -implicitDefEqProofs (disch := omega) only [dropH_at, decide_eq_true_eq, h2, h4, h5, h6, h7, h9, h10, hH0, hH2, hH3, hH4, hH7, hH9, hT4, hzl, if_pos, if_neg, Nat.le_refl, go_sem, ht] <;> rfl) (by simp -implicitDefEqProofs (disch := omega) only [dropH_at, decide_eq_true_eq, h2, h4, h5, h6, h7, h9, h10, hH0, hH2, hH3, hH4, hH7, hH9, hT4, hzl, if_pos, if_neg, Nat.le_refl, go_sem, ht]) (hmz) ?_; rintro _ nx - rfl hnx; (try simp only [put_nx, withH_nx, begP_nx] at hnx); simp -implicitDefEqProofs (disch := omega) only [dropH_at, decide_eq_true_eq, h2, h4, h5, h6, h7, h9, h10, hH0, hH2, hH3, hH4, hH7, hH9, hT4, hzl, if_pos, if_neg, Nat.le_refl, go_sem, ht])
            (refine end_treeN 2 ?_; simp -implicitDefEqProofs (disch := omega) only [go_sem, ht, h2, h4, h5, h6, h7, h9, h10, hH0, hH2, hH3, hH4, hH7, hH9, if_neg])
          · omega
      · have hT2 : List.take (xs.length) ((xs).map I ++ List.map PV.val rest') = (xs).map I := by exact take_Il _ _
        simp -implicitDefEqProofs (disch := omega) only [go_sem, ht]
        (refine pCall_frz (fun i => decide (i = nx + 1)) 1 (by simp -implicitDefEqProofs (disch := omega) only [dropH_at, decide_eq_true_eq, hT2, if_pos, if_neg, go_sem, ht] <;> rfl) (by simp -implicitDefEqProofs (disch := omega) only [dropH_at, decide_eq_true_eq, hT2, if_pos, if_neg, go_sem, ht]) (by simp -implicitDefEqProofs (disch := omega) only [dropH_at, decide_eq_true_eq, hT2, if_pos, if_neg, go_sem, ht] <;> rfl) (by simp -implicitDefEqProofs (disch := omega) only [dropH_at, decide_eq_true_eq, hT2, if_pos, if_neg, go_sem, ht]) (hmd) ?_; rintro _ nx - rfl hnx; (try simp only [put_nx, withH_nx, begP_nx] at hnx); simp -implicitDefEqProofs (disch := omega) only [dropH_at, decide_eq_true_eq, hT2, if_pos, if_neg, go_sem, ht])
        refine LW.loopW hc ht (by kernel_rfl) (fun t => t.sl 2 = .ptr 0 0 ∧ t.sl 4 = .ptr 2 0 ∧ t.sl 5 = .ptr 3 0 ∧ t.sl 6 = .ref 4 0 xs.length xs.length 1 ∧ t.H 0 = some [.val (.bool fa), .sl xs.length (xs.map I)] ∧ t.H 2 = some [.val (.bool false), .val (.slice none 0 0)] ∧ t.H 3 = some [.val (.bool false), .val (.slice none 0 0)] ∧
            ∃ r7 r9 k R : Nat, t.sl 7 = .ptr r7 0 ∧ t.H r7 = some [.val (.bool false), .sl ys.length (ys.map I)] ∧ t.sl 9 = .ptr r9 0 ∧ 4 < r7 ∧ r7 < r9 ∧ r9 < t.nx ∧ t.H r9 = some [.val (.bool false), .sl (D R).length ((D R).map I)] ∧ k ≤ xs.length ∧ t.sl 10 = .val (.int .i64 ((k : Int) - 1)) ∧ R < b ∧
            ∃ zs : List Nat, zs.length = xs.length ∧ t.H 4 = some (zs.map I) ∧ Lm zs ∧ Hide (b * V (zs.drop k) + R = V (xs.drop k)))
            (fun t => match t.sl 10 with | .val (.int _ j) => (j + 1).toNat | _ => 0) ?_ ?_
        · simp -implicitDefEqProofs (disch := omega) only [go_sem, ht, dropH_at, decide_eq_true_eq, if_neg]
          refine ⟨_, _, 0, V xs, rfl, ?_, rfl, by omega, by omega, by omega, ?_, by omega, by first | rfl | (congr 2; omega), hst, List.replicate xs.length 0, by simp, ?_, Lm_repl _, Hide.mk (by rw [List.drop_zero, List.drop_zero, V_repl]; omega)⟩
          · simp -implicitDefEqProofs (disch := omega) only [go_sem, ht, dropH_at, decide_eq_true_eq, if_neg]
          · simp -implicitDefEqProofs (disch := omega) only [go_sem, ht, dropH_at, decide_eq_true_eq, if_neg]
          · simp -implicitDefEqProofs (disch := omega) only [go_sem, ht, dropH_at, decide_eq_true_eq, if_neg]
        · rintro t ⟨h2, h4, h5, h6, hH0, hH2, hH3, r7, r9, k, R, h7, hH7, h9, hr1, hr2, hr3, hH9, hk, h10, hR, zs, hzl, hH4, hzm, heq⟩
          have hxk := ha.len
          by_cases hk0 : k = 0
          · subst hk0
            have hq := heq.out
            rw [List.drop_zero, List.drop_zero, hva] at hq
            obtain ⟨q1, q2⟩ := hfin zs R hq hR
            have hmz := made_calls (xs := zs) ⟨hzm, by omega⟩
            rw [NP_def, SI_def, hzl] at hmz
            have hT4 : List.take xs.length (zs.map I) = zs.map I := List.take_of_length_le (by simp [hzl])
            rw [q1, q2]
            clear q1 q2 hq heq
            simp -implicitDefEqProofs (disch := omega) only [go_sem, ht, h2, h4, h5, h6, h7, h9, h10, hH0, hH2, hH3, hH4, hH7, hH9]
            (refine pCall_frz (fun i => decide (i = 4)) 1 (by simp -implicitDefEqProofs (disch := omega) only [dropH_at, decide_eq_true_eq, h2, h4, h5, h6, h7, h9, h10, hH0, hH2, hH3, hH4, hH7, hH9, hT4, hzl, if_pos, if_neg, Nat.le_refl, go_sem, ht] <;> rfl) (by simp -implicitDefEqProofs (disch := omega) only [dropH_at, decide_eq_true_eq, h2, h4, h5, h6, h7, h9, h10, hH0, hH2, hH3, hH4, hH7, hH9, hT4, hzl, if_pos, if_neg, Nat.le_refl, go_sem, ht]) (by simp -implicitDefEqProofs (disch := omega) only [dropH_at, decide_eq_true_eq, h2, h4, h5, h6, h7, h9, h10, hH0, hH2, hH3, hH4, hH7, hH9, hT4, hzl, if_pos, if_neg, Nat.le_refl, go_sem, ht] <;> rfl) (by simp -implicitDefEqProofs (disch := omega) only [dropH_at, decide_eq_true_eq, h2, h4, h5, h6, h7, h9, h10, hH0, hH2, hH3, hH4, hH7, hH9, hT4, hzl, if_pos, if_neg, Nat.le_refl, go_sem, ht]) (hmz) ?_; rintro _ nx - rfl hnx; (try simp only [put_nx, withH_nx, begP_nx] at hnx); simp -implicitDefEqProofs (disch := omega) only [dropH_at, decide_eq_true_eq, h2, h4, h5, h6, h7, h9, h10, hH0, hH2, hH3, hH4, hH7, hH9, hT4, hzl, if_pos, if_neg, Nat.le_refl, go_sem, ht])
            (refine end_treeN 2 ?_; simp -implicitDefEqProofs (disch := omega) only [go_sem, ht, h2, h4, h5, h6, h7, h9, h10, hH0, hH2, hH3, hH4, hH7, hH9, if_neg])
          · obtain ⟨i, rfl⟩ : ∃ i, k = i + 1 := ⟨k - 1, by omega⟩
            have e1 : (((i + 1 : Nat) : Int) - 1) = (i : Int) := by omega
            rw [e1] at h10
            have hxg := hxm.get i
            have hR1 : R * 10000 + xs.getD i 0 < b * 10000 := by omega
            have hsm := small_calls (xs := D R) (k := 10000) (more := xs.getD i 0) (hok R (by omega)) (by omega) (by omega)
            rw [V_D] at hsm
            have hV := V_drop xs (i := i) (by omega)
            obtain ⟨R1, eR1⟩ : ∃ R1, R1 = R * 10000 + xs.getD i 0 := ⟨_, rfl⟩
            rw [← eR1] at hsm hR1
            have hm1 := made_calls (hok R1 hR1)
            rw [V_D, NP_def] at hm1
            have oR := hok R1 hR1
            have hoRl := oR.len
            have halg : ∀ q, b * q ≤ R1 → Hide (b * (q + 10000 * V (zs.drop (i + 1))) + (R1 - b * q) = V (xs.drop i)) := fun q hq => by
              rw [eR1] at hq ⊢
              rw [hV]
              exact Hide.mk (div_alg heq.out hq)
            clear heq hV
            simp -implicitDefEqProofs (disch := omega) only [go_sem, ht, h2, h4, h5, h6, h7, h9, h10, hH0, hH2, hH3, hH4, hH7, hH9]
            (refine pCall_vw (by refine ⟨⟨?_, ?_⟩, ?_, ?_⟩; rotate_left 2; (first | (right; rintro r rfl; rfl) | left); all_goals ((try simp -implicitDefEqProofs (disch := omega) only [h2, h4, h5, h6, h7, h9, h10, hH0, hH2, hH3, hH4, hH7, hH9, go_sem, ht]) <;> rfl)) (hsm) ?_; rintro _ nx - rfl hnx; simp -implicitDefEqProofs (disch := omega) only [h2, h4, h5, h6, h7, h9, h10, hH0, hH2, hH3, hH4, hH7, hH9, go_sem, ht])
            (refine pCall_vw (by refine ⟨⟨?_, ?_⟩, ?_, ?_⟩; rotate_left 2; (first | (right; rintro r rfl; rfl) | left); all_goals ((try simp -implicitDefEqProofs (disch := omega) only [h2, h4, h5, h6, h7, h9, h10, hH0, hH2, hH3, hH4, hH7, hH9, go_sem, ht]) <;> rfl)) (hm1) ?_; rintro _ nx - rfl hnx; simp -implicitDefEqProofs (disch := omega) only [h2, h4, h5, h6, h7, h9, h10, hH0, hH2, hH3, hH4, hH7, hH9, go_sem, ht])
            refine LW.loopW hc ht (by kernel_rfl) (fun s => s.sl 2 = .ptr 0 0 ∧ s.sl 4 = .ptr 2 0 ∧ s.sl 5 = .ptr 3 0 ∧ s.sl 6 = .ref 4 0 xs.length xs.length 1 ∧ s.sl 7 = .ptr r7 0 ∧ s.sl 9 = .ptr r9 0 ∧ s.sl 10 = .val (.int .i64 i) ∧ s.H 0 = some [.val (.bool fa), .sl xs.length (xs.map I)] ∧ s.H 2 = some [.val (.bool false), .val (.slice none 0 0)] ∧ s.H 3 = some [.val (.bool false), .val (.slice none 0 0)] ∧
                s.H 4 = some (zs.map I) ∧ s.H r7 = some [.val (.bool false), .sl ys.length (ys.map I)] ∧ s.H r9 = some [.val (.bool false), .sl (D R1).length ((D R1).map I)] ∧ r9 < s.nx ∧ ∃ lo hi : Nat, s.sl 11 = .val (.int .i64 lo) ∧ s.sl 12 = .val (.int .i64 hi) ∧ lo ≤ hi ∧ hi ≤ 9999 ∧ Hide (b * lo ≤ R1) ∧ Hide (R1 < b * (hi + 1)))
              (fun s => match s.sl 11, s.sl 12 with | .val (.int _ lo), .val (.int _ hi) => hi.toNat - lo.toNat | _, _ => 0) ?_ ?_
            · simp -implicitDefEqProofs (disch := omega) only [go_sem, ht, h2, h4, h5, h6, h7, h9, h10, hH0, hH2, hH3, hH4, hH7, hH9]
              exact ⟨by omega, 0, 9999, rfl, rfl, by omega, by omega, Hide.mk (by simp), Hide.mk hR1⟩
            · clear h2 h4 h5 h6 h7 h9 hH0 hH2 hH3 hH4 hH7 hH9
              rintro s ⟨g2, g4, g5, g6, g7, g9, g10, gH0, gH2, gH3, gH4, gH7, gH9, gnx, lo, hi, g11, g12, hlh, hhi, hlo, hhi2⟩
              by_cases hlt : lo < hi
              · have hmid : (lo + hi + 1) / 2 ≤ hi ∧ lo < (lo + hi + 1) / 2 := by omega
                obtain ⟨mid, emid⟩ : ∃ mid, mid = (lo + hi + 1) / 2 := ⟨_, rfl⟩
                rw [← emid] at hmid
                have hsmm := hsmb mid (by omega)
                rw [hvb, Nat.add_zero] at hsmm
                have hbm : b * mid < b * 10000 := Nat.mul_lt_mul_of_pos_left (by omega) (Nat.pos_of_ne_zero hb0)
                have hmm := made_calls (hok _ hbm)
                rw [V_D, NP_def] at hmm
                have hsz2 := size_calls (f := false) (g := false) (hok _ hbm) oR
                rw [NP_def, NP_def] at hsz2
                have hml := (hok _ hbm).len
                by_cases hcm : b * mid ≤ R1
                · have hc0 : cmpI (b * mid) R1 ≤ 0 := by
                    unfold cmpI; split
                    · omega
                    · split <;> omega
                  have hcm := Hide.mk hcm
                  generalize cmpI (b * mid) R1 = cm at *
                  simp -implicitDefEqProofs (disch := omega) only [go_sem, ht, g2, g4, g5, g6, g7, g9, g10, g11, g12, gH0, gH2, gH3, gH4, gH7, gH9, emid.symm]
                  (refine pCall_vw (by refine ⟨⟨?_, ?_⟩, ?_, ?_⟩; rotate_left 2; (first | (right; rintro r rfl; rfl) | left); all_goals ((try simp -implicitDefEqProofs (disch := omega) only [g2, g4, g5, g6, g7, g9, g10, g11, g12, gH0, gH2, gH3, gH4, gH7, gH9, emid.symm, go_sem, ht]) <;> rfl)) (hsmm) ?_; rintro _ nx - rfl hnx; simp -implicitDefEqProofs (disch := omega) only [g2, g4, g5, g6, g7, g9, g10, g11, g12, gH0, gH2, gH3, gH4, gH7, gH9, emid.symm, go_sem, ht])
                  (refine pCall_vw (by refine ⟨⟨?_, ?_⟩, ?_, ?_⟩; rotate_left 2; (first | (right; rintro r rfl; rfl) | left); all_goals ((try simp -implicitDefEqProofs (disch := omega) only [g2, g4, g5, g6, g7, g9, g10, g11, g12, gH0, gH2, gH3, gH4, gH7, gH9, emid.symm, go_sem, ht]) <;> rfl)) (hmm) ?_; rintro _ nx - rfl hnx; simp -implicitDefEqProofs (disch := omega) only [g2, g4, g5, g6, g7, g9, g10, g11, g12, gH0, gH2, gH3, gH4, gH7, gH9, emid.symm, go_sem, ht])
                  (refine pCall_vw (by refine ⟨⟨?_, ?_⟩, ?_, ?_⟩; rotate_left 2; (first | (right; rintro r rfl; rfl) | left); all_goals ((try simp -implicitDefEqProofs (disch := omega) only [g2, g4, g5, g6, g7, g9, g10, g11, g12, gH0, gH2, gH3, gH4, gH7, gH9, emid.symm, go_sem, ht]) <;> rfl)) (hsz2) ?_; rintro _ nx - rfl hnx; simp -implicitDefEqProofs (disch := omega) only [g2, g4, g5, g6, g7, g9, g10, g11, g12, gH0, gH2, gH3, gH4, gH7, gH9, emid.symm, go_sem, ht])
                  exact ⟨⟨by omega, mid, hi, rfl, rfl, by omega, by omega, hcm, hhi2⟩, by omega⟩
                · have hc0 : 0 < cmpI (b * mid) R1 := by
                    unfold cmpI; split
                    · omega
                    · split <;> omega
                  have hcm := Hide.mk (show R1 < b * (mid - 1 + 1) by rw [Nat.sub_add_cancel (by omega)]; omega)
                  generalize cmpI (b * mid) R1 = cm at *
                  simp -implicitDefEqProofs (disch := omega) only [go_sem, ht, g2, g4, g5, g6, g7, g9, g10, g11, g12, gH0, gH2, gH3, gH4, gH7, gH9, emid.symm]
                  (refine pCall_vw (by refine ⟨⟨?_, ?_⟩, ?_, ?_⟩; rotate_left 2; (first | (right; rintro r rfl; rfl) | left); all_goals ((try simp -implicitDefEqProofs (disch := omega) only [g2, g4, g5, g6, g7, g9, g10, g11, g12, gH0, gH2, gH3, gH4, gH7, gH9, emid.symm, go_sem, ht]) <;> rfl)) (hsmm) ?_; rintro _ nx - rfl hnx; simp -implicitDefEqProofs (disch := omega) only [g2, g4, g5, g6, g7, g9, g10, g11, g12, gH0, gH2, gH3, gH4, gH7, gH9, emid.symm, go_sem, ht])
                  (refine pCall_vw (by refine ⟨⟨?_, ?_⟩, ?_, ?_⟩; rotate_left 2; (first | (right; rintro r rfl; rfl) | left); all_goals ((try simp -implicitDefEqProofs (disch := omega) only [g2, g4, g5, g6, g7, g9, g10, g11, g12, gH0, gH2, gH3, gH4, gH7, gH9, emid.symm, go_sem, ht]) <;> rfl)) (hmm) ?_; rintro _ nx - rfl hnx; simp -implicitDefEqProofs (disch := omega) only [g2, g4, g5, g6, g7, g9, g10, g11, g12, gH0, gH2, gH3, gH4, gH7, gH9, emid.symm, go_sem, ht])
                  (refine pCall_vw (by refine ⟨⟨?_, ?_⟩, ?_, ?_⟩; rotate_left 2; (first | (right; rintro r rfl; rfl) | left); all_goals ((try simp -implicitDefEqProofs (disch := omega) only [g2, g4, g5, g6, g7, g9, g10, g11, g12, gH0, gH2, gH3, gH4, gH7, gH9, emid.symm, go_sem, ht]) <;> rfl)) (hsz2) ?_; rintro _ nx - rfl hnx; simp -implicitDefEqProofs (disch := omega) only [g2, g4, g5, g6, g7, g9, g10, g11, g12, gH0, gH2, gH3, gH4, gH7, gH9, emid.symm, go_sem, ht])
                  exact ⟨⟨by omega, lo, mid - 1, rfl, rfl, by omega, by omega, hlo, hcm⟩, by omega⟩
              · have hle2 : lo = hi := by omega
                subst hle2
                have hbm : b * lo < b * 10000 := Nat.mul_lt_mul_of_pos_left (by omega) (Nat.pos_of_ne_zero hb0)
                have hsmm := hsmb lo (by omega)
                rw [hvb, Nat.add_zero] at hsmm
                have hmm := made_calls (hok _ hbm)
                rw [V_D, NP_def] at hmm
                have hml := (hok _ hbm).len
                have hsub := nminus_calls oR (hok _ hbm) hlo.out
                simp only [NP_def] at hsub
                have hR2 : R1 - b * lo < b := by
                  have h1 := hhi2.out
                  have h2 := hlo.out
                  rw [Nat.mul_add, Nat.mul_one] at h1
                  omega
                have hal2 := halg lo hlo.out
                have hset : Lm (zs.set i lo) := fun x hx => by
                  rcases List.mem_or_eq_of_mem_set hx with h | h
                  · exact hzm x h
                  · omega
                have hds : Hide (b * V ((zs.set i lo).drop i) + (R1 - b * lo) = V (xs.drop i)) := by
                  rw [V_set_drop (by omega)]; exact hal2
                have hrl2 := (hok (R1 - b * lo) (by omega)).len
                clear halg hal2
                simp -implicitDefEqProofs (disch := omega) only [go_sem, ht, g2, g4, g5, g6, g7, g9, g10, g11, g12, gH0, gH2, gH3, gH4, gH7, gH9]
                (refine pCall_vw (by refine ⟨⟨?_, ?_⟩, ?_, ?_⟩; rotate_left 2; (first | (right; rintro r rfl; rfl) | left); all_goals ((try simp -implicitDefEqProofs (disch := omega) only [g2, g4, g5, g6, g7, g9, g10, g11, g12, gH0, gH2, gH3, gH4, gH7, gH9, go_sem, ht]) <;> rfl)) (hsmm) ?_; rintro _ nx - rfl hnx; simp -implicitDefEqProofs (disch := omega) only [g2, g4, g5, g6, g7, g9, g10, g11, g12, gH0, gH2, gH3, gH4, gH7, gH9, go_sem, ht])
                (refine pCall_vw (by refine ⟨⟨?_, ?_⟩, ?_, ?_⟩; rotate_left 2; (first | (right; rintro r rfl; rfl) | left); all_goals ((try simp -implicitDefEqProofs (disch := omega) only [g2, g4, g5, g6, g7, g9, g10, g11, g12, gH0, gH2, gH3, gH4, gH7, gH9, go_sem, ht]) <;> rfl)) (hmm) ?_; rintro _ nx - rfl hnx; simp -implicitDefEqProofs (disch := omega) only [g2, g4, g5, g6, g7, g9, g10, g11, g12, gH0, gH2, gH3, gH4, gH7, gH9, go_sem, ht])
                (refine pCall_vw (by refine ⟨⟨?_, ?_⟩, ?_, ?_⟩; rotate_left 2; (first | (right; rintro r rfl; rfl) | left); all_goals ((try simp -implicitDefEqProofs (disch := omega) only [g2, g4, g5, g6, g7, g9, g10, g11, g12, gH0, gH2, gH3, gH4, gH7, gH9, go_sem, ht]) <;> rfl)) (hsub) ?_; rintro _ nx - rfl hnx; simp -implicitDefEqProofs (disch := omega) only [g2, g4, g5, g6, g7, g9, g10, g11, g12, gH0, gH2, gH3, gH4, gH7, gH9, go_sem, ht])
                exact ⟨⟨r7, r9, i, R1 - b * lo, rfl, by simp -implicitDefEqProofs (disch := omega) only [go_sem, ht, gH7], rfl, by omega, by omega, by omega, by simp -implicitDefEqProofs (disch := omega) only [go_sem, ht], by omega, rfl, hR2, zs.set i lo, by simp [hzl], rfl, hset, hds⟩, by omega⟩
    · have hsk2 : (xs.length : Int) - ys.length + 1 < 0 := by omega
      (refine pCall_vw (by refine ⟨⟨?_, ?_⟩, ?_, ?_⟩; rotate_left 2; (first | (right; rintro r rfl; rfl) | left); all_goals ((try simp -implicitDefEqProofs (disch := omega) only [hsk2, go_sem, ht]) <;> rfl)) (hab) ?_; rintro _ nx - rfl hnx; simp -implicitDefEqProofs (disch := omega) only [hsk2, go_sem, ht])
      have hT : List.take (xs.length) ((xs.map I)) = (xs).map I := by exact List.take_of_length_le (by simp)
      have hdl : xs.length = xs.length := rfl
      have hmd := made_calls (xs := xs) ⟨hxm, by omega⟩
      have hst := (by have h := hstart 0 (by omega); rwa [List.drop_zero] at h : V xs < b)
      have hrl := Nat.le_trans (D_len_V (hxm)) (Nat.le_of_eq hdl)
      rw [NP_def, SI_def] at hmd
      refine append_nil (e := 3) (b := 8) (m := xs.length) (z := .int .i64 0) (ys := (xs).map I) T23_elem rfl T3_size T3_bytes T3_zero (by simp -implicitDefEqProofs (disch := omega) only [go_sem, ht, srcP_sl, hT, if_pos]) (by simp -implicitDefEqProofs (disch := omega) only [go_sem, ht]) (by omega) (fun h0 => ?_) fun cap' rest' h1 h2 => ?_
      · have hz : xs = [] := List.eq_nil_of_length_eq_zero (by omega)
        have hst' := hst
        rw [h0, hz] at hmd
        simp -implicitDefEqProofs (disch := omega) only [go_sem, ht]
        (refine pCall_vw (by refine ⟨⟨?_, ?_⟩, ?_, ?_⟩; rotate_left 2; (first | (right; rintro r rfl; rfl) | left); all_goals ((try simp -implicitDefEqProofs (disch := omega) only [go_sem, ht]) <;> rfl)) (hmd) ?_; rintro _ nx - rfl hnx; simp -implicitDefEqProofs (disch := omega) only [go_sem, ht])
        refine LW.loopW hc ht (by kernel_rfl) (fun t => t.sl 2 = .ptr 0 0 ∧ t.sl 4 = .ptr 2 0 ∧ t.sl 5 = .ptr 3 0 ∧ t.sl 6 = .ref 4 0 xs.length xs.length 1 ∧ t.H 0 = some [.val (.bool fa), .sl xs.length (xs.map I)] ∧ t.H 2 = some [.val (.bool false), .val (.slice none 0 0)] ∧ t.H 3 = some [.val (.bool false), .val (.slice none 0 0)] ∧
            ∃ r7 r9 k R : Nat, t.sl 7 = .ptr r7 0 ∧ t.H r7 = some [.val (.bool false), .sl ys.length (ys.map I)] ∧ t.sl 9 = .ptr r9 0 ∧ 4 < r7 ∧ r7 < r9 ∧ r9 < t.nx ∧ t.H r9 = some [.val (.bool false), .sl (D R).length ((D R).map I)] ∧ k ≤ xs.length ∧ t.sl 10 = .val (.int .i64 ((k : Int) - 1)) ∧ R < b ∧
            ∃ zs : List Nat, zs.length = xs.length ∧ t.H 4 = some (zs.map I) ∧ Lm zs ∧ Hide (b * V (zs.drop k) + R = V (xs.drop k)))
            (fun t => match t.sl 10 with | .val (.int _ j) => (j + 1).toNat | _ => 0) ?_ ?_
        · simp -implicitDefEqProofs (disch := omega) only [go_sem, ht]
          refine ⟨_, _, 0, V xs, rfl, ?_, rfl, by omega, by omega, by omega, ?_, by omega, by first | rfl | (congr 2; omega), hst, List.replicate xs.length 0, by simp, ?_, Lm_repl _, Hide.mk (by rw [List.drop_zero, List.drop_zero, V_repl]; omega)⟩
          · simp -implicitDefEqProofs (disch := omega) only [go_sem, ht]
          · simp -implicitDefEqProofs (disch := omega) only [go_sem, ht]
            rw [hz]
          · simp -implicitDefEqProofs (disch := omega) only [go_sem, ht]
        · rintro t ⟨h2, h4, h5, h6, hH0, hH2, hH3, r7, r9, k, R, h7, hH7, h9, hr1, hr2, hr3, hH9, hk, h10, hR, zs, hzl, hH4, hzm, heq⟩
          have hxk := ha.len
          by_cases hk0 : k = 0
          · subst hk0
            have hq := heq.out
            rw [List.drop_zero, List.drop_zero, hva] at hq
            obtain ⟨q1, q2⟩ := hfin zs R hq hR
            have hmz := made_calls (xs := zs) ⟨hzm, by omega⟩
            rw [NP_def, SI_def, hzl] at hmz
            have hT4 : List.take xs.length (zs.map I) = zs.map I := List.take_of_length_le (by simp [hzl])
            rw [q1, q2]
            clear q1 q2 hq heq
            simp -implicitDefEqProofs (disch := omega) only [go_sem, ht, h2, h4, h5, h6, h7, h9, h10, hH0, hH2, hH3, hH4, hH7, hH9]
            (refine pCall_frz (fun i => decide (i = 4)) 1 (by simp -implicitDefEqProofs (disch := omega) only [dropH_at, decide_eq_true_eq, h2, h4, h5, h6, h7, h9, h10, hH0, hH2, hH3, hH4, hH7, hH9, hT4, hzl, if_pos, if_neg, Nat.le_refl, go_sem, ht] <;> rfl) (by simp -implicitDefEqProofs (disch := omega) only [dropH_at, decide_eq_true_eq, h2, h4, h5, h6, h7, h9, h10, hH0, hH2, hH3, hH4, hH7, hH9, hT4, hzl, if_pos, if_neg, Nat.le_refl, go_sem, ht]) (by simp -implicitDefEqProofs (disch := omega) only [dropH_at, decide_eq_true_eq, h2, h4, h5, h6, h7, h9, h10, hH0, hH2, hH3, hH4, hH7, hH9, hT4, hzl, if_pos, if_neg, Nat.le_refl, go_sem, ht] <;> rfl) (by simp -implicitDefEqProofs (disch := omega) only [dropH_at, decide_eq_true_eq, h2, h4, h5, h6, h7, h9, h10, hH0, hH2, hH3, hH4, hH7, hH9, hT4, hzl, if_pos, if_neg, Nat.le_refl, go_sem, ht]) (hmz) ?_; rintro _ nx - rfl hnx; (try simp only [put_nx, withH_nx, begP_nx] at hnx); simp -implicitDefEqProofs (disch := omega) only [dropH_at, decide_eq_true_eq, h2, h4, h5, h6, h7, h9, h10, hH0, hH2, hH3, hH4, hH7, hH9, hT4, hzl, if_pos, if_neg, Nat.le_refl, go_sem, ht])
            (refine end_treeN 2 ?_; simp -implicitDefEqProofs (disch := omega) only [go_sem, ht, h2, h4, h5, h6, h7, h9, h10, hH0, hH2, hH3, hH4, hH7, hH9, if_neg])
          · omega
      · have hT2 : List.take (xs.length) ((xs).map I ++ List.map PV.val rest') = (xs).map I := by exact take_Il _ _
        simp -implicitDefEqProofs (disch := omega) only [go_sem, ht]
        (refine pCall_frz (fun i => decide (i = nx + 1)) 1 (by simp -implicitDefEqProofs (disch := omega) only [dropH_at, decide_eq_true_eq, hT2, if_pos, if_neg, go_sem, ht] <;> rfl) (by simp -implicitDefEqProofs (disch := omega) only [dropH_at, decide_eq_true_eq, hT2, if_pos, if_neg, go_sem, ht]) (by simp -implicitDefEqProofs (disch := omega) only [dropH_at, decide_eq_true_eq, hT2, if_pos, if_neg, go_sem, ht] <;> rfl) (by simp -implicitDefEqProofs (disch := omega) only [dropH_at, decide_eq_true_eq, hT2, if_pos, if_neg, go_sem, ht]) (hmd) ?_; rintro _ nx - rfl hnx; (try simp only [put_nx, withH_nx, begP_nx] at hnx); simp -implicitDefEqProofs (disch := omega) only [dropH_at, decide_eq_true_eq, hT2, if_pos, if_neg, go_sem, ht])
        refine LW.loopW hc ht (by kernel_rfl) (fun t => t.sl 2 = .ptr 0 0 ∧ t.sl 4 = .ptr 2 0 ∧ t.sl 5 = .ptr 3 0 ∧ t.sl 6 = .ref 4 0 xs.length xs.length 1 ∧ t.H 0 = some [.val (.bool fa), .sl xs.length (xs.map I)] ∧ t.H 2 = some [.val (.bool false), .val (.slice none 0 0)] ∧ t.H 3 = some [.val (.bool false), .val (.slice none 0 0)] ∧
            ∃ r7 r9 k R : Nat, t.sl 7 = .ptr r7 0 ∧ t.H r7 = some [.val (.bool false), .sl ys.length (ys.map I)] ∧ t.sl 9 = .ptr r9 0 ∧ 4 < r7 ∧ r7 < r9 ∧ r9 < t.nx ∧ t.H r9 = some [.val (.bool false), .sl (D R).length ((D R).map I)] ∧ k ≤ xs.length ∧ t.sl 10 = .val (.int .i64 ((k : Int) - 1)) ∧ R < b ∧
            ∃ zs : List Nat, zs.length = xs.length ∧ t.H 4 = some (zs.map I) ∧ Lm zs ∧ Hide (b * V (zs.drop k) + R = V (xs.drop k)))
            (fun t => match t.sl 10 with | .val (.int _ j) => (j + 1).toNat | _ => 0) ?_ ?_
        · simp -implicitDefEqProofs (disch := omega) only [go_sem, ht, dropH_at, decide_eq_true_eq, if_neg]
          refine ⟨_, _, 0, V xs, rfl, ?_, rfl, by omega, by omega, by omega, ?_, by omega, by first | rfl | (congr 2; omega), hst, List.replicate xs.length 0, by simp, ?_, Lm_repl _, Hide.mk (by rw [List.drop_zero, List.drop_zero, V_repl]; omega)⟩
          · simp -implicitDefEqProofs (disch := omega) only [go_sem, ht, dropH_at, decide_eq_true_eq, if_neg]
          · simp -implicitDefEqProofs (disch := omega) only [go_sem, ht, dropH_at, decide_eq_true_eq, if_neg]
          · simp -implicitDefEqProofs (disch := omega) only [go_sem, ht, dropH_at, decide_eq_true_eq, if_neg]
        · rintro t ⟨h2, h4, h5, h6, hH0, hH2, hH3, r7, r9, k, R, h7, hH7, h9, hr1, hr2, hr3, hH9, hk, h10, hR, zs, hzl, hH4, hzm, heq⟩
          have hxk := ha.len
          by_cases hk0 : k = 0
          · subst hk0
            have hq := heq.out
            rw [List.drop_zero, List.drop_zero, hva] at hq
            obtain ⟨q1, q2⟩ := hfin zs R hq hR
            have hmz := made_calls (xs := zs) ⟨hzm, by omega⟩
            rw [NP_def, SI_def, hzl] at hmz
            have hT4 : List.take xs.length (zs.map I) = zs.map I := List.take_of_length_le (by simp [hzl])
            rw [q1, q2]
            clear q1 q2 hq heq
            simp -implicitDefEqProofs (disch := omega) only [go_sem, ht, h2, h4, h5, h6, h7, h9, h10, hH0, hH2, hH3, hH4, hH7, hH9]
            (refine pCall_frz (fun i => decide (i = 4)) 1 (by simp -implicitDefEqProofs (disch := omega) only [dropH_at, decide_eq_true_eq, h2, h4, h5, h6, h7, h9, h10, hH0, hH2, hH3, hH4, hH7, hH9, hT4, hzl, if_pos, if_neg, Nat.le_refl, go_sem, ht] <;> rfl) (by simp -implicitDefEqProofs (disch := omega) only [dropH_at, decide_eq_true_eq, h2, h4, h5, h6, h7, h9, h10, hH0, hH2, hH3, hH4, hH7, hH9, hT4, hzl, if_pos, if_neg, Nat.le_refl, go_sem, ht]) (by simp -implicitDefEqProofs (disch := omega) only [dropH_at, decide_eq_true_eq, h2, h4, h5, h6, h7, h9, h10, hH0, hH2, hH3, hH4, hH7, hH9, hT4, hzl, if_pos, if_neg, Nat.le_refl, go_sem, ht] <;> rfl) (by simp -implicitDefEqProofs (disch := omega) only [dropH_at, decide_eq_true_eq, h2, h4, h5, h6, h7, h9, h10, hH0, hH2, hH3, hH4, hH7, hH9, hT4, hzl, if_pos, if_neg, Nat.le_refl, go_sem, ht]) (hmz) ?_; rintro _ nx - rfl hnx; (try simp only [put_nx, withH_nx, begP_nx] at hnx); simp -implicitDefEqProofs (disch := omega) only [dropH_at, decide_eq_true_eq, h2, h4, h5, h6, h7, h9, h10, hH0, hH2, hH3, hH4, hH7, hH9, hT4, hzl, if_pos, if_neg, Nat.le_refl, go_sem, ht])
            (refine end_treeN 2 ?_; simp -implicitDefEqProofs (disch := omega) only [go_sem, ht, h2, h4, h5, h6, h7, h9, h10, hH0, hH2, hH3, hH4, hH7, hH9, if_neg])
          · obtain ⟨i, rfl⟩ : ∃ i, k = i + 1 := ⟨k - 1, by omega⟩
            have e1 : (((i + 1 : Nat) : Int) - 1) = (i : Int) := by omega
            rw [e1] at h10
            have hxg := hxm.get i
            have hR1 : R * 10000 + xs.getD i 0 < b * 10000 := by omega
            have hsm := small_calls (xs := D R) (k := 10000) (more := xs.getD i 0) (hok R (by omega)) (by omega) (by omega)
            rw [V_D] at hsm
            have hV := V_drop xs (i := i) (by omega)
            obtain ⟨R1, eR1⟩ : ∃ R1, R1 = R * 10000 + xs.getD i 0 := ⟨_, rfl⟩
            rw [← eR1] at hsm hR1
            have hm1 := made_calls (hok R1 hR1)
            rw [V_D, NP_def] at hm1
            have oR := hok R1 hR1
            have hoRl := oR.len
            have halg : ∀ q, b * q ≤ R1 → Hide (b * (q + 10000 * V (zs.drop (i + 1))) + (R1 - b * q) = V (xs.drop i)) := fun q hq => by
              rw [eR1] at hq ⊢
              rw [hV]
              exact Hide.mk (div_alg heq.out hq)
            clear heq hV
            simp -implicitDefEqProofs (disch := omega) only [go_sem, ht, h2, h4, h5, h6, h7, h9, h10, hH0, hH2, hH3, hH4, hH7, hH9]
            (refine pCall_vw (by refine ⟨⟨?_, ?_⟩, ?_, ?_⟩; rotate_left 2; (first | (right; rintro r rfl; rfl) | left); all_goals ((try simp -implicitDefEqProofs (disch := omega) only [h2, h4, h5, h6, h7, h9, h10, hH0, hH2, hH3, hH4, hH7, hH9, go_sem, ht]) <;> rfl)) (hsm) ?_; rintro _ nx - rfl hnx; simp -implicitDefEqProofs (disch := omega) only [h2, h4, h5, h6, h7, h9, h10, hH0, hH2, hH3, hH4, hH7, hH9, go_sem, ht])
            (refine pCall_vw (by refine ⟨⟨?_, ?_⟩, ?_, ?_⟩; rotate_left 2; (first | (right; rintro r rfl; rfl) | left); all_goals ((try simp -implicitDefEqProofs (disch := omega) only [h2, h4, h5, h6, h7, h9, h10, hH0, hH2, hH3, hH4, hH7, hH9, go_sem, ht]) <;> rfl)) (hm1) ?_; rintro _ nx - rfl hnx; simp -implicitDefEqProofs (disch := omega) only [h2, h4, h5, h6, h7, h9, h10, hH0, hH2, hH3, hH4, hH7, hH9, go_sem, ht])
            refine LW.loopW hc ht (by kernel_rfl) (fun s => s.sl 2 = .ptr 0 0 ∧ s.sl 4 = .ptr 2 0 ∧ s.sl 5 = .ptr 3 0 ∧ s.sl 6 = .ref 4 0 xs.length xs.length 1 ∧ s.sl 7 = .ptr r7 0 ∧ s.sl 9 = .ptr r9 0 ∧ s.sl 10 = .val (.int .i64 i) ∧ s.H 0 = some [.val (.bool fa), .sl xs.length (xs.map I)] ∧ s.H 2 = some [.val (.bool false), .val (.slice none 0 0)] ∧ s.H 3 = some [.val (.bool false), .val (.slice none 0 0)] ∧
                s.H 4 = some (zs.map I) ∧ s.H r7 = some [.val (.bool false), .sl ys.length (ys.map I)] ∧ s.H r9 = some [.val (.bool false), .sl (D R1).length ((D R1).map I)] ∧ r9 < s.nx ∧ ∃ lo hi : Nat, s.sl 11 = .val (.int .i64 lo) ∧ s.sl 12 = .val (.int .i64 hi) ∧ lo ≤ hi ∧ hi ≤ 9999 ∧ Hide (b * lo ≤ R1) ∧ Hide (R1 < b * (hi + 1)))
              (fun s => match s.sl 11, s.sl 12 with | .val (.int _ lo), .val (.int _ hi) => hi.toNat - lo.toNat | _, _ => 0) ?_ ?_
            · simp -implicitDefEqProofs (disch := omega) only [go_sem, ht, h2, h4, h5, h6, h7, h9, h10, hH0, hH2, hH3, hH4, hH7, hH9]
              exact ⟨by omega, 0, 9999, rfl, rfl, by omega, by omega, Hide.mk (by simp), Hide.mk hR1⟩
            · clear h2 h4 h5 h6 h7 h9 hH0 hH2 hH3 hH4 hH7 hH9
              rintro s ⟨g2, g4, g5, g6, g7, g9, g10, gH0, gH2, gH3, gH4, gH7, gH9, gnx, lo, hi, g11, g12, hlh, hhi, hlo, hhi2⟩
              by_cases hlt : lo < hi
              · have hmid : (lo + hi + 1) / 2 ≤ hi ∧ lo < (lo + hi + 1) / 2 := by omega
                obtain ⟨mid, emid⟩ : ∃ mid, mid = (lo + hi + 1) / 2 := ⟨_, rfl⟩
                rw [← emid] at hmid
                have hsmm := hsmb mid (by omega)
                rw [hvb, Nat.add_zero] at hsmm
                have hbm : b * mid < b * 10000 := Nat.mul_lt_mul_of_pos_left (by omega) (Nat.pos_of_ne_zero hb0)
                have hmm := made_calls (hok _ hbm)
                rw [V_D, NP_def] at hmm
                have hsz2 := size_calls (f := false) (g := false) (hok _ hbm) oR
                rw [NP_def, NP_def] at hsz2
                have hml := (hok _ hbm).len
                by_cases hcm : b * mid ≤ R1
                · have hc0 : cmpI (b * mid) R1 ≤ 0 := by
                    unfold cmpI; split
                    · omega
                    · split <;> omega
                  have hcm := Hide.mk hcm
                  generalize cmpI (b * mid) R1 = cm at *
                  simp -implicitDefEqProofs (disch := omega) only [go_sem, ht, g2, g4, g5, g6, g7, g9, g10, g11, g12, gH0, gH2, gH3, gH4, gH7, gH9, emid.symm]
                  (refine pCall_vw (by refine ⟨⟨?_, ?_⟩, ?_, ?_⟩; rotate_left 2; (first | (right; rintro r rfl; rfl) | left); all_goals ((try simp -implicitDefEqProofs (disch := omega) only [g2, g4, g5, g6, g7, g9, g10, g11, g12, gH0, gH2, gH3, gH4, gH7, gH9, emid.symm, go_sem, ht]) <;> rfl)) (hsmm) ?_; rintro _ nx - rfl hnx; simp -implicitDefEqProofs (disch := omega) only [g2, g4, g5, g6, g7, g9, g10, g11, g12, gH0, gH2, gH3, gH4, gH7, gH9, emid.symm, go_sem, ht])
                  (refine pCall_vw (by refine ⟨⟨?_, ?_⟩, ?_, ?_⟩; rotate_left 2; (first | (right; rintro r rfl; rfl) | left); all_goals ((try simp -implicitDefEqProofs (disch := omega) only [g2, g4, g5, g6, g7, g9, g10, g11, g12, gH0, gH2, gH3, gH4, gH7, gH9, emid.symm, go_sem, ht]) <;> rfl)) (hmm) ?_; rintro _ nx - rfl hnx; simp -implicitDefEqProofs (disch := omega) only [g2, g4, g5, g6, g7, g9, g10, g11, g12, gH0, gH2, gH3, gH4, gH7, gH9, emid.symm, go_sem, ht])
                  (refine pCall_vw (by refine ⟨⟨?_, ?_⟩, ?_, ?_⟩; rotate_left 2; (first | (right; rintro r rfl; rfl) | left); all_goals ((try simp -implicitDefEqProofs (disch := omega) only [g2, g4, g5, g6, g7, g9, g10, g11, g12, gH0, gH2, gH3, gH4, gH7, gH9, emid.symm, go_sem, ht]) <;> rfl)) (hsz2) ?_; rintro _ nx - rfl hnx; simp -implicitDefEqProofs (disch := omega) only [g2, g4, g5, g6, g7, g9, g10, g11, g12, gH0, gH2, gH3, gH4, gH7, gH9, emid.symm, go_sem, ht])
                  exact ⟨⟨by omega, mid, hi, rfl, rfl, by omega, by omega, hcm, hhi2⟩, by omega⟩
                · have hc0 : 0 < cmpI (b * mid) R1 := by
                    unfold cmpI; split
                    · omega
                    · split <;> omega
                  have hcm := Hide.mk (show R1 < b * (mid - 1 + 1) by rw [Nat.sub_add_cancel (by omega)]; omega)
                  generalize cmpI (b * mid) R1 = cm at *
                  simp -implicitDefEqProofs (disch := omega) only [go_sem, ht, g2, g4, g5, g6, g7, g9, g10, g11, g12, gH0, gH2, gH3, gH4, gH7, gH9, emid.symm]
                  (refine pCall_vw (by refine ⟨⟨?_, ?_⟩, ?_, ?_⟩; rotate_left 2; (first | (right; rintro r rfl; rfl) | left); all_goals ((try simp -implicitDefEqProofs (disch := omega) only [g2, g4, g5, g6, g7, g9, g10, g11, g12, gH0, gH2, gH3, gH4, gH7, gH9, emid.symm, go_sem, ht]) <;> rfl)) (hsmm) ?_; rintro _ nx - rfl hnx; simp -implicitDefEqProofs (disch := omega) only [g2, g4, g5, g6, g7, g9, g10, g11, g12, gH0, gH2, gH3, gH4, gH7, gH9, emid.symm, go_sem, ht])
                  (refine pCall_vw (by refine ⟨⟨?_, ?_⟩, ?_, ?_⟩; rotate_left 2; (first | (right; rintro r rfl; rfl) | left); all_goals ((try simp -implicitDefEqProofs (disch := omega) only [g2, g4, g5, g6, g7, g9, g10, g11, g12, gH0, gH2, gH3, gH4, gH7, gH9, emid.symm, go_sem, ht]) <;> rfl)) (hmm) ?_; rintro _ nx - rfl hnx; simp -implicitDefEqProofs (disch := omega) only [g2, g4, g5, g6, g7, g9, g10, g11, g12, gH0, gH2, gH3, gH4, gH7, gH9, emid.symm, go_sem, ht])
                  (refine pCall_vw (by refine ⟨⟨?_, ?_⟩, ?_, ?_⟩; rotate_left 2; (first | (right; rintro r rfl; rfl) | left); all_goals ((try simp -implicitDefEqProofs (disch := omega) only [g2, g4, g5, g6, g7, g9, g10, g11, g12, gH0, gH2, gH3, gH4, gH7, gH9, emid.symm, go_sem, ht]) <;> rfl)) (hsz2) ?_; rintro _ nx - rfl hnx; simp -implicitDefEqProofs (disch := omega) only [g2, g4, g5, g6, g7, g9, g10, g11, g12, gH0, gH2, gH3, gH4, gH7, gH9, emid.symm, go_sem, ht])
                  exact ⟨⟨by omega, lo, mid - 1, rfl, rfl, by omega, by omega, hlo, hcm⟩, by omega⟩
              · have hle2 : lo = hi := by omega
                subst hle2
                have hbm : b * lo < b * 10000 := Nat.mul_lt_mul_of_pos_left (by omega) (Nat.pos_of_ne_zero hb0)
                have hsmm := hsmb lo (by omega)
                rw [hvb, Nat.add_zero] at hsmm
                have hmm := made_calls (hok _ hbm)
                rw [V_D, NP_def] at hmm
                have hml := (hok _ hbm).len
                have hsub := nminus_calls oR (hok _ hbm) hlo.out
                simp only [NP_def] at hsub
                have hR2 : R1 - b * lo < b := by
                  have h1 := hhi2.out
                  have h2 := hlo.out
                  rw [Nat.mul_add, Nat.mul_one] at h1
                  omega
                have hal2 := halg lo hlo.out
                have hset : Lm (zs.set i lo) := fun x hx => by
                  rcases List.mem_or_eq_of_mem_set hx with h | h
                  · exact hzm x h
                  · omega
                have hds : Hide (b * V ((zs.set i lo).drop i) + (R1 - b * lo) = V (xs.drop i)) := by
                  rw [V_set_drop (by omega)]; exact hal2
                have hrl2 := (hok (R1 - b * lo) (by omega)).len
                clear halg hal2
                simp -implicitDefEqProofs (disch := omega) only [go_sem, ht, g2, g4, g5, g6, g7, g9, g10, g11, g12, gH0, gH2, gH3, gH4, gH7, gH9]
                (refine pCall_vw (by refine ⟨⟨?_, ?_⟩, ?_, ?_⟩; rotate_left 2; (first | (right; rintro r rfl; rfl) | left); all_goals ((try simp -implicitDefEqProofs (disch := omega) only [g2, g4, g5, g6, g7, g9, g10, g11, g12, gH0, gH2, gH3, gH4, gH7, gH9, go_sem, ht]) <;> rfl)) (hsmm) ?_; rintro _ nx - rfl hnx; simp -implicitDefEqProofs (disch := omega) only [g2, g4, g5, g6, g7, g9, g10, g11, g12, gH0, gH2, gH3, gH4, gH7, gH9, go_sem, ht])
                (refine pCall_vw (by refine ⟨⟨?_, ?_⟩, ?_, ?_⟩; rotate_left 2; (first | (right; rintro r rfl; rfl) | left); all_goals ((try simp -implicitDefEqProofs (disch := omega) only [g2, g4, g5, g6, g7, g9, g10, g11, g12, gH0, gH2, gH3, gH4, gH7, gH9, go_sem, ht]) <;> rfl)) (hmm) ?_; rintro _ nx - rfl hnx; simp -implicitDefEqProofs (disch := omega) only [g2, g4, g5, g6, g7, g9, g10, g11, g12, gH0, gH2, gH3, gH4, gH7, gH9, go_sem, ht])
                (refine pCall_vw (by refine ⟨⟨?_, ?_⟩, ?_, ?_⟩; rotate_left 2; (first | (right; rintro r rfl; rfl) | left); all_goals ((try simp -implicitDefEqProofs (disch := omega) only [g2, g4, g5, g6, g7, g9, g10, g11, g12, gH0, gH2, gH3, gH4, gH7, gH9, go_sem, ht]) <;> rfl)) (hsub) ?_; rintro _ nx - rfl hnx; simp -implicitDefEqProofs (disch := omega) only [g2, g4, g5, g6, g7, g9, g10, g11, g12, gH0, gH2, gH3, gH4, gH7, gH9, go_sem, ht])
                exact ⟨⟨r7, r9, i, R1 - b * lo, rfl, by simp -implicitDefEqProofs (disch := omega) only [go_sem, ht, gH7], rfl, by omega, by omega, by omega, by simp -implicitDefEqProofs (disch := omega) only [go_sem, ht], by omega, rfl, hR2, zs.set i lo, by simp [hzl], rfl, hset, hds⟩, by omega⟩
end Go.Proofs.Ytfjdfnlkobeehaa.Ref

namespace Go.Proofs.Ytfjdfnlkobeehaa.Ref


theorem num_calls {s : Int} (h : -9223372036854775808 ≤ s) (h' : s ≤ 9223372036854775807) : PT Try.prog 23 [.val (.int .i64 s)] (isV (.val (.int .i64 s))) := by
  refine PCalls.enter (n := 4) (rs := [.tmp 2]) (tb := []) Try.func23 rfl rfl rfl (by kernel_rfl) (by kernel_rfl) (by simp) fun c hc ht => ?_
  simp -implicitDefEqProofs (disch := omega) only [go_sem, ht]
  (refine end_treeW 0 ?_; simp -implicitDefEqProofs (disch := omega) only [go_sem, ht])


end Go.Proofs.Ytfjdfnlkobeehaa.Ref
end

section
set_option maxRecDepth 100000
set_option linter.unusedVariables false
set_option linter.unusedSimpArgs false
namespace Go.Proofs.Ytfjdfnlkobeehaa.Ref


def NZ (z : Int) : PV := NP (decide (z < 0)) z.natAbs
theorem NZ_def (z : Int) : NZ z = .agg [.val (.bool (decide (z < 0))), .sl (D z.natAbs).length ((D z.natAbs).map I)] := rfl
theorem NZ_sg (b : Bool) (n : Nat) : NP (b && decide (0 < n)) n = NZ (sg b n) := by
  unfold NZ
  rw [sg_abs]
  congr 1
  cases b
  · simp [sg]
  · simp only [sg, Bool.true_and, if_true, decide_eq_decide]
    omega
theorem NZ_nat (n : Nat) : NP false n = NZ n := by
  have := NZ_sg false n
  simpa [sg] using this
theorem made_z {xs : List Nat} {b : Bool} (h : Ok xs) : PT Try.prog 128 [.val (.bool b), SI xs] (isV (NZ (sg b (V xs)))) := by
  rw [← NZ_sg]; exact made_any h
theorem minus_z {z : Int} (h : Ok (D z.natAbs)) : PT Try.prog 108 [NZ z] (isV (NZ (-z))) := by
  have := minus_calls (neg := decide (z < 0)) h
  rw [NZ_sg] at this
  have e : sg (!decide (z < 0)) z.natAbs = -z := by
    by_cases hz : z < 0
    · simp [sg, hz]; omega
    · simp [sg, hz]; omega
  rwa [e] at this
theorem abs_z {z : Int} (h : Ok (D z.natAbs)) : PT Try.prog 134 [NZ z] (isV (NZ z.natAbs)) := by
  have := abs_calls (neg := decide (z < 0)) h
  rwa [NZ_nat] at this
theorem sign_z {z : Int} (h : Ok (D z.natAbs)) : PT Try.prog 96 [NZ z] (isV (.val (.int .i64 (cZ z 0)))) := by
  have hlen := h.len
  rw [NZ_def]
  refine PCalls.enter (n := 9) (rs := [.tmp 2]) (tb := []) Try.func96 rfl rfl rfl (by kernel_rfl) (by kernel_rfl) (by simp) fun c hc ht => ?_
  by_cases h0 : z = 0
  · subst h0
    have hz : (D (Int.natAbs 0)).length = 0 := D_len_zero.2 rfl
    rw [cZ_eq rfl]
    simp -implicitDefEqProofs (disch := omega) only [go_sem, ht]
    (refine end_treeW 0 ?_; simp -implicitDefEqProofs (disch := omega) only [go_sem, ht])
  · have hp := D_len_pos (n := z.natAbs) (by omega)
    by_cases hn : z < 0
    · have e := decide_eq_true hn
      rw [cZ_lt hn, e]
      simp -implicitDefEqProofs (disch := omega) only [go_sem, ht]
      (refine end_treeW 0 ?_; simp -implicitDefEqProofs (disch := omega) only [go_sem, ht])
    · have e := decide_eq_false hn
      rw [cZ_gt (by omega), e]
      simp -implicitDefEqProofs (disch := omega) only [go_sem, ht]
      (refine end_treeW 0 ?_; simp -implicitDefEqProofs (disch := omega) only [go_sem, ht])

theorem nadd_z {a b : Int} (ha : Ok (D a.natAbs)) (hb : Ok (D b.natAbs)) (hab : Ok (D (a.natAbs + b.natAbs))) : PT Try.prog 109 [NZ a, NZ b] (isV (NZ (a + b))) := by
  by_cases hs : decide (a < 0) = decide (b < 0)
  · have hp := plus_calls ha hb
    have hm := made_z (b := decide (b < 0)) hab
    rw [V_D] at hm
    have e : sg (decide (b < 0)) (a.natAbs + b.natAbs) = a + b := by
      rw [decide_eq_decide] at hs
      by_cases hz : b < 0
      · have := hs.2 hz; simp [sg, hz]; omega
      · have := mt hs.1 hz; simp [sg, hz]; omega
    rw [e] at hm
    generalize a + b = s at *
    rw [NZ_def] at hm
    rw [NZ_def, NZ_def, NZ_def, hs]
    generalize decide (b < 0) = sb at *
    refine PCalls.enter (n := 38) (rs := [.cell 4 103]) (tb := [(2, [(0, []), (1, []), (2, []), (3, []), (4, []), (5, []), (6, [0, 1]), (7, []), (8, [])]), (4, [(0, []), (1, []), (2, []), (3, []), (4, []), (5, []), (6, [0, 1]), (7, []), (8, [])]), (5, [(0, []), (1, []), (2, []), (3, []), (4, []), (5, []), (6, [0, 1]), (7, []), (8, [])])]) Try.func109 rfl rfl rfl (by kernel_rfl) (by kernel_rfl) (by simp) fun c hc ht => ?_
    simp -implicitDefEqProofs (disch := omega) only [go_sem, ht]
    ((refine pCall_vw (by refine ⟨⟨?_, ?_⟩, ?_, ?_⟩; rotate_left 2; (first | (right; rintro r rfl; rfl) | left); all_goals ((try simp -implicitDefEqProofs (disch := omega) only [go_sem, ht]) <;> rfl)) (hp) ?_; rintro _ nx_1 - rfl hnx_1; simp -implicitDefEqProofs (disch := omega) only [go_sem, ht]); (refine pCall_vw (by refine ⟨⟨?_, ?_⟩, ?_, ?_⟩; rotate_left 2; (first | (right; rintro r rfl; rfl) | left); all_goals ((try simp -implicitDefEqProofs (disch := omega) only [go_sem, ht]) <;> rfl)) (hm) ?_; rintro _ nx_2 - rfl hnx_2; simp -implicitDefEqProofs (disch := omega) only [go_sem, ht]))
    (refine end_treeN 2 ?_; simp -implicitDefEqProofs (disch := omega) only [go_sem, ht])
  · have hne : (decide (a < 0) == decide (b < 0)) = false := by simpa using hs
    have hsz := size_calls (f := decide (a < 0)) (g := decide (b < 0)) ha hb
    by_cases hle : b.natAbs ≤ a.natAbs
    · by_cases h0 : a.natAbs = 0
      · rw [decide_eq_decide] at hs; exact absurd (by omega) hs
      have hl := less_calls ha hb h0 hle
      have hge : 0 ≤ cmpI a.natAbs b.natAbs := by
        unfold cmpI; split
        · omega
        · split <;> omega
      have hm := made_z (xs := lessL a.natAbs b.natAbs) (b := decide (a < 0)) ⟨lessL_lm _ _, by rw [lessL_len]; exact ha.len⟩
      rw [lessL_V] at hm
      have e : sg (decide (a < 0)) (a.natAbs - b.natAbs) = a + b := by
        rw [decide_eq_decide] at hs
        by_cases hz : a < 0
        · have : ¬ b < 0 := fun h => hs ⟨fun _ => h, fun _ => hz⟩
          simp [sg, hz]; omega
        · have : b < 0 := by
            refine Decidable.byContradiction fun h => hs ⟨fun h' => absurd h' hz, fun h' => absurd h' h⟩
          simp [sg, hz]; omega
      rw [e] at hm
      generalize cmpI a.natAbs b.natAbs = cm at *
      generalize a + b = s at *
      rw [NZ_def] at hm
      rw [NP_def, NP_def] at hsz
      rw [NZ_def, NZ_def, NZ_def]
      refine PCalls.enter (n := 38) (rs := [.cell 4 103]) (tb := [(2, [(0, []), (1, []), (2, []), (3, []), (4, []), (5, []), (6, [0, 1]), (7, []), (8, [])]), (4, [(0, []), (1, []), (2, []), (3, []), (4, []), (5, []), (6, [0, 1]), (7, []), (8, [])]), (5, [(0, []), (1, []), (2, []), (3, []), (4, []), (5, []), (6, [0, 1]), (7, []), (8, [])])]) Try.func109 rfl rfl rfl (by kernel_rfl) (by kernel_rfl) (by simp) fun c hc ht => ?_
      simp -implicitDefEqProofs (disch := omega) only [go_sem, ht, hne]
      ((refine pCall_vw (by refine ⟨⟨?_, ?_⟩, ?_, ?_⟩; rotate_left 2; (first | (right; rintro r rfl; rfl) | left); all_goals ((try simp -implicitDefEqProofs (disch := omega) only [go_sem, ht]) <;> rfl)) (hsz) ?_; rintro _ nx_3 - rfl hnx_3; simp -implicitDefEqProofs (disch := omega) only [go_sem, ht]); (refine pCall_vw (by refine ⟨⟨?_, ?_⟩, ?_, ?_⟩; rotate_left 2; (first | (right; rintro r rfl; rfl) | left); all_goals ((try simp -implicitDefEqProofs (disch := omega) only [go_sem, ht]) <;> rfl)) (hl) ?_; rintro _ nx_4 - rfl hnx_4; simp -implicitDefEqProofs (disch := omega) only [go_sem, ht]); (refine pCall_vw (by refine ⟨⟨?_, ?_⟩, ?_, ?_⟩; rotate_left 2; (first | (right; rintro r rfl; rfl) | left); all_goals ((try simp -implicitDefEqProofs (disch := omega) only [go_sem, ht]) <;> rfl)) (hm) ?_; rintro _ nx_5 - rfl hnx_5; simp -implicitDefEqProofs (disch := omega) only [go_sem, ht]))
      (refine end_treeN 2 ?_; simp -implicitDefEqProofs (disch := omega) only [go_sem, ht])
    · have h0 : b.natAbs ≠ 0 := by omega
      have hl := less_calls hb ha h0 (by omega)
      have hlt : cmpI a.natAbs b.natAbs = -1 := cmpI_lt (by omega)
      rw [hlt] at hsz
      have hm := made_z (xs := lessL b.natAbs a.natAbs) (b := decide (b < 0)) ⟨lessL_lm _ _, by rw [lessL_len]; exact hb.len⟩
      rw [lessL_V] at hm
      have e : sg (decide (b < 0)) (b.natAbs - a.natAbs) = a + b := by
        rw [decide_eq_decide] at hs
        by_cases hz : b < 0
        · have : ¬ a < 0 := fun h => hs ⟨fun _ => hz, fun _ => h⟩
          simp [sg, hz]; omega
        · have : a < 0 := by
            refine Decidable.byContradiction fun h => hs ⟨fun h' => absurd h' h, fun h' => absurd h' hz⟩
          simp [sg, hz]; omega
      rw [e] at hm
      generalize a + b = s at *
      rw [NZ_def] at hm
      rw [NP_def, NP_def] at hsz
      rw [NZ_def, NZ_def, NZ_def]
      refine PCalls.enter (n := 38) (rs := [.cell 4 103]) (tb := [(2, [(0, []), (1, []), (2, []), (3, []), (4, []), (5, []), (6, [0, 1]), (7, []), (8, [])]), (4, [(0, []), (1, []), (2, []), (3, []), (4, []), (5, []), (6, [0, 1]), (7, []), (8, [])]), (5, [(0, []), (1, []), (2, []), (3, []), (4, []), (5, []), (6, [0, 1]), (7, []), (8, [])])]) Try.func109 rfl rfl rfl (by kernel_rfl) (by kernel_rfl) (by simp) fun c hc ht => ?_
      simp -implicitDefEqProofs (disch := omega) only [go_sem, ht, hne]
      ((refine pCall_vw (by refine ⟨⟨?_, ?_⟩, ?_, ?_⟩; rotate_left 2; (first | (right; rintro r rfl; rfl) | left); all_goals ((try simp -implicitDefEqProofs (disch := omega) only [go_sem, ht]) <;> rfl)) (hsz) ?_; rintro _ nx_6 - rfl hnx_6; simp -implicitDefEqProofs (disch := omega) only [go_sem, ht]); (refine pCall_vw (by refine ⟨⟨?_, ?_⟩, ?_, ?_⟩; rotate_left 2; (first | (right; rintro r rfl; rfl) | left); all_goals ((try simp -implicitDefEqProofs (disch := omega) only [go_sem, ht]) <;> rfl)) (hl) ?_; rintro _ nx_7 - rfl hnx_7; simp -implicitDefEqProofs (disch := omega) only [go_sem, ht]); (refine pCall_vw (by refine ⟨⟨?_, ?_⟩, ?_, ?_⟩; rotate_left 2; (first | (right; rintro r rfl; rfl) | left); all_goals ((try simp -implicitDefEqProofs (disch := omega) only [go_sem, ht]) <;> rfl)) (hm) ?_; rintro _ nx_8 - rfl hnx_8; simp -implicitDefEqProofs (disch := omega) only [go_sem, ht]))
      (refine end_treeN 2 ?_; simp -implicitDefEqProofs (disch := omega) only [go_sem, ht])
theorem sg_self {z : Int} : sg (decide (z < 0)) z.natAbs = z := by
  by_cases h : z < 0
  · simp [sg, h]; omega
  · simp [sg, h]; omega
theorem nmul_z {a b : Int} (ha : Ok (D a.natAbs)) (hb : Ok (D b.natAbs)) (hab : (D a.natAbs).length + (D b.natAbs).length + 1 ≤ 1099511627776) : PT Try.prog 106 [NZ a, NZ b] (isV (NZ (a * b))) := by
  have := nmul_any (f := decide (a < 0)) (g := decide (b < 0)) ha hb hab
  rw [NZ_sg] at this
  have e : sg (decide (a < 0) != decide (b < 0)) (a.natAbs * b.natAbs) = a * b := by
    have h1 := @sg_self a
    have h2 := @sg_self b
    conv => rhs; rw [← h1, ← h2]
    generalize decide (a < 0) = f
    generalize decide (b < 0) = g
    cases f <;> cases g <;> simp [sg, Int.mul_neg, Int.neg_mul]
  rwa [e] at this
theorem divided_z {a b : Int} (ha : Ok (D a.natAbs)) (hb : Ok (D b.natAbs)) (hb0 : b ≠ 0) (hsz : (D b.natAbs).length + 1 ≤ 1099511627776) :
    PT Try.prog 135 [NZ a, NZ b] (isV (.tup [NZ (a.natAbs / b.natAbs : Nat), NZ (a.natAbs % b.natAbs : Nat)])) := by
  have := divided_calls (fa := decide (a < 0)) (fb := decide (b < 0)) ha hb (by omega) hsz
  rwa [NZ_nat, NZ_nat] at this
end Go.Proofs.Ytfjdfnlkobeehaa.Ref
end

section
set_option maxRecDepth 100000
set_option linter.unusedVariables false
set_option linter.unusedSimpArgs false
namespace Go.Proofs.Ytfjdfnlkobeehaa.Ref

theorem lenZ {k : Nat} {z : Int} (h : Z k z) : (D z.natAbs).length ≤ 3 * k := by
  refine D_len_le.2 ?_
  rw [Nat.pow_mul]
  exact Nat.lt_of_lt_of_le h (Nat.pow_le_pow_left (by decide) _)
theorem okZ {k : Nat} {z : Int} (h : Z k z) (hk : k ≤ 1000000) : Ok (D z.natAbs) := ⟨Lm_D _, by have := lenZ h; omega⟩
theorem of_z {b : Bool} {xs : List Nat} (hx : Ytfjdfnlkobeehaa.Lm xs) (hl : xs.length ≤ 1000000) : PT Try.prog 103 [WX b xs] (isV (NZ (WV b xs))) := by
  have hf := from_calls hx hl
  rw [NZ_nat] at hf
  have ho : Ok (D ((Ytfjdfnlkobeehaa.V xs : Nat) : Int).natAbs) := nOk hx hl
  have hm := minus_z ho
  unfold WV
  cases b
  · rw [sg_f]
    rw [NZ_def] at hf ⊢
    refine PCalls.enter (n := 12) (rs := [.cell 2 103]) (tb := []) Try.func103 rfl rfl rfl (by kernel_rfl) (by kernel_rfl) (by simp) fun c hc ht => ?_
    simp -implicitDefEqProofs (disch := omega) only [go_sem, ht]
    ((refine pCall_vw (by refine ⟨⟨?_, ?_⟩, ?_, ?_⟩; rotate_left 2; (first | (right; rintro r rfl; rfl) | left); all_goals ((try simp -implicitDefEqProofs (disch := omega) only [go_sem, ht]) <;> rfl)) (hf) ?_; rintro _ nx_1 - rfl hnx_1; simp -implicitDefEqProofs (disch := omega) only [go_sem, ht]))
    (refine end_treeM 2 ?_; simp -implicitDefEqProofs (disch := omega) only [go_sem, ht])
  · rw [sg_t]
    rw [NZ_def] at hf
    rw [NZ_def, NZ_def] at hm
    rw [NZ_def]
    refine PCalls.enter (n := 12) (rs := [.cell 2 103]) (tb := []) Try.func103 rfl rfl rfl (by kernel_rfl) (by kernel_rfl) (by simp) fun c hc ht => ?_
    simp -implicitDefEqProofs (disch := omega) only [go_sem, ht]
    ((refine pCall_vw (by refine ⟨⟨?_, ?_⟩, ?_, ?_⟩; rotate_left 2; (first | (right; rintro r rfl; rfl) | left); all_goals ((try simp -implicitDefEqProofs (disch := omega) only [go_sem, ht]) <;> rfl)) (hf) ?_; rintro _ nx_2 - rfl hnx_2; simp -implicitDefEqProofs (disch := omega) only [go_sem, ht]); (refine pCall_vw (by refine ⟨⟨?_, ?_⟩, ?_, ?_⟩; rotate_left 2; (first | (right; rintro r rfl; rfl) | left); all_goals ((try simp -implicitDefEqProofs (disch := omega) only [go_sem, ht]) <;> rfl)) (hm) ?_; rintro _ nx_3 - rfl hnx_3; simp -implicitDefEqProofs (disch := omega) only [go_sem, ht]))
    (refine end_treeM 2 ?_; simp -implicitDefEqProofs (disch := omega) only [go_sem, ht])
theorem told_z {k : Nat} {z : Int} (h : Z k z) (hk : k ≤ 1000000) : PT Try.prog 74 [NZ z] (isV (WC z)) := by
  have hl := limbs_calls (n := z.natAbs) (neg := decide (z < 0)) (okZ h hk) (by have := h.len; omega)
  rw [NP_def] at hl
  rw [NZ_def, WC_def]
  refine PCalls.enter (n := 8) (rs := [.cell 2 30]) (tb := [(1, [(0, []), (1, []), (2, []), (3, [0, 1]), (4, []), (5, [])])]) Try.func74 rfl rfl rfl (by kernel_rfl) (by kernel_rfl) (by simp) fun c hc ht => ?_
  simp -implicitDefEqProofs (disch := omega) only [go_sem, ht]
  ((refine pCall_vw (by refine ⟨⟨?_, ?_⟩, ?_, ?_⟩; rotate_left 2; (first | (right; rintro r rfl; rfl) | left); all_goals ((try simp -implicitDefEqProofs (disch := omega) only [go_sem, ht]) <;> rfl)) (hl) ?_; rintro _ nx_4 - rfl hnx_4; simp -implicitDefEqProofs (disch := omega) only [go_sem, ht]))
  (refine end_treeM 2 ?_; simp -implicitDefEqProofs (disch := omega) only [go_sem, ht])
theorem long_z {k : Nat} {z : Int} (h : Z k z) (hk : k ≤ 1000000) : PT Try.prog 114 [NZ z] (isV (.val (.int .i64 (Ytfjdfnlkobeehaa.D z.natAbs).length))) := by
  have hl := limbs_calls (n := z.natAbs) (neg := decide (z < 0)) (okZ h hk) (by have := h.len; omega)
  have h1 := h.len
  have h2 := lenZ h
  rw [NP_def] at hl
  rw [NZ_def]
  by_cases h3 : (D z.natAbs).length < 3
  · refine PCalls.enter (n := 13) (rs := [.tmp 2]) (tb := []) Try.func114 rfl rfl rfl (by kernel_rfl) (by kernel_rfl) (by simp) fun c hc ht => ?_
    simp -implicitDefEqProofs (disch := omega) only [go_sem, ht]
    ((refine pCall_vw (by refine ⟨⟨?_, ?_⟩, ?_, ?_⟩; rotate_left 2; (first | (right; rintro r rfl; rfl) | left); all_goals ((try simp -implicitDefEqProofs (disch := omega) only [go_sem, ht]) <;> rfl)) (hl) ?_; rintro _ nx_5 - rfl hnx_5; simp -implicitDefEqProofs (disch := omega) only [go_sem, ht]))
    (refine end_treeW 0 ?_; simp -implicitDefEqProofs (disch := omega) only [go_sem, ht])
  · refine PCalls.enter (n := 13) (rs := [.tmp 2]) (tb := []) Try.func114 rfl rfl rfl (by kernel_rfl) (by kernel_rfl) (by simp) fun c hc ht => ?_
    simp -implicitDefEqProofs (disch := omega) only [go_sem, ht]
    ((refine pCall_vw (by refine ⟨⟨?_, ?_⟩, ?_, ?_⟩; rotate_left 2; (first | (right; rintro r rfl; rfl) | left); all_goals ((try simp -implicitDefEqProofs (disch := omega) only [go_sem, ht]) <;> rfl)) (hl) ?_; rintro _ nx_6 - rfl hnx_6; simp -implicitDefEqProofs (disch := omega) only [go_sem, ht]))
    (refine end_treeW 0 ?_; simp -implicitDefEqProofs (disch := omega) only [go_sem, ht])
theorem limbs_eq (n : Nat) : (bl n + 31) / 32 = (Ytfjdfnlkobeehaa.D n).length := by
  by_cases h : n = 0
  · subst h; rw [bl_zero, Ytfjdfnlkobeehaa.D_zero]; rfl
  · have h1 := bl_top h
    have h2 : bl ((Ytfjdfnlkobeehaa.D n).getD ((Ytfjdfnlkobeehaa.D n).length - 1) 0) ≤ 32 := bl_le.2 (Ytfjdfnlkobeehaa.Lm.get (Ytfjdfnlkobeehaa.Lm_D n) _)
    have h3 := bl_pos' (Ytfjdfnlkobeehaa.D_last n h)
    have h4 := Ytfjdfnlkobeehaa.D_len_pos h
    omega
theorem int_z {v : Int} (h0 : -9223372036854775808 ≤ v) (h1 : v ≤ 9223372036854775807) : PT Try.prog 105 [.val (.int .i64 v)] (isV (NZ v)) := by
  have hl : Ok (D v.natAbs) := okZ (k := 2) (show v.natAbs < 4294967296 ^ 2 by omega) (by omega)
  have hm := made_z (xs := D v.natAbs) (b := decide (v < 0)) hl
  rw [V_D, sg_self] at hm
  have hlen := hl.len
  rw [NZ_def] at hm ⊢
  rw [SI_def] at hm
  have hn : v.natAbs < 18446744073709551616 := by omega
  refine PCalls.enter (n := 25) (rs := [.cell 2 103]) (tb := []) Try.func105 rfl rfl rfl (by kernel_rfl) (by kernel_rfl) (by simp) fun c hc ht => ?_
  simp -implicitDefEqProofs (disch := omega) only [go_sem, ht]
  refine LW.both (fun s => s.sl 0 = .val (.int .i64 v) ∧ s.sl 4 = .val (.int .u64 v.natAbs) ∧ s.sl 3 = .val (.slice none 0 0) ∧ s.sl 2 = .ptr 0 0 ∧ s.H 0 = some [.val (.bool false), .val (.slice none 0 0)] ∧ 0 < s.nx) (fun h => ?_) (fun h => ?_) ?_
  · simp -implicitDefEqProofs (disch := omega) only [go_sem, ht]
    congr 2; omega
  · simp -implicitDefEqProofs (disch := omega) only [go_sem, ht]
    congr 2; omega
  · rintro s ⟨h0', h4, h3, h2, hH, hnx⟩
    refine LW.loopW hc ht (by kernel_rfl) (fun t => t.sl 0 = .val (.int .i64 v) ∧ t.sl 2 = .ptr 0 0 ∧ t.H 0 = some [.val (.bool false), .val (.slice none 0 0)] ∧ 0 < t.nx ∧ ∃ (u : Nat) (zs : List Nat), u ≤ v.natAbs ∧ t.sl 4 = .val (.int .u64 u) ∧ D v.natAbs = zs ++ D u ∧
      ((zs = [] ∧ t.sl 3 = .val (.slice none 0 0)) ∨ ∃ (id cap : Nat) (rest : List Value), t.sl 3 = .ref id 0 zs.length cap 1 ∧ t.H id = some (zs.map I ++ rest.map .val) ∧ zs.length + rest.length = cap ∧ 0 < id ∧ id < t.nx))
      (fun t => match t.sl 4 with | .val (.int _ u) => u.toNat | _ => 0) ?_ ?_
    · exact ⟨h0', h2, hH, hnx, v.natAbs, [], Nat.le_refl _, h4, rfl, .inl ⟨rfl, h3⟩⟩
    · clear h0' h3 h4 h2 hH hnx
      rintro t ⟨h0', h2, hH, hnx, u, zs, hu, h4, hD, h3⟩
      by_cases hu0 : u = 0
      · subst hu0
        rw [D_zero, List.append_nil] at hD
        subst hD
        rcases h3 with ⟨hz, h3⟩ | ⟨id, cap, rest, h3, hHi, hcap, hid, hid'⟩
        · rw [hz] at hm ⊢
          simp -implicitDefEqProofs (disch := omega) only [go_sem, ht, h0', h2, h3, h4, hH]
          ((refine pCall_vw (by refine ⟨⟨?_, ?_⟩, ?_, ?_⟩; rotate_left 2; (first | (right; rintro r rfl; rfl) | left); all_goals ((try simp -implicitDefEqProofs (disch := omega) only [h0', h2, h3, h4, hH, go_sem, ht]) <;> rfl)) (hm) ?_; rintro _ nx_7 - rfl hnx_7; simp -implicitDefEqProofs (disch := omega) only [h0', h2, h3, h4, hH, go_sem, ht]))
          (refine end_treeM 2 ?_; simp -implicitDefEqProofs (disch := omega) only [go_sem, ht, h2])
        · have hidn : id ≠ 0 := by omega
          have hTk : ∀ l : List PV, List.take (D v.natAbs).length ((D v.natAbs).map I ++ l) = (D v.natAbs).map I := fun l => List.take_left' (by simp)
          simp -implicitDefEqProofs (disch := omega) only [go_sem, ht, h0', h2, h3, h4, hH]
          (refine pCall_frz (fun i => decide (i = id)) 1 (by simp -implicitDefEqProofs (disch := omega) only [dropH_at, decide_eq_true_eq, h0', h2, h3, h4, hH, hHi, hTk, if_pos, if_neg, Nat.le_add_right, go_sem, ht] <;> rfl) (by simp -implicitDefEqProofs (disch := omega) only [dropH_at, decide_eq_true_eq, h0', h2, h3, h4, hH, hHi, hTk, if_pos, if_neg, Nat.le_add_right, go_sem, ht]) (by simp -implicitDefEqProofs (disch := omega) only [dropH_at, decide_eq_true_eq, h0', h2, h3, h4, hH, hHi, hTk, if_pos, if_neg, Nat.le_add_right, go_sem, ht] <;> rfl) (by simp -implicitDefEqProofs (disch := omega) only [dropH_at, decide_eq_true_eq, h0', h2, h3, h4, hH, hHi, hTk, if_pos, if_neg, Nat.le_add_right, go_sem, ht]) (hm) ?_; rintro _ nx - rfl hnx; (try simp only [put_nx, withH_nx, begP_nx] at hnx); simp -implicitDefEqProofs (disch := omega) only [dropH_at, decide_eq_true_eq, h0', h2, h3, h4, hH, hHi, hTk, if_pos, if_neg, Nat.le_add_right, go_sem, ht])
          (refine end_treeM 2 ?_; simp -implicitDefEqProofs (disch := omega) only [go_sem, ht, h2, dropH_at, decide_eq_true_eq, if_neg])
      · rw [D_pos hu0] at hD
        rw [hD] at hlen
        simp only [List.length_append, List.length_cons] at hlen
        rcases h3 with ⟨hz, h3⟩ | ⟨id, cap, rest, h3, hHi, hcap, hid, hid'⟩
        · simp -implicitDefEqProofs (disch := omega) only [go_sem, ht, h0', h2, h3, h4, hH]
          subst hz
          refine append_nil (e := 3) (b := 8) (m := 1) (z := .int .i64 0) (ys := [I (u % 10000)]) T23_elem rfl T3_size T3_bytes T3_zero (by simp -implicitDefEqProofs (disch := omega) only [go_sem, ht, srcP_ref]) (by simp -implicitDefEqProofs (disch := omega) only [go_sem, ht]) (by omega) (fun h0 => by omega) fun cap' rest' h1' _ => ?_
          simp -implicitDefEqProofs (disch := omega) only [go_sem, ht, h0', h2, h3, h4, hH]
          exact ⟨⟨u / 10000, [u % 10000], by omega, rfl, hD, .inr ⟨t.nx + 1, cap', rest', rfl, upd_self _ _ _, by simpa using h1', by omega, by omega⟩⟩, by omega⟩
        · simp -implicitDefEqProofs (disch := omega) only [go_sem, ht, h0', h2, h3, h4, hH]
          (refine append_ownX (by refine ⟨?_, ?_, ?_, ?_, ?_, ?_, ?_, ?_⟩ <;> (simp -implicitDefEqProofs (disch := omega) only [srcP_ref, srcP_sl, srcP_nil, Option.isSome_some, hHi, go_sem, ht] <;> rfl)) (by simp <;> omega) (by first | assumption | (simp <;> omega)) (by first | rfl | simp) (by first | omega | (simp <;> omega)) ?_; intro id1 cap1 rest1 H1 nx1 hH1 hcap1 hid1 hnx1 hfr1 hfs1; simp only [put_nx, withH_nx, put_H, withH_H] at hid1 hnx1 hfr1 hfs1; (try simp only [app_U, ← List.map_append] at hH1))
          have hH0 : H1 0 = some [.val (.bool false), .val (.slice none 0 0)] := by rw [hfr1 _ (by omega) (by omega)]; simp -implicitDefEqProofs (disch := omega) only [go_sem, ht, hH]
          simp -implicitDefEqProofs (disch := omega) only [go_sem, ht, h0', h2, h3, h4, hH0]
          exact ⟨⟨by omega, u / 10000, zs ++ [u % 10000], by omega, rfl, by rw [hD, List.append_assoc]; rfl, .inr ⟨id1, cap1, rest1, by simp, by simpa [I] using hH1, by simpa using hcap1, by omega, by omega⟩⟩, by omega⟩
end Go.Proofs.Ytfjdfnlkobeehaa.Ref

namespace Go.Proofs.Ytfjdfnlkobeehaa.Ref

theorem gcd_z {k : Nat} {a b : Int} (ha : Z k a) (hb : Z k b) (hk : k ≤ 100000) : PT Try.prog 120 [NZ a, NZ b] (isV (NZ (Int.gcd a b : Nat))) := by
  have aa := abs_z (okZ ha (by omega))
  have ab := abs_z (okZ hb (by omega))
  unfold Int.gcd
  have hna : a.natAbs < 4294967296 ^ k := ha
  have hnb : b.natAbs < 4294967296 ^ k := hb
  rw [NZ_def, NZ_def] at aa ab
  rw [NZ_def, NZ_def]
  generalize a.natAbs = m0 at *
  generalize b.natAbs = n0 at *
  generalize decide (a < 0) = fa at *
  generalize decide (b < 0) = fb at *
  have df : ∀ n : Nat, decide ((n : Int) < 0) = false := fun n => decide_eq_false (by omega)
  have na : ∀ n : Nat, ((n : Int)).natAbs = n := fun n => rfl
  rw [df, na] at aa ab
  rw [NZ_def, df, na]
  refine PCalls.enter (n := 25) (rs := [.cell 4 103]) (tb := []) Try.func120 rfl rfl rfl (by kernel_rfl) (by kernel_rfl) (by simp) fun c hc ht => ?_
  simp -implicitDefEqProofs (disch := omega) only [go_sem, ht]
  ((refine pCall_vw (by refine ⟨⟨?_, ?_⟩, ?_, ?_⟩; rotate_left 2; (first | (right; rintro r rfl; rfl) | left); all_goals ((try simp -implicitDefEqProofs (disch := omega) only [go_sem, ht]) <;> rfl)) (aa) ?_; rintro _ nx_8 - rfl hnx_8; simp -implicitDefEqProofs (disch := omega) only [go_sem, ht]); (refine pCall_vw (by refine ⟨⟨?_, ?_⟩, ?_, ?_⟩; rotate_left 2; (first | (right; rintro r rfl; rfl) | left); all_goals ((try simp -implicitDefEqProofs (disch := omega) only [go_sem, ht]) <;> rfl)) (ab) ?_; rintro _ nx_9 - rfl hnx_9; simp -implicitDefEqProofs (disch := omega) only [go_sem, ht]))
  refine LW.loopW hc ht (by kernel_rfl) (fun t => t.sl 4 = .ptr 2 0 ∧ t.H 2 = some [.val (.bool false), .val (.slice none 0 0)] ∧ 2 < t.nx ∧ ∃ r5 r6 m n : Nat, t.sl 5 = .ptr r5 0 ∧ t.sl 6 = .ptr r6 0 ∧ 2 < r5 ∧ 2 < r6 ∧ r5 ≠ r6 ∧ r5 < t.nx ∧ r6 < t.nx ∧
      t.H r5 = some [.val (.bool false), .sl (D m).length ((D m).map I)] ∧ t.H r6 = some [.val (.bool false), .sl (D n).length ((D n).map I)] ∧ Hide (m < 4294967296 ^ k) ∧ Hide (n < 4294967296 ^ k) ∧ Nat.gcd m n = Nat.gcd m0 n0)
      (fun t => match t.sl 6 with | .ptr r _ => (match t.H r with | some [_, .sl _ cs] => V (cs.map unU) | _ => 0) | _ => 0) ?_ ?_
  · simp -implicitDefEqProofs (disch := omega) only [go_sem, ht]
    exact ⟨_, _, m0, n0, rfl, rfl, by omega, by omega, by omega, by omega, by omega, by simp -implicitDefEqProofs (disch := omega) only [go_sem, ht], by simp -implicitDefEqProofs (disch := omega) only [go_sem, ht], Hide.mk hna, Hide.mk hnb, rfl⟩
  · rintro t ⟨h4, hH2, hnx, r5, r6, m, n, h5, h6, hr5, hr6, hr56, hn5, hn6, hH5, hH6, hm, hn, hg⟩
    have om : Ok (D m) := okZ (z := (m : Int)) (k := k) hm.out (by omega)
    have on : Ok (D n) := okZ (z := (n : Int)) (k := k) hn.out (by omega)
    have ln := lenZ (z := (n : Int)) (k := k) hn.out
    rw [na] at ln
    have hs := sign_z (z := (n : Int)) on
    rw [NZ_def, df, na] at hs
    by_cases hn0 : n = 0
    · subst hn0
      rw [Nat.gcd_zero_right] at hg
      subst hg
      rw [show ((0 : Nat) : Int) = 0 from rfl, cZ_eq rfl] at hs
      simp -implicitDefEqProofs (disch := omega) only [go_sem, ht, h4, h5, h6, hH2, hH5, hH6]
      ((refine pCall_vw (by refine ⟨⟨?_, ?_⟩, ?_, ?_⟩; rotate_left 2; (first | (right; rintro r rfl; rfl) | left); all_goals ((try simp -implicitDefEqProofs (disch := omega) only [h4, h5, h6, hH2, hH5, hH6, go_sem, ht]) <;> rfl)) (hs) ?_; rintro _ nx_10 - rfl hnx_10; simp -implicitDefEqProofs (disch := omega) only [h4, h5, h6, hH2, hH5, hH6, go_sem, ht]))
      (refine end_treeM 2 ?_; simp -implicitDefEqProofs (disch := omega) only [go_sem, ht, h4, h5, h6, hH2, hH5, hH6])
    · rw [cZ_gt (by omega)] at hs
      have hd := divided_calls (fa := false) (fb := false) om on hn0 (by omega)
      rw [NP_def, NP_def, NP_def, NP_def] at hd
      have hlt : m % n < n := Nat.mod_lt _ (Nat.pos_of_ne_zero hn0)
      have hg2 : Nat.gcd n (m % n) = Nat.gcd m0 n0 := by rw [← hg, Nat.gcd_comm m n, Nat.gcd_rec n m, Nat.gcd_comm]
      have hr : Hide (m % n < 4294967296 ^ k) := Hide.mk (Nat.lt_trans hlt hn.out)
      generalize m / n = q at *
      generalize m % n = r at *
      simp -implicitDefEqProofs (disch := omega) only [go_sem, ht, h4, h5, h6, hH2, hH5, hH6]
      ((refine pCall_vw (by refine ⟨⟨?_, ?_⟩, ?_, ?_⟩; rotate_left 2; (first | (right; rintro r rfl; rfl) | left); all_goals ((try simp -implicitDefEqProofs (disch := omega) only [h4, h5, h6, hH2, hH5, hH6, go_sem, ht]) <;> rfl)) (hs) ?_; rintro _ nx_11 - rfl hnx_11; simp -implicitDefEqProofs (disch := omega) only [h4, h5, h6, hH2, hH5, hH6, go_sem, ht]); (refine pCall_vw (by refine ⟨⟨?_, ?_⟩, ?_, ?_⟩; rotate_left 2; (first | (right; rintro r rfl; rfl) | left); all_goals ((try simp -implicitDefEqProofs (disch := omega) only [h4, h5, h6, hH2, hH5, hH6, go_sem, ht]) <;> rfl)) (hd) ?_; rintro _ nx_12 - rfl hnx_12; simp -implicitDefEqProofs (disch := omega) only [h4, h5, h6, hH2, hH5, hH6, go_sem, ht]))
      refine ⟨⟨r5, r6, n, r, rfl, rfl, hr5, hr6, hr56, by omega, by omega, ?_, ?_, hn, hr, hg2⟩, ?_⟩
      · simp -implicitDefEqProofs (disch := omega) only [go_sem, ht]
      · simp -implicitDefEqProofs (disch := omega) only [go_sem, ht]
      · rw [unU_I, unU_I, V_D, V_D]; exact hlt
attribute [go_sem] NZ_def

end Go.Proofs.Ytfjdfnlkobeehaa.Ref
end

section
set_option maxRecDepth 100000
set_option linter.unusedVariables false
set_option linter.unusedSimpArgs false
namespace Go.Proofs.Ytfjdfnlkobeehaa

theorem sz_lenM {m : List (List (Bool × List Nat))} : ∀ n, n ≤ m.length → sz (fun k => lenW (m.getD k [])) n = lenM (m.take n)
  | 0, _ => by simp [sz_zero, lenM]
  | n + 1, h => by
    rw [sz_succ, sz_lenM n (by omega), lenM_take (by omega)]; omega

theorem sized {m : List (List (Bool × List Nat))} {cols B : Nat} (hlm : ∀ l ∈ m, ∀ p ∈ l, Lm p.2) (hc : ∀ l ∈ m, l.length = cols) (hB : lenM m ≤ B) (hn : m.length ≤ 1000000) :
    (∀ c, EZ 4294967296 B m.length cols (echW (m.map vals) c)) ∧ ∀ c k, k < m.length → ∀ x ∈ (echW (m.map vals) c).1.getD k [], Z (B + 1) x := by
  have hE : ∀ c, EZ 4294967296 B m.length cols (echW (m.map vals) c) := by
    have := EZ.all (β := 4294967296) (B := B) (cols := cols) (rows := m.map vals) (κ := fun k => lenW (m.getD k [])) (fun z hz => by
      obtain ⟨l, hl, rfl⟩ := List.mem_map.1 hz
      rw [vals_len]; exact hc l hl) (fun k hk x hx => by
      rw [List.length_map] at hk
      have e : (m.map vals).getD k [] = vals (m.getD k []) := by simp [hk]
      rw [e] at hx
      obtain ⟨p, hp, rfl⟩ := List.mem_map.1 hx
      have h1 := hlm _ (getD_mem (d := []) hk) p hp
      rw [WV_abs]
      exact Nat.le_of_lt (V_lt' h1 (Nat.le_of_lt (lenW_mem hp)))) (by
      rw [List.length_map, sz_lenM _ (Nat.le_refl _), List.take_length]; exact hB)
    rwa [List.length_map] at this
  refine ⟨hE, fun c k hk x hx => ?_⟩
  have := (hE c).short (by omega) (by omega) hk x hx
  exact Nat.lt_of_le_of_lt this (Nat.pow_lt_pow_right (by decide) (by omega))


def wrongM (m : List (List (Bool × List Nat))) (c : Int) : Bool := decide (c < 0 ∨ 32 < c ∨ 64 < m.length ∨ ∃ l ∈ m, (l.length : Int) ≠ c)
theorem wrongM_false {m : List (List (Bool × List Nat))} {c : Int} (h : wrongM m c = false) : ∃ cols : Nat, c = cols ∧ cols ≤ 32 ∧ m.length ≤ 64 ∧ ∀ l ∈ m, l.length = cols := by
  have h := of_decide_eq_false h
  refine ⟨c.toNat, by omega, by omega, by omega, fun l hl => ?_⟩
  have : ¬ (l.length : Int) ≠ c := fun hne => h (.inr (.inr (.inr ⟨l, hl, hne⟩)))
  omega
theorem wrong_calls {m : List (List (Bool × List Nat))} {cn : Int} : PT Try.prog 52 [SM m, .val (.int .i64 cn)] (isV (.val (.bool (wrongM m cn)))) := by
  by_cases h1 : cn < 0
  · rw [show wrongM m cn = true from decide_eq_true (.inl h1)]
    refine PCalls.enter (n := 29) (rs := [.tmp 4]) (tb := []) Try.func52 rfl rfl rfl (by kernel_rfl) (by kernel_rfl) (by simp) fun c hc ht => ?_
    simp -implicitDefEqProofs (disch := omega) only [go_sem, ht]
    (refine end_treeW 0 ?_; simp -implicitDefEqProofs (disch := omega) only [go_sem, ht])
  by_cases h2 : 32 < cn
  · rw [show wrongM m cn = true from decide_eq_true (.inr (.inl h2))]
    refine PCalls.enter (n := 29) (rs := [.tmp 4]) (tb := []) Try.func52 rfl rfl rfl (by kernel_rfl) (by kernel_rfl) (by simp) fun c hc ht => ?_
    simp -implicitDefEqProofs (disch := omega) only [go_sem, ht]
    (refine end_treeW 0 ?_; simp -implicitDefEqProofs (disch := omega) only [go_sem, ht])
  by_cases h3 : 64 < m.length
  · rw [show wrongM m cn = true from decide_eq_true (.inr (.inr (.inl h3)))]
    refine PCalls.enter (n := 29) (rs := [.tmp 4]) (tb := []) Try.func52 rfl rfl rfl (by kernel_rfl) (by kernel_rfl) (by simp) fun c hc ht => ?_
    simp -implicitDefEqProofs (disch := omega) only [go_sem, ht]
    (refine end_treeW 0 ?_; simp -implicitDefEqProofs (disch := omega) only [go_sem, ht])
  refine PCalls.enter (n := 29) (rs := [.tmp 4]) (tb := []) Try.func52 rfl rfl rfl (by kernel_rfl) (by kernel_rfl) (by simp) fun c hc ht => ?_
  simp -implicitDefEqProofs (disch := omega) only [go_sem, ht]
  refine LW.loopW hc ht (by kernel_rfl) (fun t => t.sl 1 = .val (.int .i64 cn) ∧ t.sl 18 = .sl m.length (m.map SW) ∧ t.sl 19 = .val (.int .i64 m.length) ∧ ∃ i : Nat, i ≤ m.length ∧ t.sl 20 = .val (.int .i64 i) ∧ ∀ l ∈ m.take i, (l.length   : Int) = cn)
    (fun t => match t.sl 20 with | .val (.int _ k) => m.length - k.toNat | _ => 0) ?_ ?_
  · simp -implicitDefEqProofs (disch := omega) only [go_sem, ht]
    exact ⟨0, Nat.zero_le _, rfl, by simp⟩
  · rintro t ⟨h1', h18, h19, i, hi, h20, hall⟩
    by_cases hil : i = m.length
    · subst hil
      rw [List.take_length] at hall
      rw [show wrongM m cn = false from decide_eq_false (by
        rintro (h | h | h | ⟨l, hl, hne⟩)
        · exact h1 h
        · exact h2 h
        · exact h3 h
        · exact hne (hall l hl))]
      simp -implicitDefEqProofs (disch := omega) only [go_sem, ht, h1', h18, h19, h20]
      (refine end_treeW 0 ?_; simp -implicitDefEqProofs (disch := omega) only [go_sem, ht])
    · have hlt : i < m.length := by omega
      have hgi := get_SM' hlt
      have hmem := getD_mem (d := []) hlt
      have hst := getD_take (d := []) hlt
      by_cases he : ((m.getD i []).length   : Int) = cn
      · generalize m.getD i [] = l0 at *
        simp -implicitDefEqProofs (disch := omega) only [go_sem, ht, h1', h18, h19, h20, hgi, he]
        refine ⟨⟨i + 1, by omega, rfl, fun l hl => ?_⟩, by omega⟩
        rw [hst] at hl
        rcases List.mem_append.1 hl with hl | hl
        · exact hall l hl
        · have : l = l0 := by simpa using hl
          rw [this]; exact he
      · rw [show wrongM m cn = true from decide_eq_true (.inr (.inr (.inr ⟨_, hmem, he⟩)))]
        generalize m.getD i [] = l0 at *
        simp -implicitDefEqProofs (disch := omega) only [go_sem, ht, h1', h18, h19, h20, hgi, he]
        (refine end_treeW 0 ?_; simp -implicitDefEqProofs (disch := omega) only [go_sem, ht])

def longZ (W : List (List Int)) : Bool := decide (∃ z ∈ W, ∃ x ∈ z, 32 < (D x.natAbs).length)
theorem elong_calls {W : List (List Int)} {k cols : Nat} (h : ∀ z ∈ W, z.length = cols ∧ ∀ x ∈ z, Z k x) (hk : k ≤ 1000000) (hn : W.length ≤ 1000000) (hcols : cols ≤ 1000000) : PT Try.prog 93 [SM (W.map CZ)] (isV (.val (.bool (longZ W)))) := by
  refine PCalls.enter (n := 24) (rs := [.tmp 2]) (tb := []) Try.func93 rfl rfl rfl (by kernel_rfl) (by kernel_rfl) (by simp) fun c hc ht => ?_
  simp -implicitDefEqProofs (disch := omega) only [go_sem, ht]
  refine LW.loopW hc ht (by kernel_rfl) (fun t => t.sl 7 = .sl W.length ((W.map CZ).map SW) ∧ t.sl 8 = .val (.int .i64 W.length) ∧ ∃ i : Nat, i ≤ W.length ∧ t.sl 9 = .val (.int .i64 i) ∧ ∀ z ∈ W.take i, ∀ x ∈ z, (D x.natAbs).length ≤ 32)
    (fun t => match t.sl 9 with | .val (.int _ k) => W.length - k.toNat | _ => 0) ?_ ?_
  · have hml : (W.map CZ).length = W.length := by simp
    simp -implicitDefEqProofs (disch := omega) only [go_sem, ht, hml]
    exact ⟨0, Nat.zero_le _, rfl, by simp⟩
  · rintro t ⟨h7, h8, i, hi, h9, hall⟩
    by_cases hil : i = W.length
    · subst hil
      rw [List.take_length] at hall
      rw [show longZ W = false from decide_eq_false (by
        rintro ⟨z, hz, x, hx, hlt⟩
        have := hall z hz x hx
        omega)]
      simp -implicitDefEqProofs (disch := omega) only [go_sem, ht, h7, h8, h9]
      (refine end_treeW 0 ?_; simp -implicitDefEqProofs (disch := omega) only [go_sem, ht])
    · have hlt : i < W.length := by omega
      have hgi := get_SM' (m := W.map CZ) (i := i) (by simpa using hlt)
      rw [getD_CZ hlt] at hgi
      have hmem := getD_mem (d := []) hlt
      have hst := getD_take (d := []) hlt
      obtain ⟨hzl, hzz⟩ := h _ hmem
      have hczl := CZ_len (W.getD i [])
      have hlg : ∀ j, j < (W.getD i []).length → 32 < (D (vc (W.getD i []) j).natAbs).length → longZ W = true := fun j hj h32 => decide_eq_true ⟨_, hmem, _, List.getElem_mem hj, by rwa [vc_lt hj] at h32⟩
      generalize W.getD i [] = z at *
      simp -implicitDefEqProofs (disch := omega) only [go_sem, ht, h7, h8, h9, hgi, hczl]
      refine LW.loopW hc ht (by kernel_rfl) (fun s => s.sl 7 = .sl W.length ((W.map CZ).map SW) ∧ s.sl 8 = .val (.int .i64 W.length) ∧ s.sl 9 = .val (.int .i64 i) ∧ s.sl 13 = .sl z.length (SWc (CZ z)) ∧ s.sl 14 = .val (.int .i64 z.length) ∧ ∃ j : Nat, j ≤ z.length ∧ s.sl 15 = .val (.int .i64 j) ∧ ∀ x ∈ z.take j, (D x.natAbs).length ≤ 32)
        (fun s => match s.sl 15 with | .val (.int _ k) => z.length - k.toNat | _ => 0) ?_ ?_
      · simp -implicitDefEqProofs (disch := omega) only [go_sem, ht, h7, h8, h9]
        exact ⟨0, Nat.zero_le _, rfl, by simp⟩
      · clear h7 h8 h9
        rintro s ⟨h7, h8, h9, h13, h14, j, hj, h15, hal⟩
        by_cases hjl : j = z.length
        · subst hjl
          rw [List.take_length] at hal
          simp -implicitDefEqProofs (disch := omega) only [go_sem, ht, h7, h8, h9, h13, h14, h15]
          refine ⟨⟨i + 1, by omega, rfl, fun y hy => ?_⟩, by omega⟩
          rw [hst] at hy
          rcases List.mem_append.1 hy with hy | hy
          · exact hall y hy
          · have : y = z := by simpa using hy
            rw [this]; exact hal
        · have hjt : j < z.length := by omega
          have hat := CZ_at hjt
          have hzx : Z k (vc z j) := by rw [vc_lt hjt]; exact hzz _ (List.getElem_mem _)
          have hlm := limbsW (Wn.C hzx hk)
          rw [Ref.limbs_eq] at hlm
          have hln := hzx.len
          have hlgj := hlg j hjt
          by_cases h32 : 32 < (D (vc z j).natAbs).length
          · rw [hlgj h32]
            generalize (D (vc z j).natAbs).length = n at *
            simp -implicitDefEqProofs (disch := omega) only [go_sem, ht, h7, h8, h9, h13, h14, h15, hat]
            (refine pCall_vw (by refine ⟨⟨?_, ?_⟩, ?_, ?_⟩; rotate_left 2; (first | (right; rintro r rfl; rfl) | left); all_goals ((try simp -implicitDefEqProofs (disch := omega) only [h7, h8, h9, h13, h14, h15, hat, go_sem, ht]) <;> rfl)) (hlm) ?_; rintro _ nx - rfl hnx; simp -implicitDefEqProofs (disch := omega) only [h7, h8, h9, h13, h14, h15, hat, go_sem, ht])
            (refine end_treeW 0 ?_; simp -implicitDefEqProofs (disch := omega) only [go_sem, ht])
          · have hle : ∀ x ∈ z.take (j + 1), (D x.natAbs).length ≤ 32 := fun x hx => by
              rw [List.take_succ_eq_append_getElem hjt] at hx
              rcases List.mem_append.1 hx with hx | hx
              · exact hal x hx
              · have : x = z[j] := by simpa using hx
                rw [this, ← vc_lt hjt]; omega
            simp -implicitDefEqProofs (disch := omega) only [go_sem, ht, h7, h8, h9, h13, h14, h15, hat]
            (refine pCall_vw (by refine ⟨⟨?_, ?_⟩, ?_, ?_⟩; rotate_left 2; (first | (right; rintro r rfl; rfl) | left); all_goals ((try simp -implicitDefEqProofs (disch := omega) only [h7, h8, h9, h13, h14, h15, hat, go_sem, ht]) <;> rfl)) (hlm) ?_; rintro _ nx - rfl hnx; simp -implicitDefEqProofs (disch := omega) only [h7, h8, h9, h13, h14, h15, hat, go_sem, ht])
            exact ⟨⟨j + 1, by omega, rfl, hle⟩, by omega⟩
theorem told_calls {W : List (List Int)} {k cols : Nat} (h : ∀ z ∈ W, z.length = cols ∧ ∀ x ∈ z, Z k x) (hk : k ≤ 1000000) (hn : W.length ≤ 1000000) (hcols : cols ≤ 1000000) :
    PT Try.prog 54 [SM (W.map CZ)] (isV (.tup [SM ((if longZ W then [] else W).map CZ), .val (.int .i64 (if longZ W then 2 else 0))])) := by
  have hl := elong_calls h hk hn hcols
  have hfl := SM_flat (W.map CZ)
  by_cases hb : longZ W = true
  · rw [hb] at hl
    rw [if_pos hb, if_pos hb]
    refine PCalls.enter (n := 7) (rs := [.tmp 2, .tmp 3]) (tb := []) Try.func54 rfl rfl rfl (by kernel_rfl) (by kernel_rfl) (by simp) fun c hc ht => ?_
    simp -implicitDefEqProofs (disch := omega) only [go_sem, ht]
    (refine pCall_vw (by refine ⟨⟨?_, ?_⟩, ?_, ?_⟩; rotate_left 2; (first | (right; rintro r rfl; rfl) | left); all_goals ((try simp -implicitDefEqProofs (disch := omega) only [go_sem, ht]) <;> rfl)) (hl) ?_; rintro _ nx - rfl hnx; simp -implicitDefEqProofs (disch := omega) only [go_sem, ht])
    (refine end_treeM 2 ?_; simp -implicitDefEqProofs (disch := omega) only [go_sem, ht, List.map_nil])
  · rw [show longZ W = false by simpa using hb] at hl
    rw [if_neg hb, if_neg hb]
    refine PCalls.enter (n := 7) (rs := [.tmp 2, .tmp 3]) (tb := []) Try.func54 rfl rfl rfl (by kernel_rfl) (by kernel_rfl) (by simp) fun c hc ht => ?_
    simp -implicitDefEqProofs (disch := omega) only [go_sem, ht]
    (refine pCall_vw (by refine ⟨⟨?_, ?_⟩, ?_, ?_⟩; rotate_left 2; (first | (right; rintro r rfl; rfl) | left); all_goals ((try simp -implicitDefEqProofs (disch := omega) only [go_sem, ht]) <;> rfl)) (hl) ?_; rintro _ nx - rfl hnx; simp -implicitDefEqProofs (disch := omega) only [go_sem, ht])
    (refine end_treeM 2 ?_; simp -implicitDefEqProofs (disch := omega) only [go_sem, ht, hfl])


structure RR (T : List (List Int)) (Pv : List Nat) (cols k : Nat) : Prop where
  len : T.length = Pv.length
  row : ∀ i, i < T.length → (T.getD i []).length = cols ∧ ∀ x ∈ T.getD i [], Z k x
  col : ∀ c ∈ Pv, c < cols
  inc : ∀ i j (hi : i < Pv.length) (hj : j < Pv.length), i < j → Pv[i] < Pv[j]
  piv : ∀ i j (hj : j < Pv.length), i < Pv.length → (vc (T.getD i []) Pv[j] ≠ 0 ↔ j = i)
  prm : ∀ i, i < T.length → Prm (T.getD i [])
  hk : k ≤ 1000000
theorem echW_inc (rows : List (List Int)) : ∀ c, (∀ p ∈ (echW rows c).2, p < c) ∧ ∀ i j (hi : i < (echW rows c).2.length) (hj : j < (echW rows c).2.length), i < j → (echW rows c).2[i] < (echW rows c).2[j]
  | 0 => ⟨fun p hp => by simp [echW] at hp, fun i j hi => by simp [echW] at hi⟩
  | c + 1 => by
    obtain ⟨h1, h2⟩ := echW_inc rows c
    have e : (echW rows (c + 1)).2 = (echW rows c).2 ∨ (echW rows (c + 1)).2 = (echW rows c).2 ++ [c] := by
      simp only [echW, stepE]
      split
      · exact .inr rfl
      · exact .inl rfl
    generalize (echW rows (c + 1)).2 = l at *
    generalize (echW rows c).2 = l0 at *
    rcases e with rfl | rfl
    · exact ⟨fun p hp => by have := h1 p hp; omega, h2⟩
    · refine ⟨fun p hp => ?_, fun i j hi hj hij => ?_⟩
      · rcases List.mem_append.1 hp with hp | hp
        · have := h1 p hp; omega
        · have : p = c := by simpa using hp
          omega
      · rw [List.length_append, List.length_singleton] at hi hj
        by_cases hjl : j < l0.length
        · rw [List.getElem_append_left (by omega), List.getElem_append_left hjl]
          exact h2 i j (by omega) hjl hij
        · rw [List.getElem_append_left (by omega), List.getElem_append_right (by omega)]
          simpa using h1 _ (List.getElem_mem (by omega))
theorem neg_vc (z : List Int) (j : Nat) : vc (z.map (- ·)) j = -vc z j := by
  by_cases h : j < z.length
  · rw [vc_lt (by simpa using h), vc_lt h]; simp
  · rw [vc_ge (by simp; omega), vc_ge (by omega)]; rfl
theorem upZ_cases (z : List Int) : upZ z = z ∨ upZ z = z.map (- ·) := by unfold upZ; split; exact .inr rfl; exact .inl rfl
theorem gcdL_neg (z : List Int) : gcdL (z.map (- ·)) = gcdL z := by
  apply Nat.dvd_antisymm
  · exact dvd_gcdL.2 fun x hx => by
      have := gcdL_dvd (z := z.map (- ·)) (List.mem_map.2 ⟨x, hx, rfl⟩)
      simpa using this
  · exact dvd_gcdL.2 fun x hx => by
      obtain ⟨y, hy, rfl⟩ := List.mem_map.1 hx
      have := gcdL_dvd hy
      simpa using this
theorem Prm.neg {z : List Int} (h : Prm z) : Prm (z.map (- ·)) := by
  rcases h with h | h
  · exact .inl (by rw [gcdL_neg]; exact h)
  · exact .inr fun x hx => by
      obtain ⟨y, hy, rfl⟩ := List.mem_map.1 hx
      rw [h y hy]; rfl
theorem Prm.up {z : List Int} (h : Prm z) : Prm (upZ z) := by
  rcases upZ_cases z with e | e
  · rw [e]; exact h
  · rw [e]; exact h.neg
theorem echT_get {rz : List (List Int)} {cols i : Nat} (h : i < (echW rz cols).2.length) (hl : (echW rz cols).2.length ≤ (echW rz cols).1.length) : (echT rz cols).getD i [] = upZ ((echW rz cols).1.getD i []) := by
  unfold echT
  simp only [List.getD_eq_getElem?_getD, List.getElem?_map, List.getElem?_take]
  rw [if_pos h, List.getElem?_eq_getElem (by omega)]; rfl

theorem echT_RR {m : List (List (Bool × List Nat))} {cols B : Nat} (hE : EZ 4294967296 B m.length cols (echW (m.map vals) cols)) (hs : ∀ k, k < m.length → ∀ x ∈ (echW (m.map vals) cols).1.getD k [], Z (B + 1) x) (hB : B + 1 ≤ 1000000) : RR (echT (m.map vals) cols) (echW (m.map vals) cols).2 cols (B + 1) := by
  obtain ⟨O, κ, hI, _⟩ := hE.st
  have htle := hI.tle
  have hlen := hE.len
  have hTl : (echT (m.map vals) cols).length = (echW (m.map vals) cols).2.length := by unfold echT; simp; omega
  have hget : ∀ i, i < (echW (m.map vals) cols).2.length → (echT (m.map vals) cols).getD i [] = upZ ((echW (m.map vals) cols).1.getD i []) := fun i hi => echT_get hi (by omega)
  refine ⟨hTl, fun i hi => ?_, (echW_inc _ cols).1, (echW_inc _ cols).2, fun i j hj hi => ?_, fun i hi => ?_, hB⟩
  · rw [hget i (by omega)]
    obtain ⟨h1, h2⟩ := hE.row i (by omega)
    refine ⟨by rw [upZ_len]; exact h1, fun x hx => ?_⟩
    have hz := hs i (by omega)
    rcases upZ_cases ((echW (m.map vals) cols).1.getD i []) with e | e
    · rw [e] at hx; exact hz x hx
    · rw [e] at hx
      obtain ⟨y, hy, rfl⟩ := List.mem_map.1 hx
      exact (hz y hy).neg
  · rw [hget i hi]
    obtain ⟨_, h2, h3⟩ := hI.piv i hi
    have e : vc (upZ ((echW (m.map vals) cols).1.getD i [])) (echW (m.map vals) cols).2[j] ≠ 0 ↔ vc ((echW (m.map vals) cols).1.getD i []) (echW (m.map vals) cols).2[j] ≠ 0 := by
      rcases upZ_cases ((echW (m.map vals) cols).1.getD i []) with e | e
      · rw [e]
      · rw [e, neg_vc]; omega
    rw [e]
    constructor
    · intro h
      exact Classical.byContradiction fun hne => h (h2 j hj hne)
    · rintro rfl
      exact h3
  · rw [hget i (by omega)]
    exact (hE.row i (by omega)).2.up


structure Mx (m : List (List (Bool × List Nat))) (B : Nat) : Prop where
  lm : ∀ l ∈ m, ∀ p ∈ l, Lm p.2
  len : lenM m ≤ B
  hB : 2 * (B + 1) + 1 ≤ 1000000
theorem Mx.n {m : List (List (Bool × List Nat))} {B : Nat} (h : Mx m B) : m.length ≤ 1000000 := by have := lenM_len m; have := h.len; have := h.hB; omega
theorem Mx.rn {m : List (List (Bool × List Nat))} {B : Nat} (h : Mx m B) {l : List (Bool × List Nat)} (hl : l ∈ m) : Rn l B := by
  have h1 := lenM_mem hl
  have h2 := h.len
  have h3 := h.hB
  exact ⟨fun p hp => ⟨h.lm l hl p hp, by have := lenW_mem hp; omega⟩, by omega⟩
section
variable {m : List (List (Bool × List Nat))} {cols B : Nat}
theorem Mx.ez (h : Mx m B) (hc : ∀ l ∈ m, l.length = cols) : (∀ c, EZ 4294967296 B m.length cols (echW (m.map vals) c)) ∧ ∀ c k, k < m.length → ∀ x ∈ (echW (m.map vals) c).1.getD k [], Z (B + 1) x := sized h.lm hc h.len h.n
theorem Mx.rr (h : Mx m B) (hc : ∀ l ∈ m, l.length = cols) : RR (echT (m.map vals) cols) (echW (m.map vals) cols).2 cols (B + 1) := by
  obtain ⟨h1, h2⟩ := h.ez hc
  exact echT_RR (h1 cols) (h2 cols) (by have := h.hB; omega)
theorem Mx.ech (h : Mx m B) (hc : ∀ l ∈ m, l.length = cols) (hcols : cols ≤ 1000) (hn : m.length ≤ 10000) :
    PT Try.prog 53 [SM m, .val (.int .i64 cols)] (isV (.tup [SM ((echT (m.map vals) cols).map CZ), .sl (echW (m.map vals) cols).2.length ((echW (m.map vals) cols).2.map Ref.I)])) := by
  obtain ⟨h1, h2⟩ := h.ez hc
  exact echelon_calls (fun l hl => ⟨h.rn hl, hc l hl⟩) hcols hn h1 h2 h.hB
theorem mem_getD {α : Type} {W : List α} {z d : α} (h : z ∈ W) : ∃ i, i < W.length ∧ W.getD i d = z := by
  obtain ⟨i, hi, rfl⟩ := List.mem_iff_getElem.1 h
  exact ⟨i, hi, by simp [hi]⟩

def mEch (m : List (List (Bool × List Nat))) (c : Int) : List (List Int) × Int :=
  if wrongM m c then ([], 1) else if longZ (echT (m.map vals) c.toNat) then ([], 2) else (echT (m.map vals) c.toNat, 0)
theorem mech_calls (h : Mx m B) {cn : Int} : PT Try.prog 17 [SM m, .val (.int .i64 cn)] (isV (.tup [SM ((mEch m cn).1.map CZ), .val (.int .i64 (mEch m cn).2)])) := by
  have hw := wrong_calls (m := m) (cn := cn)
  unfold mEch
  by_cases hb : wrongM m cn = true
  · rw [hb] at hw
    rw [if_pos hb]
    refine PCalls.enter (n := 21) (rs := [.tmp 4, .tmp 5]) (tb := []) Try.func17 rfl rfl rfl (by kernel_rfl) (by kernel_rfl) (by simp) fun c hc ht => ?_
    simp -implicitDefEqProofs (disch := omega) only [go_sem, ht]
    (refine pCall_vw (by refine ⟨⟨?_, ?_⟩, ?_, ?_⟩; rotate_left 2; (first | (right; rintro r rfl; rfl) | left); all_goals ((try simp -implicitDefEqProofs (disch := omega) only [go_sem, ht]) <;> rfl)) (hw) ?_; rintro _ nx - rfl hnx; simp -implicitDefEqProofs (disch := omega) only [go_sem, ht])
    (refine end_treeM 2 ?_; simp -implicitDefEqProofs (disch := omega) only [go_sem, ht, List.map_nil])
  · rw [if_neg hb]
    have hb' : wrongM m cn = false := by simpa using hb
    obtain ⟨n, rfl, hn, hml, hlc⟩ := wrongM_false hb'
    rw [hb'] at hw
    have he := h.ech hlc (by omega) (by omega)
    have hr := h.rr hlc
    have ht' := told_calls (W := echT (m.map vals) n) (k := B + 1) (cols := n) (fun z hz => by
      obtain ⟨i, hi, rfl⟩ := mem_getD (d := []) hz
      exact hr.row i hi) hr.hk (by have := hr.len; have := (h.ez hlc).1 n; obtain ⟨O, κ, hI, _⟩ := this.st; have := hI.tle; omega) (by omega)
    rw [Int.toNat_natCast]
    have e : (if longZ (echT (m.map vals) n) = true then (([], 2) : List (List Int) × Int) else (echT (m.map vals) n, 0)) = (if longZ (echT (m.map vals) n) = true then [] else echT (m.map vals) n, if longZ (echT (m.map vals) n) = true then 2 else 0) := by split <;> rfl
    rw [e]
    have hfl := SM_flat ((if longZ (echT (m.map vals) n) = true then [] else echT (m.map vals) n).map CZ)
    generalize (if longZ (echT (m.map vals) n) = true then [] else echT (m.map vals) n).map CZ = m2 at *
    generalize (if longZ (echT (m.map vals) n) = true then (2 : Int) else 0) = er at *
    generalize (echT (m.map vals) n).map CZ = m1 at *
    generalize (echW (m.map vals) n).2 = Pv at *
    refine PCalls.enter (n := 21) (rs := [.tmp 4, .tmp 5]) (tb := []) Try.func17 rfl rfl rfl (by kernel_rfl) (by kernel_rfl) (by simp) fun c hc ht => ?_
    simp -implicitDefEqProofs (disch := omega) only [go_sem, ht]
    ((refine pCall_vw (by refine ⟨⟨?_, ?_⟩, ?_, ?_⟩; rotate_left 2; (first | (right; rintro r rfl; rfl) | left); all_goals ((try simp -implicitDefEqProofs (disch := omega) only [go_sem, ht]) <;> rfl)) (hw) ?_; rintro _ nx_1 - rfl hnx_1; simp -implicitDefEqProofs (disch := omega) only [go_sem, ht]); (refine pCall_vw (by refine ⟨⟨?_, ?_⟩, ?_, ?_⟩; rotate_left 2; (first | (right; rintro r rfl; rfl) | left); all_goals ((try simp -implicitDefEqProofs (disch := omega) only [go_sem, ht]) <;> rfl)) (he) ?_; rintro _ nx_2 - rfl hnx_2; simp -implicitDefEqProofs (disch := omega) only [go_sem, ht]); (refine pCall_vw (by refine ⟨⟨?_, ?_⟩, ?_, ?_⟩; rotate_left 2; (first | (right; rintro r rfl; rfl) | left); all_goals ((try simp -implicitDefEqProofs (disch := omega) only [go_sem, ht]) <;> rfl)) (ht') ?_; rintro _ nx_3 - rfl hnx_3; simp -implicitDefEqProofs (disch := omega) only [go_sem, ht]))
    (refine end_treeM 2 ?_; simp -implicitDefEqProofs (disch := omega) only [go_sem, ht, hfl])
end
end Go.Proofs.Ytfjdfnlkobeehaa
end

section
set_option maxRecDepth 100000
set_option linter.unusedVariables false
set_option linter.unusedSimpArgs false
namespace Go.Proofs.Ytfjdfnlkobeehaa

theorem awake_ech : echT [[2, 4, 2], [1, 2, 3]] 3 = [[1, 2, 0], [0, 0, 1]] := by decide +kernel
theorem D_small {n : Nat} (h : n < 4294967296) : (D n).length ≤ 1 := by
  by_cases h0 : n = 0
  · subst h0; rw [D_zero]; simp
  · rw [D_one (by omega) h]; simp
theorem CZ_lm (zs : List Int) : ∀ p ∈ CZ zs, Lm p.2 := fun p hp => by
  obtain ⟨z, hz, rfl⟩ := List.mem_map.1 hp
  exact Lm_D _
theorem CZ_ok {zs : List Int} {k : Nat} (h : ∀ z ∈ zs, Z k z) (hk : k ≤ 1099511627776) : ∀ p ∈ CZ zs, Ok p.2 := fun p hp => by
  obtain ⟨z, hz, rfl⟩ := List.mem_map.1 hp
  exact (h z hz).ok hk
theorem lenW_CZ {zs : List Int} {k : Nat} (h : ∀ z ∈ zs, Z k z) : lenW (CZ zs) ≤ zs.length * (k + 1) := by
  induction zs with
  | nil => simp [CZ, lenW]
  | cons z zs ih =>
    have h1 := (h z (List.mem_cons_self ..)).len
    have h2 := ih fun x hx => h x (List.mem_cons_of_mem _ hx)
    have e : CZ (z :: zs) = toC z :: CZ zs := rfl
    rw [e]
    simp only [lenW, toC, List.length_cons, Nat.succ_mul]
    omega
theorem lenM_CZ {W : List (List Int)} {k cols : Nat} (h : ∀ z ∈ W, z.length ≤ cols ∧ ∀ x ∈ z, Z k x) : lenM (W.map CZ) ≤ W.length * (1 + cols * (k + 1)) := by
  unfold lenM
  induction W with
  | nil => simp
  | cons z W ih =>
    obtain ⟨h1, h2⟩ := h z (List.mem_cons_self ..)
    have h3 := ih fun x hx => h x (List.mem_cons_of_mem _ hx)
    have h4 := lenW_CZ h2
    have h5 : z.length * (k + 1) ≤ cols * (k + 1) := Nat.mul_le_mul_right _ h1
    simp only [List.map_cons, List.sum_cons, List.length_cons, Nat.succ_mul]
    omega
theorem Mx.C {W : List (List Int)} {k cols B : Nat} (h : ∀ z ∈ W, z.length ≤ cols ∧ ∀ x ∈ z, Z k x) (hB : W.length * (1 + cols * (k + 1)) ≤ B) (h2 : 2 * (B + 1) + 1 ≤ 1000000) : Mx (W.map CZ) B :=
  ⟨fun l hl p hp => by obtain ⟨z, hz, rfl⟩ := List.mem_map.1 hl; exact CZ_lm z p hp, Nat.le_trans (lenM_CZ h) hB, h2⟩
theorem awake_matrix : PT Try.prog 11 [] (isV (.val (.bool true))) := by
  have hz : ∀ (zs : List Int), (∀ z ∈ zs, 0 ≤ z ∧ z ≤ 4) → ∀ z ∈ zs, -9223372036854775808 ≤ z ∧ z ≤ 9223372036854775807 := fun zs h z hz => by have := h z hz; omega
  have hZ : ∀ (zs : List Int), (∀ z ∈ zs, 0 ≤ z ∧ z ≤ 4) → ∀ z ∈ zs, Z 1 z := fun zs h z hz => Z2 (by have := h z hz; omega)
  have a1 : ∀ z ∈ [2, 4, 2], (0 : Int) ≤ z ∧ z ≤ 4 := by decide
  have a2 : ∀ z ∈ [1, 2, 3], (0 : Int) ≤ z ∧ z ≤ 4 := by decide
  have a3 : ∀ z ∈ [1, 2, 0], (0 : Int) ≤ z ∧ z ≤ 4 := by decide
  have a4 : ∀ z ∈ [0, 0, 1], (0 : Int) ≤ z ∧ z ≤ 4 := by decide
  have r1 := row_calls (zs := [2, 4, 2]) (hz _ a1) (by simp)
  have r2 := row_calls (zs := [1, 2, 3]) (hz _ a2) (by simp)
  have r3 := row_calls (zs := [1, 2, 0]) (hz _ a3) (by simp)
  have r4 := row_calls (zs := [0, 0, 1]) (hz _ a4) (by simp)
  have hm : Mx ([[2, 4, 2], [1, 2, 3]].map CZ) 100 := .C (k := 1) (cols := 3) (fun z hz => by
    rcases List.mem_cons.1 hz with rfl | hz
    · exact ⟨by simp, hZ _ a1⟩
    · have : z = [1, 2, 3] := by simpa using hz
      subst this; exact ⟨by simp, hZ _ a2⟩) (by simp) (by omega)
  have he := mech_calls hm (cn := 3)
  have hv : ([[2, 4, 2], [1, 2, 3]].map CZ).map vals = [[2, 4, 2], [1, 2, 3]] := by simp [vals_CZ]
  have hw : wrongM ([[2, 4, 2], [1, 2, 3]].map CZ) 3 = false := decide_eq_false (by simp [CZ_len])
  have hlg : longZ [[1, 2, 0], [0, 0, 1]] = false := decide_eq_false (by
    rintro ⟨z, hzm, x, hx, hlt⟩
    have : x.natAbs < 4294967296 := by
      rcases List.mem_cons.1 hzm with rfl | hzm
      · have := a3 x hx; omega
      · have : z = [0, 0, 1] := by simpa using hzm
        subst this; have := a4 x hx; omega
    have := D_small this
    omega)
  have e : mEch ([[2, 4, 2], [1, 2, 3]].map CZ) 3 = ([[1, 2, 0], [0, 0, 1]], 0) := by
    unfold mEch
    rw [hw, if_neg (by simp), hv, show (3 : Int).toNat = 3 from rfl, awake_ech, hlg, if_neg (by simp)]
  rw [e] at he
  have hs := same_rows (m := [[1, 2, 0], [0, 0, 1]].map CZ) (m' := [[1, 2, 0], [0, 0, 1]].map CZ) (fun l hl => by
    rcases List.mem_cons.1 hl with rfl | hl
    · exact ⟨CZ_ok (hZ _ a3) (by omega), by simp [CZ_len]⟩
    · have : l = CZ [0, 0, 1] := by simpa using hl
      subst this; exact ⟨CZ_ok (hZ _ a4) (by omega), by simp [CZ_len]⟩) (fun l hl => by
    rcases List.mem_cons.1 hl with rfl | hl
    · exact CZ_ok (hZ _ a3) (by omega)
    · have : l = CZ [0, 0, 1] := by simpa using hl
      subst this; exact CZ_ok (hZ _ a4) (by omega)) (by simp)
  rw [decide_eq_true rfl] at hs
  have l1 := CZ_len [2, 4, 2]
  have l2 := CZ_len [1, 2, 3]
  have l3 := CZ_len [1, 2, 0]
  have l4 := CZ_len [0, 0, 1]
  simp only [List.map_cons, List.map_nil, vi_def, List.length_cons, List.length_nil, SM_def] at r1 r2 r3 r4 he hs l1 l2 l3 l4
  refine PCalls.enter (n := 23) (rs := [.tmp 0]) (tb := []) Try.func11 rfl rfl rfl (by kernel_rfl) (by kernel_rfl) (by simp) fun c hc ht => ?_
  simp -implicitDefEqProofs (disch := omega) only [go_sem, ht]
  (refine pCall_frz (fun _ => true) 1 (by simp -implicitDefEqProofs (disch := omega) only [go_sem, ht] <;> rfl) (by simp -implicitDefEqProofs (disch := omega) only [go_sem, ht]) (by simp -implicitDefEqProofs (disch := omega) only [go_sem, ht] <;> rfl) (by simp -implicitDefEqProofs (disch := omega) only [go_sem, ht]) (r1) ?_; rintro _ nx - rfl hnx; (try simp only [put_nx, withH_nx, begP_nx] at hnx); simp -implicitDefEqProofs (disch := omega) only [go_sem, ht])
  (refine pCall_frz (fun _ => true) 1 (by simp -implicitDefEqProofs (disch := omega) only [go_sem, ht] <;> rfl) (by simp -implicitDefEqProofs (disch := omega) only [go_sem, ht]) (by simp -implicitDefEqProofs (disch := omega) only [go_sem, ht] <;> rfl) (by simp -implicitDefEqProofs (disch := omega) only [go_sem, ht]) (r2) ?_; rintro _ nx - rfl hnx; (try simp only [put_nx, withH_nx, begP_nx] at hnx); simp -implicitDefEqProofs (disch := omega) only [go_sem, ht])
  (refine pCall_frz (fun _ => true) 1 (by simp -implicitDefEqProofs (disch := omega) only [go_sem, ht] <;> rfl) (by simp -implicitDefEqProofs (disch := omega) only [go_sem, ht]) (by simp -implicitDefEqProofs (disch := omega) only [go_sem, ht] <;> rfl) (by simp -implicitDefEqProofs (disch := omega) only [go_sem, ht]) (he) ?_; rintro _ nx - rfl hnx; (try simp only [put_nx, withH_nx, begP_nx] at hnx); simp -implicitDefEqProofs (disch := omega) only [go_sem, ht])
  (refine pCall_frz (fun _ => true) 1 (by simp -implicitDefEqProofs (disch := omega) only [go_sem, ht] <;> rfl) (by simp -implicitDefEqProofs (disch := omega) only [go_sem, ht]) (by simp -implicitDefEqProofs (disch := omega) only [go_sem, ht] <;> rfl) (by simp -implicitDefEqProofs (disch := omega) only [go_sem, ht]) (r3) ?_; rintro _ nx - rfl hnx; (try simp only [put_nx, withH_nx, begP_nx] at hnx); simp -implicitDefEqProofs (disch := omega) only [go_sem, ht])
  (refine pCall_frz (fun _ => true) 1 (by simp -implicitDefEqProofs (disch := omega) only [go_sem, ht] <;> rfl) (by simp -implicitDefEqProofs (disch := omega) only [go_sem, ht]) (by simp -implicitDefEqProofs (disch := omega) only [go_sem, ht] <;> rfl) (by simp -implicitDefEqProofs (disch := omega) only [go_sem, ht]) (r4) ?_; rintro _ nx - rfl hnx; (try simp only [put_nx, withH_nx, begP_nx] at hnx); simp -implicitDefEqProofs (disch := omega) only [go_sem, ht])
  (refine pCall_frz (fun _ => true) 1 (by simp -implicitDefEqProofs (disch := omega) only [go_sem, ht] <;> rfl) (by simp -implicitDefEqProofs (disch := omega) only [go_sem, ht]) (by simp -implicitDefEqProofs (disch := omega) only [go_sem, ht] <;> rfl) (by simp -implicitDefEqProofs (disch := omega) only [go_sem, ht]) (hs) ?_; rintro _ nx - rfl hnx; (try simp only [put_nx, withH_nx, begP_nx] at hnx); simp -implicitDefEqProofs (disch := omega) only [go_sem, ht])
  (refine end_treeW 0 ?_; simp -implicitDefEqProofs (disch := omega) only [go_sem, ht])
end Go.Proofs.Ytfjdfnlkobeehaa
end
