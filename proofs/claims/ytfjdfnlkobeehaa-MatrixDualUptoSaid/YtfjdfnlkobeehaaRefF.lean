/- The document's numbers: what is handed in, what is told, quotients and divisors. -/
import Derived.Test.YtfjdfnlkobeehaaRefD
import Derived.Test.YtfjdfnlkobeehaaWholeB
set_option maxRecDepth 100000
set_option linter.unusedVariables false
set_option linter.unusedSimpArgs false
namespace Go.Proofs.Ytfjdfnlkobeehaa.Ref

theorem lenZ {k : Nat} {z : Int} (h : Z k z) : (D z.natAbs).length ≤ 3 * k := by
  refine D_len_le.2 ?_
  rw [Nat.pow_mul]
  exact Nat.lt_of_lt_of_le h (Nat.pow_le_pow_left (by decide) _)
theorem okZ {k : Nat} {z : Int} (h : Z k z) (hk : k ≤ 1000000) : Ok (D z.natAbs) := ⟨Lm_D _, by have := lenZ h; omega⟩
theorem of_z {b : Bool} {xs : List Nat} (hx : Ytfjdfnlkobeehaa.Lm xs) (hl : xs.length ≤ 1000000) : PT Try.prog 103 [WX b xs] (isV (NZ (WV b xs))) := by
  have hf := from_calls hx hl
  rw [NZ_nat] at hf
  have ho : Ok (D ((Ytfjdfnlkobeehaa.V xs : Nat) : Int).natAbs) := nOk hx hl
  have hm := minus_z ho
  unfold WV
  cases b
  · rw [sg_f]
    rw [NZ_def] at hf ⊢
    refine PCalls.enter (n := 12) (rs := [.cell 2 103]) (tb := []) Try.func103 rfl rfl rfl (by kernel_rfl) (by kernel_rfl) (by simp) fun c hc ht => ?_
    simp -implicitDefEqProofs (disch := omega) only [go_sem, ht, eq_self]
    ((refine pCall_view (by simp -implicitDefEqProofs (disch := omega) only [go_sem, ht, eq_self] <;> rfl) (by simp -implicitDefEqProofs (disch := omega) only [go_sem, ht, eq_self]) (by first | (apply Or.inl; simp -implicitDefEqProofs (disch := omega) only [go_sem, ht, eq_self]; done) | (apply Or.inr; rintro r rfl; rfl)) (hf) ?_; rintro _ nx_1 - rfl hnx_1; (try simp only [put_nx, withH_nx, begP_nx] at hnx_1); simp -implicitDefEqProofs (disch := omega) only [go_sem, ht, eq_self]))
    (refine end_treeM 2 ?_; simp -implicitDefEqProofs (disch := omega) only [go_sem, ht, eq_self])
  · rw [sg_t]
    rw [NZ_def] at hf
    rw [NZ_def, NZ_def] at hm
    rw [NZ_def]
    refine PCalls.enter (n := 12) (rs := [.cell 2 103]) (tb := []) Try.func103 rfl rfl rfl (by kernel_rfl) (by kernel_rfl) (by simp) fun c hc ht => ?_
    simp -implicitDefEqProofs (disch := omega) only [go_sem, ht, eq_self]
    ((refine pCall_view (by simp -implicitDefEqProofs (disch := omega) only [go_sem, ht, eq_self] <;> rfl) (by simp -implicitDefEqProofs (disch := omega) only [go_sem, ht, eq_self]) (by first | (apply Or.inl; simp -implicitDefEqProofs (disch := omega) only [go_sem, ht, eq_self]; done) | (apply Or.inr; rintro r rfl; rfl)) (hf) ?_; rintro _ nx_2 - rfl hnx_2; (try simp only [put_nx, withH_nx, begP_nx] at hnx_2); simp -implicitDefEqProofs (disch := omega) only [go_sem, ht, eq_self]); (refine pCall_view (by simp -implicitDefEqProofs (disch := omega) only [go_sem, ht, eq_self] <;> rfl) (by simp -implicitDefEqProofs (disch := omega) only [go_sem, ht, eq_self]) (by first | (apply Or.inl; simp -implicitDefEqProofs (disch := omega) only [go_sem, ht, eq_self]; done) | (apply Or.inr; rintro r rfl; rfl)) (hm) ?_; rintro _ nx_3 - rfl hnx_3; (try simp only [put_nx, withH_nx, begP_nx] at hnx_3); simp -implicitDefEqProofs (disch := omega) only [go_sem, ht, eq_self]))
    (refine end_treeM 2 ?_; simp -implicitDefEqProofs (disch := omega) only [go_sem, ht, eq_self])
theorem told_z {k : Nat} {z : Int} (h : Z k z) (hk : k ≤ 1000000) : PT Try.prog 74 [NZ z] (isV (WC z)) := by
  have hl := limbs_calls (n := z.natAbs) (neg := decide (z < 0)) (okZ h hk) (by have := h.len; omega)
  rw [NP_def] at hl
  rw [NZ_def, WC_def]
  refine PCalls.enter (n := 8) (rs := [.cell 2 30]) (tb := [(1, [(0, []), (1, []), (2, []), (3, [0, 1]), (4, []), (5, [])])]) Try.func74 rfl rfl rfl (by kernel_rfl) (by kernel_rfl) (by simp) fun c hc ht => ?_
  simp -implicitDefEqProofs (disch := omega) only [go_sem, ht, eq_self]
  ((refine pCall_view (by simp -implicitDefEqProofs (disch := omega) only [go_sem, ht, eq_self] <;> rfl) (by simp -implicitDefEqProofs (disch := omega) only [go_sem, ht, eq_self]) (by first | (apply Or.inl; simp -implicitDefEqProofs (disch := omega) only [go_sem, ht, eq_self]; done) | (apply Or.inr; rintro r rfl; rfl)) (hl) ?_; rintro _ nx_4 - rfl hnx_4; (try simp only [put_nx, withH_nx, begP_nx] at hnx_4); simp -implicitDefEqProofs (disch := omega) only [go_sem, ht, eq_self]))
  (refine end_treeM 2 ?_; simp -implicitDefEqProofs (disch := omega) only [go_sem, ht, eq_self])
theorem long_z {k : Nat} {z : Int} (h : Z k z) (hk : k ≤ 1000000) : PT Try.prog 114 [NZ z] (isV (.val (.int .i64 (Ytfjdfnlkobeehaa.D z.natAbs).length))) := by
  have hl := limbs_calls (n := z.natAbs) (neg := decide (z < 0)) (okZ h hk) (by have := h.len; omega)
  have h1 := h.len
  have h2 := lenZ h
  rw [NP_def] at hl
  rw [NZ_def]
  by_cases h3 : (D z.natAbs).length < 3
  · refine PCalls.enter (n := 13) (rs := [.tmp 2]) (tb := []) Try.func114 rfl rfl rfl (by kernel_rfl) (by kernel_rfl) (by simp) fun c hc ht => ?_
    simp -implicitDefEqProofs (disch := omega) only [go_sem, ht, eq_self]
    ((refine pCall_view (by simp -implicitDefEqProofs (disch := omega) only [go_sem, ht, eq_self] <;> rfl) (by simp -implicitDefEqProofs (disch := omega) only [go_sem, ht, eq_self]) (by first | (apply Or.inl; simp -implicitDefEqProofs (disch := omega) only [go_sem, ht, eq_self]; done) | (apply Or.inr; rintro r rfl; rfl)) (hl) ?_; rintro _ nx_5 - rfl hnx_5; (try simp only [put_nx, withH_nx, begP_nx] at hnx_5); simp -implicitDefEqProofs (disch := omega) only [go_sem, ht, eq_self]))
    (refine end_treeW 0 ?_; simp -implicitDefEqProofs (disch := omega) only [go_sem, ht, eq_self])
  · refine PCalls.enter (n := 13) (rs := [.tmp 2]) (tb := []) Try.func114 rfl rfl rfl (by kernel_rfl) (by kernel_rfl) (by simp) fun c hc ht => ?_
    simp -implicitDefEqProofs (disch := omega) only [go_sem, ht, eq_self]
    ((refine pCall_view (by simp -implicitDefEqProofs (disch := omega) only [go_sem, ht, eq_self] <;> rfl) (by simp -implicitDefEqProofs (disch := omega) only [go_sem, ht, eq_self]) (by first | (apply Or.inl; simp -implicitDefEqProofs (disch := omega) only [go_sem, ht, eq_self]; done) | (apply Or.inr; rintro r rfl; rfl)) (hl) ?_; rintro _ nx_6 - rfl hnx_6; (try simp only [put_nx, withH_nx, begP_nx] at hnx_6); simp -implicitDefEqProofs (disch := omega) only [go_sem, ht, eq_self]))
    (refine end_treeW 0 ?_; simp -implicitDefEqProofs (disch := omega) only [go_sem, ht, eq_self])
theorem limbs_eq (n : Nat) : (bl n + 31) / 32 = (Ytfjdfnlkobeehaa.D n).length := by
  by_cases h : n = 0
  · subst h; rw [bl_zero, Ytfjdfnlkobeehaa.D_zero]; rfl
  · have h1 := bl_top h
    have h2 : bl ((Ytfjdfnlkobeehaa.D n).getD ((Ytfjdfnlkobeehaa.D n).length - 1) 0) ≤ 32 := bl_le.2 (Ytfjdfnlkobeehaa.Lm.get (Ytfjdfnlkobeehaa.Lm_D n) _)
    have h3 := bl_pos' (Ytfjdfnlkobeehaa.D_last n h)
    have h4 := Ytfjdfnlkobeehaa.D_len_pos h
    omega
theorem int_z {v : Int} (h0 : -9223372036854775808 ≤ v) (h1 : v ≤ 9223372036854775807) : PT Try.prog 105 [.val (.int .i64 v)] (isV (NZ v)) := by
  have hl : Ok (D v.natAbs) := okZ (k := 2) (show v.natAbs < 4294967296 ^ 2 by omega) (by omega)
  have hm := made_z (xs := D v.natAbs) (b := decide (v < 0)) hl
  rw [V_D, sg_self] at hm
  have hlen := hl.len
  rw [NZ_def] at hm ⊢
  rw [SI_def] at hm
  have hn : v.natAbs < 18446744073709551616 := by omega
  refine PCalls.enter (n := 25) (rs := [.cell 2 103]) (tb := []) Try.func105 rfl rfl rfl (by kernel_rfl) (by kernel_rfl) (by simp) fun c hc ht => ?_
  simp -implicitDefEqProofs (disch := omega) only [go_sem, ht, eq_self]
  refine LW.both (fun s => s.sl 0 = .val (.int .i64 v) ∧ s.sl 4 = .val (.int .u64 v.natAbs) ∧ s.sl 3 = .val (.slice none 0 0) ∧ s.sl 2 = .ptr 0 0 ∧ s.H 0 = some [.val (.bool false), .val (.slice none 0 0)] ∧ 0 < s.nx) (fun h => ?_) (fun h => ?_) ?_
  · simp -implicitDefEqProofs (disch := omega) only [go_sem, ht, eq_self]
    congr 2; omega
  · simp -implicitDefEqProofs (disch := omega) only [go_sem, ht, eq_self]
    congr 2; omega
  · rintro s ⟨h0', h4, h3, h2, hH, hnx⟩
    refine LW.loopW hc ht (by kernel_rfl) (fun t => t.sl 0 = .val (.int .i64 v) ∧ t.sl 2 = .ptr 0 0 ∧ t.H 0 = some [.val (.bool false), .val (.slice none 0 0)] ∧ 0 < t.nx ∧ ∃ (u : Nat) (zs : List Nat), u ≤ v.natAbs ∧ t.sl 4 = .val (.int .u64 u) ∧ D v.natAbs = zs ++ D u ∧
      ((zs = [] ∧ t.sl 3 = .val (.slice none 0 0)) ∨ ∃ (id cap : Nat) (rest : List Value), t.sl 3 = .ref id 0 zs.length cap 1 ∧ t.H id = some (zs.map I ++ rest.map .val) ∧ zs.length + rest.length = cap ∧ 0 < id ∧ id < t.nx))
      (fun t => match t.sl 4 with | .val (.int _ u) => u.toNat | _ => 0) ?_ ?_
    · exact ⟨h0', h2, hH, hnx, v.natAbs, [], Nat.le_refl _, h4, rfl, .inl ⟨rfl, h3⟩⟩
    · clear h0' h3 h4 h2 hH hnx
      rintro t ⟨h0', h2, hH, hnx, u, zs, hu, h4, hD, h3⟩
      by_cases hu0 : u = 0
      · subst hu0
        rw [D_zero, List.append_nil] at hD
        subst hD
        rcases h3 with ⟨hz, h3⟩ | ⟨id, cap, rest, h3, hHi, hcap, hid, hid'⟩
        · rw [hz] at hm ⊢
          simp -implicitDefEqProofs (disch := omega) only [go_sem, ht, h0', h2, h3, h4, hH, eq_self]
          ((refine pCall_view (by simp -implicitDefEqProofs (disch := omega) only [h0', h2, h3, h4, hH, go_sem, ht, eq_self] <;> rfl) (by simp -implicitDefEqProofs (disch := omega) only [h0', h2, h3, h4, hH, go_sem, ht, eq_self]) (by first | (apply Or.inl; simp -implicitDefEqProofs (disch := omega) only [h0', h2, h3, h4, hH, go_sem, ht, eq_self]; done) | (apply Or.inr; rintro r rfl; rfl)) (hm) ?_; rintro _ nx_7 - rfl hnx_7; (try simp only [put_nx, withH_nx, begP_nx] at hnx_7); simp -implicitDefEqProofs (disch := omega) only [h0', h2, h3, h4, hH, go_sem, ht, eq_self]))
          (refine end_treeM 2 ?_; simp -implicitDefEqProofs (disch := omega) only [go_sem, ht, h2, eq_self])
        · have hidn : id ≠ 0 := by omega
          have hTk : ∀ l : List PV, List.take (D v.natAbs).length ((D v.natAbs).map I ++ l) = (D v.natAbs).map I := fun l => List.take_left' (by simp)
          simp -implicitDefEqProofs (disch := omega) only [go_sem, ht, h0', h2, h3, h4, hH, eq_self]
          (refine pCall_frz (fun i => decide (i = id)) 1 (by simp -implicitDefEqProofs (disch := omega) only [dropH_at, decide_eq_true_eq, h0', h2, h3, h4, hH, hHi, hTk, if_pos, if_neg, Nat.le_add_right, go_sem, ht, eq_self] <;> rfl) (by simp -implicitDefEqProofs (disch := omega) only [dropH_at, decide_eq_true_eq, h0', h2, h3, h4, hH, hHi, hTk, if_pos, if_neg, Nat.le_add_right, go_sem, ht, eq_self]) (by simp -implicitDefEqProofs (disch := omega) only [dropH_at, decide_eq_true_eq, h0', h2, h3, h4, hH, hHi, hTk, if_pos, if_neg, Nat.le_add_right, go_sem, ht, eq_self] <;> rfl) (by simp -implicitDefEqProofs (disch := omega) only [dropH_at, decide_eq_true_eq, h0', h2, h3, h4, hH, hHi, hTk, if_pos, if_neg, Nat.le_add_right, go_sem, ht, eq_self]) (hm) ?_; rintro _ nx - rfl hnx; (try simp only [put_nx, withH_nx, begP_nx] at hnx); simp -implicitDefEqProofs (disch := omega) only [dropH_at, decide_eq_true_eq, h0', h2, h3, h4, hH, hHi, hTk, if_pos, if_neg, Nat.le_add_right, go_sem, ht, eq_self])
          (refine end_treeM 2 ?_; simp -implicitDefEqProofs (disch := omega) only [go_sem, ht, h2, dropH_at, decide_eq_true_eq, if_neg, eq_self])
      · rw [D_pos hu0] at hD
        rw [hD] at hlen
        simp only [List.length_append, List.length_cons] at hlen
        rcases h3 with ⟨hz, h3⟩ | ⟨id, cap, rest, h3, hHi, hcap, hid, hid'⟩
        · simp -implicitDefEqProofs (disch := omega) only [go_sem, ht, h0', h2, h3, h4, hH, eq_self]
          subst hz
          refine append_nil (e := 3) (b := 8) (m := 1) (z := .int .i64 0) (ys := [I (u % 10000)]) T23_elem rfl T3_size T3_bytes T3_zero (by simp -implicitDefEqProofs (disch := omega) only [go_sem, ht, srcP_ref, eq_self]) (by simp -implicitDefEqProofs (disch := omega) only [go_sem, ht, eq_self]) (by omega) (fun h0 => by omega) fun cap' rest' h1' _ => ?_
          simp -implicitDefEqProofs (disch := omega) only [go_sem, ht, h0', h2, h3, h4, hH, eq_self]
          exact ⟨⟨u / 10000, [u % 10000], by omega, rfl, hD, .inr ⟨t.nx + 1, cap', rest', rfl, upd_self _ _ _, by simpa using h1', by omega, by omega⟩⟩, by omega⟩
        · simp -implicitDefEqProofs (disch := omega) only [go_sem, ht, h0', h2, h3, h4, hH, eq_self]
          (refine append_own (by simp -implicitDefEqProofs (disch := omega) only [srcP_ref, srcP_sl, srcP_nil, Option.isSome_some, hHi, go_sem, ht, eq_self] <;> rfl) (by simp -implicitDefEqProofs (disch := omega) only [srcP_ref, srcP_sl, srcP_nil, Option.isSome_some, hHi, go_sem, ht, eq_self] <;> rfl) (by simp -implicitDefEqProofs (disch := omega) only [srcP_ref, srcP_sl, srcP_nil, Option.isSome_some, hHi, go_sem, ht, eq_self] <;> rfl) (by simp -implicitDefEqProofs (disch := omega) only [srcP_ref, srcP_sl, srcP_nil, Option.isSome_some, hHi, go_sem, ht, eq_self] <;> rfl) (by simp -implicitDefEqProofs (disch := omega) only [srcP_ref, srcP_sl, srcP_nil, Option.isSome_some, hHi, go_sem, ht, eq_self] <;> rfl) (by simp -implicitDefEqProofs (disch := omega) only [srcP_ref, srcP_sl, srcP_nil, Option.isSome_some, hHi, go_sem, ht, eq_self] <;> rfl) (by simp -implicitDefEqProofs (disch := omega) only [srcP_ref, srcP_sl, srcP_nil, Option.isSome_some, hHi, go_sem, ht, eq_self] <;> rfl) (by simp -implicitDefEqProofs (disch := omega) only [srcP_ref, srcP_sl, srcP_nil, Option.isSome_some, hHi, go_sem, ht, eq_self] <;> rfl) (by simp <;> omega) (by first | assumption | (simp <;> omega)) (by first | rfl | simp) (by first | omega | (simp <;> omega)) ?_; intro id1 cap1 rest1 H1 nx1 hH1 hcap1 hid1 hnx1 hfr1 hfs1; simp only [put_nx, withH_nx, put_H, withH_H] at hid1 hnx1 hfr1 hfs1; (try simp only [app_U, ← List.map_append] at hH1))
          have hH0 : H1 0 = some [.val (.bool false), .val (.slice none 0 0)] := by rw [hfr1 _ (by omega) (by omega)]; simp -implicitDefEqProofs (disch := omega) only [go_sem, ht, hH, eq_self]
          simp -implicitDefEqProofs (disch := omega) only [go_sem, ht, h0', h2, h3, h4, hH0, eq_self]
          exact ⟨⟨by omega, u / 10000, zs ++ [u % 10000], by omega, rfl, by rw [hD, List.append_assoc]; rfl, .inr ⟨id1, cap1, rest1, by simp, by simpa [I] using hH1, by simpa using hcap1, by omega, by omega⟩⟩, by omega⟩
end Go.Proofs.Ytfjdfnlkobeehaa.Ref

namespace Go.Proofs.Ytfjdfnlkobeehaa.Ref

theorem gcd_z {k : Nat} {a b : Int} (ha : Z k a) (hb : Z k b) (hk : k ≤ 100000) : PT Try.prog 120 [NZ a, NZ b] (isV (NZ (Int.gcd a b : Nat))) := by
  have aa := abs_z (okZ ha (by omega))
  have ab := abs_z (okZ hb (by omega))
  unfold Int.gcd
  have hna : a.natAbs < 4294967296 ^ k := ha
  have hnb : b.natAbs < 4294967296 ^ k := hb
  rw [NZ_def, NZ_def] at aa ab
  rw [NZ_def, NZ_def]
  generalize a.natAbs = m0 at *
  generalize b.natAbs = n0 at *
  generalize decide (a < 0) = fa at *
  generalize decide (b < 0) = fb at *
  have df : ∀ n : Nat, decide ((n : Int) < 0) = false := fun n => decide_eq_false (by omega)
  have na : ∀ n : Nat, ((n : Int)).natAbs = n := fun n => rfl
  rw [df, na] at aa ab
  rw [NZ_def, df, na]
  refine PCalls.enter (n := 25) (rs := [.cell 4 103]) (tb := []) Try.func120 rfl rfl rfl (by kernel_rfl) (by kernel_rfl) (by simp) fun c hc ht => ?_
  simp -implicitDefEqProofs (disch := omega) only [go_sem, ht, eq_self]
  ((refine pCall_view (by simp -implicitDefEqProofs (disch := omega) only [go_sem, ht, eq_self] <;> rfl) (by simp -implicitDefEqProofs (disch := omega) only [go_sem, ht, eq_self]) (by first | (apply Or.inl; simp -implicitDefEqProofs (disch := omega) only [go_sem, ht, eq_self]; done) | (apply Or.inr; rintro r rfl; rfl)) (aa) ?_; rintro _ nx_8 - rfl hnx_8; (try simp only [put_nx, withH_nx, begP_nx] at hnx_8); simp -implicitDefEqProofs (disch := omega) only [go_sem, ht, eq_self]); (refine pCall_view (by simp -implicitDefEqProofs (disch := omega) only [go_sem, ht, eq_self] <;> rfl) (by simp -implicitDefEqProofs (disch := omega) only [go_sem, ht, eq_self]) (by first | (apply Or.inl; simp -implicitDefEqProofs (disch := omega) only [go_sem, ht, eq_self]; done) | (apply Or.inr; rintro r rfl; rfl)) (ab) ?_; rintro _ nx_9 - rfl hnx_9; (try simp only [put_nx, withH_nx, begP_nx] at hnx_9); simp -implicitDefEqProofs (disch := omega) only [go_sem, ht, eq_self]))
  refine LW.loopW hc ht (by kernel_rfl) (fun t => t.sl 4 = .ptr 2 0 ∧ t.H 2 = some [.val (.bool false), .val (.slice none 0 0)] ∧ 2 < t.nx ∧ ∃ r5 r6 m n : Nat, t.sl 5 = .ptr r5 0 ∧ t.sl 6 = .ptr r6 0 ∧ 2 < r5 ∧ 2 < r6 ∧ r5 ≠ r6 ∧ r5 < t.nx ∧ r6 < t.nx ∧
      t.H r5 = some [.val (.bool false), .sl (D m).length ((D m).map I)] ∧ t.H r6 = some [.val (.bool false), .sl (D n).length ((D n).map I)] ∧ Hide (m < 4294967296 ^ k) ∧ Hide (n < 4294967296 ^ k) ∧ Nat.gcd m n = Nat.gcd m0 n0)
      (fun t => match t.sl 6 with | .ptr r _ => (match t.H r with | some [_, .sl _ cs] => V (cs.map unU) | _ => 0) | _ => 0) ?_ ?_
  · simp -implicitDefEqProofs (disch := omega) only [go_sem, ht, eq_self]
    exact ⟨_, _, m0, n0, rfl, rfl, by omega, by omega, by omega, by omega, by omega, by simp -implicitDefEqProofs (disch := omega) only [go_sem, ht, eq_self], by simp -implicitDefEqProofs (disch := omega) only [go_sem, ht, eq_self], Hide.mk hna, Hide.mk hnb, rfl⟩
  · rintro t ⟨h4, hH2, hnx, r5, r6, m, n, h5, h6, hr5, hr6, hr56, hn5, hn6, hH5, hH6, hm, hn, hg⟩
    have om : Ok (D m) := okZ (z := (m : Int)) (k := k) hm.out (by omega)
    have on : Ok (D n) := okZ (z := (n : Int)) (k := k) hn.out (by omega)
    have ln := lenZ (z := (n : Int)) (k := k) hn.out
    rw [na] at ln
    have hs := sign_z (z := (n : Int)) on
    rw [NZ_def, df, na] at hs
    by_cases hn0 : n = 0
    · subst hn0
      rw [Nat.gcd_zero_right] at hg
      subst hg
      rw [show ((0 : Nat) : Int) = 0 from rfl, cZ_eq rfl] at hs
      simp -implicitDefEqProofs (disch := omega) only [go_sem, ht, h4, h5, h6, hH2, hH5, hH6, eq_self]
      ((refine pCall_view (by simp -implicitDefEqProofs (disch := omega) only [h4, h5, h6, hH2, hH5, hH6, go_sem, ht, eq_self] <;> rfl) (by simp -implicitDefEqProofs (disch := omega) only [h4, h5, h6, hH2, hH5, hH6, go_sem, ht, eq_self]) (by first | (apply Or.inl; simp -implicitDefEqProofs (disch := omega) only [h4, h5, h6, hH2, hH5, hH6, go_sem, ht, eq_self]; done) | (apply Or.inr; rintro r rfl; rfl)) (hs) ?_; rintro _ nx_10 - rfl hnx_10; (try simp only [put_nx, withH_nx, begP_nx] at hnx_10); simp -implicitDefEqProofs (disch := omega) only [h4, h5, h6, hH2, hH5, hH6, go_sem, ht, eq_self]))
      (refine end_treeM 2 ?_; simp -implicitDefEqProofs (disch := omega) only [go_sem, ht, h4, h5, h6, hH2, hH5, hH6, eq_self])
    · rw [cZ_gt (by omega)] at hs
      have hd := divided_calls (fa := false) (fb := false) om on hn0 (by omega)
      rw [NP_def, NP_def, NP_def, NP_def] at hd
      have hlt : m % n < n := Nat.mod_lt _ (Nat.pos_of_ne_zero hn0)
      have hg2 : Nat.gcd n (m % n) = Nat.gcd m0 n0 := by rw [← hg, Nat.gcd_comm m n, Nat.gcd_rec n m, Nat.gcd_comm]
      have hr : Hide (m % n < 4294967296 ^ k) := Hide.mk (Nat.lt_trans hlt hn.out)
      generalize m / n = q at *
      generalize m % n = r at *
      simp -implicitDefEqProofs (disch := omega) only [go_sem, ht, h4, h5, h6, hH2, hH5, hH6, eq_self]
      ((refine pCall_view (by simp -implicitDefEqProofs (disch := omega) only [h4, h5, h6, hH2, hH5, hH6, go_sem, ht, eq_self] <;> rfl) (by simp -implicitDefEqProofs (disch := omega) only [h4, h5, h6, hH2, hH5, hH6, go_sem, ht, eq_self]) (by first | (apply Or.inl; simp -implicitDefEqProofs (disch := omega) only [h4, h5, h6, hH2, hH5, hH6, go_sem, ht, eq_self]; done) | (apply Or.inr; rintro r rfl; rfl)) (hs) ?_; rintro _ nx_11 - rfl hnx_11; (try simp only [put_nx, withH_nx, begP_nx] at hnx_11); simp -implicitDefEqProofs (disch := omega) only [h4, h5, h6, hH2, hH5, hH6, go_sem, ht, eq_self]); (refine pCall_view (by simp -implicitDefEqProofs (disch := omega) only [h4, h5, h6, hH2, hH5, hH6, go_sem, ht, eq_self] <;> rfl) (by simp -implicitDefEqProofs (disch := omega) only [h4, h5, h6, hH2, hH5, hH6, go_sem, ht, eq_self]) (by first | (apply Or.inl; simp -implicitDefEqProofs (disch := omega) only [h4, h5, h6, hH2, hH5, hH6, go_sem, ht, eq_self]; done) | (apply Or.inr; rintro r rfl; rfl)) (hd) ?_; rintro _ nx_12 - rfl hnx_12; (try simp only [put_nx, withH_nx, begP_nx] at hnx_12); simp -implicitDefEqProofs (disch := omega) only [h4, h5, h6, hH2, hH5, hH6, go_sem, ht, eq_self]))
      refine ⟨⟨r5, r6, n, r, rfl, rfl, hr5, hr6, hr56, by omega, by omega, ?_, ?_, hn, hr, hg2⟩, ?_⟩
      · simp -implicitDefEqProofs (disch := omega) only [go_sem, ht, eq_self]
      · simp -implicitDefEqProofs (disch := omega) only [go_sem, ht, eq_self]
      · rw [unU_I, unU_I, V_D, V_D]; exact hlt
theorem ndiv_law {a b : Int} (hb : b ≠ 0) :
    (a < 0 → a.natAbs % b.natAbs ≠ 0 → a / b = (if (decide (a < 0) != decide (b < 0)) then -(((a.natAbs / b.natAbs : Nat) : Int) + 1) else ((a.natAbs / b.natAbs : Nat) : Int) + 1) ∧ a % b = b.natAbs - (a.natAbs % b.natAbs : Nat)) ∧
    (¬ (a < 0 ∧ a.natAbs % b.natAbs ≠ 0) → a / b = (if (decide (a < 0) != decide (b < 0)) then -((a.natAbs / b.natAbs : Nat) : Int) else ((a.natAbs / b.natAbs : Nat) : Int)) ∧ a % b = (a.natAbs % b.natAbs : Nat)) := by
  have e : ((a.natAbs % b.natAbs : Nat) : Int) + b.natAbs * (a.natAbs / b.natAbs : Nat) = a.natAbs := by exact_mod_cast Nat.mod_add_div a.natAbs b.natAbs
  have hr : a.natAbs % b.natAbs < b.natAbs := Nat.mod_lt _ (by omega)
  have ha := @sg_self a
  have hbb := @sg_self b
  generalize a.natAbs / b.natAbs = q at *
  generalize a.natAbs % b.natAbs = r at *
  have key : ∀ (q' r' : Int), r' + b * q' = a → 0 ≤ r' → r' < b.natAbs → a / b = q' ∧ a % b = r' := fun q' r' h1 h2 h3 => ediv_of h1 h2 h3
  by_cases h1 : a < 0 <;> by_cases h2 : b < 0
  · have ea : a = -(a.natAbs : Int) := by omega
    have eb : b = -(b.natAbs : Int) := by omega
    simp only [h1, h2, decide_true, bne_self_eq_false, Bool.false_eq_true, if_false]
    generalize a.natAbs = m at *
    generalize b.natAbs = n at *
    refine ⟨fun _ h => key _ _ ?_ (by omega) (by omega), fun h => key _ _ ?_ (by omega) (by omega)⟩
    · rw [ea, eb, Int.mul_add, Int.neg_mul]; omega
    · have h : r = 0 := by simpa using h
      rw [ea, eb, Int.neg_mul]; omega
  · have ea : a = -(a.natAbs : Int) := by omega
    have eb : b = (b.natAbs : Int) := by omega
    simp only [h1, h2, decide_true, decide_false, Bool.true_bne, Bool.not_false, if_true]
    generalize a.natAbs = m at *
    generalize b.natAbs = n at *
    refine ⟨fun _ h => key _ _ ?_ (by omega) (by omega), fun h => key _ _ ?_ (by omega) (by omega)⟩
    · rw [ea, eb, Int.mul_neg, Int.mul_add]; omega
    · have h : r = 0 := by simpa using h
      rw [ea, eb, Int.mul_neg]; omega
  · have ea : a = (a.natAbs : Int) := by omega
    have eb : b = -(b.natAbs : Int) := by omega
    simp only [h1, h2, decide_true, decide_false, Bool.false_bne, if_true, false_and, not_false_eq_true]
    generalize a.natAbs = m at *
    generalize b.natAbs = n at *
    refine ⟨fun h => absurd h (by simp), fun h => key _ _ ?_ (by omega) (by omega)⟩
    rw [ea, eb, Int.neg_mul_neg]; omega
  · have ea : a = (a.natAbs : Int) := by omega
    have eb : b = (b.natAbs : Int) := by omega
    simp only [h1, h2, decide_false, bne_self_eq_false, Bool.false_eq_true, if_false, false_and, not_false_eq_true]
    generalize a.natAbs = m at *
    generalize b.natAbs = n at *
    refine ⟨fun h => absurd h (by simp), fun h => key _ _ ?_ (by omega) (by omega)⟩
    rw [ea, eb]; omega
attribute [go_sem] NZ_def
-- left out: rafterref00.DivMod
end Go.Proofs.Ytfjdfnlkobeehaa.Ref
