/- The document's numbers: what was handed in, what is told, quotients and divisors. -/
import Derived.Test.YtfbmdbgjfnkmiaaRefD
import Derived.Test.YtfbmdbgjfnkmiaaWholeB
set_option maxRecDepth 100000
set_option linter.unusedVariables false
set_option linter.unusedSimpArgs false
namespace Go.Proofs.Ytfbmdbgjfnkmiaa.Ref

theorem lenZ {k : Nat} {z : Int} (h : Z k z) : (D z.natAbs).length ≤ 3 * k := by
  refine D_len_le.2 ?_
  rw [Nat.pow_mul]
  exact Nat.lt_of_lt_of_le h (Nat.pow_le_pow_left (by decide) _)
theorem okZ {k : Nat} {z : Int} (h : Z k z) (hk : k ≤ 1000000) : Ok (D z.natAbs) := ⟨Lm_D _, by have := lenZ h; omega⟩
theorem of_z {b : Bool} {xs : List Nat} (hx : Ytfbmdbgjfnkmiaa.Lm xs) (hl : xs.length ≤ 1000000) : PT Try.prog 59 [WX b xs] (isV (NZ (WV b xs))) := by
  have hf := from_calls hx hl
  rw [NZ_nat] at hf
  have ho : Ok (D ((Ytfbmdbgjfnkmiaa.V xs : Nat) : Int).natAbs) := nOk hx hl
  have hm := minus_z ho
  unfold WV
  cases b
  · rw [sg_f]
    rw [NZ_def] at hf ⊢
    refine PCalls.enter (n := 12) (rs := [.cell 2 67]) (tb := []) Try.func59 rfl rfl rfl (by kernel_rfl) (by kernel_rfl) (by simp) fun c hc ht => ?_
    simp -implicitDefEqProofs (disch := omega) only [go_sem, ht, eq_self]
    ((refine pCall_view (by simp -implicitDefEqProofs (disch := omega) only [go_sem, ht, eq_self] <;> rfl) (by simp -implicitDefEqProofs (disch := omega) only [go_sem, ht, eq_self]) (by first | (apply Or.inl; simp -implicitDefEqProofs (disch := omega) only [go_sem, ht, eq_self]; done) | (apply Or.inr; rintro r rfl; rfl)) (hf) ?_; rintro _ nx_1 - rfl hnx_1; (try simp only [put_nx, withH_nx, begP_nx] at hnx_1); simp -implicitDefEqProofs (disch := omega) only [go_sem, ht, eq_self]))
    (refine end_treeM 2 ?_; simp -implicitDefEqProofs (disch := omega) only [go_sem, ht, eq_self])
  · rw [sg_t]
    rw [NZ_def] at hf
    rw [NZ_def, NZ_def] at hm
    rw [NZ_def]
    refine PCalls.enter (n := 12) (rs := [.cell 2 67]) (tb := []) Try.func59 rfl rfl rfl (by kernel_rfl) (by kernel_rfl) (by simp) fun c hc ht => ?_
    simp -implicitDefEqProofs (disch := omega) only [go_sem, ht, eq_self]
    ((refine pCall_view (by simp -implicitDefEqProofs (disch := omega) only [go_sem, ht, eq_self] <;> rfl) (by simp -implicitDefEqProofs (disch := omega) only [go_sem, ht, eq_self]) (by first | (apply Or.inl; simp -implicitDefEqProofs (disch := omega) only [go_sem, ht, eq_self]; done) | (apply Or.inr; rintro r rfl; rfl)) (hf) ?_; rintro _ nx_2 - rfl hnx_2; (try simp only [put_nx, withH_nx, begP_nx] at hnx_2); simp -implicitDefEqProofs (disch := omega) only [go_sem, ht, eq_self]); (refine pCall_view (by simp -implicitDefEqProofs (disch := omega) only [go_sem, ht, eq_self] <;> rfl) (by simp -implicitDefEqProofs (disch := omega) only [go_sem, ht, eq_self]) (by first | (apply Or.inl; simp -implicitDefEqProofs (disch := omega) only [go_sem, ht, eq_self]; done) | (apply Or.inr; rintro r rfl; rfl)) (hm) ?_; rintro _ nx_3 - rfl hnx_3; (try simp only [put_nx, withH_nx, begP_nx] at hnx_3); simp -implicitDefEqProofs (disch := omega) only [go_sem, ht, eq_self]))
    (refine end_treeM 2 ?_; simp -implicitDefEqProofs (disch := omega) only [go_sem, ht, eq_self])
theorem told_z {k : Nat} {z : Int} (h : Z k z) (hk : k ≤ 1000000) : PT Try.prog 60 [NZ z] (isV (WC z)) := by
  have hl := limbs_calls (n := z.natAbs) (neg := decide (z < 0)) (okZ h hk) (by have := h.len; omega)
  rw [NP_def] at hl
  rw [NZ_def, WC_def]
  refine PCalls.enter (n := 8) (rs := [.cell 2 28]) (tb := [(1, [(0, []), (1, []), (2, []), (3, [0, 1]), (4, []), (5, [])])]) Try.func60 rfl rfl rfl (by kernel_rfl) (by kernel_rfl) (by simp) fun c hc ht => ?_
  simp -implicitDefEqProofs (disch := omega) only [go_sem, ht, eq_self]
  ((refine pCall_view (by simp -implicitDefEqProofs (disch := omega) only [go_sem, ht, eq_self] <;> rfl) (by simp -implicitDefEqProofs (disch := omega) only [go_sem, ht, eq_self]) (by first | (apply Or.inl; simp -implicitDefEqProofs (disch := omega) only [go_sem, ht, eq_self]; done) | (apply Or.inr; rintro r rfl; rfl)) (hl) ?_; rintro _ nx_4 - rfl hnx_4; (try simp only [put_nx, withH_nx, begP_nx] at hnx_4); simp -implicitDefEqProofs (disch := omega) only [go_sem, ht, eq_self]))
  (refine end_treeM 2 ?_; simp -implicitDefEqProofs (disch := omega) only [go_sem, ht, eq_self])
theorem long_z {k : Nat} {z : Int} (h : Z k z) (hk : k ≤ 1000000) : PT Try.prog 75 [NZ z] (isV (.val (.int .i64 (Ytfbmdbgjfnkmiaa.D z.natAbs).length))) := by
  have hl := limbs_calls (n := z.natAbs) (neg := decide (z < 0)) (okZ h hk) (by have := h.len; omega)
  have h1 := h.len
  have h2 := lenZ h
  rw [NP_def] at hl
  rw [NZ_def]
  by_cases h3 : (D z.natAbs).length < 3
  · refine PCalls.enter (n := 13) (rs := [.tmp 2]) (tb := []) Try.func75 rfl rfl rfl (by kernel_rfl) (by kernel_rfl) (by simp) fun c hc ht => ?_
    simp -implicitDefEqProofs (disch := omega) only [go_sem, ht, eq_self]
    ((refine pCall_view (by simp -implicitDefEqProofs (disch := omega) only [go_sem, ht, eq_self] <;> rfl) (by simp -implicitDefEqProofs (disch := omega) only [go_sem, ht, eq_self]) (by first | (apply Or.inl; simp -implicitDefEqProofs (disch := omega) only [go_sem, ht, eq_self]; done) | (apply Or.inr; rintro r rfl; rfl)) (hl) ?_; rintro _ nx_5 - rfl hnx_5; (try simp only [put_nx, withH_nx, begP_nx] at hnx_5); simp -implicitDefEqProofs (disch := omega) only [go_sem, ht, eq_self]))
    (refine end_treeW 0 ?_; simp -implicitDefEqProofs (disch := omega) only [go_sem, ht, eq_self])
  · refine PCalls.enter (n := 13) (rs := [.tmp 2]) (tb := []) Try.func75 rfl rfl rfl (by kernel_rfl) (by kernel_rfl) (by simp) fun c hc ht => ?_
    simp -implicitDefEqProofs (disch := omega) only [go_sem, ht, eq_self]
    ((refine pCall_view (by simp -implicitDefEqProofs (disch := omega) only [go_sem, ht, eq_self] <;> rfl) (by simp -implicitDefEqProofs (disch := omega) only [go_sem, ht, eq_self]) (by first | (apply Or.inl; simp -implicitDefEqProofs (disch := omega) only [go_sem, ht, eq_self]; done) | (apply Or.inr; rintro r rfl; rfl)) (hl) ?_; rintro _ nx_6 - rfl hnx_6; (try simp only [put_nx, withH_nx, begP_nx] at hnx_6); simp -implicitDefEqProofs (disch := omega) only [go_sem, ht, eq_self]))
    (refine end_treeW 0 ?_; simp -implicitDefEqProofs (disch := omega) only [go_sem, ht, eq_self])
theorem limbs_eq (n : Nat) : (bl n + 31) / 32 = (Ytfbmdbgjfnkmiaa.D n).length := by
  by_cases h : n = 0
  · subst h; rw [bl_zero, Ytfbmdbgjfnkmiaa.D_zero]; rfl
  · have h1 := bl_top h
    have h2 : bl ((Ytfbmdbgjfnkmiaa.D n).getD ((Ytfbmdbgjfnkmiaa.D n).length - 1) 0) ≤ 32 := bl_le.2 (Ytfbmdbgjfnkmiaa.Lm.get (Ytfbmdbgjfnkmiaa.Lm_D n) _)
    have h3 := bl_pos' (Ytfbmdbgjfnkmiaa.D_last n h)
    have h4 := Ytfbmdbgjfnkmiaa.D_len_pos h
    omega
theorem int_z {v : Int} (h0 : -9223372036854775808 ≤ v) (h1 : v ≤ 9223372036854775807) : PT Try.prog 72 [.val (.int .i64 v)] (isV (NZ v)) := by
  have hl : Ok (D v.natAbs) := okZ (k := 2) (show v.natAbs < 4294967296 ^ 2 by omega) (by omega)
  have hm := made_z (xs := D v.natAbs) (b := decide (v < 0)) hl
  rw [V_D, sg_self] at hm
  have hlen := hl.len
  rw [NZ_def] at hm ⊢
  rw [SI_def] at hm
  have hn : v.natAbs < 18446744073709551616 := by omega
  refine PCalls.enter (n := 25) (rs := [.cell 2 67]) (tb := []) Try.func72 rfl rfl rfl (by kernel_rfl) (by kernel_rfl) (by simp) fun c hc ht => ?_
  simp -implicitDefEqProofs (disch := omega) only [go_sem, ht, eq_self]
  refine LW.both (fun s => s.sl 0 = .val (.int .i64 v) ∧ s.sl 4 = .val (.int .u64 v.natAbs) ∧ s.sl 3 = .val (.slice none 0 0) ∧ s.sl 2 = .ptr 0 0 ∧ s.H 0 = some [.val (.bool false), .val (.slice none 0 0)] ∧ 0 < s.nx) (fun h => ?_) (fun h => ?_) ?_
  · simp -implicitDefEqProofs (disch := omega) only [go_sem, ht, eq_self]
    congr 2; omega
  · simp -implicitDefEqProofs (disch := omega) only [go_sem, ht, eq_self]
    congr 2; omega
  · rintro s ⟨h0', h4, h3, h2, hH, hnx⟩
    refine LW.loopW hc ht (by kernel_rfl) (fun t => t.sl 0 = .val (.int .i64 v) ∧ t.sl 2 = .ptr 0 0 ∧ t.H 0 = some [.val (.bool false), .val (.slice none 0 0)] ∧ 0 < t.nx ∧ ∃ (u : Nat) (zs : List Nat), u ≤ v.natAbs ∧ t.sl 4 = .val (.int .u64 u) ∧ D v.natAbs = zs ++ D u ∧
      ((zs = [] ∧ t.sl 3 = .val (.slice none 0 0)) ∨ ∃ (id cap : Nat) (rest : List Value), t.sl 3 = .ref id 0 zs.length cap 1 ∧ t.H id = some (zs.map I ++ rest.map .val) ∧ zs.length + rest.length = cap ∧ 0 < id ∧ id < t.nx))
      (fun t => match t.sl 4 with | .val (.int _ u) => u.toNat | _ => 0) ?_ ?_
    · exact ⟨h0', h2, hH, hnx, v.natAbs, [], Nat.le_refl _, h4, rfl, .inl ⟨rfl, h3⟩⟩
    · clear h0' h3 h4 h2 hH hnx
      rintro t ⟨h0', h2, hH, hnx, u, zs, hu, h4, hD, h3⟩
      by_cases hu0 : u = 0
      · subst hu0
        rw [D_zero, List.append_nil] at hD
        subst hD
        rcases h3 with ⟨hz, h3⟩ | ⟨id, cap, rest, h3, hHi, hcap, hid, hid'⟩
        · rw [hz] at hm ⊢
          simp -implicitDefEqProofs (disch := omega) only [go_sem, ht, h0', h2, h3, h4, hH, eq_self]
          ((refine pCall_view (by simp -implicitDefEqProofs (disch := omega) only [h0', h2, h3, h4, hH, go_sem, ht, eq_self] <;> rfl) (by simp -implicitDefEqProofs (disch := omega) only [h0', h2, h3, h4, hH, go_sem, ht, eq_self]) (by first | (apply Or.inl; simp -implicitDefEqProofs (disch := omega) only [h0', h2, h3, h4, hH, go_sem, ht, eq_self]; done) | (apply Or.inr; rintro r rfl; rfl)) (hm) ?_; rintro _ nx_7 - rfl hnx_7; (try simp only [put_nx, withH_nx, begP_nx] at hnx_7); simp -implicitDefEqProofs (disch := omega) only [h0', h2, h3, h4, hH, go_sem, ht, eq_self]))
          (refine end_treeM 2 ?_; simp -implicitDefEqProofs (disch := omega) only [go_sem, ht, h2, eq_self])
        · have hidn : id ≠ 0 := by omega
          have hTk : ∀ l : List PV, List.take (D v.natAbs).length ((D v.natAbs).map I ++ l) = (D v.natAbs).map I := fun l => List.take_left' (by simp)
          simp -implicitDefEqProofs (disch := omega) only [go_sem, ht, h0', h2, h3, h4, hH, eq_self]
          (refine pCall_frz (fun i => decide (i = id)) 1 (by simp -implicitDefEqProofs (disch := omega) only [dropH_at, decide_eq_true_eq, h0', h2, h3, h4, hH, hHi, hTk, if_pos, if_neg, Nat.le_add_right, go_sem, ht, eq_self] <;> rfl) (by simp -implicitDefEqProofs (disch := omega) only [dropH_at, decide_eq_true_eq, h0', h2, h3, h4, hH, hHi, hTk, if_pos, if_neg, Nat.le_add_right, go_sem, ht, eq_self]) (by simp -implicitDefEqProofs (disch := omega) only [dropH_at, decide_eq_true_eq, h0', h2, h3, h4, hH, hHi, hTk, if_pos, if_neg, Nat.le_add_right, go_sem, ht, eq_self] <;> rfl) (by simp -implicitDefEqProofs (disch := omega) only [dropH_at, decide_eq_true_eq, h0', h2, h3, h4, hH, hHi, hTk, if_pos, if_neg, Nat.le_add_right, go_sem, ht, eq_self]) (hm) ?_; rintro _ nx - rfl hnx; (try simp only [put_nx, withH_nx, begP_nx] at hnx); simp -implicitDefEqProofs (disch := omega) only [dropH_at, decide_eq_true_eq, h0', h2, h3, h4, hH, hHi, hTk, if_pos, if_neg, Nat.le_add_right, go_sem, ht, eq_self])
          (refine end_treeM 2 ?_; simp -implicitDefEqProofs (disch := omega) only [go_sem, ht, h2, dropH_at, decide_eq_true_eq, if_neg, eq_self])
      · rw [D_pos hu0] at hD
        rw [hD] at hlen
        simp only [List.length_append, List.length_cons] at hlen
        rcases h3 with ⟨hz, h3⟩ | ⟨id, cap, rest, h3, hHi, hcap, hid, hid'⟩
        · simp -implicitDefEqProofs (disch := omega) only [go_sem, ht, h0', h2, h3, h4, hH, eq_self]
          subst hz
          refine append_nil (e := 3) (b := 8) (m := 1) (z := .int .i64 0) (ys := [I (u % 10000)]) T65_elem rfl T3_size T3_bytes T3_zero (by simp -implicitDefEqProofs (disch := omega) only [go_sem, ht, srcP_ref, eq_self]) (by simp -implicitDefEqProofs (disch := omega) only [go_sem, ht, eq_self]) (by omega) (fun h0 => by omega) fun cap' rest' h1' _ => ?_
          simp -implicitDefEqProofs (disch := omega) only [go_sem, ht, h0', h2, h3, h4, hH, eq_self]
          exact ⟨⟨u / 10000, [u % 10000], by omega, rfl, hD, .inr ⟨t.nx + 1, cap', rest', rfl, upd_self _ _ _, by simpa using h1', by omega, by omega⟩⟩, by omega⟩
        · simp -implicitDefEqProofs (disch := omega) only [go_sem, ht, h0', h2, h3, h4, hH, eq_self]
          (refine append_own (by simp -implicitDefEqProofs (disch := omega) only [srcP_ref, srcP_sl, srcP_nil, Option.isSome_some, hHi, go_sem, ht, eq_self] <;> rfl) (by simp -implicitDefEqProofs (disch := omega) only [srcP_ref, srcP_sl, srcP_nil, Option.isSome_some, hHi, go_sem, ht, eq_self] <;> rfl) (by simp -implicitDefEqProofs (disch := omega) only [srcP_ref, srcP_sl, srcP_nil, Option.isSome_some, hHi, go_sem, ht, eq_self] <;> rfl) (by simp -implicitDefEqProofs (disch := omega) only [srcP_ref, srcP_sl, srcP_nil, Option.isSome_some, hHi, go_sem, ht, eq_self] <;> rfl) (by simp -implicitDefEqProofs (disch := omega) only [srcP_ref, srcP_sl, srcP_nil, Option.isSome_some, hHi, go_sem, ht, eq_self] <;> rfl) (by simp -implicitDefEqProofs (disch := omega) only [srcP_ref, srcP_sl, srcP_nil, Option.isSome_some, hHi, go_sem, ht, eq_self] <;> rfl) (by simp -implicitDefEqProofs (disch := omega) only [srcP_ref, srcP_sl, srcP_nil, Option.isSome_some, hHi, go_sem, ht, eq_self] <;> rfl) (by simp -implicitDefEqProofs (disch := omega) only [srcP_ref, srcP_sl, srcP_nil, Option.isSome_some, hHi, go_sem, ht, eq_self] <;> rfl) (by simp <;> omega) (by first | assumption | (simp <;> omega)) (by first | rfl | simp) (by first | omega | (simp <;> omega)) ?_; intro id1 cap1 rest1 H1 nx1 hH1 hcap1 hid1 hnx1 hfr1 hfs1; simp only [put_nx, withH_nx, put_H, withH_H] at hid1 hnx1 hfr1 hfs1; (try simp only [app_U, ← List.map_append] at hH1))
          have hH0 : H1 0 = some [.val (.bool false), .val (.slice none 0 0)] := by rw [hfr1 _ (by omega) (by omega)]; simp -implicitDefEqProofs (disch := omega) only [go_sem, ht, hH, eq_self]
          simp -implicitDefEqProofs (disch := omega) only [go_sem, ht, h0', h2, h3, h4, hH0, eq_self]
          exact ⟨⟨by omega, u / 10000, zs ++ [u % 10000], by omega, rfl, by rw [hD, List.append_assoc]; rfl, .inr ⟨id1, cap1, rest1, by simp, by simpa [I] using hH1, by simpa using hcap1, by omega, by omega⟩⟩, by omega⟩
end Go.Proofs.Ytfbmdbgjfnkmiaa.Ref
