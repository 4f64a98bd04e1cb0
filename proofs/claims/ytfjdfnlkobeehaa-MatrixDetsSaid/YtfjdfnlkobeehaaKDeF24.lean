/- Part 24 of the way to the statement: the walk and what it needs. -/
import Derived.Test.YtfjdfnlkobeehaaKDeF19
import Derived.Test.YtfjdfnlkobeehaaKDeF22
import Derived.Test.YtfjdfnlkobeehaaKDeF23
section
set_option maxRecDepth 100000
set_option linter.unusedVariables false
set_option linter.unusedSimpArgs false
namespace Go.Proofs.Ytfjdfnlkobeehaa


structure Ok (xs : List Nat) : Prop where
  lm : Lm xs
  len : xs.length ≤ 1099511627776

theorem Ok.short {xs : List Nat} (h : Ok xs) : Ok (D (V xs)) := ⟨Lm_D _, Nat.le_trans (D_len_V h.lm) h.len⟩
theorem Ok.D {n k : Nat} (h : n < 4294967296 ^ k) (hk : k ≤ 1099511627776) : Ok (D n) := ⟨Lm_D _, Nat.le_trans (D_len_le.2 h) hk⟩

theorem short_calls {xs : List Nat} (h : Ok xs) : PT Try.prog 88 [SU xs] (isV (SU (D (V xs)))) := by
  have hlen := h.len

  refine PCalls.enter (n := 21) (rs := [.tmp 2]) (tb := []) Try.func88 rfl rfl rfl (by kernel_rfl) (by kernel_rfl) (by simp) fun c hc ht => ?_
  simp -implicitDefEqProofs (disch := omega) only [go_sem, ht]
  refine LW.loopW hc ht (by kernel_rfl) (fun s => s.sl 0 = .sl xs.length (xs.map U) ∧ ∃ k : Nat, k ≤ xs.length ∧ s.sl 3 = .val (.int .i64 k) ∧ ∀ i, k ≤ i → i < xs.length → xs.getD i 0 = 0)
    (fun s => match s.sl 3 with | .val (.int _ k) => k.toNat | _ => 0) ?_ ?_
  · simp -implicitDefEqProofs (disch := omega) only [go_sem, ht]
    exact ⟨_, Nat.le_refl _, rfl, fun i h h' => by omega⟩
  · rintro s ⟨h0, k, hk, h3, hz⟩
    by_cases hk0 : k = 0
    · subst hk0
      have e := D_take h.lm hk hz (.inl rfl)
      simp -implicitDefEqProofs (disch := omega) only [go_sem, ht, h0, h3]
      refine end_treeW 0 ?_
      simp -implicitDefEqProofs (disch := omega) only [go_sem, ht]
      rw [← e]; simp [SU]
    · simp -implicitDefEqProofs (disch := omega) only [go_sem, ht, h0, h3]
      have e1 : ((k : Int) - 1).toNat = k - 1 := by omega
      refine ⟨fun h => ⟨⟨k - 1, by omega, rfl, fun i h1 h2 => ?_⟩, by omega⟩, fun hn => ?_⟩
      · by_cases hi : i = k - 1
        · subst hi; omega
        · exact hz i (by omega) h2
      · have e := D_take h.lm hk hz (.inr (by omega))
        refine end_treeW 0 ?_
        simp -implicitDefEqProofs (disch := omega) only [go_sem, ht]
        rw [← e]; simp [SU, Nat.min_eq_left hk]

theorem same_calls {xs ys : List Nat} (hx : Ok xs) (hy : Ok ys) : PT Try.prog 75 [SU xs, SU ys] (isV (.val (.bool (decide (xs = ys))))) := by
  have := hx.len
  have := hy.len

  refine PCalls.enter (n := 26) (rs := [.tmp 4]) (tb := [(6, [(0, []), (1, []), (2, []), (3, []), (4, []), (5, []), (6, []), (7, []), (8, [])])]) Try.func75 rfl rfl rfl (by kernel_rfl) (by kernel_rfl) (by simp) fun c hc ht => ?_
  simp -implicitDefEqProofs (disch := omega) only [go_sem, ht]
  refine ⟨fun hne => ?_, fun he => ?_⟩
  · have : xs ≠ ys := fun e => hne (by rw [e])
    (refine end_treeW 0 ?_; simp -implicitDefEqProofs (disch := omega) only [go_sem, ht])
    simp [this]
  have he : xs.length = ys.length := by omega
  refine LW.loopW hc ht (by kernel_rfl) (fun s => s.sl 0 = .sl xs.length (xs.map U) ∧ s.sl 1 = .sl ys.length (ys.map U) ∧ ∃ k : Nat, k ≤ xs.length ∧ s.sl 5 = .val (.int .i64 k) ∧ ∀ i, i < k → xs.getD i 0 = ys.getD i 0)
    (fun s => match s.sl 5 with | .val (.int _ k) => xs.length - k.toNat | _ => 0) ?_ ?_
  · simp -implicitDefEqProofs (disch := omega) only [go_sem, ht]
    exact ⟨0, Nat.zero_le _, rfl, fun i h => by omega⟩
  · rintro s ⟨h0, h1, k, hk, h5, hs⟩
    by_cases hkl : k = xs.length
    · have := list_ext0 he (fun i hi => hs i (by omega))
      simp -implicitDefEqProofs (disch := omega) only [go_sem, ht, h0, h1, h5]
      (refine end_treeW 0 ?_; simp -implicitDefEqProofs (disch := omega) only [go_sem, ht])
      simp [this]
    · simp -implicitDefEqProofs (disch := omega) only [go_sem, ht, h0, h1, h5]
      refine ⟨fun hn => ?_, fun hn => ⟨⟨k + 1, by omega, rfl, fun i hi => ?_⟩, by omega⟩⟩
      · have : xs ≠ ys := fun e => hn (by rw [e])
        (refine end_treeW 0 ?_; simp -implicitDefEqProofs (disch := omega) only [go_sem, ht])
        simp [this]
      · by_cases hi' : i = k
        · subst hi'; omega
        · exact hs i (by omega)

theorem cmp_calls {xs ys : List Nat} (hx : Ok xs) (hy : Ok ys) : PT Try.prog 89 [SU xs, SU ys] (isV (.val (.int .i64 (cmpI (V xs) (V ys))))) := by
  have hx' := hx.short
  have hy' := hy.short
  have := hx'.len
  have := hy'.len
  have hdx := V_D (V xs)
  have hdy := V_D (V ys)
  refine PCalls.enter (n := 45) (rs := [.tmp 4]) (tb := [(9, [(0, []), (1, []), (2, []), (3, []), (4, []), (5, []), (6, []), (7, []), (8, [])]), (11, [(0, []), (1, []), (2, []), (3, []), (4, []), (5, []), (6, []), (7, []), (8, [])])]) Try.func89 rfl rfl rfl (by kernel_rfl) (by kernel_rfl) (by simp) fun c hc ht => ?_
  simp -implicitDefEqProofs (disch := omega) only [go_sem, ht]
  (refine pCall_vw (by refine ⟨⟨?_, ?_⟩, ?_, ?_⟩; rotate_left 2; (first | (right; rintro r rfl; rfl) | left); all_goals ((try simp -implicitDefEqProofs (disch := omega) only [go_sem, ht]) <;> rfl)) (short_calls hx) ?_; rintro _ nx - rfl hnx; simp -implicitDefEqProofs (disch := omega) only [go_sem, ht])
  (refine pCall_vw (by refine ⟨⟨?_, ?_⟩, ?_, ?_⟩; rotate_left 2; (first | (right; rintro r rfl; rfl) | left); all_goals ((try simp -implicitDefEqProofs (disch := omega) only [go_sem, ht]) <;> rfl)) (short_calls hy) ?_; rintro _ nx - rfl hnx; simp -implicitDefEqProofs (disch := omega) only [go_sem, ht])
  generalize V xs = a at *
  generalize V ys = b at *
  refine ⟨fun hne => ⟨fun hlt => ?_, fun hge => ?_⟩, fun he => ?_⟩
  · have := cmpI_lt (D_lt_of_len (a := a) (b := b) (by omega))
    (refine end_treeW 0 ?_; simp -implicitDefEqProofs (disch := omega) only [go_sem, ht])
    rw [this]
  · have := cmpI_gt (D_lt_of_len (a := b) (b := a) (by omega))
    (refine end_treeW 0 ?_; simp -implicitDefEqProofs (disch := omega) only [go_sem, ht])
    rw [this]
  have he : (D a).length = (D b).length := by omega
  refine LW.loopW hc ht (by kernel_rfl) (fun s => s.sl 0 = .sl (D a).length ((D a).map U) ∧ s.sl 1 = .sl (D b).length ((D b).map U) ∧ ∃ k : Nat, k ≤ (D a).length ∧ s.sl 5 = .val (.int .i64 ((k : Int) - 1)) ∧ V ((D a).drop k) = V ((D b).drop k))
    (fun s => match s.sl 5 with | .val (.int _ k) => (k + 1).toNat | _ => 0) ?_ ?_
  · simp -implicitDefEqProofs (disch := omega) only [go_sem, ht]
    exact ⟨(D a).length, Nat.le_refl _, rfl, by rw [List.drop_length, he, List.drop_length]⟩
  · rintro s ⟨h0, h1, k, hk, h5, hs⟩
    by_cases hk0 : k = 0
    · subst hk0
      have hab : a = b := by simpa [hdx, hdy] using hs
      simp -implicitDefEqProofs (disch := omega) only [go_sem, ht, h0, h1, h5]
      have := cmpI_eq hab
      (refine end_treeW 0 ?_; simp -implicitDefEqProofs (disch := omega) only [go_sem, ht])
      rw [this]
    · have e1 : ((k : Int) - 1).toNat = k - 1 := by omega
      have e2 : k - 1 + 1 = k := by omega
      simp -implicitDefEqProofs (disch := omega) only [go_sem, ht, h0, h1, h5, e1]
      refine ⟨fun hlt => ?_, fun hge => ⟨fun hgt => ?_, fun hle => ⟨⟨k - 1, by omega, by congr 2, ?_⟩, by omega⟩⟩⟩
      · have := cmpI_lt (show a < b by
          rw [← hdx, ← hdy]
          exact V_lt_of_top hx'.lm he (i := k - 1) (by omega) (by rw [e2]; exact hs) (by omega))
        (refine end_treeW 0 ?_; simp -implicitDefEqProofs (disch := omega) only [go_sem, ht])
        rw [this]
      · have := cmpI_gt (show b < a by
          rw [← hdx, ← hdy]
          exact V_lt_of_top hy'.lm he.symm (i := k - 1) (by omega) (by rw [e2]; exact hs.symm) (by omega))
        (refine end_treeW 0 ?_; simp -implicitDefEqProofs (disch := omega) only [go_sem, ht])
        rw [this]
      · rw [V_drop _ (by omega), V_drop (D b) (by omega), e2, hs]
        omega
end Go.Proofs.Ytfjdfnlkobeehaa

namespace Go.Proofs.Ytfjdfnlkobeehaa


abbrev PL (f : FuncId) (args : List PV) (xs : List Nat) : Prop := PO1 Try.prog f args (fun p => p) (xs.map U)

theorem PLtree {f : FuncId} {args : List PV} {xs : List Nat} (h : PL f args xs) : PT Try.prog f args (isV (SU xs)) := by
  have := PO1.tree mk_id (flatL_U xs) h
  simpa [SU_def] using this

theorem trim_calls {xs : List Nat} (h : Ok xs) : PL 77 [SU xs] (D (V xs)) := by
  have := h.short.len
  refine PCalls.enter (n := 6) (rs := [.tmp 2]) (tb := []) Try.func77 rfl rfl rfl (by kernel_rfl) (by kernel_rfl) (by simp) fun c hc ht => ?_
  simp -implicitDefEqProofs (disch := omega) only [go_sem, ht]
  (refine pCall_vw (by refine ⟨⟨?_, ?_⟩, ?_, ?_⟩; rotate_left 2; (first | (right; rintro r rfl; rfl) | left); all_goals ((try simp -implicitDefEqProofs (disch := omega) only [go_sem, ht]) <;> rfl)) (short_calls h) ?_; rintro _ nx - rfl hnx; simp -implicitDefEqProofs (disch := omega) only [go_sem, ht])
  refine append_nil (e := 93) (b := 4) (m := (D (V xs)).length) (z := .int .u32 0) (ys := (D (V xs)).map U) T28_elem rfl T93_size T93_bytes T93_zero (by simp -implicitDefEqProofs (disch := omega) only [go_sem, ht, srcP_sl]) (by simp -implicitDefEqProofs (disch := omega) only [go_sem, ht]) (by omega) (fun h0 => ?_) fun cap' rest' h1 h2 => ?_
  · have := D_len_zero.1 h0
    rw [this, D_zero]
    simp -implicitDefEqProofs (disch := omega) only [go_sem, ht]
    exact end_own_nil mk_id (by simp -implicitDefEqProofs (disch := omega) only [go_sem, ht])
  · simp -implicitDefEqProofs (disch := omega) only [go_sem, ht]
    exact end_own1 (mk := fun p => p) (by simp -implicitDefEqProofs (disch := omega) only [go_sem, ht] <;> rfl) (by simp -implicitDefEqProofs (disch := omega) only [go_sem, ht] <;> rfl) (by simp <;> omega) (by simp <;> omega)

theorem add_calls {xs ys : List Nat} (hx : Ok xs) (hy : Ok ys) : PL 50 [SU xs, SU ys] (D (V xs + V ys)) := by
  have hx' := hx.short
  have hy' := hy.short
  have hdx := V_D (V xs)
  have hdy := V_D (V ys)
  have hcx : D (V (D (V xs))) = D (V xs) := by rw [V_D]
  have hcy : D (V (D (V ys))) = D (V ys) := by rw [V_D]
  have := hx.short.len
  have := hy.short.len
  refine PCalls.enter (n := 62) (rs := [.tmp 4]) (tb := []) Try.func50 rfl rfl rfl (by kernel_rfl) (by kernel_rfl) (by simp) fun c hc ht => ?_
  simp -implicitDefEqProofs (disch := omega) only [go_sem, ht]
  (refine pCall_vw (by refine ⟨⟨?_, ?_⟩, ?_, ?_⟩; rotate_left 2; (first | (right; rintro r rfl; rfl) | left); all_goals ((try simp -implicitDefEqProofs (disch := omega) only [go_sem, ht]) <;> rfl)) (short_calls hx) ?_; rintro _ nx - rfl hnx; simp -implicitDefEqProofs (disch := omega) only [go_sem, ht])
  (refine pCall_vw (by refine ⟨⟨?_, ?_⟩, ?_, ?_⟩; rotate_left 2; (first | (right; rintro r rfl; rfl) | left); all_goals ((try simp -implicitDefEqProofs (disch := omega) only [go_sem, ht]) <;> rfl)) (short_calls hy) ?_; rintro _ nx - rfl hnx; simp -implicitDefEqProofs (disch := omega) only [go_sem, ht])
  generalize D (V xs) = ds at *
  generalize D (V ys) = es at *
  refine LW.both (fun s => ∃ us vs id rest, Ok us ∧ Ok vs ∧ D (V us) = us ∧ V us + V vs = V xs + V ys ∧ vs.length ≤ us.length ∧ s.sl 0 = .sl us.length (us.map U) ∧ s.sl 1 = .sl vs.length (vs.map U) ∧ s.sl 24 = .val (.int .i64 us.length) ∧ s.sl 25 = .val (.int .i64 0) ∧
    s.sl 6 = .val (.int .u64 0) ∧ s.sl 5 = .ref id 0 0 (us.length + 1) 1 ∧ s.H id = some (List.map .val rest) ∧ rest.length = us.length + 1 ∧ id < s.nx) (fun h => ?_) (fun h => ?_) ?_
  · refine ⟨es, ds, nx, List.replicate (es.length + 1) (.int .u32 0), hy', hx', hcy, by omega, by omega, ?_⟩
    simp -implicitDefEqProofs (disch := omega) only [go_sem, ht, replU_val]
    simp
  · refine ⟨ds, es, nx, List.replicate (ds.length + 1) (.int .u32 0), hx', hy', hcx, by omega, by omega, ?_⟩
    simp -implicitDefEqProofs (disch := omega) only [go_sem, ht, replU_val]
    simp
  · clear hx hy hx' hy' hcx hcy hdx hdy
    rintro s ⟨us, vs, id, rest, hu, hv, hcu, hsum, hle, h0, h1, h24, h25, h6, h5, hH, hr, hid⟩
    have := hu.len
    have := hv.len
    refine LW.loopW hc ht (by kernel_rfl) (fun s => s.sl 0 = .sl us.length (us.map U) ∧ s.sl 1 = .sl vs.length (vs.map U) ∧ s.sl 24 = .val (.int .i64 us.length) ∧ ∃ k : Nat, k ≤ us.length ∧ s.sl 25 = .val (.int .i64 k) ∧
      ∃ carry : Nat, carry ≤ 1 ∧ s.sl 6 = .val (.int .u64 carry) ∧ ∃ zs id cap rest, zs.length = k ∧ s.sl 5 = .ref id 0 k cap 1 ∧ s.H id = some (zs.map U ++ List.map PV.val rest) ∧ k + rest.length = cap ∧ id < s.nx ∧
      Lm zs ∧ V zs + 4294967296 ^ k * carry = V (us.take k) + V (vs.take k))
      (fun s => match s.sl 25 with | .val (.int _ k) => us.length - k.toNat | _ => 0) ?_ ?_
    · exact ⟨h0, h1, h24, 0, Nat.zero_le _, h25, 0, by omega, h6, [], id, _, rest, rfl, h5, by simpa using hH, by omega, hid, Lm_nil, by simp [V]⟩
    · clear h0 h1 h24 h25 h6 h5 hH hr hid
      rintro s ⟨h0, h1, h24, k, hk, h25, carry, hcar, h6, zs, id, cap, rest, hzl, h5, hH, hcap, hid, hzm, heq⟩
      by_cases hkl : k = us.length
      · rw [hkl, List.take_length, List.take_of_length_le hle, hsum] at heq
        simp -implicitDefEqProofs (disch := omega) only [go_sem, ht, h0, h1, h24, h25, h6, h5, hH]
        refine ⟨fun hpos => ?_, fun hz => ?_⟩
        · (refine append_ownX (by refine ⟨?_, ?_, ?_, ?_, ?_, ?_, ?_, ?_⟩ <;> (simp -implicitDefEqProofs (disch := omega) only [srcP_ref, srcP_sl, srcP_nil, Option.isSome_some, hH, go_sem, ht] <;> rfl)) (by simp <;> omega) (by first | assumption | (simp <;> omega)) (by first | rfl | simp) (by first | omega | (simp <;> omega)) ?_; intro id1 cap1 rest1 H1 nx1 hH1 hcap1 hid1 hnx1 hfr1 hfs1; simp only [put_nx, withH_nx, put_H, withH_H] at hid1 hnx1 hfr1 hfs1; (try simp only [app_U, ← List.map_append] at hH1))
          simp -implicitDefEqProofs (disch := omega) only [go_sem, ht, h5]
          have hlm : Lm (zs ++ [carry]) := Lm_append.2 ⟨hzm, Lm_cons.2 ⟨by omega, Lm_nil⟩⟩
          have e : D (V xs + V ys) = zs ++ [carry] := by
            have : V (zs ++ [carry]) = V xs + V ys := by rw [V_append, hzl, hkl]; simpa [V] using heq
            rw [← this]
            exact D_V hlm (.inr (by simp; omega))
          rw [e]
          exact end_own1  (by simp -implicitDefEqProofs (disch := omega) only [hH1, go_sem, ht] <;> rfl) (by simp -implicitDefEqProofs (disch := omega) only [hH1, go_sem, ht] <;> rfl) (by simp <;> omega) (by simp <;> omega)
        · have hc0 : carry = 0 := by omega
          subst hc0
          have e : D (V xs + V ys) = zs := by
            rw [← heq, Nat.mul_zero, Nat.add_zero]
            refine D_of_len hzm ?_
            rw [hzl, hkl]
            have := D_len_mono (show V us ≤ V zs by omega)
            rwa [hcu] at this
          rw [e]
          exact end_own1  (by simp -implicitDefEqProofs (disch := omega) only [hH, go_sem, ht] <;> rfl) (by simp -implicitDefEqProofs (disch := omega) only [hH, go_sem, ht] <;> rfl) (by simp <;> omega) (by simp <;> omega)
      · have hk' : k < us.length := by omega
        have hug := hu.lm.get k
        have hvg := hv.lm.get k
        have hV := V_take_succ us hk'
        have key : ∀ y t : Nat, y < 4294967296 → V (vs.take (k + 1)) = V (vs.take k) + 4294967296 ^ k * y → t = carry + us.getD k 0 + y →
            V (zs ++ [t % 4294967296]) + 4294967296 ^ (k + 1) * (t / 4294967296) = V (us.take (k + 1)) + V (vs.take (k + 1)) := by
          intro y t hy hV2 ht
          rw [V_append, hzl, hV, hV2, Nat.pow_succ, Nat.mul_assoc, Nat.add_assoc, ← Nat.mul_add]
          have : V [t % 4294967296] + 4294967296 * (t / 4294967296) = carry + us.getD k 0 + y := by simp only [V]; omega
          rw [this, Nat.mul_add, Nat.mul_add]; omega
        by_cases hkv : k < vs.length
        · have hV2 := V_take_succ vs hkv
          simp -implicitDefEqProofs (disch := omega) only [go_sem, ht, h0, h1, h24, h25, h6, h5, hH]
          (refine append_ownX (by refine ⟨?_, ?_, ?_, ?_, ?_, ?_, ?_, ?_⟩ <;> (simp -implicitDefEqProofs (disch := omega) only [srcP_ref, srcP_sl, srcP_nil, Option.isSome_some, hH, go_sem, ht] <;> rfl)) (by simp <;> omega) (by first | assumption | (simp <;> omega)) (by first | rfl | simp) (by first | omega | (simp <;> omega)) ?_; intro id1 cap1 rest1 H1 nx1 hH1 hcap1 hid1 hnx1 hfr1 hfs1; simp only [put_nx, withH_nx, put_H, withH_H] at hid1 hnx1 hfr1 hfs1; (try simp only [app_U, ← List.map_append] at hH1))
          simp -implicitDefEqProofs (disch := omega) only [go_sem, ht, h0, h1, h24, h25, h6, h5, hH]
          exact ⟨⟨k + 1, by omega, rfl, _, by omega, rfl, zs ++ [(carry + us.getD k 0 + vs.getD k 0) % 4294967296], id1, cap1, rest1, by simp [hzl], rfl, hH1, hcap1, by omega, Lm_append.2 ⟨hzm, fun x hx => by simp at hx; omega⟩, key _ _ hvg hV2 rfl⟩, by omega⟩
        · have hV2 : V (vs.take (k + 1)) = V (vs.take k) + 4294967296 ^ k * 0 := by
            rw [List.take_of_length_le (by omega), List.take_of_length_le (by omega)]; simp
          simp -implicitDefEqProofs (disch := omega) only [go_sem, ht, h0, h1, h24, h25, h6, h5, hH]
          (refine append_ownX (by refine ⟨?_, ?_, ?_, ?_, ?_, ?_, ?_, ?_⟩ <;> (simp -implicitDefEqProofs (disch := omega) only [srcP_ref, srcP_sl, srcP_nil, Option.isSome_some, hH, go_sem, ht] <;> rfl)) (by simp <;> omega) (by first | assumption | (simp <;> omega)) (by first | rfl | simp) (by first | omega | (simp <;> omega)) ?_; intro id1 cap1 rest1 H1 nx1 hH1 hcap1 hid1 hnx1 hfr1 hfs1; simp only [put_nx, withH_nx, put_H, withH_H] at hid1 hnx1 hfr1 hfs1; (try simp only [app_U, ← List.map_append] at hH1))
          simp -implicitDefEqProofs (disch := omega) only [go_sem, ht, h0, h1, h24, h25, h6, h5, hH]
          exact ⟨⟨k + 1, by omega, rfl, _, by omega, rfl, zs ++ [(carry + us.getD k 0) % 4294967296], id1, cap1, rest1, by simp [hzl], rfl, hH1, hcap1, by omega, Lm_append.2 ⟨hzm, fun x hx => by simp at hx; omega⟩, key 0 _ (by omega) hV2 rfl⟩, by omega⟩
end Go.Proofs.Ytfjdfnlkobeehaa

namespace Go.Proofs.Ytfjdfnlkobeehaa

theorem short_own {H : Nat → Option (List PV)} {nx id n cap : Nat} {xs : List Nat} {rest : List Value} (hlm : Lm xs) (hn : xs.length = n) (hlen : n ≤ 2199023255552) (hcap : n ≤ cap) (hH : H id = some (xs.map U ++ rest.map .val)) :
    PCalls Try.prog 88 [.ref id 0 n cap 1] H nx (memQ (.ref id 0 (D (V xs)).length cap 1) H nx) := by
  refine PCalls.enter (n := 21) (rs := [.tmp 2]) (tb := []) Try.func88 rfl rfl rfl (by kernel_rfl) (by kernel_rfl) (by simp) fun c hc ht => ?_
  simp -implicitDefEqProofs (disch := omega) only [go_sem, ht]
  refine LW.loopW hc ht (by kernel_rfl) (fun s => s.H = H ∧ s.nx = nx ∧ s.sl 0 = .ref id 0 n cap 1 ∧ ∃ k : Nat, k ≤ n ∧ s.sl 3 = .val (.int .i64 k) ∧ ∀ i, k ≤ i → i < xs.length → xs.getD i 0 = 0)
    (fun s => match s.sl 3 with | .val (.int _ k) => k.toNat | _ => 0) ?_ ?_
  · simp -implicitDefEqProofs (disch := omega) only [go_sem, ht]
    exact ⟨_, Nat.le_refl _, rfl, fun i h h' => by omega⟩
  · rintro s ⟨eH, en, h0, k, hk, h3, hz⟩
    by_cases hk0 : k = 0
    · subst hk0
      have e := D_take hlm (Nat.zero_le _) hz (.inl rfl)
      simp -implicitDefEqProofs (disch := omega) only [go_sem, ht, h0, h3]
      (refine end_plain (by simp -implicitDefEqProofs (disch := omega) only [eH, en, go_sem, ht] <;> rfl) ?_; simp only [tupP_1, tupP_2]; refine ⟨?_, ?_, ?_⟩ <;> try simp -implicitDefEqProofs (disch := omega) only [eH, en, go_sem, ht])
      rw [← e]; simp
    · simp -implicitDefEqProofs (disch := omega) only [go_sem, ht, h0, h3, eH, en, hH]
      refine ⟨fun h => ⟨⟨k - 1, by omega, rfl, fun i h1 h2 => ?_⟩, by omega⟩, fun hn' => ?_⟩
      · by_cases hi : i = k - 1
        · subst hi; omega
        · exact hz i (by omega) h2
      · have e := D_take hlm (by omega : k ≤ xs.length) hz (.inr (by omega))
        (refine end_plain (by simp -implicitDefEqProofs (disch := omega) only [eH, en, go_sem, ht] <;> rfl) ?_; simp only [tupP_1, tupP_2]; refine ⟨?_, ?_, ?_⟩ <;> try simp -implicitDefEqProofs (disch := omega) only [eH, en, go_sem, ht])
        rw [← e]; simp; omega

theorem sub_calls {xs ys : List Nat} (hx : Ok xs) (hy : Ok ys) : PO1 Try.prog 51 [SU xs, SU ys] (fun p => .tup [p, .val (.bool (decide (V ys ≤ V xs)))]) ((D (V xs - V ys)).map U) := by
  have hx' := hx.short
  have hy' := hy.short
  have hdx := V_D (V xs)
  have hdy := V_D (V ys)
  have := hx.short.len
  have := hy.short.len
  refine PCalls.enter (n := 54) (rs := [.tmp 4, .tmp 5]) (tb := []) Try.func51 rfl rfl rfl (by kernel_rfl) (by kernel_rfl) (by simp) fun c hc ht => ?_
  simp -implicitDefEqProofs (disch := omega) only [go_sem, ht]
  (refine pCall_vw (by refine ⟨⟨?_, ?_⟩, ?_, ?_⟩; rotate_left 2; (first | (right; rintro r rfl; rfl) | left); all_goals ((try simp -implicitDefEqProofs (disch := omega) only [go_sem, ht]) <;> rfl)) (short_calls hx) ?_; rintro _ nx - rfl hnx; simp -implicitDefEqProofs (disch := omega) only [go_sem, ht])
  (refine pCall_vw (by refine ⟨⟨?_, ?_⟩, ?_, ?_⟩; rotate_left 2; (first | (right; rintro r rfl; rfl) | left); all_goals ((try simp -implicitDefEqProofs (disch := omega) only [go_sem, ht]) <;> rfl)) (short_calls hy) ?_; rintro _ nx - rfl hnx; simp -implicitDefEqProofs (disch := omega) only [go_sem, ht])
  (refine pCall_vw (by refine ⟨⟨?_, ?_⟩, ?_, ?_⟩; rotate_left 2; (first | (right; rintro r rfl; rfl) | left); all_goals ((try simp -implicitDefEqProofs (disch := omega) only [go_sem, ht]) <;> rfl)) (cmp_calls hx' hy') ?_; rintro _ nx - rfl hnx; simp -implicitDefEqProofs (disch := omega) only [go_sem, ht])
  rw [hdx, hdy]
  refine ⟨fun hlt => ?_, fun hge => ?_⟩
  · have hlt : V xs < V ys := by
      unfold cmpI at hlt; split at hlt
      · assumption
      · split at hlt <;> simp at hlt
    have e1 : decide (V ys ≤ V xs) = false := by simp; omega
    have e2 : D (V xs - V ys) = [] := by rw [show V xs - V ys = 0 by omega, D_zero]
    rw [e1, e2]
    exact end_own_nil (mk_b _) (by simp -implicitDefEqProofs (disch := omega) only [go_sem, ht])
  · have hge : V ys ≤ V xs := by
      unfold cmpI at hge; split at hge
      · simp at hge
      · omega
    have e1 : decide (V ys ≤ V xs) = true := by simp; omega
    rw [e1]
    have hle := D_len_mono hge
    generalize D (V xs) = us at *
    generalize D (V ys) = vs at *
    rw [← hdx, ← hdy] at hge ⊢
    clear hx hy
    refine LW.loopW hc ht (by kernel_rfl) (fun s => s.sl 0 = .sl us.length (us.map U) ∧ s.sl 1 = .sl vs.length (vs.map U) ∧ s.sl 22 = .val (.int .i64 us.length) ∧ ∃ k : Nat, k ≤ us.length ∧ s.sl 23 = .val (.int .i64 k) ∧
      ∃ b : Nat, b ≤ 1 ∧ s.sl 7 = .val (.int .u64 b) ∧ ∃ zs id, zs.length = us.length ∧ s.sl 6 = .ref id 0 us.length us.length 1 ∧ s.H id = some (zs.map U) ∧ id < s.nx ∧
      Lm zs ∧ V (zs.take k) + V (vs.take k) = V (us.take k) + 4294967296 ^ k * b)
      (fun s => match s.sl 23 with | .val (.int _ k) => us.length - k.toNat | _ => 0) ?_ ?_
    · simp -implicitDefEqProofs (disch := omega) only [go_sem, ht]
      exact ⟨0, Nat.zero_le _, rfl, 0, by omega, rfl, List.replicate us.length 0, nx, by simp, rfl, by rw [upd_self], by omega, Lm_repl _, by simp [V]⟩
    · rintro s ⟨h0, h1, h22, k, hk, h23, b, hb, h7, zs, id, hzl, h6, hH, hid, hzm, heq⟩
      by_cases hkl : k = us.length
      · simp -implicitDefEqProofs (disch := omega) only [go_sem, ht, h0, h1, h22, h23, h7, h6, hH]
        (apply pCall_mem; exact (short_own (xs := zs) (rest := []) hzm hzl (by omega) (Nat.le_refl _) (by simp -implicitDefEqProofs (disch := omega) only [hH, List.map_nil, go_sem, ht] <;> rfl)); rintro _ _ _ ⟨rfl, rfl, rfl⟩ -; simp -implicitDefEqProofs (disch := omega) only [hH, List.map_nil, go_sem, ht])
        have e : D (V us - V vs) = D (V zs) := by
          rw [hkl, List.take_length, List.take_of_length_le hle, List.take_of_length_le (by omega)] at heq
          have h1 := V_lt hzm
          have h2 := V_lt hx'.lm
          rw [hzl] at h1
          have : b = 0 := by
            rcases Nat.lt_or_ge 0 b with hb' | hb'
            · have : b = 1 := by omega
              subst this; omega
            · omega
          subst this
          congr 1; omega
        rw [e]
        have := D_len_V hzm
        exact end_own1 (mk := fun p => .tup [p, .val (.bool true)]) (by simp -implicitDefEqProofs (disch := omega) only [hH, own_split' hzm, go_sem, ht] <;> rfl) (by simp -implicitDefEqProofs (disch := omega) only [hH, own_split' hzm, go_sem, ht] <;> rfl) (by simp <;> omega) (by simp <;> omega)
      · have hk' : k < us.length := by omega
        have hug := hx'.lm.get k
        have hvg := hy'.lm.get k
        have hV := V_take_succ us hk'
        have key : ∀ v z b' : Nat, V (vs.take (k + 1)) = V (vs.take k) + 4294967296 ^ k * v → z < 4294967296 → z + v + b = us.getD k 0 + 4294967296 * b' →
            V ((zs.set k z).take (k + 1)) + V (vs.take (k + 1)) = V (us.take (k + 1)) + 4294967296 ^ (k + 1) * b' := by
          intro v z b' hv hz hs
          rw [V_take_succ _ (by simp; omega), hv, hV, List.take_set_of_le (Nat.le_refl _), List.getD_eq_getElem?_getD, List.getElem?_set_self (by omega)]
          simp only [Option.getD_some, Nat.pow_succ]
          have : 4294967296 ^ k * (z + v + b) = 4294967296 ^ k * (us.getD k 0 + 4294967296 * b') := by rw [hs]
          simp only [Nat.mul_add, ← Nat.mul_assoc] at this
          omega
        have hset : ∀ z, z < 4294967296 → Lm (zs.set k z) := fun z hz x hx => by
          rcases List.mem_or_eq_of_mem_set hx with h | h
          · exact hzm x h
          · omega
        by_cases hkv : k < vs.length
        · have hV2 := V_take_succ vs hkv
          obtain ⟨z, b', hz, hb', e1, e2, e3⟩ := sub_step hug hvg hb
          simp -implicitDefEqProofs (disch := omega) only [go_sem, ht, h0, h1, h22, h23, h7, h6, hH, e1, e2]
          exact ⟨⟨k + 1, by omega, rfl, b', hb', rfl, zs.set k z, id, by simp [hzl], rfl, upd_self _ _ _, hid, hset z hz, key _ z b' hV2 hz e3⟩, by omega⟩
        · have hV2 : V (vs.take (k + 1)) = V (vs.take k) + 4294967296 ^ k * 0 := by
            rw [List.take_of_length_le (by omega), List.take_of_length_le (by omega)]; simp
          obtain ⟨z, b', hz, hb', e1, e2, e3⟩ := sub_step hug (by omega : 0 < 4294967296) hb
          rw [show (((us.getD k 0 : Nat) : Int) - b) % 18446744073709551616 - ((0 : Nat) : Int) = (((us.getD k 0 : Nat) : Int) - b) % 18446744073709551616 by omega, Int.emod_emod] at e1 e2
          simp -implicitDefEqProofs (disch := omega) only [go_sem, ht, h0, h1, h22, h23, h7, h6, hH, e1, e2]
          exact ⟨⟨k + 1, by omega, rfl, b', hb', rfl, zs.set k z, id, by simp [hzl], rfl, upd_self _ _ _, hid, hset z hz, key _ z b' hV2 hz e3⟩, by omega⟩
end Go.Proofs.Ytfjdfnlkobeehaa

namespace Go.Proofs.Ytfjdfnlkobeehaa

theorem len8_at : ∀ i : Fin 256, ((⟨List.toArray (List.append (List.append [0, 1, 2, 2, 3, 3, 3, 3, 4, 4, 4, 4, 4, 4, 4, 4, 5, 5, 5, 5, 5, 5, 5, 5, 5, 5, 5, 5, 5, 5, 5, 5, 6, 6, 6, 6, 6, 6, 6, 6, 6, 6, 6, 6, 6, 6, 6, 6, 6, 6, 6, 6, 6, 6, 6, 6, 6, 6, 6, 6, 6, 6, 6, 6] [7, 7, 7, 7, 7, 7, 7, 7, 7, 7, 7, 7, 7, 7, 7, 7, 7, 7, 7, 7, 7, 7, 7, 7, 7, 7, 7, 7, 7, 7, 7, 7, 7, 7, 7, 7, 7, 7, 7, 7, 7, 7, 7, 7, 7, 7, 7, 7, 7, 7, 7, 7, 7, 7, 7, 7, 7, 7, 7, 7, 7, 7, 7, 7]) (List.append [8, 8, 8, 8, 8, 8, 8, 8, 8, 8, 8, 8, 8, 8, 8, 8, 8, 8, 8, 8, 8, 8, 8, 8, 8, 8, 8, 8, 8, 8, 8, 8, 8, 8, 8, 8, 8, 8, 8, 8, 8, 8, 8, 8, 8, 8, 8, 8, 8, 8, 8, 8, 8, 8, 8, 8, 8, 8, 8, 8, 8, 8, 8, 8] [8, 8, 8, 8, 8, 8, 8, 8, 8, 8, 8, 8, 8, 8, 8, 8, 8, 8, 8, 8, 8, 8, 8, 8, 8, 8, 8, 8, 8, 8, 8, 8, 8, 8, 8, 8, 8, 8, 8, 8, 8, 8, 8, 8, 8, 8, 8, 8, 8, 8, 8, 8, 8, 8, 8, 8, 8, 8, 8, 8, 8, 8, 8, 8]))⟩ : ByteArray)[i.1]?) = some (UInt8.ofNat (bl i.1)) := by decide +kernel
theorem len8_u8 : ∀ i : Fin 256, (UInt8.ofNat (bl i.1)).toNat = bl i.1 := by decide +kernel
theorem len8_get {i : Nat} (h : i < 256) : ((⟨List.toArray (List.append (List.append [0, 1, 2, 2, 3, 3, 3, 3, 4, 4, 4, 4, 4, 4, 4, 4, 5, 5, 5, 5, 5, 5, 5, 5, 5, 5, 5, 5, 5, 5, 5, 5, 6, 6, 6, 6, 6, 6, 6, 6, 6, 6, 6, 6, 6, 6, 6, 6, 6, 6, 6, 6, 6, 6, 6, 6, 6, 6, 6, 6, 6, 6, 6, 6] [7, 7, 7, 7, 7, 7, 7, 7, 7, 7, 7, 7, 7, 7, 7, 7, 7, 7, 7, 7, 7, 7, 7, 7, 7, 7, 7, 7, 7, 7, 7, 7, 7, 7, 7, 7, 7, 7, 7, 7, 7, 7, 7, 7, 7, 7, 7, 7, 7, 7, 7, 7, 7, 7, 7, 7, 7, 7, 7, 7, 7, 7, 7, 7]) (List.append [8, 8, 8, 8, 8, 8, 8, 8, 8, 8, 8, 8, 8, 8, 8, 8, 8, 8, 8, 8, 8, 8, 8, 8, 8, 8, 8, 8, 8, 8, 8, 8, 8, 8, 8, 8, 8, 8, 8, 8, 8, 8, 8, 8, 8, 8, 8, 8, 8, 8, 8, 8, 8, 8, 8, 8, 8, 8, 8, 8, 8, 8, 8, 8] [8, 8, 8, 8, 8, 8, 8, 8, 8, 8, 8, 8, 8, 8, 8, 8, 8, 8, 8, 8, 8, 8, 8, 8, 8, 8, 8, 8, 8, 8, 8, 8, 8, 8, 8, 8, 8, 8, 8, 8, 8, 8, 8, 8, 8, 8, 8, 8, 8, 8, 8, 8, 8, 8, 8, 8, 8, 8, 8, 8, 8, 8, 8, 8]))⟩ : ByteArray)[i]?) = some (UInt8.ofNat (bl i)) := len8_at ⟨i, h⟩
theorem len8_val {i : Nat} (h : i < 256) : (UInt8.ofNat (bl i)).toNat = bl i := len8_u8 ⟨i, h⟩

theorem len32_calls {x : Nat} (hx : x < 4294967296) : PT Try.prog 116 [.val (.int .u32 x)] (isV (.val (.int .i64 (bl x)))) := by
  have hb : bl x ≤ 32 := bl_le.2 hx
  refine PCalls.enter (n := 19) (rs := [.tmp 2]) (tb := []) Try.func116 rfl rfl rfl (by kernel_rfl) (by kernel_rfl) (by simp) fun c hc ht => ?_
  by_cases h1 : 65536 ≤ x
  · have e1 := bl_div 16 h1
    by_cases h2 : 256 ≤ x / 65536
    · have e2 := bl_div 8 h2
      have h3 : x / 65536 / 256 < 256 := by omega
      have e3 : x / 65536 / 256 % 256 = x / 65536 / 256 := Nat.mod_eq_of_lt h3
      have : bl x = 24 + bl (x / 65536 / 256) := by simp at e1 e2; omega
      rw [this] at hb ⊢
      simp -implicitDefEqProofs (disch := omega) only [go_sem, ht, len8_get h3, len8_val h3, e3]
      (refine end_treeW 0 ?_; simp -implicitDefEqProofs (disch := omega) only [go_sem, ht])
    · have h3 : x / 65536 < 256 := by omega
      have e3 : x / 65536 % 256 = x / 65536 := Nat.mod_eq_of_lt h3
      have : bl x = 16 + bl (x / 65536) := by simpa using e1
      rw [this] at hb ⊢
      simp -implicitDefEqProofs (disch := omega) only [go_sem, ht, len8_get h3, len8_val h3, e3]
      (refine end_treeW 0 ?_; simp -implicitDefEqProofs (disch := omega) only [go_sem, ht])
  · by_cases h2 : 256 ≤ x
    · have e2 := bl_div 8 h2
      have h3 : x / 256 < 256 := by omega
      have e3 : x / 256 % 256 = x / 256 := Nat.mod_eq_of_lt h3
      have : bl x = 8 + bl (x / 256) := by simpa using e2
      rw [this] at hb ⊢
      simp -implicitDefEqProofs (disch := omega) only [go_sem, ht, len8_get h3, len8_val h3, e3]
      (refine end_treeW 0 ?_; simp -implicitDefEqProofs (disch := omega) only [go_sem, ht])
    · have h3 : x < 256 := by omega
      have e3 : x % 256 = x := Nat.mod_eq_of_lt h3
      simp -implicitDefEqProofs (disch := omega) only [go_sem, ht, len8_get h3, len8_val h3, e3]
      (refine end_treeW 0 ?_; simp -implicitDefEqProofs (disch := omega) only [go_sem, ht, Int.zero_add])

theorem bits_calls {xs : List Nat} (h : Ok xs) : PT Try.prog 76 [SU xs] (isV (.val (.int .i64 (bl (V xs))))) := by
  have := h.short.len
  refine PCalls.enter (n := 20) (rs := [.tmp 2]) (tb := []) Try.func76 rfl rfl rfl (by kernel_rfl) (by kernel_rfl) (by simp) fun c hc ht => ?_
  simp -implicitDefEqProofs (disch := omega) only [go_sem, ht]
  by_cases hn : V xs = 0
  · have hl : (D (V xs)).length = 0 := D_len_zero.2 hn
    (refine pCall_vw (by refine ⟨⟨?_, ?_⟩, ?_, ?_⟩; rotate_left 2; (first | (right; rintro r rfl; rfl) | left); all_goals ((try simp -implicitDefEqProofs (disch := omega) only [go_sem, ht]) <;> rfl)) (short_calls h) ?_; rintro _ nx - rfl hnx; simp -implicitDefEqProofs (disch := omega) only [go_sem, ht])
    rw [hn, bl_zero]
    (refine end_treeW 0 ?_; simp -implicitDefEqProofs (disch := omega) only [go_sem, ht])
    rfl
  · have hl := D_len_pos hn
    have hg := (Lm_D (V xs)).get ((D (V xs)).length - 1)
    have hb : bl ((D (V xs)).getD ((D (V xs)).length - 1) 0) ≤ 32 := bl_le.2 hg
    (refine pCall_vw (by refine ⟨⟨?_, ?_⟩, ?_, ?_⟩; rotate_left 2; (first | (right; rintro r rfl; rfl) | left); all_goals ((try simp -implicitDefEqProofs (disch := omega) only [go_sem, ht]) <;> rfl)) (short_calls h) ?_; rintro _ nx - rfl hnx; simp -implicitDefEqProofs (disch := omega) only [go_sem, ht])
    (refine pCall_vw (by refine ⟨⟨?_, ?_⟩, ?_, ?_⟩; rotate_left 2; (first | (right; rintro r rfl; rfl) | left); all_goals ((try simp -implicitDefEqProofs (disch := omega) only [go_sem, ht]) <;> rfl)) (len32_calls hg) ?_; rintro _ nx - rfl hnx; simp -implicitDefEqProofs (disch := omega) only [go_sem, ht])
    rw [bl_top hn]
    (refine end_treeW 0 ?_; simp -implicitDefEqProofs (disch := omega) only [go_sem, ht])
end Go.Proofs.Ytfjdfnlkobeehaa

namespace Go.Proofs.Ytfjdfnlkobeehaa

theorem moved_calls {xs : List Nat} {s n : Nat} (h : Ok xs) (hs : s < 32) (hn : n ≤ 1099511627777) : PL 138 [SU xs, .val (.int .i64 s), .val (.int .i64 n)] (pad n (V xs * 2 ^ s)) := by
  have := h.len
  refine PCalls.enter (n := 39) (rs := [.tmp 6]) (tb := []) Try.func138 rfl rfl rfl (by kernel_rfl) (by kernel_rfl) (by simp) fun c hc ht => ?_
  simp -implicitDefEqProofs (disch := omega) only [go_sem, ht]
  refine LW.loopW hc ht (by kernel_rfl) (fun t => t.sl 0 = .sl xs.length (xs.map U) ∧ t.sl 1 = .val (.int .i64 s) ∧ t.sl 13 = .val (.int .i64 n) ∧ ∃ k : Nat, k ≤ n ∧ t.sl 14 = .val (.int .i64 k) ∧
      ∃ c : Nat, c < 2 ^ s ∧ t.sl 8 = .val (.int .u64 c) ∧ ∃ zs id, zs.length = n ∧ t.sl 7 = .ref id 0 n n 1 ∧ t.H id = some (zs.map U) ∧ id < t.nx ∧
      Lm zs ∧ V (zs.take k) + 4294967296 ^ k * c = V (xs.take k) * 2 ^ s)
      (fun t => match t.sl 14 with | .val (.int _ k) => n - k.toNat | _ => 0) ?_ ?_
  · simp -implicitDefEqProofs (disch := omega) only [go_sem, ht]
    exact ⟨0, Nat.zero_le _, rfl, 0, Nat.pow_pos (by decide), rfl, List.replicate n 0, 0, by simp, rfl, by rw [upd_self], by omega, Lm_repl _, by simp [V]⟩
  · rintro t ⟨h0, h1, h13, k, hk, h14, c', hc', h8, zs, id, hzl, h7, hH, hid, hzm, heq⟩
    by_cases hkl : k = n
    · have e : pad n (V xs * 2 ^ s) = zs := by
        rw [hkl, ← hzl, List.take_length] at heq
        refine V_inj (pad_lm _ _) hzm (by rw [pad_len, hzl]) ?_
        rw [pad_V]
        have h1 := V_lt hzm
        have hx : V xs * 2 ^ s = V (xs.take zs.length) * 2 ^ s + 4294967296 ^ zs.length * (V (xs.drop zs.length) * 2 ^ s) := by
          rcases Nat.lt_or_ge zs.length xs.length with hlt | hge
          · conv => lhs; rw [V_split xs (Nat.le_of_lt hlt)]
            rw [Nat.add_mul, Nat.mul_assoc]
          · rw [List.take_of_length_le hge, List.drop_of_length_le hge]; simp [V]
        rw [hx, ← heq, ← hzl, Nat.add_assoc, ← Nat.mul_add, Nat.add_mul_mod_self_left, Nat.mod_eq_of_lt h1]
      simp -implicitDefEqProofs (disch := omega) only [go_sem, ht, h0, h1, h13, h14, h8, h7, hH]
      rw [e]
      exact end_own1 (rest := []) (by simp -implicitDefEqProofs (disch := omega) only [hH, List.map_nil, go_sem, ht] <;> rfl) (by simp -implicitDefEqProofs (disch := omega) only [hH, List.map_nil, go_sem, ht] <;> rfl) (by simp <;> omega) (by simp <;> omega)
    · have key : ∀ x v : Nat, x < 4294967296 → V (xs.take (k + 1)) = V (xs.take k) + 4294967296 ^ k * x → v = c' + x * 2 ^ s →
            v / 4294967296 < 2 ^ s ∧ V ((zs.set k (v % 4294967296)).take (k + 1)) + 4294967296 ^ (k + 1) * (v / 4294967296) = V (xs.take (k + 1)) * 2 ^ s := by
        intro x v hx hV hv
        constructor
        · rw [Nat.div_lt_iff_lt_mul (by decide), hv]
          have : x * 2 ^ s ≤ 4294967295 * 2 ^ s := Nat.mul_le_mul_right _ (by omega)
          omega
        · rw [V_take_succ _ (by simp; omega), hV, List.take_set_of_le (Nat.le_refl _), List.getD_eq_getElem?_getD, List.getElem?_set_self (by omega)]
          simp only [Option.getD_some, Nat.pow_succ]
          rw [Nat.add_assoc, Nat.mul_assoc (4294967296 ^ k), ← Nat.mul_add, Nat.mod_add_div, hv, Nat.mul_add, ← Nat.add_assoc, heq, Nat.add_mul, Nat.mul_assoc]
      have hset : ∀ z, z < 4294967296 → Lm (zs.set k z) := fun z hz x hx => by
        rcases List.mem_or_eq_of_mem_set hx with h | h
        · exact hzm x h
        · omega
      have hs2 : 2 ^ s ≤ 2147483648 := by
        have := Nat.pow_le_pow_right (n := 2) (by decide) (show s ≤ 31 by omega)
        simpa using this
      by_cases hkx : k < xs.length
      · have hxg := h.lm.get k
        have hm : xs.getD k 0 * 2 ^ s ≤ 4294967295 * 2147483648 := Nat.mul_le_mul (by omega) hs2
        have ho := or_add (x := xs.getD k 0) hc'
        obtain ⟨k1, k2⟩ := key _ _ hxg (V_take_succ xs hkx) rfl
        simp -implicitDefEqProofs (disch := omega) only [go_sem, ht, h0, h1, h13, h14, h8, h7, hH, ho]
        exact ⟨⟨k + 1, by omega, rfl, _, k1, rfl, _, id, by simp [hzl], rfl, upd_self _ _ _, hid, hset _ (Nat.mod_lt _ (by decide)), k2⟩, by omega⟩
      · have hV : V (xs.take (k + 1)) = V (xs.take k) + 4294967296 ^ k * 0 := by
          rw [List.take_of_length_le (by omega), List.take_of_length_le (by omega)]; simp
        obtain ⟨k1, k2⟩ := key 0 _ (by decide) hV rfl
        simp only [Nat.zero_mul, Nat.add_zero, Nat.mod_eq_of_lt (show c' < 4294967296 by omega)] at k1 k2
        simp -implicitDefEqProofs (disch := omega) only [go_sem, ht, h0, h1, h13, h14, h8, h7, hH]
        exact ⟨⟨k + 1, by omega, rfl, _, k1, rfl, _, id, by simp [hzl], rfl, upd_self _ _ _, hid, hset _ (by omega), k2⟩, by omega⟩


end Go.Proofs.Ytfjdfnlkobeehaa

namespace Go.Proofs.Ytfjdfnlkobeehaa

theorem right_calls {xs : List Nat} {s : Int} (h : Ok xs) (hs : s ≤ 9223372036854775807) (hs' : -9223372036854775808 ≤ s) : PO1 Try.prog 140 [SU xs, .val (.int .i64 s)]
    (fun p => .tup [p, .val (.int .i64 (if s < 0 then 1 else 0))]) ((if s < 0 then [] else D (V xs / 2 ^ s.toNat)).map U) := by
  have hlen := h.short.len
  have hcx : V (D (V xs)) = V xs := V_D _
  have hlm := Lm_D (V xs)
  have hv := V_lt (Lm_D (V xs))
  refine PCalls.enter (n := 60) (rs := [.tmp 4, .tmp 5]) (tb := []) Try.func140 rfl rfl rfl (by kernel_rfl) (by kernel_rfl) (by simp) fun c hc ht => ?_
  by_cases h1 : s < 0
  · rw [if_pos h1, if_pos h1]
    simp -implicitDefEqProofs (disch := omega) only [go_sem, ht]
    exact end_own_nil (mk_b _) (by simp -implicitDefEqProofs (disch := omega) only [go_sem, ht])
  rw [if_neg h1, if_neg h1]
  obtain ⟨k, rfl⟩ := Int.eq_ofNat_of_zero_le (show 0 ≤ s by omega)
  simp -implicitDefEqProofs (disch := omega) only [go_sem, ht]
  by_cases hn : (D (V xs)).length ≤ k / 32
  · (refine pCall_vw (by refine ⟨⟨?_, ?_⟩, ?_, ?_⟩; rotate_left 2; (first | (right; rintro r rfl; rfl) | left); all_goals ((try simp -implicitDefEqProofs (disch := omega) only [go_sem, ht]) <;> rfl)) (short_calls h) ?_; rintro _ nx - rfl hnx; simp -implicitDefEqProofs (disch := omega) only [go_sem, ht])
    have e : D (V xs / 2 ^ k) = [] := by
      rw [D_nil, Nat.div_eq_zero_iff]
      right
      rw [hcx, pow32] at hv
      exact Nat.lt_of_lt_of_le hv (Nat.pow_le_pow_right (by decide) (by omega))
    rw [e]
    exact end_own_nil (mk_b _) (by simp -implicitDefEqProofs (disch := omega) only [go_sem, ht])
  · (refine pCall_vw (by refine ⟨⟨?_, ?_⟩, ?_, ?_⟩; rotate_left 2; (first | (right; rintro r rfl; rfl) | left); all_goals ((try simp -implicitDefEqProofs (disch := omega) only [go_sem, ht]) <;> rfl)) (short_calls h) ?_; rintro _ nx - rfl hnx; simp -implicitDefEqProofs (disch := omega) only [go_sem, ht])
    have hus : V ((D (V xs)).drop (k / 32)) = V xs / 4294967296 ^ (k / 32) := by rw [V_drop_div hlm (by omega), hcx]
    have hul : ((D (V xs)).drop (k / 32)).length = (D (V xs)).length - k / 32 := by simp
    have hum := hlm.drop (k / 32)
    have hW : V ((D (V xs)).drop (k / 32)) / 2 ^ (k % 32) = V xs / 2 ^ k := by
      rw [hus, Nat.div_div_eq_div_mul, pow32, ← Nat.pow_add, Nat.div_add_mod]
    generalize hU : (D (V xs)).drop (k / 32) = us at *
    have hr : k % 32 < 32 := Nat.mod_lt _ (by decide)
    rw [← hW]
    have hlen : us.length ≤ 1099511627776 := by omega
    refine LW.loopW hc ht (by kernel_rfl) (fun t => t.sl 0 = .sl us.length (us.map U) ∧ t.sl 1 = .val (.int .i64 k) ∧ t.sl 26 = .val (.int .i64 us.length) ∧ ∃ j : Nat, j ≤ us.length ∧ t.sl 27 = .val (.int .i64 j) ∧
      ∃ zs id, zs.length = us.length ∧ t.sl 6 = .ref id 0 us.length us.length 1 ∧ t.H id = some (zs.map U) ∧ id < t.nx ∧
      Lm zs ∧ Hide (V (zs.take j) = V us / 2 ^ (k % 32) % 4294967296 ^ j))
      (fun t => match t.sl 27 with | .val (.int _ j) => us.length - j.toNat | _ => 0) ?_ ?_
    · simp -implicitDefEqProofs (disch := omega) only [go_sem, ht]
      exact ⟨by rw [← List.map_drop, hU, hul, List.take_of_length_le (by simp [hul])], by rw [hul], 0, Nat.zero_le _, rfl, List.replicate us.length 0, nx, by simp, by rw [hul], by rw [upd_self, hul], by omega, Lm_repl _, Hide.mk (by simp [V, Nat.mod_one])⟩
    · clear h hcx hlm hv hus hW hU
      rintro t ⟨h0, h1, h26, j, hj, h27, zs, id, hzl, h6, hH, hid, hzm, heq⟩
      by_cases hjl : j = us.length
      · have e : D (V us / 2 ^ (k % 32)) = D (V zs) := by
          have hv := V_lt hum
          have heq := heq.out
          rw [hjl, ← hzl, List.take_length, Nat.mod_eq_of_lt] at heq
          · rw [heq]
          · rw [hzl]; exact Nat.lt_of_le_of_lt (Nat.div_le_self _ _) hv
        rw [e]
        have := D_len_V hzm
        simp -implicitDefEqProofs (disch := omega) only [go_sem, ht, h0, h1, h26, h27, h6, hH]
        (apply pCall_mem; exact (short_own (xs := zs) (rest := []) hzm hzl (by omega) (Nat.le_refl _) (by simp -implicitDefEqProofs (disch := omega) only [hH, List.map_nil, go_sem, ht] <;> rfl)); rintro _ _ _ ⟨rfl, rfl, rfl⟩ -; simp -implicitDefEqProofs (disch := omega) only [hH, List.map_nil, go_sem, ht])
        exact end_own1 (mk := fun p => .tup [p, .val (.int .i64 0)]) (by simp -implicitDefEqProofs (disch := omega) only [hH, own_split' hzm, go_sem, ht] <;> rfl) (by simp -implicitDefEqProofs (disch := omega) only [hH, own_split' hzm, go_sem, ht] <;> rfl) (by simp <;> omega) (by simp <;> omega)
      · have hxg := hum.get j
        have hd := V_drop_div hum (i := j) hj
        have hd1 := V_drop us (i := j) (by omega)
        have hp : 0 < 2 ^ (k % 32) := Nat.pow_pos (by decide)
        have key : ∀ v : Nat, (∃ w, V (us.drop j) = v + 18446744073709551616 * w) →
            V ((zs.set j (v / 2 ^ (k % 32) % 4294967296)).take (j + 1)) = V us / 2 ^ (k % 32) % 4294967296 ^ (j + 1) := by
          rintro v ⟨w, hw⟩
          rw [V_take_succ _ (by simp; omega), List.take_set_of_le (Nat.le_refl _), List.getD_eq_getElem?_getD, List.getElem?_set_self (by omega), heq.out, Nat.pow_succ, Nat.mod_mul]
          simp only [Option.getD_some]
          congr 2
          rw [Nat.div_div_eq_div_mul, Nat.mul_comm (2 ^ (k % 32)), ← Nat.div_div_eq_div_mul, ← hd, hw]
          exact (right_step hr v w).symm
        have hset : ∀ z, z < 4294967296 → Lm (zs.set j z) := fun z hz x hx => by
          rcases List.mem_or_eq_of_mem_set hx with h | h
          · exact hzm x h
          · omega
        by_cases hj1 : j + 1 < us.length
        · have hxg1 := hum.get (j + 1)
          have hd2 := V_drop us (i := j + 1) hj1
          have k2 := Hide.mk (key (us.getD j 0 + us.getD (j + 1) 0 * 4294967296) ⟨V (us.drop (j + 1 + 1)), by omega⟩)
          clear heq key hd hd1 hd2
          simp -implicitDefEqProofs (disch := omega) only [go_sem, ht, h0, h1, h26, h27, h6, hH]
          exact ⟨⟨j + 1, by omega, rfl, _, id, by simp [hzl], rfl, upd_self _ _ _, hid, hset _ (Nat.mod_lt _ (by decide)), k2⟩, by omega⟩
        · have hd2 : V (us.drop (j + 1)) = 0 := by rw [List.drop_of_length_le (by omega)]; rfl
          have k2 := Hide.mk (key (us.getD j 0) ⟨0, by omega⟩)
          have hlt : us.getD j 0 / 2 ^ (k % 32) < 4294967296 := Nat.lt_of_le_of_lt (Nat.div_le_self _ _) hxg
          clear heq key hd hd1 hd2
          simp -implicitDefEqProofs (disch := omega) only [go_sem, ht, h0, h1, h26, h27, h6, hH]
          exact ⟨⟨j + 1, by omega, rfl, _, id, by simp [hzl], rfl, upd_self _ _ _, hid, hset _ (Nat.mod_lt _ (by decide)), k2⟩, by omega⟩
end Go.Proofs.Ytfjdfnlkobeehaa

namespace Go.Proofs.Ytfjdfnlkobeehaa

theorem spl_zero (a y : PV) (l : List PV) : spl (a :: l) 0 [y] = y :: l := by simp [spl]
theorem spl_succ (a y : PV) (l : List PV) (i : Nat) : spl (a :: l) (i + 1) [y] = a :: spl l i [y] := by simp [spl, Nat.add_right_comm]
attribute [go_sem] spl_zero spl_succ List.cons_append

theorem V_set_drop {zs : List Nat} {k v : Nat} (hk : k < zs.length) : V ((zs.set k v).drop k) = v + 4294967296 * V (zs.drop (k + 1)) := by
  rw [V_drop _ (by simpa using hk), List.getD_eq_getElem?_getD, List.getElem?_set_self hk, List.drop_set_of_lt (Nat.lt_succ_self k)]
  rfl

theorem byLimb_calls {xs : List Nat} {b : Nat} (h : Ok xs) (hb : b < 4294967296) (hb0 : 0 < b) : PO1 Try.prog 126 [SU xs, .val (.int .u32 b)]
    (fun p => .tup [p, .val (.int .u32 (V xs % b : Nat))]) ((D (V xs / b)).map U) := by
  have hlen := h.len
  refine PCalls.enter (n := 43) (rs := [.tmp 4, .tmp 5]) (tb := []) Try.func126 rfl rfl rfl (by kernel_rfl) (by kernel_rfl) (by simp) fun c hc ht => ?_
  simp -implicitDefEqProofs (disch := omega) only [go_sem, ht]
  refine LW.loopW hc ht (by kernel_rfl) (fun t => t.sl 0 = .sl xs.length (xs.map U) ∧ t.sl 1 = .val (.int .u32 b) ∧ ∃ k : Nat, k ≤ xs.length ∧ t.sl 8 = .val (.int .i64 ((k : Int) - 1)) ∧
      ∃ zs id r, zs.length = xs.length ∧ t.sl 6 = .ref id 0 xs.length xs.length 1 ∧ t.H id = some (zs.map U) ∧ id < t.nx ∧ t.sl 7 = .val (.int .u64 (r : Nat)) ∧ r < b ∧
      Lm zs ∧ Hide (V (zs.drop k) * b + r = V (xs.drop k)))
      (fun t => match t.sl 8 with | .val (.int _ j) => (j + 1).toNat | _ => 0) ?_ ?_
  · simp -implicitDefEqProofs (disch := omega) only [go_sem, ht]
    exact ⟨xs.length, Nat.le_refl _, rfl, List.replicate xs.length 0, 0, 0, by simp, rfl, by rw [upd_self], by omega, rfl, hb0, Lm_repl _, Hide.mk (by rw [List.drop_of_length_le (by simp), List.drop_of_length_le (by simp)]; simp [V])⟩
  · rintro t ⟨h0, h1, k, hk, h8, zs, id, r, hzl, h6, hH, hid, h7, hr, hzm, heq⟩
    by_cases hk0 : k = 0
    · subst hk0
      have heq := heq.out
      rw [List.drop_zero, List.drop_zero] at heq
      have e1 : V xs / b = V zs := by
        rw [← heq, Nat.mul_comm, Nat.mul_add_div hb0, Nat.div_eq_of_lt hr, Nat.add_zero]
      have e2 : V xs % b = r := by
        rw [← heq, Nat.mul_comm, Nat.mul_add_mod, Nat.mod_eq_of_lt hr]
      rw [e1, e2]
      clear e1 e2 heq
      have := D_len_V hzm
      simp -implicitDefEqProofs (disch := omega) only [go_sem, ht, h0, h1, h8, h7, h6, hH]
      (apply pCall_mem; exact (short_own (xs := zs) (rest := []) hzm hzl (by omega) (Nat.le_refl _) (by simp -implicitDefEqProofs (disch := omega) only [hH, h7, List.map_nil, go_sem, ht] <;> rfl)); rintro _ _ _ ⟨rfl, rfl, rfl⟩ -; simp -implicitDefEqProofs (disch := omega) only [hH, h7, List.map_nil, go_sem, ht])
      exact end_own1 (mk := fun p => .tup [p, .val (.int .u32 r)]) (by simp -implicitDefEqProofs (disch := omega) only [hH, own_split' hzm, go_sem, ht] <;> rfl) (by simp -implicitDefEqProofs (disch := omega) only [hH, own_split' hzm, go_sem, ht] <;> rfl) (by simp <;> omega) (by simp <;> omega)
    · have e1 : ((k : Int) - 1).toNat = k - 1 := by omega
      have e2 : k - 1 + 1 = k := by omega
      have hxg := h.lm.get (k - 1)
      have hd := V_drop xs (i := k - 1) (by omega)
      rw [e2, ← heq.out] at hd
      have hq : (r * 4294967296 + xs.getD (k - 1) 0) / b < 4294967296 := by
        rw [Nat.div_lt_iff_lt_mul hb0]
        have : (r + 1) * 4294967296 ≤ b * 4294967296 := Nat.mul_le_mul_right _ hr
        omega
      have hm : (r * 4294967296 + xs.getD (k - 1) 0) % b < b := Nat.mod_lt _ hb0
      have hset : Lm (zs.set (k - 1) ((r * 4294967296 + xs.getD (k - 1) 0) / b)) := fun x hx => by
        rcases List.mem_or_eq_of_mem_set hx with h | h
        · exact hzm x h
        · omega
      have key : Hide (V ((zs.set (k - 1) ((r * 4294967296 + xs.getD (k - 1) 0) / b)).drop (k - 1)) * b + (r * 4294967296 + xs.getD (k - 1) 0) % b = V (xs.drop (k - 1))) := by
        refine Hide.mk ?_
        rw [V_set_drop (by omega), hd, e2]
        have := Nat.div_add_mod (r * 4294967296 + xs.getD (k - 1) 0) b
        rw [Nat.add_mul, Nat.mul_comm _ b, Nat.mul_add 4294967296, ← Nat.mul_assoc]
        omega
      clear hd heq
      have hr' : r < 4294967296 := by omega
      have e3 := Nat.mod_eq_of_lt hq
      have e4 := Nat.mod_eq_of_lt (Nat.lt_trans hq (by decide : 4294967296 < 18446744073709551616))
      simp -implicitDefEqProofs (disch := omega) only [go_sem, ht, h0, h1, h8, h7, h6, hH, e1, e3, e4]
      exact ⟨⟨k - 1, by omega, by congr 2, _, id, _, by simp [hzl], rfl, upd_self _ _ _, hid, rfl, hm, hset, key⟩, by omega⟩

theorem small_calls {n : Nat} (hn : n < 18446744073709551616) : PL 49 [.val (.int .u64 n)] (D n) := by
  have hv : V [n % 4294967296, n / 4294967296] = n := by simp only [V]; omega
  have hm : Lm [n % 4294967296, n / 4294967296] := Lm_cons.2 ⟨by omega, Lm_cons.2 ⟨by omega, Lm_nil⟩⟩
  have := D_len_V hm
  rw [hv] at this
  simp only [List.length_cons, List.length_nil] at this
  refine PCalls.enter (n := 10) (rs := [.tmp 2]) (tb := []) Try.func49 rfl rfl rfl (by kernel_rfl) (by kernel_rfl) (by simp) fun c hc ht => ?_
  simp -implicitDefEqProofs (disch := omega) only [go_sem, ht]
  (apply pCall_mem; exact (short_own (xs := [n % 4294967296, n / 4294967296]) (rest := []) hm rfl (by omega) (Nat.le_refl _) (by simp -implicitDefEqProofs (disch := omega) only [upd_self, List.map_nil, go_sem, ht] <;> rfl)); rintro _ _ _ ⟨rfl, rfl, rfl⟩ -; simp -implicitDefEqProofs (disch := omega) only [upd_self, List.map_nil, go_sem, ht])
  have hs : [PV.val (.int .u32 ((n % 4294967296 : Nat) : Int)), PV.val (.int .u32 ((n / 4294967296 : Nat) : Int))] = _ := own_split' hm
  rw [hv] at hs ⊢
  exact end_own1 (mk := fun p => p) (by simp -implicitDefEqProofs (disch := omega) only [upd_self, hs, go_sem, ht] <;> rfl) (by simp -implicitDefEqProofs (disch := omega) only [upd_self, hs, go_sem, ht] <;> rfl) (by simp <;> omega) (by simp <;> omega)
end Go.Proofs.Ytfjdfnlkobeehaa

namespace Go.Proofs.Ytfjdfnlkobeehaa

def divP (a b : Nat) : PV := .tup [SU (D (a / b)), SU (D (if b = 0 then 0 else a % b)), .val (.bool (decide (b ≠ 0)))]

theorem D_one {n : Nat} (h0 : n ≠ 0) (h : n < 4294967296) : D n = [n] := by
  rw [D_pos h0, Nat.mod_eq_of_lt h, Nat.div_eq_of_lt h, D_zero]
theorem D_two {n : Nat} (h : 4294967296 ≤ n) : 2 ≤ (D n).length := by
  rw [D_pos (by omega), List.length_cons]
  have := D_len_pos (n := n / 4294967296) (by omega)
  omega

theorem cmpI_neg {a b : Nat} : cmpI a b < 0 ↔ a < b := by
  unfold cmpI; split
  · simp_all
  · split <;> simp_all

theorem divmod_own_of {xs ys : List Nat} (hx : Ok xs) (hy : Ok ys)
    (hlong : 4294967296 ≤ V ys → V ys ≤ V xs → PO2 Try.prog 127 [SU (D (V xs)), SU (D (V ys))] (fun p q => .tup [p, q]) ((D (V xs / V ys)).map U) ((D (V xs % V ys)).map U)) :
    PO2 Try.prog 104 [SU xs, SU ys] (fun p q => .tup [p, q, .val (.bool (decide (V ys ≠ 0)))]) ((D (V xs / V ys)).map U) ((D (if V ys = 0 then 0 else V xs % V ys)).map U) := by
  have hx' := hx.short
  have hy' := hy.short
  have hdx := V_D (V xs)
  have hdy := V_D (V ys)
  have := hx.short.len
  have := hy.short.len
  refine PCalls.enter (n := 48) (rs := [.tmp 4, .tmp 5, .tmp 6]) (tb := []) Try.func104 rfl rfl rfl (by kernel_rfl) (by kernel_rfl) (by simp) fun c hc ht => ?_
  simp -implicitDefEqProofs (disch := omega) only [go_sem, ht]
  by_cases h0 : V ys = 0
  · have hl : (D (V ys)).length = 0 := D_len_zero.2 h0
    rw [if_pos h0, h0, D_zero, Nat.div_zero, D_zero, List.map_nil]
    (refine pCall_vw (by refine ⟨⟨?_, ?_⟩, ?_, ?_⟩; rotate_left 2; (first | (right; rintro r rfl; rfl) | left); all_goals ((try simp -implicitDefEqProofs (disch := omega) only [go_sem, ht]) <;> rfl)) (short_calls hx) ?_; rintro _ nx - rfl hnx; simp -implicitDefEqProofs (disch := omega) only [go_sem, ht])
    (refine pCall_vw (by refine ⟨⟨?_, ?_⟩, ?_, ?_⟩; rotate_left 2; (first | (right; rintro r rfl; rfl) | left); all_goals ((try simp -implicitDefEqProofs (disch := omega) only [go_sem, ht]) <;> rfl)) (short_calls hy) ?_; rintro _ nx - rfl hnx; simp -implicitDefEqProofs (disch := omega) only [go_sem, ht])
    exact end_own2_nn (mk_llv _) (by simp -implicitDefEqProofs (disch := omega) only [go_sem, ht] <;> rfl)
  · have hl := D_len_pos h0
    rw [if_neg h0]
    have e0 : decide (V ys ≠ 0) = true := by simp [h0]
    rw [e0]
    have hcm := cmp_calls hx' hy'
    rw [hdx, hdy] at hcm
    by_cases hlt : V xs < V ys
    · rw [cmpI_lt hlt] at hcm
      have htr := trim_calls hx'
      rw [hdx] at htr
      rw [Nat.div_eq_of_lt hlt, Nat.mod_eq_of_lt hlt, D_zero, List.map_nil]
      (refine pCall_vw (by refine ⟨⟨?_, ?_⟩, ?_, ?_⟩; rotate_left 2; (first | (right; rintro r rfl; rfl) | left); all_goals ((try simp -implicitDefEqProofs (disch := omega) only [go_sem, ht]) <;> rfl)) (short_calls hx) ?_; rintro _ nx - rfl hnx; simp -implicitDefEqProofs (disch := omega) only [go_sem, ht])
      (refine pCall_vw (by refine ⟨⟨?_, ?_⟩, ?_, ?_⟩; rotate_left 2; (first | (right; rintro r rfl; rfl) | left); all_goals ((try simp -implicitDefEqProofs (disch := omega) only [go_sem, ht]) <;> rfl)) (short_calls hy) ?_; rintro _ nx - rfl hnx; simp -implicitDefEqProofs (disch := omega) only [go_sem, ht])
      (refine pCall_vw (by refine ⟨⟨?_, ?_⟩, ?_, ?_⟩; rotate_left 2; (first | (right; rintro r rfl; rfl) | left); all_goals ((try simp -implicitDefEqProofs (disch := omega) only [go_sem, ht]) <;> rfl)) (hcm) ?_; rintro _ nx - rfl hnx; simp -implicitDefEqProofs (disch := omega) only [go_sem, ht])
      (refine pCall_own1 (mk := fun p => p) (mk_id) (by simp -implicitDefEqProofs (disch := omega) only [go_sem, ht] <;> rfl) (by simp -implicitDefEqProofs (disch := omega) only [go_sem, ht]) (closedL_U _) (flatL_U _) (htr) ?_; intro id1 cap1 rest1 nx1 hid1 hnx1 hcap1; simp only [put_nx, withH_nx, begP_nx, List.length_map] at hid1 hcap1; simp -implicitDefEqProofs (disch := omega) only [go_sem, ht])
      exact end_own2_nl (mk_llv _) (by simp -implicitDefEqProofs (disch := omega) only [go_sem, ht] <;> rfl) (by simp -implicitDefEqProofs (disch := omega) only [go_sem, ht] <;> rfl) (by simp) (by simp; omega) (by simp -implicitDefEqProofs (disch := omega) only [go_sem, ht] <;> omega)
    · have hge : 0 ≤ cmpI (V xs) (V ys) := by
        have := mt (cmpI_neg (a := V xs) (b := V ys)).1 hlt
        omega
      generalize cmpI (V xs) (V ys) = cm at *
      by_cases h1 : V ys < 4294967296
      · have hl1 : (D (V ys)).length = 1 := by rw [D_one h0 h1]; rfl
        have hg : (D (V ys)).getD 0 0 = V ys := by rw [D_one h0 h1]; rfl
        have hm : V xs % V ys < V ys := Nat.mod_lt _ (by omega)
        (refine pCall_vw (by refine ⟨⟨?_, ?_⟩, ?_, ?_⟩; rotate_left 2; (first | (right; rintro r rfl; rfl) | left); all_goals ((try simp -implicitDefEqProofs (disch := omega) only [go_sem, ht]) <;> rfl)) (short_calls hx) ?_; rintro _ nx - rfl hnx; simp -implicitDefEqProofs (disch := omega) only [go_sem, ht])
        (refine pCall_vw (by refine ⟨⟨?_, ?_⟩, ?_, ?_⟩; rotate_left 2; (first | (right; rintro r rfl; rfl) | left); all_goals ((try simp -implicitDefEqProofs (disch := omega) only [go_sem, ht]) <;> rfl)) (short_calls hy) ?_; rintro _ nx - rfl hnx; simp -implicitDefEqProofs (disch := omega) only [go_sem, ht])
        (refine pCall_vw (by refine ⟨⟨?_, ?_⟩, ?_, ?_⟩; rotate_left 2; (first | (right; rintro r rfl; rfl) | left); all_goals ((try simp -implicitDefEqProofs (disch := omega) only [go_sem, ht]) <;> rfl)) (hcm) ?_; rintro _ nx - rfl hnx; simp -implicitDefEqProofs (disch := omega) only [go_sem, ht])
        rw [hg]
        have hbl := byLimb_calls hx' h1 (by omega)
        rw [hdx] at hbl
        (refine pCall_own1 (mk := fun p => .tup [p, .val (.int .u32 (V xs % V ys : Nat))]) (mk_b _) (by simp -implicitDefEqProofs (disch := omega) only [go_sem, ht] <;> rfl) (by simp -implicitDefEqProofs (disch := omega) only [go_sem, ht]) (closedL_U _) (flatL_U _) (hbl) ?_; intro id1 cap1 rest1 nx1 hid1 hnx1 hcap1; simp only [put_nx, withH_nx, begP_nx, List.length_map] at hid1 hcap1; simp -implicitDefEqProofs (disch := omega) only [go_sem, ht])
        (refine pCall_own1 (mk := fun p => p) (mk_id) (by simp -implicitDefEqProofs (disch := omega) only [go_sem, ht] <;> rfl) (by simp -implicitDefEqProofs (disch := omega) only [go_sem, ht]) (closedL_U _) (flatL_U _) (small_calls (n := V xs % V ys) (by omega)) ?_; intro id2 cap2 rest2 nx2 hid2 hnx2 hcap2; simp only [put_nx, withH_nx, begP_nx, List.length_map] at hid2 hcap2; simp -implicitDefEqProofs (disch := omega) only [go_sem, ht])
        exact end_own2 (mk := fun p q => .tup [p, q, .val (.bool true)]) (by simp -implicitDefEqProofs (disch := omega) only [go_sem, ht] <;> rfl) (by omega) (by simp -implicitDefEqProofs (disch := omega) only [go_sem, ht] <;> rfl) (by simp -implicitDefEqProofs (disch := omega) only [go_sem, ht] <;> rfl) (by simp <;> omega) (by simp <;> omega) (by simp <;> omega) (by simp <;> omega)
      · have h2 := D_two (n := V ys) (by omega)
        (refine pCall_vw (by refine ⟨⟨?_, ?_⟩, ?_, ?_⟩; rotate_left 2; (first | (right; rintro r rfl; rfl) | left); all_goals ((try simp -implicitDefEqProofs (disch := omega) only [go_sem, ht]) <;> rfl)) (short_calls hx) ?_; rintro _ nx - rfl hnx; simp -implicitDefEqProofs (disch := omega) only [go_sem, ht])
        (refine pCall_vw (by refine ⟨⟨?_, ?_⟩, ?_, ?_⟩; rotate_left 2; (first | (right; rintro r rfl; rfl) | left); all_goals ((try simp -implicitDefEqProofs (disch := omega) only [go_sem, ht]) <;> rfl)) (short_calls hy) ?_; rintro _ nx - rfl hnx; simp -implicitDefEqProofs (disch := omega) only [go_sem, ht])
        (refine pCall_vw (by refine ⟨⟨?_, ?_⟩, ?_, ?_⟩; rotate_left 2; (first | (right; rintro r rfl; rfl) | left); all_goals ((try simp -implicitDefEqProofs (disch := omega) only [go_sem, ht]) <;> rfl)) (hcm) ?_; rintro _ nx - rfl hnx; simp -implicitDefEqProofs (disch := omega) only [go_sem, ht])
        (refine pCall_own2 (mk := fun p q => .tup [p, q]) (mk_ll) (by simp -implicitDefEqProofs (disch := omega) only [go_sem, ht] <;> rfl) (by simp -implicitDefEqProofs (disch := omega) only [go_sem, ht]) (closedL_U _) (flatL_U _) (closedL_U _) (flatL_U _) (hlong (by omega) (by omega)) ?_; intro id1 cap1 rest1 jd1 dap1 sest1 nx1 hid1 hnx1 hjd1 hmx1 hne1 hcap1 hdap1; simp only [put_nx, withH_nx, begP_nx, List.length_map] at hid1 hjd1 hcap1 hdap1; simp -implicitDefEqProofs (disch := omega) only [go_sem, ht])
        exact end_own2 (mk := fun p q => .tup [p, q, .val (.bool true)]) (by simp -implicitDefEqProofs (disch := omega) only [go_sem, ht] <;> rfl) (by omega) (by simp -implicitDefEqProofs (disch := omega) only [go_sem, ht] <;> rfl) (by simp -implicitDefEqProofs (disch := omega) only [go_sem, ht] <;> rfl) (by simp <;> omega) (by simp <;> omega) (by simp <;> omega) (by simp <;> omega)
theorem divmod_of {xs ys : List Nat} (hx : Ok xs) (hy : Ok ys)
    (hlong : 4294967296 ≤ V ys → V ys ≤ V xs → PO2 Try.prog 127 [SU (D (V xs)), SU (D (V ys))] (fun p q => .tup [p, q]) ((D (V xs / V ys)).map U) ((D (V xs % V ys)).map U)) :
    PT Try.prog 104 [SU xs, SU ys] (isV (divP (V xs) (V ys))) := by
  have := PO2.tree (mk_llv _) (flatL_U _) (flatL_U _) (divmod_own_of hx hy hlong)
  simpa [divP, SU_def] using this
end Go.Proofs.Ytfjdfnlkobeehaa

namespace Go.Proofs.Ytfjdfnlkobeehaa

theorem V_set {zs : List Nat} {k v : Nat} (h : k < zs.length) : V (zs.set k v) + 4294967296 ^ k * zs.getD k 0 = V zs + 4294967296 ^ k * v := by
  induction zs generalizing k with
  | nil => simp at h
  | cons z zs ih =>
    cases k with
    | zero => simp [V]; omega
    | succ k =>
      have := ih (k := k) (by simpa using h)
      simp only [List.set_cons_succ, V, Nat.pow_succ, List.getD_cons_succ]
      have h2 : 4294967296 * (V (zs.set k v) + 4294967296 ^ k * zs.getD k 0) = 4294967296 * (V zs + 4294967296 ^ k * v) := by rw [this]
      rw [Nat.mul_add, Nat.mul_add, ← Nat.mul_assoc, ← Nat.mul_assoc, Nat.mul_comm 4294967296 (4294967296 ^ k)] at h2
      omega
theorem V_set_take {zs : List Nat} {k n v : Nat} (h : k < n) (hn : n ≤ zs.length) : V ((zs.set k v).take n) + 4294967296 ^ k * zs.getD k 0 = V (zs.take n) + 4294967296 ^ k * v := by
  have := V_set (zs := zs.take n) (k := k) (v := v) (by simp; omega)
  rw [← List.take_set, List.getD_eq_getElem?_getD, List.getElem?_take, if_pos h, ← List.getD_eq_getElem?_getD] at this
  exact this
theorem mul_step {zs vs : List Nat} {A x y c i j m P : Nat} (hm : j < m) (hz : i + m ≤ zs.length) (hv : V (vs.take (j + 1)) = V (vs.take j) + 4294967296 ^ j * y) (h : V (zs.take (i + m)) + 4294967296 ^ (i + j) * c = P + 4294967296 ^ i * (x * V (vs.take j))) :
    V ((zs.set (i + j) ((c + (x * y + zs.getD (i + j) 0)) % 4294967296)).take (i + m)) + 4294967296 ^ (i + (j + 1)) * ((c + (x * y + zs.getD (i + j) 0)) / 4294967296) = P + 4294967296 ^ i * (x * V (vs.take (j + 1))) := by
  have h1 := V_set_take (zs := zs) (k := i + j) (n := i + m) (v := (c + (x * y + zs.getD (i + j) 0)) % 4294967296) (by omega) hz
  generalize zs.getD (i + j) 0 = z at *
  have h2 := Nat.mod_add_div (c + (x * y + z)) 4294967296
  generalize (c + (x * y + z)) % 4294967296 = r at *
  generalize (c + (x * y + z)) / 4294967296 = q at *
  have h3 : 4294967296 ^ (i + j) * (r + 4294967296 * q) = 4294967296 ^ (i + j) * (c + (x * y + z)) := by rw [h2]
  have h4 : 4294967296 ^ i * (x * V (vs.take (j + 1))) = 4294967296 ^ i * (x * V (vs.take j)) + 4294967296 ^ (i + j) * (x * y) := by
    rw [hv, Nat.mul_add, Nat.mul_add, Nat.pow_add, Nat.mul_left_comm x, Nat.mul_assoc]
  rw [h4, ← Nat.add_assoc i j 1, Nat.pow_succ, Nat.mul_assoc]
  rw [Nat.mul_add, Nat.mul_add, Nat.mul_add] at h3
  omega
theorem mul_end {us zs : List Nat} {c i m W : Nat} (hi : i < us.length) (hz : i + m < zs.length) (h : V (zs.take (i + m)) + 4294967296 ^ (i + m) * c = V (us.take i) * W + 4294967296 ^ i * (us.getD i 0 * W)) :
    V ((zs.set (i + m) c).take (i + 1 + m)) = V (us.take (i + 1)) * W := by
  rw [Nat.add_right_comm, V_take_succ _ (by simpa using hz), List.take_set_of_le (Nat.le_refl _), List.getD_eq_getElem?_getD, List.getElem?_set_self hz, V_take_succ us hi, Nat.add_mul, Nat.mul_assoc, ← h]
  rfl

theorem mul_calls {xs ys : List Nat} (hx : Ok xs) (hy : Ok ys) : PL 48 [SU xs, SU ys] (D (V xs * V ys)) := by
  have hx' := hx.short
  have hy' := hy.short
  have hdx := V_D (V xs)
  have hdy := V_D (V ys)
  have := hx.short.len
  have := hy.short.len
  refine PCalls.enter (n := 79) (rs := [.tmp 4]) (tb := []) Try.func48 rfl rfl rfl (by kernel_rfl) (by kernel_rfl) (by simp) fun c hc ht => ?_
  simp -implicitDefEqProofs (disch := omega) only [go_sem, ht]
  by_cases h0 : V xs = 0
  · have hl : (D (V xs)).length = 0 := D_len_zero.2 h0
    (refine pCall_vw (by refine ⟨⟨?_, ?_⟩, ?_, ?_⟩; rotate_left 2; (first | (right; rintro r rfl; rfl) | left); all_goals ((try simp -implicitDefEqProofs (disch := omega) only [go_sem, ht]) <;> rfl)) (short_calls hx) ?_; rintro _ nx - rfl hnx; simp -implicitDefEqProofs (disch := omega) only [go_sem, ht])
    (refine pCall_vw (by refine ⟨⟨?_, ?_⟩, ?_, ?_⟩; rotate_left 2; (first | (right; rintro r rfl; rfl) | left); all_goals ((try simp -implicitDefEqProofs (disch := omega) only [go_sem, ht]) <;> rfl)) (short_calls hy) ?_; rintro _ nx - rfl hnx; simp -implicitDefEqProofs (disch := omega) only [go_sem, ht])
    rw [h0, Nat.zero_mul, D_zero]
    exact end_own_nil mk_id (by simp -implicitDefEqProofs (disch := omega) only [go_sem, ht])
  by_cases h1 : V ys = 0
  · have hl : (D (V ys)).length = 0 := D_len_zero.2 h1
    have hl2 := D_len_pos h0
    (refine pCall_vw (by refine ⟨⟨?_, ?_⟩, ?_, ?_⟩; rotate_left 2; (first | (right; rintro r rfl; rfl) | left); all_goals ((try simp -implicitDefEqProofs (disch := omega) only [go_sem, ht]) <;> rfl)) (short_calls hx) ?_; rintro _ nx - rfl hnx; simp -implicitDefEqProofs (disch := omega) only [go_sem, ht])
    (refine pCall_vw (by refine ⟨⟨?_, ?_⟩, ?_, ?_⟩; rotate_left 2; (first | (right; rintro r rfl; rfl) | left); all_goals ((try simp -implicitDefEqProofs (disch := omega) only [go_sem, ht]) <;> rfl)) (short_calls hy) ?_; rintro _ nx - rfl hnx; simp -implicitDefEqProofs (disch := omega) only [go_sem, ht])
    rw [h1, Nat.mul_zero, D_zero]
    exact end_own_nil mk_id (by simp -implicitDefEqProofs (disch := omega) only [go_sem, ht])
  have hl0 := D_len_pos h0
  have hl1 := D_len_pos h1
  (refine pCall_vw (by refine ⟨⟨?_, ?_⟩, ?_, ?_⟩; rotate_left 2; (first | (right; rintro r rfl; rfl) | left); all_goals ((try simp -implicitDefEqProofs (disch := omega) only [go_sem, ht]) <;> rfl)) (short_calls hx) ?_; rintro _ nx - rfl hnx; simp -implicitDefEqProofs (disch := omega) only [go_sem, ht])
  (refine pCall_vw (by refine ⟨⟨?_, ?_⟩, ?_, ?_⟩; rotate_left 2; (first | (right; rintro r rfl; rfl) | left); all_goals ((try simp -implicitDefEqProofs (disch := omega) only [go_sem, ht]) <;> rfl)) (short_calls hy) ?_; rintro _ nx - rfl hnx; simp -implicitDefEqProofs (disch := omega) only [go_sem, ht])
  have e : V xs * V ys = V (D (V xs)) * V (D (V ys)) := by rw [hdx, hdy]
  rw [e]
  clear e
  generalize D (V xs) = us at *
  generalize D (V ys) = vs at *
  clear hx hy h0 h1 hdx hdy
  refine LW.loopW hc ht (by kernel_rfl) (fun s => s.sl 1 = .sl vs.length (vs.map U) ∧ s.sl 29 = .sl us.length (us.map U) ∧ s.sl 30 = .val (.int .i64 us.length) ∧ ∃ i : Nat, i ≤ us.length ∧ s.sl 31 = .val (.int .i64 i) ∧
      ∃ (zs : List Nat) (id : Nat), zs.length = us.length + vs.length ∧ s.sl 5 = .ref id 0 (us.length + vs.length) (us.length + vs.length) 1 ∧ s.H id = some (zs.map U) ∧ id < s.nx ∧ Lm zs ∧ Hide (V (zs.take (i + vs.length)) = V (us.take i) * V vs))
      (fun s => match s.sl 31 with | .val (.int _ i) => us.length - i.toNat | _ => 0) ?_ ?_
  · simp -implicitDefEqProofs (disch := omega) only [go_sem, ht]
    exact ⟨0, Nat.zero_le _, rfl, List.replicate (us.length + vs.length) 0, nx, by simp, rfl, by rw [upd_self], by omega, Lm_repl _, Hide.mk (by rw [List.take_replicate, V_repl]; simp [V])⟩
  · rintro s ⟨h1, h29, h30, i, hi, h31, zs, id, hzl, h5, hH, hid, hzm, heq⟩
    by_cases hil : i = us.length
    · have e : V us * V vs = V zs := by
        have := heq.out
        rw [hil, ← hzl, List.take_length, List.take_length] at this
        exact this.symm
      rw [e]
      have := D_len_V hzm
      simp -implicitDefEqProofs (disch := omega) only [go_sem, ht, h1, h29, h30, h31, h5, hH]
      (apply pCall_mem; exact (short_own (xs := zs) (rest := []) hzm hzl (by omega) (Nat.le_refl _) (by simp -implicitDefEqProofs (disch := omega) only [hH, List.map_nil, go_sem, ht] <;> rfl)); rintro _ _ _ ⟨rfl, rfl, rfl⟩ -; simp -implicitDefEqProofs (disch := omega) only [hH, List.map_nil, go_sem, ht])
      exact end_own1 (mk := fun p => p) (by simp -implicitDefEqProofs (disch := omega) only [hH, own_split' hzm, go_sem, ht] <;> rfl) (by simp -implicitDefEqProofs (disch := omega) only [hH, own_split' hzm, go_sem, ht] <;> rfl) (by simp <;> omega) (by simp <;> omega)
    · have hxg := hx'.lm.get i
      simp -implicitDefEqProofs (disch := omega) only [go_sem, ht, h1, h29, h30, h31, h5, hH]
      refine LW.loopW hc ht (by kernel_rfl) (fun t => t.sl 1 = .sl vs.length (vs.map U) ∧ t.sl 6 = .val (.int .i64 i) ∧ t.sl 7 = .val (.int .u32 (us.getD i 0 : Nat)) ∧ t.sl 29 = .sl us.length (us.map U) ∧ t.sl 30 = .val (.int .i64 us.length) ∧ t.sl 31 = .val (.int .i64 i) ∧
        t.sl 36 = .sl vs.length (vs.map U) ∧ t.sl 37 = .val (.int .i64 vs.length) ∧ ∃ j : Nat, j ≤ vs.length ∧ t.sl 38 = .val (.int .i64 j) ∧
        ∃ (zs : List Nat) (id c : Nat), zs.length = us.length + vs.length ∧ t.sl 5 = .ref id 0 (us.length + vs.length) (us.length + vs.length) 1 ∧ t.H id = some (zs.map U) ∧ id < t.nx ∧ Lm zs ∧ t.sl 8 = .val (.int .u64 c) ∧ c < 4294967296 ∧
          Hide (V (zs.take (i + vs.length)) + 4294967296 ^ (i + j) * c = V (us.take i) * V vs + 4294967296 ^ i * (us.getD i 0 * V (vs.take j))))
        (fun t => match t.sl 38 with | .val (.int _ j) => vs.length - j.toNat | _ => 0) ?_ ?_
      · simp -implicitDefEqProofs (disch := omega) only [go_sem, ht, h1, h29, h30, h31, h5, hH]
        exact ⟨0, Nat.zero_le _, rfl, zs, id, 0, hzl, rfl, hH, hid, hzm, rfl, by omega, Hide.mk (by rw [heq.out]; simp [V])⟩
      · clear h1 h29 h30 h5 hH hid hzm heq hzl zs id
        rintro t ⟨h1, h6, h7, h29, h30, h31', h36, h37, j, hj, h38, zs, id, c', hzl, h5, hH, hid, hzm, h8, hc', heq⟩
        have hset : ∀ k z, z < 4294967296 → Lm (zs.set k z) := fun k z hz x hx => by
          rcases List.mem_or_eq_of_mem_set hx with h | h
          · exact hzm x h
          · omega
        by_cases hjl : j = vs.length
        · have key : Hide (V ((zs.set (i + vs.length) c').take (i + 1 + vs.length)) = V (us.take (i + 1)) * V vs) := by
            have := heq.out
            rw [hjl, List.take_length] at this
            exact Hide.mk (mul_end (by omega) (by omega) this)
          clear heq
          simp -implicitDefEqProofs (disch := omega) only [go_sem, ht, h1, h6, h7, h29, h30, h31', h36, h37, h38, h5, hH, h8]
          exact ⟨⟨i + 1, by omega, rfl, _, id, by simp [hzl], rfl, upd_self _ _ _, hid, hset _ _ hc', key⟩, by omega⟩
        · have hyg := hy'.lm.get j
          have hzg := hzm.get (i + j)
          have key := Hide.mk (mul_step (A := 0) (by omega : j < vs.length) (by omega) (V_take_succ vs (by omega)) heq.out)
          have hxy : us.getD i 0 * vs.getD j 0 ≤ 4294967295 * 4294967295 := Nat.mul_le_mul (by omega) (by omega)
          clear heq
          simp -implicitDefEqProofs (disch := omega) only [go_sem, ht, h1, h6, h7, h29, h30, h31', h36, h37, h38, h5, hH, h8]
          exact ⟨⟨j + 1, by omega, rfl, _, id, _, by simp [hzl], rfl, upd_self _ _ _, hid, hset _ _ (Nat.mod_lt _ (by decide)), rfl, by omega, key⟩, by omega⟩
end Go.Proofs.Ytfjdfnlkobeehaa
end
