/- What the laws lend. -/
import Derived.Test.YtgebemjmckgomaaLawB
set_option maxRecDepth 100000
set_option linter.unusedVariables false
set_option linter.unusedSimpArgs false
namespace Go.Proofs.Ytgebemjmckgomaa

/-- A list of limbs, lent: with marked room ahead of it and behind it. -/
def lentAt (xs : List Nat) (i : Nat) : Nat := if 5 ≤ i ∧ i < 5 + xs.length then xs.getD (i - 5) 0 else 2779096485 + i
def lent (xs : List Nat) : List Nat := (List.range (xs.length + 10)).map (lentAt xs)
theorem lent_len (xs : List Nat) : (lent xs).length = xs.length + 10 := by simp [lent]
theorem lent_get {xs : List Nat} {i : Nat} (h : i < xs.length + 10) : (lent xs).getD i 0 = lentAt xs i := by
  unfold lent
  rw [List.getD_eq_getElem?_getD, List.getElem?_map, List.getElem?_range h]; rfl
theorem lent_mid (xs : List Nat) : List.take xs.length (List.drop 5 ((lent xs).map U)) = xs.map U := by
  rw [← List.map_drop, ← List.map_take]
  congr 1
  refine list_ext0 (by simp [lent_len]) fun i hi => ?_
  have hi' : i < xs.length := by simp [lent_len] at hi; omega
  rw [List.getD_eq_getElem?_getD, List.getElem?_take, if_pos hi', List.getElem?_drop, ← List.getD_eq_getElem?_getD, lent_get (by omega)]
  unfold lentAt
  rw [if_pos (by omega), Nat.add_sub_cancel_left]
theorem lent_lm {xs : List Nat} (h : Lm xs) (hl : xs.length ≤ 1500) : Lm (lent xs) := by
  intro x hx
  unfold lent at hx
  obtain ⟨i, hi, rfl⟩ := List.mem_map.1 hx
  have := List.mem_range.1 hi
  unfold lentAt
  split
  · exact h.get _
  · omega

/-- What Lend leaves. -/
def lendQ (H : Nat → Option (List PV)) (nx idx : Nat) (xs : List Nat) (r : PV) (H' : Nat → Option (List PV)) (nx' : Nat) : Prop :=
  ∃ id, nx ≤ id ∧ id < nx' ∧ r = .ref id 5 xs.length (xs.length + 5) 1 ∧ H' idx = some [.ref id 0 (xs.length + 10) (xs.length + 10) 1, .val (.int .i64 xs.length)] ∧ H' id = some ((lent xs).map U) ∧ ∀ j, j ≠ idx → j ≠ id → H' j = H j

theorem copy_lent {zs xs : List Nat} (hz : zs.length = xs.length + 10) (h : ∀ i, i < xs.length + 10 → zs.getD i 0 = 2779096485 + i) : spl (zs.map U) 5 (xs.map U) = (lent xs).map U := by
  have e : spl (zs.map U) 5 (xs.map U) = (zs.take 5 ++ (xs ++ zs.drop (5 + xs.length))).map U := by
    unfold spl; simp
  rw [e]
  congr 1
  refine list_ext0 (by rw [lent_len]; simp; omega) fun i hi => ?_
  have hi' : i < xs.length + 10 := by simp at hi; omega
  rw [lent_get hi']
  unfold lentAt
  rw [List.getD_eq_getElem?_getD]
  by_cases h1 : i < 5
  · rw [if_neg (by omega), List.getElem?_append_left (by simp; omega), List.getElem?_take, if_pos h1, ← List.getD_eq_getElem?_getD, h i hi']
  · rw [List.getElem?_append_right (by simp; omega)]
    have e5 : (zs.take 5).length = 5 := by simp; omega
    rw [e5]
    by_cases h2 : i < 5 + xs.length
    · rw [if_pos (by omega), List.getElem?_append_left (by omega), ← List.getD_eq_getElem?_getD]
    · rw [if_neg (by omega), List.getElem?_append_right (by omega), List.getElem?_drop, show 5 + xs.length + (i - 5 - xs.length) = i by omega, ← List.getD_eq_getElem?_getD, h i hi']

theorem lend_calls {H : Nat → Option (List PV)} {nx idx : Nat} {xs : List Nat} (hx : Lm xs) (hl : xs.length ≤ 1500) (hH : H idx = some [.val (.slice none 0 0), .val (.int .i64 0)]) (hid : idx < nx) :
    PCalls Try.prog 82 [.ptr idx 0, SU xs] H nx (lendQ H nx idx xs) := by
  refine PCalls.enter (n := 51) (rs := [.tmp 4]) (tb := []) Try.func82 rfl rfl rfl (by kernel_rfl) (by kernel_rfl) (by simp) fun c hc ht => ?_
  simp -implicitDefEqProofs (disch := omega) only [go_sem, ht, hH, eq_self]
  refine LW.loopW hc ht (by kernel_rfl) (fun t => t.sl 0 = .ptr idx 0 ∧ t.sl 1 = .sl xs.length (xs.map U) ∧ t.nx = nx + 1 ∧ ∃ k : Nat, k ≤ xs.length + 10 ∧ t.sl 5 = .val (.int .i64 k) ∧ t.H idx = some [.ref nx 0 (xs.length + 10) (xs.length + 10) 1, .val (.int .i64 0)] ∧
      ∃ zs : List Nat, t.H nx = some (zs.map U) ∧ zs.length = xs.length + 10 ∧ (∀ i, i < k → zs.getD i 0 = 2779096485 + i) ∧ ∀ j, j ≠ idx → j ≠ nx → t.H j = H j)
      (fun t => match t.sl 5 with | .val (.int _ k) => xs.length + 10 - k.toNat | _ => 0) ?_ ?_
  · simp -implicitDefEqProofs (disch := omega) only [go_sem, ht, hH, eq_self]
    exact ⟨0, Nat.zero_le _, rfl, List.replicate (xs.length + 10) 0, rfl, by simp, fun i h => by omega, fun j h1 h2 => by rw [upd_ne _ _ h1, upd_ne _ _ h2]⟩
  · rintro t ⟨h0, h1, en, k, hk, h5, hHx, zs, hHz, hzl, hz, hfr⟩
    by_cases hkl : k = xs.length + 10
    · have hcp := copy_lent hzl (fun i hi => hz i (by omega))
      have hmin : Nat.min xs.length (xs.length + 10 - 5) = xs.length := Nat.min_eq_left (by omega)
      have htk : List.take xs.length (xs.map U) = xs.map U := List.take_of_length_le (by simp)
      simp -implicitDefEqProofs (disch := omega) only [go_sem, ht, h0, h1, h5, hHx, hHz, eq_self]
      (refine copy_own (by simp -implicitDefEqProofs (disch := omega) only [srcP_ref, srcP_sl, srcP_nil, h0, h1, hHx, hHz, hmin, htk, hcp, go_sem, ht, eq_self] <;> rfl) (by simp -implicitDefEqProofs (disch := omega) only [srcP_ref, srcP_sl, srcP_nil, h0, h1, hHx, hHz, hmin, htk, hcp, go_sem, ht, eq_self] <;> rfl) (by simp -implicitDefEqProofs (disch := omega) only [srcP_ref, srcP_sl, srcP_nil, h0, h1, hHx, hHz, hmin, htk, hcp, go_sem, ht, eq_self] <;> rfl) (by simp -implicitDefEqProofs (disch := omega) only [srcP_ref, srcP_sl, srcP_nil, h0, h1, hHx, hHz, hmin, htk, hcp, go_sem, ht, eq_self] <;> rfl) (by simp -implicitDefEqProofs (disch := omega) only [srcP_ref, srcP_sl, srcP_nil, h0, h1, hHx, hHz, hmin, htk, hcp, go_sem, ht, eq_self] <;> rfl) (by simp <;> omega) ?_; simp -implicitDefEqProofs (disch := omega) only [srcP_ref, srcP_sl, srcP_nil, h0, h1, hHx, hHz, hmin, htk, hcp, go_sem, ht, eq_self])
      refine end_plain (by simp -implicitDefEqProofs (disch := omega) only [go_sem, ht, eq_self] <;> rfl) ?_
      simp only [tupP_1]
      unfold lendQ
      simp -implicitDefEqProofs (disch := omega) only [go_sem, ht, h0, hHx, hHz, hmin, htk, hcp, en, eq_self]
      exact ⟨nx, Nat.le_refl _, Nat.lt_succ_self _, by rw [show 5 + xs.length - 5 = xs.length by omega, show xs.length + 10 - 5 = xs.length + 5 by omega], rfl, upd_self _ _ _, fun j h1 h2 => by rw [upd_ne _ _ h2, upd_ne _ _ h1]; exact hfr j h1 h2⟩
    · simp -implicitDefEqProofs (disch := omega) only [go_sem, ht, h0, h1, h5, hHx, hHz, en, eq_self]
      exact ⟨⟨k + 1, by omega, rfl, zs.set k (2779096485 + k), rfl, by simp [hzl], fun i hi => by
        by_cases hik : i = k
        · subst hik
          rw [List.getD_eq_getElem?_getD, List.getElem?_set_self (by omega)]; rfl
        · rw [List.getD_eq_getElem?_getD, List.getElem?_set_ne (Ne.symm hik), ← List.getD_eq_getElem?_getD]
          exact hz i (by omega), fun j h1 h2 => by rw [upd_ne _ _ h2]; exact hfr j h1 h2⟩, by omega⟩

/-- What Back leaves. -/
def backQ (H : Nat → Option (List PV)) (id : Nat) (r : PV) (H' : Nat → Option (List PV)) (_ : Nat) : Prop :=
  r = .val (.bool true) ∧ ∀ j, j ≠ id → H' j = H j

theorem back_calls {H : Nat → Option (List PV)} {nx idx id : Nat} {xs : List Nat} (hx : Lm xs) (hl : xs.length ≤ 1500) (hHx : H idx = some [.ref id 0 (xs.length + 10) (xs.length + 10) 1, .val (.int .i64 xs.length)])
    (hHz : H id = some ((lent xs).map U)) (hne : idx ≠ id) : PCalls Try.prog 42 [.ptr idx 0, SU xs] H nx (backQ H id) := by
  have hll := lent_len xs
  have hlm := lent_lm hx hl
  refine PCalls.enter (n := 68) (rs := [.tmp 4]) (tb := [(9, [(0, []), (1, []), (2, []), (3, []), (4, []), (5, []), (6, []), (7, []), (8, []), (9, []), (10, []), (11, []), (12, []), (13, []), (14, [])]), (1000009, [(0, []), (1, []), (3, []), (7, []), (0, []), (0, []), (32, []), (96, []), (224, []), (0, []), (992, []), (2016, []), (4064, []), (8191, []), (16383, [])])]) Try.func42 rfl rfl rfl (by kernel_rfl) (by kernel_rfl) (by simp) fun c hc ht => ?_
  simp -implicitDefEqProofs (disch := omega) only [go_sem, ht, hHx, eq_self]
  refine LW.loopW hc ht (by kernel_rfl) (fun t => t.sl 0 = .ptr idx 0 ∧ t.sl 1 = .sl xs.length (xs.map U) ∧ ∃ k : Nat, k ≤ xs.length + 10 ∧ t.sl 6 = .val (.int .i64 k) ∧ t.sl 5 = .val (.bool true) ∧ t.H idx = some [.ref id 0 (xs.length + 10) (xs.length + 10) 1, .val (.int .i64 xs.length)] ∧
      ∃ zs : List Nat, t.H id = some (zs.map U) ∧ zs.length = xs.length + 10 ∧ zs.drop k = (lent xs).drop k ∧ ∀ j, j ≠ id → t.H j = H j)
      (fun t => match t.sl 6 with | .val (.int _ k) => xs.length + 10 - k.toNat | _ => 0) ?_ ?_
  · simp -implicitDefEqProofs (disch := omega) only [go_sem, ht, hHx, hHz, eq_self]
    exact ⟨0, Nat.zero_le _, rfl, lent xs, rfl, hll, rfl, fun _ _ => trivial⟩
  · rintro t ⟨h0, h1, k, hk, h6, h5, hHx, zs, hHz, hzl, hz, hfr⟩
    by_cases hkl : k = xs.length + 10
    · simp -implicitDefEqProofs (disch := omega) only [go_sem, ht, h0, h1, h5, h6, hHx, hHz, eq_self]
      refine end_plain (by simp -implicitDefEqProofs (disch := omega) only [go_sem, ht, h0, h1, h5, h6, eq_self] <;> rfl) ?_
      simp only [tupP_1]
      unfold backQ
      simp -implicitDefEqProofs (disch := omega) only [go_sem, ht, h0, h1, h5, h6, eq_self]
      exact hfr
    · have hg : zs.getD k 0 = lentAt xs k := by rw [getD_of_drop hz, lent_get (by omega)]
      have hzlt : zs.getD k 0 < 4294967296 := by
        rw [getD_of_drop hz]; exact hlm.get k
      have hp2 := drop_set_succ (x := 4294967295 - zs.getD k 0) hz
      unfold lentAt at hg
      by_cases hm : 5 ≤ k ∧ k < 5 + xs.length
      · rw [if_pos hm] at hg
        have hxg := hx.get (k - 5)
        obtain ⟨hm1, hm2⟩ := hm
        simp -implicitDefEqProofs (disch := omega) only [go_sem, ht, h0, h1, h5, h6, hHx, hHz, hg, eq_self]
        exact ⟨⟨k + 1, by omega, rfl, _, rfl, by simp [hzl], drop_set_succ hz, fun j h1 => by rw [upd_ne _ _ h1]; exact hfr j h1⟩, by omega⟩
      · rw [if_neg hm] at hg
        by_cases hk5 : 5 ≤ k
        · simp -implicitDefEqProofs (disch := omega) only [go_sem, ht, h0, h1, h5, h6, hHx, hHz, hg, eq_self]
          exact ⟨⟨k + 1, by omega, rfl, _, rfl, by simp [hzl], drop_set_succ hz, fun j h1 => by rw [upd_ne _ _ h1]; exact hfr j h1⟩, by omega⟩
        · simp -implicitDefEqProofs (disch := omega) only [go_sem, ht, h0, h1, h5, h6, hHx, hHz, hg, eq_self]
          exact ⟨⟨k + 1, by omega, rfl, _, rfl, by simp [hzl], drop_set_succ hz, fun j h1 => by rw [upd_ne _ _ h1]; exact hfr j h1⟩, by omega⟩
end Go.Proofs.Ytgebemjmckgomaa
