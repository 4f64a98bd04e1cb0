/- Part 36 of the way to the statement: the walk and what it needs. -/
import Derived.Test.YtfjdfnlkobeehaaKSpF35
section
set_option maxRecDepth 100000
set_option linter.unusedVariables false
set_option linter.unusedSimpArgs false
namespace Go.Proofs.Ytfjdfnlkobeehaa

theorem awake_ech : echT [[2, 4, 2], [1, 2, 3]] 3 = [[1, 2, 0], [0, 0, 1]] := by decide +kernel
theorem D_small {n : Nat} (h : n < 4294967296) : (D n).length ≤ 1 := by
  by_cases h0 : n = 0
  · subst h0; rw [D_zero]; simp
  · rw [D_one (by omega) h]; simp
theorem CZ_lm (zs : List Int) : ∀ p ∈ CZ zs, Lm p.2 := fun p hp => by
  obtain ⟨z, hz, rfl⟩ := List.mem_map.1 hp
  exact Lm_D _
theorem CZ_ok {zs : List Int} {k : Nat} (h : ∀ z ∈ zs, Z k z) (hk : k ≤ 1099511627776) : ∀ p ∈ CZ zs, Ok p.2 := fun p hp => by
  obtain ⟨z, hz, rfl⟩ := List.mem_map.1 hp
  exact (h z hz).ok hk
theorem lenW_CZ {zs : List Int} {k : Nat} (h : ∀ z ∈ zs, Z k z) : lenW (CZ zs) ≤ zs.length * (k + 1) := by
  induction zs with
  | nil => simp [CZ, lenW]
  | cons z zs ih =>
    have h1 := (h z (List.mem_cons_self ..)).len
    have h2 := ih fun x hx => h x (List.mem_cons_of_mem _ hx)
    have e : CZ (z :: zs) = toC z :: CZ zs := rfl
    rw [e]
    simp only [lenW, toC, List.length_cons, Nat.succ_mul]
    omega
theorem lenM_CZ {W : List (List Int)} {k cols : Nat} (h : ∀ z ∈ W, z.length ≤ cols ∧ ∀ x ∈ z, Z k x) : lenM (W.map CZ) ≤ W.length * (1 + cols * (k + 1)) := by
  unfold lenM
  induction W with
  | nil => simp
  | cons z W ih =>
    obtain ⟨h1, h2⟩ := h z (List.mem_cons_self ..)
    have h3 := ih fun x hx => h x (List.mem_cons_of_mem _ hx)
    have h4 := lenW_CZ h2
    have h5 : z.length * (k + 1) ≤ cols * (k + 1) := Nat.mul_le_mul_right _ h1
    simp only [List.map_cons, List.sum_cons, List.length_cons, Nat.succ_mul]
    omega
theorem Mx.C {W : List (List Int)} {k cols B : Nat} (h : ∀ z ∈ W, z.length ≤ cols ∧ ∀ x ∈ z, Z k x) (hB : W.length * (1 + cols * (k + 1)) ≤ B) (h2 : 2 * (B + 1) + 1 ≤ 1000000) : Mx (W.map CZ) B :=
  ⟨fun l hl p hp => by obtain ⟨z, hz, rfl⟩ := List.mem_map.1 hl; exact CZ_lm z p hp, Nat.le_trans (lenM_CZ h) hB, h2⟩
theorem awake_matrix : PT Try.prog 11 [] (isV (.val (.bool true))) := by
  have hz : ∀ (zs : List Int), (∀ z ∈ zs, 0 ≤ z ∧ z ≤ 4) → ∀ z ∈ zs, -9223372036854775808 ≤ z ∧ z ≤ 9223372036854775807 := fun zs h z hz => by have := h z hz; omega
  have hZ : ∀ (zs : List Int), (∀ z ∈ zs, 0 ≤ z ∧ z ≤ 4) → ∀ z ∈ zs, Z 1 z := fun zs h z hz => Z2 (by have := h z hz; omega)
  have a1 : ∀ z ∈ [2, 4, 2], (0 : Int) ≤ z ∧ z ≤ 4 := by decide
  have a2 : ∀ z ∈ [1, 2, 3], (0 : Int) ≤ z ∧ z ≤ 4 := by decide
  have a3 : ∀ z ∈ [1, 2, 0], (0 : Int) ≤ z ∧ z ≤ 4 := by decide
  have a4 : ∀ z ∈ [0, 0, 1], (0 : Int) ≤ z ∧ z ≤ 4 := by decide
  have r1 := row_calls (zs := [2, 4, 2]) (hz _ a1) (by simp)
  have r2 := row_calls (zs := [1, 2, 3]) (hz _ a2) (by simp)
  have r3 := row_calls (zs := [1, 2, 0]) (hz _ a3) (by simp)
  have r4 := row_calls (zs := [0, 0, 1]) (hz _ a4) (by simp)
  have hm : Mx ([[2, 4, 2], [1, 2, 3]].map CZ) 100 := .C (k := 1) (cols := 3) (fun z hz => by
    rcases List.mem_cons.1 hz with rfl | hz
    · exact ⟨by simp, hZ _ a1⟩
    · have : z = [1, 2, 3] := by simpa using hz
      subst this; exact ⟨by simp, hZ _ a2⟩) (by simp) (by omega)
  have he := mech_calls hm (cn := 3)
  have hv : ([[2, 4, 2], [1, 2, 3]].map CZ).map vals = [[2, 4, 2], [1, 2, 3]] := by simp [vals_CZ]
  have hw : wrongM ([[2, 4, 2], [1, 2, 3]].map CZ) 3 = false := decide_eq_false (by simp [CZ_len])
  have hlg : longZ [[1, 2, 0], [0, 0, 1]] = false := decide_eq_false (by
    rintro ⟨z, hzm, x, hx, hlt⟩
    have : x.natAbs < 4294967296 := by
      rcases List.mem_cons.1 hzm with rfl | hzm
      · have := a3 x hx; omega
      · have : z = [0, 0, 1] := by simpa using hzm
        subst this; have := a4 x hx; omega
    have := D_small this
    omega)
  have e : mEch ([[2, 4, 2], [1, 2, 3]].map CZ) 3 = ([[1, 2, 0], [0, 0, 1]], 0) := by
    unfold mEch
    rw [hw, if_neg (by simp), hv, show (3 : Int).toNat = 3 from rfl, awake_ech, hlg, if_neg (by simp)]
  rw [e] at he
  have hs := same_rows (m := [[1, 2, 0], [0, 0, 1]].map CZ) (m' := [[1, 2, 0], [0, 0, 1]].map CZ) (fun l hl => by
    rcases List.mem_cons.1 hl with rfl | hl
    · exact ⟨CZ_ok (hZ _ a3) (by omega), by simp [CZ_len]⟩
    · have : l = CZ [0, 0, 1] := by simpa using hl
      subst this; exact ⟨CZ_ok (hZ _ a4) (by omega), by simp [CZ_len]⟩) (fun l hl => by
    rcases List.mem_cons.1 hl with rfl | hl
    · exact CZ_ok (hZ _ a3) (by omega)
    · have : l = CZ [0, 0, 1] := by simpa using hl
      subst this; exact CZ_ok (hZ _ a4) (by omega)) (by simp)
  rw [decide_eq_true rfl] at hs
  have l1 := CZ_len [2, 4, 2]
  have l2 := CZ_len [1, 2, 3]
  have l3 := CZ_len [1, 2, 0]
  have l4 := CZ_len [0, 0, 1]
  simp only [List.map_cons, List.map_nil, vi_def, List.length_cons, List.length_nil, SM_def] at r1 r2 r3 r4 he hs l1 l2 l3 l4
  refine PCalls.enter (n := 23) (rs := [.tmp 0]) (tb := []) Try.func11 rfl rfl rfl (by kernel_rfl) (by kernel_rfl) (by simp) fun c hc ht => ?_
  simp -implicitDefEqProofs (disch := omega) only [go_sem, ht]
  (refine pCall_frz (fun _ => true) 1 (by simp -implicitDefEqProofs (disch := omega) only [go_sem, ht] <;> rfl) (by simp -implicitDefEqProofs (disch := omega) only [go_sem, ht]) (by simp -implicitDefEqProofs (disch := omega) only [go_sem, ht] <;> rfl) (by simp -implicitDefEqProofs (disch := omega) only [go_sem, ht]) (r1) ?_; rintro _ nx - rfl hnx; (try simp only [put_nx, withH_nx, begP_nx] at hnx); simp -implicitDefEqProofs (disch := omega) only [go_sem, ht])
  (refine pCall_frz (fun _ => true) 1 (by simp -implicitDefEqProofs (disch := omega) only [go_sem, ht] <;> rfl) (by simp -implicitDefEqProofs (disch := omega) only [go_sem, ht]) (by simp -implicitDefEqProofs (disch := omega) only [go_sem, ht] <;> rfl) (by simp -implicitDefEqProofs (disch := omega) only [go_sem, ht]) (r2) ?_; rintro _ nx - rfl hnx; (try simp only [put_nx, withH_nx, begP_nx] at hnx); simp -implicitDefEqProofs (disch := omega) only [go_sem, ht])
  (refine pCall_frz (fun _ => true) 1 (by simp -implicitDefEqProofs (disch := omega) only [go_sem, ht] <;> rfl) (by simp -implicitDefEqProofs (disch := omega) only [go_sem, ht]) (by simp -implicitDefEqProofs (disch := omega) only [go_sem, ht] <;> rfl) (by simp -implicitDefEqProofs (disch := omega) only [go_sem, ht]) (he) ?_; rintro _ nx - rfl hnx; (try simp only [put_nx, withH_nx, begP_nx] at hnx); simp -implicitDefEqProofs (disch := omega) only [go_sem, ht])
  (refine pCall_frz (fun _ => true) 1 (by simp -implicitDefEqProofs (disch := omega) only [go_sem, ht] <;> rfl) (by simp -implicitDefEqProofs (disch := omega) only [go_sem, ht]) (by simp -implicitDefEqProofs (disch := omega) only [go_sem, ht] <;> rfl) (by simp -implicitDefEqProofs (disch := omega) only [go_sem, ht]) (r3) ?_; rintro _ nx - rfl hnx; (try simp only [put_nx, withH_nx, begP_nx] at hnx); simp -implicitDefEqProofs (disch := omega) only [go_sem, ht])
  (refine pCall_frz (fun _ => true) 1 (by simp -implicitDefEqProofs (disch := omega) only [go_sem, ht] <;> rfl) (by simp -implicitDefEqProofs (disch := omega) only [go_sem, ht]) (by simp -implicitDefEqProofs (disch := omega) only [go_sem, ht] <;> rfl) (by simp -implicitDefEqProofs (disch := omega) only [go_sem, ht]) (r4) ?_; rintro _ nx - rfl hnx; (try simp only [put_nx, withH_nx, begP_nx] at hnx); simp -implicitDefEqProofs (disch := omega) only [go_sem, ht])
  (refine pCall_frz (fun _ => true) 1 (by simp -implicitDefEqProofs (disch := omega) only [go_sem, ht] <;> rfl) (by simp -implicitDefEqProofs (disch := omega) only [go_sem, ht]) (by simp -implicitDefEqProofs (disch := omega) only [go_sem, ht] <;> rfl) (by simp -implicitDefEqProofs (disch := omega) only [go_sem, ht]) (hs) ?_; rintro _ nx - rfl hnx; (try simp only [put_nx, withH_nx, begP_nx] at hnx); simp -implicitDefEqProofs (disch := omega) only [go_sem, ht])
  (refine end_treeW 0 ?_; simp -implicitDefEqProofs (disch := omega) only [go_sem, ht])
end Go.Proofs.Ytfjdfnlkobeehaa
end

section
set_option linter.unusedVariables false
set_option linter.unusedSimpArgs false
namespace Go.Proofs.Ytfjdfnlkobeehaa


def kAt (by' : List Int) (i : Nat) : Int := if by' = [] then 1 else if by'.getD (i % by'.length) 0 = 0 then -3 else by'.getD (i % by'.length) 0
theorem kAt_ne (by' : List Int) (i : Nat) : kAt by' i ≠ 0 := by unfold kAt; split; decide; split; decide; assumption
def rowK (m : List (List (Bool × List Nat))) (by' : List Int) (i : Nat) : List Int := (vals (m.getD i [])).map (· * kAt by' i)
def sumK (m : List (List (Bool × List Nat))) (i : Nat) : List Int := List.zipWith (· + ·) (vals (m.getD i [])) (vals (m.getD ((i + 1) % m.length) []))

def oth (m : List (List (Bool × List Nat))) (by' : List Int) (j : Nat) : List (List Int) := (List.range j).flatMap fun q => [rowK m by' (m.length - 1 - q), sumK m (m.length - 1 - q)]
theorem oth_succ (m : List (List (Bool × List Nat))) (by' : List Int) (j : Nat) : oth m by' (j + 1) = oth m by' j ++ [rowK m by' (m.length - 1 - j), sumK m (m.length - 1 - j)] := by
  simp [oth, List.range_succ]
theorem oth_len (m : List (List (Bool × List Nat))) (by' : List Int) : ∀ j, (oth m by' j).length = 2 * j
  | 0 => rfl
  | j + 1 => by rw [oth_succ, List.length_append, oth_len m by' j]; simp; omega

theorem lenW_mulC {l : List (Bool × List Nat)} {k : Int} (hk : Z 2 k) (h : ∀ p ∈ l, Lm p.2) : lenW (CZ ((vals l).map (· * k))) ≤ lenW l + 2 * l.length := by
  induction l with
  | nil => simp [CZ, vals, lenW]
  | cons p l ih =>
    have h1 := ((Z.V (b := p.1) (h p (List.mem_cons_self ..)) (Nat.le_refl _)).mul hk).len
    have h2 := ih fun x hx => h x (List.mem_cons_of_mem _ hx)
    have e : CZ ((vals (p :: l)).map (· * k)) = toC (WV p.1 p.2 * k) :: CZ ((vals l).map (· * k)) := rfl
    rw [e]
    simp only [lenW, toC, List.length_cons]
    omega
theorem lenW_addC : ∀ {l l' : List (Bool × List Nat)}, (∀ p ∈ l, Lm p.2) → (∀ p ∈ l', Lm p.2) → lenW (CZ (List.zipWith (· + ·) (vals l) (vals l'))) ≤ lenW l + lenW l'
  | [], _, _, _ => by simp [CZ, vals, lenW]
  | _ :: _, [], _, _ => by simp [CZ, vals, lenW]
  | p :: l, q :: l', h, h' => by
    have h1 := ((Z.V (k := max p.2.length q.2.length) (b := p.1) (h p (List.mem_cons_self ..)) (by omega)).add (Z.V (k := max p.2.length q.2.length) (b := q.1) (h' q (List.mem_cons_self ..)) (by omega))).len
    have h2 := lenW_addC (l := l) (l' := l') (fun x hx => h x (List.mem_cons_of_mem _ hx)) (fun x hx => h' x (List.mem_cons_of_mem _ hx))
    have e : CZ (List.zipWith (· + ·) (vals (p :: l)) (vals (q :: l'))) = toC (WV p.1 p.2 + WV q.1 q.2) :: CZ (List.zipWith (· + ·) (vals l) (vals l')) := rfl
    rw [e]
    simp only [lenW, toC]
    omega
section
variable {m : List (List (Bool × List Nat))} {by' : List Int}
theorem oth_size (hm : ∀ l ∈ m, ∀ p ∈ l, Lm p.2) (hl : lenM m ≤ 1500) (hn : ∀ l ∈ m, l.length ≤ 32) (hk : ∀ i, Z 2 (kAt by' i)) : ∀ j, j ≤ m.length → lenM ((oth m by' j).map CZ) ≤ j * 5000
  | 0, _ => by simp [oth, lenM]
  | j + 1, hj => by
    have ih := oth_size hm hl hn hk j (by omega)
    have g1 := getD_mem (d := []) (show m.length - 1 - j < m.length by omega)
    have g2 := getD_mem (d := []) (show (m.length - 1 - j + 1) % m.length < m.length from Nat.mod_lt _ (by omega))
    have h1 := lenW_mulC (hk (m.length - 1 - j)) (hm _ g1)
    have h2 := lenW_addC (hm _ g1) (hm _ g2)
    have h3 := lenM_mem g1
    have h4 := lenM_mem g2
    have h5 := hn _ g1
    rw [oth_succ]
    unfold rowK sumK
    simp only [lenM, List.map_append, List.map_cons, List.map_nil, List.sum_append, List.sum_cons, List.sum_nil] at *
    omega
theorem oth_mem {z : List Int} : ∀ {j : Nat}, j ≤ m.length → z ∈ oth m by' j → ∃ i, i < m.length ∧ (z = rowK m by' i ∨ z = sumK m i)
  | 0, _, h => by simp [oth] at h
  | j + 1, hj, h => by
    rw [oth_succ] at h
    rcases List.mem_append.1 h with h | h
    · exact oth_mem (j := j) (by omega) h
    · simp only [List.mem_cons, List.not_mem_nil, or_false] at h
      exact ⟨_, by omega, h⟩
theorem mem_oth {i : Nat} : ∀ {j : Nat}, j ≤ m.length → m.length - j ≤ i → i < m.length → rowK m by' i ∈ oth m by' j
  | 0, _, h1, h2 => by omega
  | j + 1, hj, h1, h2 => by
    rw [oth_succ]
    by_cases h : m.length - j ≤ i
    · exact List.mem_append_left _ (mem_oth (j := j) (by omega) h h2)
    · have : m.length - 1 - j = i := by omega
      rw [this]
      exact List.mem_append_right _ (List.mem_cons_self ..)
theorem rowK_len (i : Nat) : (rowK m by' i).length = (m.getD i []).length := by unfold rowK; rw [List.length_map, vals_len]
theorem vc_rowK (i c : Nat) : vc (rowK m by' i) c = kAt by' i * vc (vals (m.getD i [])) c := by
  by_cases h : c < (vals (m.getD i [])).length
  · rw [vc_lt (by rw [rowK_len]; rw [vals_len] at h; exact h), vc_lt h]
    simp only [rowK, List.getElem_map]
    exact Int.mul_comm ..
  · rw [vc_ge (by rw [rowK_len]; rw [vals_len] at h; omega), vc_ge (by omega), Int.mul_zero]
theorem vc_sumK {i : Nat} (h : (m.getD i []).length = (m.getD ((i + 1) % m.length) []).length) (c : Nat) : vc (sumK m i) c = vc (vals (m.getD i [])) c + vc (vals (m.getD ((i + 1) % m.length) [])) c := by
  have e : (sumK m i).length = (m.getD i []).length := by unfold sumK; rw [List.length_zipWith, vals_len, vals_len]; omega
  by_cases hc : c < (m.getD i []).length
  · rw [vc_lt (by omega), vc_lt (by rw [vals_len]; exact hc), vc_lt (by rw [vals_len]; omega)]
    simp only [sumK, List.getElem_zipWith]
  · rw [vc_ge (by omega), vc_ge (by rw [vals_len]; omega), vc_ge (by rw [vals_len]; omega)]; rfl
theorem rows_mem {T : List (List Int)} {r : Vc} : rowsOf T r ↔ ∃ z ∈ T, r = vc z := by
  constructor
  · rintro ⟨i, hi, rfl⟩
    exact ⟨_, getD_mem hi, rfl⟩
  · rintro ⟨z, hz, rfl⟩
    obtain ⟨i, hi, rfl⟩ := mem_getD (d := []) hz
    exact ⟨i, hi, rfl⟩
theorem space_same {n : Nat} (hm : ∀ l ∈ m, ∀ p ∈ l, Lm p.2) (hl : lenM m ≤ 1500) (hn : ∀ l ∈ m, l.length = n) (hn32 : n ≤ 32) (h20 : m.length ≤ 20) (hk : ∀ i, Z 2 (kAt by' i)) :
    Mx ((oth m by' m.length).map CZ) 100000 ∧ (∀ l ∈ (oth m by' m.length).map CZ, l.length = n) ∧
    echT (((oth m by' m.length).map CZ).map vals) n = echT (m.map vals) n ∧ (echW (((oth m by' m.length).map CZ).map vals) n).2 = (echW (m.map vals) n).2 := by
  have hM' : Mx ((oth m by' m.length).map CZ) 100000 := by
    refine ⟨fun l hl p hp => ?_, ?_, by omega⟩
    · obtain ⟨z, _, rfl⟩ := List.mem_map.1 hl
      exact CZ_lm z p hp
    · have := oth_size hm hl (fun l h => by rw [hn l h]; exact hn32) hk m.length (Nat.le_refl _)
      omega
  have hM : Mx m 1500 := ⟨hm, hl, by omega⟩
  have hg : ∀ i, i < m.length → (m.getD i []).length = n := fun i hi => hn _ (getD_mem hi)
  have hlen : ∀ l ∈ (oth m by' m.length).map CZ, l.length = n := by
    intro l hl
    obtain ⟨z, hz, rfl⟩ := List.mem_map.1 hl
    rw [CZ_len]
    obtain ⟨i, hi, rfl | rfl⟩ := oth_mem (Nat.le_refl _) hz
    · rw [rowK_len]; exact hg i hi
    · unfold sumK; rw [List.length_zipWith, vals_len, vals_len, hg i hi, hg _ (Nat.mod_lt _ (by omega)), Nat.min_self]
  have hv : ((oth m by' m.length).map CZ).map vals = oth m by' m.length := by
    rw [List.map_map]
    conv => rhs; rw [← List.map_id (oth m by' m.length)]
    exact List.map_congr_left fun z _ => vals_CZ z
  have hmem : ∀ i, i < m.length → rowsOf (m.map vals) (vc (vals (m.getD i []))) := fun i hi => rows_mem.2 ⟨_, List.mem_map_of_mem (getD_mem hi), rfl⟩
  refine ⟨hM', hlen, ech_same hM' hM hlen hn (fun r hr => ?_) (fun r hr => ?_)⟩
  · rw [hv] at hr
    obtain ⟨z, hz, rfl⟩ := rows_mem.1 hr
    obtain ⟨i, hi, rfl | rfl⟩ := oth_mem (Nat.le_refl _) hz
    · exact .scale (a := kAt by' i) (g := 1) (.mem (hmem i hi)) (by decide) fun c => by rw [vc_rowK]; omega
    · exact .comb (a := 1) (b := 1) (g := 1) (.mem (hmem i hi)) (.mem (hmem _ (Nat.mod_lt (i + 1) (by omega)))) (by decide) fun c => by
        rw [vc_sumK (by rw [hg i hi, hg _ (Nat.mod_lt _ (by omega))])]; omega
  · obtain ⟨z, hz, rfl⟩ := rows_mem.1 hr
    obtain ⟨l, hl, rfl⟩ := List.mem_map.1 hz
    obtain ⟨i, hi, rfl⟩ := mem_getD (d := []) hl
    rw [hv]
    exact .scale (a := 1) (g := kAt by' i) (.mem (rows_mem.2 ⟨_, mem_oth (i := i) (Nat.le_refl _) (by omega) hi, rfl⟩)) (kAt_ne by' i) fun c => by rw [vc_rowK]; omega
end
end Go.Proofs.Ytfjdfnlkobeehaa
end

section
set_option maxRecDepth 100000
set_option linter.unusedVariables false
set_option linter.unusedSimpArgs false
namespace Go.Proofs.Ytfjdfnlkobeehaa

theorem dropD_at (D : Nat → Bool) (H : Nat → Option (List PV)) (i : Nat) : dropH D H i = if D i = true then none else H i := rfl
theorem fits_calls {m : List (List (Bool × List Nat))} {cn : Int} (hm : m.length ≤ 8796093022208) : PT Try.prog 13 [SM m, .val (.int .i64 cn)] (isV (.val (.bool (!wrongM m cn)))) := by
  by_cases h1 : cn < 0
  · rw [show wrongM m cn = true from decide_eq_true (.inl h1)]
    refine PCalls.enter (n := 30) (rs := [.tmp 4]) (tb := []) Try.func13 rfl rfl rfl (by kernel_rfl) (by kernel_rfl) (by simp) fun c hc ht => ?_
    simp -implicitDefEqProofs (disch := omega) only [go_sem, ht]
    (refine end_treeW 0 ?_; simp -implicitDefEqProofs (disch := omega) only [go_sem, ht, Bool.not_true])
  by_cases h2 : 32 < cn
  · rw [show wrongM m cn = true from decide_eq_true (.inr (.inl h2))]
    refine PCalls.enter (n := 30) (rs := [.tmp 4]) (tb := []) Try.func13 rfl rfl rfl (by kernel_rfl) (by kernel_rfl) (by simp) fun c hc ht => ?_
    simp -implicitDefEqProofs (disch := omega) only [go_sem, ht]
    (refine end_treeW 0 ?_; simp -implicitDefEqProofs (disch := omega) only [go_sem, ht, Bool.not_true])
  by_cases h3 : 64 < m.length
  · rw [show wrongM m cn = true from decide_eq_true (.inr (.inr (.inl h3)))]
    refine PCalls.enter (n := 30) (rs := [.tmp 4]) (tb := []) Try.func13 rfl rfl rfl (by kernel_rfl) (by kernel_rfl) (by simp) fun c hc ht => ?_
    simp -implicitDefEqProofs (disch := omega) only [go_sem, ht]
    (refine end_treeW 0 ?_; simp -implicitDefEqProofs (disch := omega) only [go_sem, ht, Bool.not_true])
  refine PCalls.enter (n := 30) (rs := [.tmp 4]) (tb := []) Try.func13 rfl rfl rfl (by kernel_rfl) (by kernel_rfl) (by simp) fun c hc ht => ?_
  simp -implicitDefEqProofs (disch := omega) only [go_sem, ht]
  refine LW.loopW hc ht (by kernel_rfl) (fun t => t.sl 0 = .sl m.length (m.map SW) ∧ t.sl 1 = .val (.int .i64 cn) ∧ ∃ i : Nat, i ≤ m.length ∧ t.sl 5 = .val (.int .i64 i) ∧ ∀ l ∈ m.take i, (l.length : Int) = cn)
    (fun t => match t.sl 5 with | .val (.int _ k) => m.length - k.toNat | _ => 0) ?_ ?_
  · simp -implicitDefEqProofs (disch := omega) only [go_sem, ht]
    exact ⟨0, Nat.zero_le _, rfl, by simp⟩
  · rintro t ⟨h0, h1', i, hi, h5, hall⟩
    by_cases hil : i = m.length
    · subst hil
      rw [List.take_length] at hall
      rw [show wrongM m cn = false from decide_eq_false (by
        rintro (h | h | h | ⟨l, hl, hne⟩)
        · exact h1 h
        · exact h2 h
        · exact h3 h
        · exact hne (hall l hl))]
      simp -implicitDefEqProofs (disch := omega) only [go_sem, ht, h0, h1', h5]
      (refine end_treeW 0 ?_; simp -implicitDefEqProofs (disch := omega) only [go_sem, ht, Bool.not_false])
    · have hlt : i < m.length := by omega
      have hgi := get_SM' hlt
      have hmem := getD_mem (d := []) hlt
      have hst := getD_take (d := []) hlt
      by_cases he : ((m.getD i []).length : Int) = cn
      · generalize m.getD i [] = l0 at *
        simp -implicitDefEqProofs (disch := omega) only [go_sem, ht, h0, h1', h5, hgi, he]
        refine ⟨⟨i + 1, by omega, rfl, fun l hl => ?_⟩, by omega⟩
        rw [hst] at hl
        rcases List.mem_append.1 hl with hl | hl
        · exact hall l hl
        · have : l = l0 := by simpa using hl
          rw [this]; exact he
      · rw [show wrongM m cn = true from decide_eq_true (.inr (.inr (.inr ⟨_, hmem, he⟩)))]
        generalize m.getD i [] = l0 at *
        simp -implicitDefEqProofs (disch := omega) only [go_sem, ht, h0, h1', h5, hgi, he]
        (refine end_treeW 0 ?_; simp -implicitDefEqProofs (disch := omega) only [go_sem, ht, Bool.not_true])
section
variable {m : List (List (Bool × List Nat))} {by' : List Int}
set_option maxHeartbeats 16000000 in
theorem space_gen {cn : Int} (hm : ∀ l ∈ m, ∀ p ∈ l, Lm p.2) (hb : lenM m + 1 ≤ 1048576) (lo : -9223372036854775808 ≤ cn) (hi : cn ≤ 9223372036854775807) (hby : ∀ z ∈ by', -9223372036854775808 ≤ z ∧ z ≤ 9223372036854775807) (hbl : by'.length ≤ 35184372087808) :
    PT Try.prog 3 [SM m, .val (.int .i64 cn), .sl by'.length (by'.map vi)] (isV (.val (.bool true))) := by
  have hlr := len_rows (m := m) (by omega)
  have hml := lenM_len m
  refine PCalls.enter (n := 122) (rs := [.tmp 6]) (tb := [(22, [(0, []), (1, []), (2, []), (3, []), (4, []), (5, []), (6, []), (7, []), (8, []), (9, [0, 1, 2, 3, 4, 5, 6, 7]), (10, [0]), (11, [0]), (12, []), (13, [])]), (1000022, [(0, []), (0, []), (0, []), (6, []), (14, []), (0, []), (62, []), (126, []), (0, []), (256, []), (1022, []), (2046, []), (4095, []), (8191, [])]), (23, [(0, []), (1, []), (2, []), (3, []), (4, []), (5, []), (6, []), (7, []), (8, []), (9, []), (10, []), (11, []), (12, [0]), (13, [0]), (14, []), (15, [])]), (1000023, [(0, []), (0, []), (0, []), (6, []), (14, []), (0, []), (62, []), (126, []), (0, []), (0, []), (768, []), (1792, []), (4094, []), (8190, []), (16383, []), (32767, [])])]) Try.func3 rfl rfl rfl (by kernel_rfl) (by kernel_rfl) (by simp) fun c hc ht => ?_
  simp -implicitDefEqProofs (disch := omega) only [go_sem, ht]
  ((refine pCall_vw (by refine ⟨⟨?_, ?_⟩, ?_, ?_⟩; rotate_left 2; (first | (right; rintro r rfl; rfl) | left); all_goals ((try simp -implicitDefEqProofs (disch := omega) only [go_sem, ht]) <;> rfl)) (awake_matrix) ?_; rintro _ nx_1 - rfl hnx_1; simp -implicitDefEqProofs (disch := omega) only [go_sem, ht]))
  by_cases hl : 1500 < lenM m
  · ((refine pCall_vw (by refine ⟨⟨?_, ?_⟩, ?_, ?_⟩; rotate_left 2; (first | (right; rintro r rfl; rfl) | left); all_goals ((try simp -implicitDefEqProofs (disch := omega) only [go_sem, ht]) <;> rfl)) (hlr) ?_; rintro _ nx_2 - rfl hnx_2; simp -implicitDefEqProofs (disch := omega) only [go_sem, ht]))
    (refine end_treeW 0 ?_; simp -implicitDefEqProofs (disch := omega) only [go_sem, ht])
  have hft := fits_calls (m := m) (cn := cn) (by omega)
  by_cases hw : wrongM m cn = true
  · rw [hw, Bool.not_true] at hft
    ((refine pCall_vw (by refine ⟨⟨?_, ?_⟩, ?_, ?_⟩; rotate_left 2; (first | (right; rintro r rfl; rfl) | left); all_goals ((try simp -implicitDefEqProofs (disch := omega) only [go_sem, ht]) <;> rfl)) (hlr) ?_; rintro _ nx_3 - rfl hnx_3; simp -implicitDefEqProofs (disch := omega) only [go_sem, ht]); (refine pCall_vw (by refine ⟨⟨?_, ?_⟩, ?_, ?_⟩; rotate_left 2; (first | (right; rintro r rfl; rfl) | left); all_goals ((try simp -implicitDefEqProofs (disch := omega) only [go_sem, ht]) <;> rfl)) (hft) ?_; rintro _ nx_4 - rfl hnx_4; simp -implicitDefEqProofs (disch := omega) only [go_sem, ht]))
    (refine end_treeW 0 ?_; simp -implicitDefEqProofs (disch := omega) only [go_sem, ht])
  have hw' : wrongM m cn = false := by simpa using hw
  rw [hw', Bool.not_false] at hft
  obtain ⟨n, rfl, hn32, hm64, hlc⟩ := wrongM_false hw'
  by_cases h00 : m.length = 0
  · ((refine pCall_vw (by refine ⟨⟨?_, ?_⟩, ?_, ?_⟩; rotate_left 2; (first | (right; rintro r rfl; rfl) | left); all_goals ((try simp -implicitDefEqProofs (disch := omega) only [h00, go_sem, ht]) <;> rfl)) (hlr) ?_; rintro _ nx_5 - rfl hnx_5; simp -implicitDefEqProofs (disch := omega) only [h00, go_sem, ht]); (refine pCall_vw (by refine ⟨⟨?_, ?_⟩, ?_, ?_⟩; rotate_left 2; (first | (right; rintro r rfl; rfl) | left); all_goals ((try simp -implicitDefEqProofs (disch := omega) only [h00, go_sem, ht]) <;> rfl)) (hft) ?_; rintro _ nx_6 - rfl hnx_6; simp -implicitDefEqProofs (disch := omega) only [h00, go_sem, ht]))
    (refine end_treeW 0 ?_; simp -implicitDefEqProofs (disch := omega) only [go_sem, ht])
  by_cases h20 : 20 < m.length
  · ((refine pCall_vw (by refine ⟨⟨?_, ?_⟩, ?_, ?_⟩; rotate_left 2; (first | (right; rintro r rfl; rfl) | left); all_goals ((try simp -implicitDefEqProofs (disch := omega) only [go_sem, ht]) <;> rfl)) (hlr) ?_; rintro _ nx_7 - rfl hnx_7; simp -implicitDefEqProofs (disch := omega) only [go_sem, ht]); (refine pCall_vw (by refine ⟨⟨?_, ?_⟩, ?_, ?_⟩; rotate_left 2; (first | (right; rintro r rfl; rfl) | left); all_goals ((try simp -implicitDefEqProofs (disch := omega) only [go_sem, ht]) <;> rfl)) (hft) ?_; rintro _ nx_8 - rfl hnx_8; simp -implicitDefEqProofs (disch := omega) only [go_sem, ht]))
    (refine end_treeW 0 ?_; simp -implicitDefEqProofs (disch := omega) only [go_sem, ht])
  have hkb : ∀ i, -9223372036854775808 ≤ kAt by' i ∧ kAt by' i ≤ 9223372036854775807 := by
    intro i
    unfold kAt
    split
    · omega
    · rename_i hne
      have hmd : i % by'.length < by'.length := Nat.mod_lt _ (by have := List.length_pos_iff.2 hne; omega)
      split
      · omega
      · exact hby _ (getD_mem hmd)
  have hkz : ∀ i, Z 2 (kAt by' i) := fun i => by have := hkb i; unfold Z; omega
  have hMx : Mx m 1500 := ⟨hm, by omega, by omega⟩
  ((refine pCall_vw (by refine ⟨⟨?_, ?_⟩, ?_, ?_⟩; rotate_left 2; (first | (right; rintro r rfl; rfl) | left); all_goals ((try simp -implicitDefEqProofs (disch := omega) only [go_sem, ht]) <;> rfl)) (hlr) ?_; rintro _ nx_9 - rfl hnx_9; simp -implicitDefEqProofs (disch := omega) only [go_sem, ht]); (refine pCall_vw (by refine ⟨⟨?_, ?_⟩, ?_, ?_⟩; rotate_left 2; (first | (right; rintro r rfl; rfl) | left); all_goals ((try simp -implicitDefEqProofs (disch := omega) only [go_sem, ht]) <;> rfl)) (hft) ?_; rintro _ nx_10 - rfl hnx_10; simp -implicitDefEqProofs (disch := omega) only [go_sem, ht]))
  refine LW.ghost (Gh.nilW 7 1 (by simp -implicitDefEqProofs (disch := omega) only [go_sem, ht])) ?_
  refine LW.loopW hc ht (by kernel_rfl) (fun t => t.sl 0 = .sl m.length (m.map SW) ∧ t.sl 1 = .val (.int .i64 n) ∧ t.sl 2 = .sl by'.length (by'.map vi) ∧ ∃ j : Nat, j ≤ m.length ∧ t.sl 8 = .val (.int .i64 ((m.length : Int) - 1 - j)) ∧
      ∃ (idO capO : Nat) (restO : List Value), t.sl 7 = .ref idO 0 (2 * j) capO 1 ∧ t.H idO = some (((oth m by' j).map CZ).map SW ++ restO.map .val) ∧ 2 * j + restO.length = capO ∧ idO < t.nx)
    (fun t => match t.sl 8 with | .val (.int _ k) => (k + 1).toNat | _ => 0) ?_ ?_
  · simp -implicitDefEqProofs (disch := omega) only [go_sem, ht]
    exact ⟨0, by omega, by congr 2, _, 0, [], rfl, upd_self _ _ _, rfl, by omega⟩
  · rintro t ⟨h0, h1, h2, j, hj, h8, idO, capO, restO, h7, hH, hcO, hid⟩
    by_cases hjl : j = m.length
    · subst hjl
      obtain ⟨hM', hlen', hech, hpv⟩ := space_same hm (by omega) hlc hn32 (by omega) hkz
      have hwO : wrongM ((oth m by' m.length).map CZ) n = false := decide_eq_false (by
        rintro (h | h | h | ⟨l, hl, hne⟩)
        · omega
        · omega
        · rw [List.length_map, oth_len] at h; omega
        · exact hne (by rw [hlen' l hl]))
      have e1 := mech_calls hMx (cn := n)
      have e2 := mech_calls hM' (cn := n)
      have ee : mEch ((oth m by' m.length).map CZ) n = mEch m n := by
        unfold mEch
        rw [hw', hwO, Int.toNat_natCast, hech]
      rw [ee] at e2
      have hrr := hMx.rr hlc
      have hs : ∀ l ∈ (mEch m n).1.map CZ, (∀ p ∈ l, Ok p.2) ∧ l.length ≤ 1000000 := by
        intro l hl
        obtain ⟨z, hz, rfl⟩ := List.mem_map.1 hl
        unfold mEch at hz
        rw [hw', Int.toNat_natCast] at hz
        have hz' : z ∈ echT (m.map vals) n := by
          simp only [Bool.false_eq_true, if_false] at hz
          split at hz
          · simp at hz
          · exact hz
        obtain ⟨q, hq, rfl⟩ := mem_getD (d := []) hz'
        obtain ⟨r1, r2⟩ := hrr.row q hq
        exact ⟨CZ_ok r2 (by omega), by rw [CZ_len]; omega⟩
      have hsl : ((mEch m n).1.map CZ).length ≤ 1000000 := by
        rw [List.length_map]
        unfold mEch
        rw [hw', Int.toNat_natCast]
        simp only [Bool.false_eq_true, if_false]
        have := hrr.len
        have := (hMx.ez hlc).1 n
        obtain ⟨O, κ, hI, _⟩ := this.st
        have := hI.tle
        split
        · exact Nat.zero_le _
        · dsimp only; omega
      have hsm := same_rows hs (fun l hl => (hs l hl).1) hsl
      rw [decide_eq_true rfl] at hsm
      have hfl := frzL_flat (fun _ => true) t.H 0 (SM_flat ((oth m by' m.length).map CZ))
      have hOl : (((oth m by' m.length).map CZ).map SW).length = 2 * m.length := by rw [List.length_map, List.length_map, oth_len]
      have htk : List.take (2 * m.length) (((oth m by' m.length).map CZ).map SW ++ restO.map .val) = ((oth m by' m.length).map CZ).map SW := by rw [← hOl, List.take_left]
      have hle : 2 * m.length ≤ ((oth m by' m.length).map CZ).length + restO.length := by rw [List.length_map, oth_len]; omega
      have hOn : ((oth m by' m.length).map CZ).length = 2 * m.length := by rw [List.length_map, oth_len]
      generalize (oth m by' m.length).map CZ = O at *
      generalize (mEch m n).2 = er at *
      generalize (mEch m n).1.map CZ = E at *
      simp -implicitDefEqProofs (disch := omega) only [go_sem, ht, h0, h1, h7, h8]
      (refine pCall_vw (by refine ⟨⟨?_, ?_⟩, ?_, ?_⟩; rotate_left 2; (first | (right; rintro r rfl; rfl) | left); all_goals ((try simp -implicitDefEqProofs (disch := omega) only [h0, h1, h7, h8, go_sem, ht]) <;> rfl)) (e1) ?_; rintro _ nx - rfl hnx; simp -implicitDefEqProofs (disch := omega) only [h0, h1, h7, h8, go_sem, ht])
      (refine pCall_frz (fun _ => true) 1 (by simp -implicitDefEqProofs (disch := omega) only [h0, h1, h7, h8, hH, htk, hle, hfl, if_pos, hOn, go_sem, ht] <;> rfl) (by simp -implicitDefEqProofs (disch := omega) only [h0, h1, h7, h8, hH, htk, hle, hfl, if_pos, hOn, go_sem, ht]) (by simp -implicitDefEqProofs (disch := omega) only [h0, h1, h7, h8, hH, htk, hle, hfl, if_pos, hOn, go_sem, ht] <;> rfl) (by simp -implicitDefEqProofs (disch := omega) only [h0, h1, h7, h8, hH, htk, hle, hfl, if_pos, hOn, go_sem, ht]) (e2) ?_; rintro _ nx - rfl hnx; (try simp only [put_nx, withH_nx, begP_nx] at hnx); simp -implicitDefEqProofs (disch := omega) only [h0, h1, h7, h8, hH, htk, hle, hfl, if_pos, hOn, go_sem, ht])
      ((refine pCall_vw (by refine ⟨⟨?_, ?_⟩, ?_, ?_⟩; rotate_left 2; (first | (right; rintro r rfl; rfl) | left); all_goals ((try simp -implicitDefEqProofs (disch := omega) only [go_sem, ht]) <;> rfl)) (hsm) ?_; rintro _ nx_11 - rfl hnx_11; simp -implicitDefEqProofs (disch := omega) only [go_sem, ht]))
      (refine end_treeW 0 ?_; simp -implicitDefEqProofs (disch := omega) only [go_sem, ht])
    · obtain ⟨i, hij⟩ : ∃ i, i = m.length - 1 - j := ⟨_, rfl⟩
      have hil : i < m.length := by omega
      rw [show ((m.length : Int) - 1 - j) = (i : Nat) by omega] at h8
      have hnl : (i + 1) % m.length < m.length := Nat.mod_lt _ (by omega)
      have hgi := get_SM' hil
      have hgn := get_SM' hnl
      have hRi := hMx.rn (getD_mem (d := []) hil)
      have hRn := hMx.rn (getD_mem (d := []) hnl)
      have hli := hlc _ (getD_mem (d := []) hil)
      have hln := hlc _ (getD_mem (d := []) hnl)
      have hrl : (rowK m by' i).length = n := by unfold rowK; rw [List.length_map, vals_len]; exact hli
      have hsl : (sumK m i).length = n := by unfold sumK; rw [List.length_zipWith, vals_len, vals_len, hli, hln, Nat.min_self]
      have hrt : ∀ c, c < n → (rowK m by' i).take (c + 1) = (rowK m by' i).take c ++ [vc (vals (m.getD i [])) c * kAt by' i] := fun c hc => by
        rw [List.take_succ_eq_append_getElem (by rw [hrl]; exact hc)]
        congr 2
        rw [vc_lt (by rw [vals_len, hli]; exact hc)]
        simp only [rowK, List.getElem_map]
      have hst : ∀ c, c < n → (sumK m i).take (c + 1) = (sumK m i).take c ++ [vc (vals (m.getD i [])) c + vc (vals (m.getD ((i + 1) % m.length) [])) c] := fun c hc => by
        rw [List.take_succ_eq_append_getElem (by rw [hsl]; exact hc)]
        congr 2
        rw [vc_lt (by rw [vals_len, hli]; exact hc), vc_lt (by rw [vals_len, hln]; exact hc)]
        simp only [sumK, List.getElem_zipWith]
      have hkb := hkb i
      obtain ⟨hk1, hk2⟩ := hkb
      have hkz := hkz i
      generalize m.getD i [] = li at *
      generalize m.getD ((i + 1) % m.length) [] = ln at *
      by_cases hbe : by' = []
      · have hk : kAt by' i = 1 := by unfold kAt; rw [if_pos hbe]
        have h2b : t.sl 2 = .sl 0 (by'.map vi) := by rw [h2, hbe]; rfl
        simp -implicitDefEqProofs (disch := omega) only [go_sem, ht, h0, h1, h7, h8, hgi, hgn, h2b, hk]
        refine LW.ghost (Gh.nilW 10 2 (by simp -implicitDefEqProofs (disch := omega) only [go_sem, ht])) ?_
        refine LW.ghost (Gh.nilW 11 2 (by simp -implicitDefEqProofs (disch := omega) only [go_sem, ht])) ?_
        refine LW.loopG hc ht (by kernel_rfl) (fun s => s.sl 0 = .sl m.length (m.map SW) ∧ s.sl 1 = .val (.int .i64 n) ∧ s.sl 2 = .sl by'.length (by'.map vi) ∧ s.sl 7 = .ref idO 0 (2 * j) capO 1 ∧ s.sl 8 = .val (.int .i64 (i : Nat)) ∧ s.sl 9 = .val (.int .i64 (kAt by' i)) ∧ s.sl 12 = .sl ln.length (SWc ln) ∧
            s.H idO = some (((oth m by' j).map CZ).map SW ++ restO.map .val) ∧ idO < s.nx ∧ ∃ c : Nat, c ≤ n ∧ s.sl 13 = .val (.int .i64 c) ∧
            ∃ (idr capr : Nat) (rr : List Value) (ids caps : Nat) (rs : List Value), s.sl 10 = .ref idr 0 c capr 2 ∧ s.H idr = some (SWc (CZ ((rowK m by' i).take c)) ++ rr.map .val) ∧ c * 2 + rr.length = capr * 2 ∧ idr < s.nx ∧
              s.sl 11 = .ref ids 0 c caps 2 ∧ s.H ids = some (SWc (CZ ((sumK m i).take c)) ++ rs.map .val) ∧ c * 2 + rs.length = caps * 2 ∧ ids < s.nx ∧ idr ≠ ids ∧ idr ≠ idO ∧ ids ≠ idO)
          (fun s => match s.sl 13 with | .val (.int _ k) => n - k.toNat | _ => 0) ?_ ?_
        · simp -implicitDefEqProofs (disch := omega) only [go_sem, ht, h0, h1, h2, h7, h8, hH]
          refine ⟨by rw [hk], 0, Nat.zero_le _, rfl, t.nx, 0, [], t.nx + 1, 0, [], rfl, ?_, rfl, by omega, rfl, ?_, rfl, by omega, by omega, by omega, by omega⟩
          · simp -implicitDefEqProofs (disch := omega) only [go_sem, ht]
            rfl
          · simp -implicitDefEqProofs (disch := omega) only [go_sem, ht]
            rfl
        · clear h0 h1 h2 h7 h8 hH hid
          rintro s ⟨h0, h1, h2, h7, h8, h9, h12, hH, hid, c, hcn, h13, idr, capr, rr, ids, caps, rs, h10, hHr, hcr, hir, h11, hHs, hcs, his, n1, n2, n3⟩
          by_cases hcl : c = n
          · subst hcl
            have e1 : (rowK m by' i).take c = rowK m by' i := List.take_of_length_le (by rw [hrl]; omega)
            have e2 : (sumK m i).take c = sumK m i := List.take_of_length_le (by rw [hsl]; omega)
            rw [e1] at hHr
            rw [e2] at hHs
            have t1 := take_SWc (CZ (rowK m by' i)) (rr.map .val) (n := c) (by rw [CZ_len, hrl])
            have t2 := take_SWc (CZ (sumK m i)) (rs.map .val) (n := c) (by rw [CZ_len, hsl])
            have l1 : (CZ (rowK m by' i)).length = c := by rw [CZ_len, hrl]
            have l2 : (CZ (sumK m i)).length = c := by rw [CZ_len, hsl]
            have f1 := SWc_flat (CZ (rowK m by' i))
            have f2 := SWc_flat (CZ (sumK m i))
            have hoth : ((oth m by' j).map CZ).map SW ++ [.sl c (SWc (CZ (rowK m by' i))), .sl c (SWc (CZ (sumK m i)))] = ((oth m by' (j + 1)).map CZ).map SW := by
              rw [oth_succ, List.map_append, List.map_append, ← hij]
              simp only [List.map_cons, List.map_nil, SW_def, l1, l2]
            have hol := oth_len m by' j
            have m1 := SWc_len (CZ (rowK m by' i))
            have m2 := SWc_len (CZ (sumK m i))
            generalize SWc (CZ (rowK m by' i)) = c1 at *
            generalize SWc (CZ (sumK m i)) = c2 at *
            refine ⟨_, (Gh.frzD 10 (fun x => decide (x = idr)) 1 (q := .sl c c1) ?_).trans (Gh.frzD 11 (fun x => decide (x = ids)) 1 (q := .sl c c2) ?_), ?_⟩
            · simp -implicitDefEqProofs (disch := omega) only [go_sem, ht, h10, hHr, t1, f1, decide_eq_true_eq]
              rw [frzL_flat _ _ 0 f1, if_pos (by omega)]; rfl
            · simp -implicitDefEqProofs (disch := omega) only [go_sem, ht, h11, hHs, t2, f2, dropD_at, decide_eq_true_eq, if_neg n1.symm]
              rw [frzL_flat _ _ 0 f2, if_pos (by omega)]; rfl
            · simp -implicitDefEqProofs (disch := omega) only [go_sem, ht, h0, h1, h2, h7, h8, h9, h12, h13]
              (refine append_ownX (by refine ⟨?_, ?_, ?_, ?_, ?_, ?_, ?_, ?_⟩ <;> (simp -implicitDefEqProofs (disch := omega) only [srcP_ref, srcP_sl, srcP_nil, Option.isSome_some, hH, dropD_at, decide_eq_true_eq, if_neg n2.symm, if_neg n3.symm, go_sem, ht] <;> rfl)) (by simp <;> omega) (by first | assumption | (simp <;> omega)) (by first | rfl | simp) (by first | omega | (simp <;> omega)) ?_; intro id1 cap1 rest1 H1 nx1 hH1 hcap1 hid1 hnx1 hfr1 hfs1; simp only [put_nx, withH_nx, put_H, withH_H] at hid1 hnx1 hfr1 hfs1; (try simp only [app_U, ← List.map_append] at hH1))
              simp -implicitDefEqProofs (disch := omega) only [go_sem, ht, h0, h1, h2, h8]
              exact ⟨⟨j + 1, by omega, by congr 2; omega, id1, cap1, rest1, rfl, by rw [hH1, hoth], by omega, by omega⟩, by omega⟩
          · have hlt : c < n := by omega
            have ha1 := SWc_at (l := li) (i := c) (by omega)
            have ha2 := SWc_at (l := ln) (i := c) (by omega)
            have w1 := hRi.wn (i := c) (by omega)
            have w2 := hRn.wn (i := c) (by omega)
            have hof := wof_v (x := kAt by' i) hk1 hk2
            have hmu := mulW w1 (Wn.C hkz (by omega))
            have had := addW w1 w2
            have st1 : (rowK m by' i).take (c + 1) = (rowK m by' i).take c ++ [vc (vals li) c * kAt by' i] := hrt c hlt
            have st2 : (sumK m i).take (c + 1) = (sumK m i).take c ++ [vc (vals li) c + vc (vals ln) c] := hst c hlt
            have hl1 : (SWc (CZ ((rowK m by' i).take c))).length = 2 * c := by rw [SWc_len, CZ_len, List.length_take, hrl]; omega
            have hl2 : (SWc (CZ ((sumK m i).take c))).length = 2 * c := by rw [SWc_len, CZ_len, List.length_take, hsl]; omega
            generalize vc (vals li) c * kAt by' i = x1 at *
            generalize vc (vals li) c + vc (vals ln) c = x2 at *
            have sw1 : SWc (CZ ((rowK m by' i).take c)) ++ [.val (.bool (decide (x1 < 0))), .sl (D x1.natAbs).length ((D x1.natAbs).map U)] = SWc (CZ ((rowK m by' i).take (c + 1))) := by
              rw [st1, CZ_app, SWc_app]; rfl
            have sw2 : SWc (CZ ((sumK m i).take c)) ++ [.val (.bool (decide (x2 < 0))), .sl (D x2.natAbs).length ((D x2.natAbs).map U)] = SWc (CZ ((sumK m i).take (c + 1))) := by
              rw [st2, CZ_app, SWc_app]; rfl
            refine ⟨s, Gh.refl s, ?_⟩
            simp -implicitDefEqProofs (disch := omega) only [go_sem, ht, h0, h1, h2, h7, h8, h9, h10, h11, h12, h13, hgi, ha1, ha2]
            ((refine pCall_vw (by refine ⟨⟨?_, ?_⟩, ?_, ?_⟩; rotate_left 2; (first | (right; rintro r rfl; rfl) | left); all_goals ((try simp -implicitDefEqProofs (disch := omega) only [h0, h1, h2, h7, h8, h9, h10, h11, h12, h13, hgi, ha1, ha2, go_sem, ht]) <;> rfl)) (hof) ?_; rintro _ nx_12 - rfl hnx_12; simp -implicitDefEqProofs (disch := omega) only [h0, h1, h2, h7, h8, h9, h10, h11, h12, h13, hgi, ha1, ha2, go_sem, ht]); (refine pCall_vw (by refine ⟨⟨?_, ?_⟩, ?_, ?_⟩; rotate_left 2; (first | (right; rintro r rfl; rfl) | left); all_goals ((try simp -implicitDefEqProofs (disch := omega) only [h0, h1, h2, h7, h8, h9, h10, h11, h12, h13, hgi, ha1, ha2, go_sem, ht]) <;> rfl)) (hmu) ?_; rintro _ nx_13 - rfl hnx_13; simp -implicitDefEqProofs (disch := omega) only [h0, h1, h2, h7, h8, h9, h10, h11, h12, h13, hgi, ha1, ha2, go_sem, ht]))
            (refine append_ownSX (by refine ⟨?_, ?_, ?_, ?_, ?_, ?_, ?_, ?_⟩ <;> (simp -implicitDefEqProofs (disch := omega) only [srcP_ref, srcP_sl, srcP_nil, Option.isSome_some, hHr, go_sem, ht] <;> rfl)) (by rfl) (by first | omega | (simp <;> omega)) (by first | assumption | (simp <;> omega)) (by first | rfl | simp) (by first | omega | (simp <;> omega)) ?_; intro id1 cap1 rest1 H1 nx1 hH1 hcap1 hid1 hnx1 hfr1 hfs1; simp only [put_nx, withH_nx, put_H, withH_H] at hid1 hnx1 hfr1 hfs1)
            rw [sw1] at hH1
            simp -implicitDefEqProofs (disch := omega) only [go_sem, ht, h0, h1, h2, h7, h8, h9, h11, h12, h13, hgi, ha1, ha2]
            ((refine pCall_vw (by refine ⟨⟨?_, ?_⟩, ?_, ?_⟩; rotate_left 2; (first | (right; rintro r rfl; rfl) | left); all_goals ((try simp -implicitDefEqProofs (disch := omega) only [h0, h1, h2, h7, h8, h9, h11, h12, h13, hgi, ha1, ha2, go_sem, ht]) <;> rfl)) (had) ?_; rintro _ nx_14 - rfl hnx_14; simp -implicitDefEqProofs (disch := omega) only [h0, h1, h2, h7, h8, h9, h11, h12, h13, hgi, ha1, ha2, go_sem, ht]))
            have hs1 : H1 ids = some (SWc (CZ ((sumK m i).take c)) ++ rs.map .val) := by
              rw [hfr1 ids (Ne.symm n1) (by omega), upd_ne _ _ (by omega)]; exact hHs
            have ho1 : H1 idO = some (((oth m by' j).map CZ).map SW ++ restO.map .val) := by
              rw [hfr1 idO (Ne.symm n2) (by omega), upd_ne _ _ (by omega)]; exact hH
            (refine append_ownSX (by refine ⟨?_, ?_, ?_, ?_, ?_, ?_, ?_, ?_⟩ <;> (simp -implicitDefEqProofs (disch := omega) only [srcP_ref, srcP_sl, srcP_nil, Option.isSome_some, hs1, go_sem, ht] <;> rfl)) (by rfl) (by first | omega | (simp <;> omega)) (by first | assumption | (simp <;> omega)) (by first | rfl | simp) (by first | omega | (simp <;> omega)) ?_; intro id2 cap2 rest2 H2 nx2 hH2 hcap2 hid2 hnx2 hfr2 hfs2; simp only [put_nx, withH_nx, put_H, withH_H] at hid2 hnx2 hfr2 hfs2)
            rw [sw2] at hH2
            have hr2 : H2 id1 = some (SWc (CZ ((rowK m by' i).take (c + 1))) ++ rest1.map .val) := by
              rw [hfr2 id1 (by omega) (by omega), upd_ne _ _ (by omega)]; exact hH1
            have ho2 : H2 idO = some (((oth m by' j).map CZ).map SW ++ restO.map .val) := by
              rw [hfr2 idO (Ne.symm n3) (by omega), upd_ne _ _ (by omega)]; exact ho1
            simp -implicitDefEqProofs (disch := omega) only [go_sem, ht, h0, h1, h2, h7, h8, h9, h12, h13]
            exact ⟨⟨ho2, by omega, c + 1, by omega, rfl, id1, cap1, rest1, id2, cap2, rest2, rfl, hr2, hcap1, by omega, rfl, hH2, hcap2, by omega, by omega, by omega, by omega⟩, by omega⟩
      · have hbp : 0 < by'.length := List.length_pos_iff.2 hbe
        have hmd : i % by'.length < by'.length := Nat.mod_lt _ hbp
        have hgb := get_vi hmd
        have hgd : by'.getD (i % by'.length) 0 = by'[i % by'.length] := by simp [hmd]
        by_cases hk0 : by'[i % by'.length] = 0
        · have hk : kAt by' i = -3 := by unfold kAt; rw [if_neg hbe, hgd, if_pos hk0]
          rw [hk0] at hgb
          simp -implicitDefEqProofs (disch := omega) only [go_sem, ht, h0, h1, h7, h8, hgi, hgn, h2, hbp, hgb, hk0, hk]
          refine LW.ghost (Gh.nilW 10 2 (by simp -implicitDefEqProofs (disch := omega) only [go_sem, ht])) ?_
          refine LW.ghost (Gh.nilW 11 2 (by simp -implicitDefEqProofs (disch := omega) only [go_sem, ht])) ?_
          refine LW.loopG hc ht (by kernel_rfl) (fun s => s.sl 0 = .sl m.length (m.map SW) ∧ s.sl 1 = .val (.int .i64 n) ∧ s.sl 2 = .sl by'.length (by'.map vi) ∧ s.sl 7 = .ref idO 0 (2 * j) capO 1 ∧ s.sl 8 = .val (.int .i64 (i : Nat)) ∧ s.sl 9 = .val (.int .i64 (kAt by' i)) ∧ s.sl 12 = .sl ln.length (SWc ln) ∧
              s.H idO = some (((oth m by' j).map CZ).map SW ++ restO.map .val) ∧ idO < s.nx ∧ ∃ c : Nat, c ≤ n ∧ s.sl 13 = .val (.int .i64 c) ∧
              ∃ (idr capr : Nat) (rr : List Value) (ids caps : Nat) (rs : List Value), s.sl 10 = .ref idr 0 c capr 2 ∧ s.H idr = some (SWc (CZ ((rowK m by' i).take c)) ++ rr.map .val) ∧ c * 2 + rr.length = capr * 2 ∧ idr < s.nx ∧
                s.sl 11 = .ref ids 0 c caps 2 ∧ s.H ids = some (SWc (CZ ((sumK m i).take c)) ++ rs.map .val) ∧ c * 2 + rs.length = caps * 2 ∧ ids < s.nx ∧ idr ≠ ids ∧ idr ≠ idO ∧ ids ≠ idO)
            (fun s => match s.sl 13 with | .val (.int _ k) => n - k.toNat | _ => 0) ?_ ?_
          · simp -implicitDefEqProofs (disch := omega) only [go_sem, ht, h0, h1, h2, h7, h8, hH]
            refine ⟨by rw [hk], 0, Nat.zero_le _, rfl, t.nx, 0, [], t.nx + 1, 0, [], rfl, ?_, rfl, by omega, rfl, ?_, rfl, by omega, by omega, by omega, by omega⟩
            · simp -implicitDefEqProofs (disch := omega) only [go_sem, ht]
              rfl
            · simp -implicitDefEqProofs (disch := omega) only [go_sem, ht]
              rfl
          · clear h0 h1 h2 h7 h8 hH hid
            rintro s ⟨h0, h1, h2, h7, h8, h9, h12, hH, hid, c, hcn, h13, idr, capr, rr, ids, caps, rs, h10, hHr, hcr, hir, h11, hHs, hcs, his, n1, n2, n3⟩
            by_cases hcl : c = n
            · subst hcl
              have e1 : (rowK m by' i).take c = rowK m by' i := List.take_of_length_le (by rw [hrl]; omega)
              have e2 : (sumK m i).take c = sumK m i := List.take_of_length_le (by rw [hsl]; omega)
              rw [e1] at hHr
              rw [e2] at hHs
              have t1 := take_SWc (CZ (rowK m by' i)) (rr.map .val) (n := c) (by rw [CZ_len, hrl])
              have t2 := take_SWc (CZ (sumK m i)) (rs.map .val) (n := c) (by rw [CZ_len, hsl])
              have l1 : (CZ (rowK m by' i)).length = c := by rw [CZ_len, hrl]
              have l2 : (CZ (sumK m i)).length = c := by rw [CZ_len, hsl]
              have f1 := SWc_flat (CZ (rowK m by' i))
              have f2 := SWc_flat (CZ (sumK m i))
              have hoth : ((oth m by' j).map CZ).map SW ++ [.sl c (SWc (CZ (rowK m by' i))), .sl c (SWc (CZ (sumK m i)))] = ((oth m by' (j + 1)).map CZ).map SW := by
                rw [oth_succ, List.map_append, List.map_append, ← hij]
                simp only [List.map_cons, List.map_nil, SW_def, l1, l2]
              have hol := oth_len m by' j
              have m1 := SWc_len (CZ (rowK m by' i))
              have m2 := SWc_len (CZ (sumK m i))
              generalize SWc (CZ (rowK m by' i)) = c1 at *
              generalize SWc (CZ (sumK m i)) = c2 at *
              refine ⟨_, (Gh.frzD 10 (fun x => decide (x = idr)) 1 (q := .sl c c1) ?_).trans (Gh.frzD 11 (fun x => decide (x = ids)) 1 (q := .sl c c2) ?_), ?_⟩
              · simp -implicitDefEqProofs (disch := omega) only [go_sem, ht, h10, hHr, t1, f1, decide_eq_true_eq]
                rw [frzL_flat _ _ 0 f1, if_pos (by omega)]; rfl
              · simp -implicitDefEqProofs (disch := omega) only [go_sem, ht, h11, hHs, t2, f2, dropD_at, decide_eq_true_eq, if_neg n1.symm]
                rw [frzL_flat _ _ 0 f2, if_pos (by omega)]; rfl
              · simp -implicitDefEqProofs (disch := omega) only [go_sem, ht, h0, h1, h2, h7, h8, h9, h12, h13]
                (refine append_ownX (by refine ⟨?_, ?_, ?_, ?_, ?_, ?_, ?_, ?_⟩ <;> (simp -implicitDefEqProofs (disch := omega) only [srcP_ref, srcP_sl, srcP_nil, Option.isSome_some, hH, dropD_at, decide_eq_true_eq, if_neg n2.symm, if_neg n3.symm, go_sem, ht] <;> rfl)) (by simp <;> omega) (by first | assumption | (simp <;> omega)) (by first | rfl | simp) (by first | omega | (simp <;> omega)) ?_; intro id1 cap1 rest1 H1 nx1 hH1 hcap1 hid1 hnx1 hfr1 hfs1; simp only [put_nx, withH_nx, put_H, withH_H] at hid1 hnx1 hfr1 hfs1; (try simp only [app_U, ← List.map_append] at hH1))
                simp -implicitDefEqProofs (disch := omega) only [go_sem, ht, h0, h1, h2, h8]
                exact ⟨⟨j + 1, by omega, by congr 2; omega, id1, cap1, rest1, rfl, by rw [hH1, hoth], by omega, by omega⟩, by omega⟩
            · have hlt : c < n := by omega
              have ha1 := SWc_at (l := li) (i := c) (by omega)
              have ha2 := SWc_at (l := ln) (i := c) (by omega)
              have w1 := hRi.wn (i := c) (by omega)
              have w2 := hRn.wn (i := c) (by omega)
              have hof := wof_v (x := kAt by' i) hk1 hk2
              have hmu := mulW w1 (Wn.C hkz (by omega))
              have had := addW w1 w2
              have st1 : (rowK m by' i).take (c + 1) = (rowK m by' i).take c ++ [vc (vals li) c * kAt by' i] := hrt c hlt
              have st2 : (sumK m i).take (c + 1) = (sumK m i).take c ++ [vc (vals li) c + vc (vals ln) c] := hst c hlt
              have hl1 : (SWc (CZ ((rowK m by' i).take c))).length = 2 * c := by rw [SWc_len, CZ_len, List.length_take, hrl]; omega
              have hl2 : (SWc (CZ ((sumK m i).take c))).length = 2 * c := by rw [SWc_len, CZ_len, List.length_take, hsl]; omega
              generalize vc (vals li) c * kAt by' i = x1 at *
              generalize vc (vals li) c + vc (vals ln) c = x2 at *
              have sw1 : SWc (CZ ((rowK m by' i).take c)) ++ [.val (.bool (decide (x1 < 0))), .sl (D x1.natAbs).length ((D x1.natAbs).map U)] = SWc (CZ ((rowK m by' i).take (c + 1))) := by
                rw [st1, CZ_app, SWc_app]; rfl
              have sw2 : SWc (CZ ((sumK m i).take c)) ++ [.val (.bool (decide (x2 < 0))), .sl (D x2.natAbs).length ((D x2.natAbs).map U)] = SWc (CZ ((sumK m i).take (c + 1))) := by
                rw [st2, CZ_app, SWc_app]; rfl
              refine ⟨s, Gh.refl s, ?_⟩
              simp -implicitDefEqProofs (disch := omega) only [go_sem, ht, h0, h1, h2, h7, h8, h9, h10, h11, h12, h13, hgi, ha1, ha2]
              ((refine pCall_vw (by refine ⟨⟨?_, ?_⟩, ?_, ?_⟩; rotate_left 2; (first | (right; rintro r rfl; rfl) | left); all_goals ((try simp -implicitDefEqProofs (disch := omega) only [h0, h1, h2, h7, h8, h9, h10, h11, h12, h13, hgi, ha1, ha2, go_sem, ht]) <;> rfl)) (hof) ?_; rintro _ nx_15 - rfl hnx_15; simp -implicitDefEqProofs (disch := omega) only [h0, h1, h2, h7, h8, h9, h10, h11, h12, h13, hgi, ha1, ha2, go_sem, ht]); (refine pCall_vw (by refine ⟨⟨?_, ?_⟩, ?_, ?_⟩; rotate_left 2; (first | (right; rintro r rfl; rfl) | left); all_goals ((try simp -implicitDefEqProofs (disch := omega) only [h0, h1, h2, h7, h8, h9, h10, h11, h12, h13, hgi, ha1, ha2, go_sem, ht]) <;> rfl)) (hmu) ?_; rintro _ nx_16 - rfl hnx_16; simp -implicitDefEqProofs (disch := omega) only [h0, h1, h2, h7, h8, h9, h10, h11, h12, h13, hgi, ha1, ha2, go_sem, ht]))
              (refine append_ownSX (by refine ⟨?_, ?_, ?_, ?_, ?_, ?_, ?_, ?_⟩ <;> (simp -implicitDefEqProofs (disch := omega) only [srcP_ref, srcP_sl, srcP_nil, Option.isSome_some, hHr, go_sem, ht] <;> rfl)) (by rfl) (by first | omega | (simp <;> omega)) (by first | assumption | (simp <;> omega)) (by first | rfl | simp) (by first | omega | (simp <;> omega)) ?_; intro id1 cap1 rest1 H1 nx1 hH1 hcap1 hid1 hnx1 hfr1 hfs1; simp only [put_nx, withH_nx, put_H, withH_H] at hid1 hnx1 hfr1 hfs1)
              rw [sw1] at hH1
              simp -implicitDefEqProofs (disch := omega) only [go_sem, ht, h0, h1, h2, h7, h8, h9, h11, h12, h13, hgi, ha1, ha2]
              ((refine pCall_vw (by refine ⟨⟨?_, ?_⟩, ?_, ?_⟩; rotate_left 2; (first | (right; rintro r rfl; rfl) | left); all_goals ((try simp -implicitDefEqProofs (disch := omega) only [h0, h1, h2, h7, h8, h9, h11, h12, h13, hgi, ha1, ha2, go_sem, ht]) <;> rfl)) (had) ?_; rintro _ nx_17 - rfl hnx_17; simp -implicitDefEqProofs (disch := omega) only [h0, h1, h2, h7, h8, h9, h11, h12, h13, hgi, ha1, ha2, go_sem, ht]))
              have hs1 : H1 ids = some (SWc (CZ ((sumK m i).take c)) ++ rs.map .val) := by
                rw [hfr1 ids (Ne.symm n1) (by omega), upd_ne _ _ (by omega)]; exact hHs
              have ho1 : H1 idO = some (((oth m by' j).map CZ).map SW ++ restO.map .val) := by
                rw [hfr1 idO (Ne.symm n2) (by omega), upd_ne _ _ (by omega)]; exact hH
              (refine append_ownSX (by refine ⟨?_, ?_, ?_, ?_, ?_, ?_, ?_, ?_⟩ <;> (simp -implicitDefEqProofs (disch := omega) only [srcP_ref, srcP_sl, srcP_nil, Option.isSome_some, hs1, go_sem, ht] <;> rfl)) (by rfl) (by first | omega | (simp <;> omega)) (by first | assumption | (simp <;> omega)) (by first | rfl | simp) (by first | omega | (simp <;> omega)) ?_; intro id2 cap2 rest2 H2 nx2 hH2 hcap2 hid2 hnx2 hfr2 hfs2; simp only [put_nx, withH_nx, put_H, withH_H] at hid2 hnx2 hfr2 hfs2)
              rw [sw2] at hH2
              have hr2 : H2 id1 = some (SWc (CZ ((rowK m by' i).take (c + 1))) ++ rest1.map .val) := by
                rw [hfr2 id1 (by omega) (by omega), upd_ne _ _ (by omega)]; exact hH1
              have ho2 : H2 idO = some (((oth m by' j).map CZ).map SW ++ restO.map .val) := by
                rw [hfr2 idO (Ne.symm n3) (by omega), upd_ne _ _ (by omega)]; exact ho1
              simp -implicitDefEqProofs (disch := omega) only [go_sem, ht, h0, h1, h2, h7, h8, h9, h12, h13]
              exact ⟨⟨ho2, by omega, c + 1, by omega, rfl, id1, cap1, rest1, id2, cap2, rest2, rfl, hr2, hcap1, by omega, rfl, hH2, hcap2, by omega, by omega, by omega, by omega⟩, by omega⟩
        · have hk : kAt by' i = by'[i % by'.length] := by unfold kAt; rw [if_neg hbe, hgd, if_neg hk0]
          rw [← hk] at hgb hk0
          simp -implicitDefEqProofs (disch := omega) only [go_sem, ht, h0, h1, h7, h8, hgi, hgn, h2, hbp, hgb, hk0]
          refine LW.ghost (Gh.nilW 10 2 (by simp -implicitDefEqProofs (disch := omega) only [go_sem, ht])) ?_
          refine LW.ghost (Gh.nilW 11 2 (by simp -implicitDefEqProofs (disch := omega) only [go_sem, ht])) ?_
          refine LW.loopG hc ht (by kernel_rfl) (fun s => s.sl 0 = .sl m.length (m.map SW) ∧ s.sl 1 = .val (.int .i64 n) ∧ s.sl 2 = .sl by'.length (by'.map vi) ∧ s.sl 7 = .ref idO 0 (2 * j) capO 1 ∧ s.sl 8 = .val (.int .i64 (i : Nat)) ∧ s.sl 9 = .val (.int .i64 (kAt by' i)) ∧ s.sl 12 = .sl ln.length (SWc ln) ∧
              s.H idO = some (((oth m by' j).map CZ).map SW ++ restO.map .val) ∧ idO < s.nx ∧ ∃ c : Nat, c ≤ n ∧ s.sl 13 = .val (.int .i64 c) ∧
              ∃ (idr capr : Nat) (rr : List Value) (ids caps : Nat) (rs : List Value), s.sl 10 = .ref idr 0 c capr 2 ∧ s.H idr = some (SWc (CZ ((rowK m by' i).take c)) ++ rr.map .val) ∧ c * 2 + rr.length = capr * 2 ∧ idr < s.nx ∧
                s.sl 11 = .ref ids 0 c caps 2 ∧ s.H ids = some (SWc (CZ ((sumK m i).take c)) ++ rs.map .val) ∧ c * 2 + rs.length = caps * 2 ∧ ids < s.nx ∧ idr ≠ ids ∧ idr ≠ idO ∧ ids ≠ idO)
            (fun s => match s.sl 13 with | .val (.int _ k) => n - k.toNat | _ => 0) ?_ ?_
          · simp -implicitDefEqProofs (disch := omega) only [go_sem, ht, h0, h1, h2, h7, h8, hH]
            refine ⟨0, Nat.zero_le _, rfl, t.nx, 0, [], t.nx + 1, 0, [], rfl, ?_, rfl, by omega, rfl, ?_, rfl, by omega, by omega, by omega, by omega⟩
            · simp -implicitDefEqProofs (disch := omega) only [go_sem, ht]
              rfl
            · simp -implicitDefEqProofs (disch := omega) only [go_sem, ht]
              rfl
          · clear h0 h1 h2 h7 h8 hH hid
            rintro s ⟨h0, h1, h2, h7, h8, h9, h12, hH, hid, c, hcn, h13, idr, capr, rr, ids, caps, rs, h10, hHr, hcr, hir, h11, hHs, hcs, his, n1, n2, n3⟩
            by_cases hcl : c = n
            · subst hcl
              have e1 : (rowK m by' i).take c = rowK m by' i := List.take_of_length_le (by rw [hrl]; omega)
              have e2 : (sumK m i).take c = sumK m i := List.take_of_length_le (by rw [hsl]; omega)
              rw [e1] at hHr
              rw [e2] at hHs
              have t1 := take_SWc (CZ (rowK m by' i)) (rr.map .val) (n := c) (by rw [CZ_len, hrl])
              have t2 := take_SWc (CZ (sumK m i)) (rs.map .val) (n := c) (by rw [CZ_len, hsl])
              have l1 : (CZ (rowK m by' i)).length = c := by rw [CZ_len, hrl]
              have l2 : (CZ (sumK m i)).length = c := by rw [CZ_len, hsl]
              have f1 := SWc_flat (CZ (rowK m by' i))
              have f2 := SWc_flat (CZ (sumK m i))
              have hoth : ((oth m by' j).map CZ).map SW ++ [.sl c (SWc (CZ (rowK m by' i))), .sl c (SWc (CZ (sumK m i)))] = ((oth m by' (j + 1)).map CZ).map SW := by
                rw [oth_succ, List.map_append, List.map_append, ← hij]
                simp only [List.map_cons, List.map_nil, SW_def, l1, l2]
              have hol := oth_len m by' j
              have m1 := SWc_len (CZ (rowK m by' i))
              have m2 := SWc_len (CZ (sumK m i))
              generalize SWc (CZ (rowK m by' i)) = c1 at *
              generalize SWc (CZ (sumK m i)) = c2 at *
              refine ⟨_, (Gh.frzD 10 (fun x => decide (x = idr)) 1 (q := .sl c c1) ?_).trans (Gh.frzD 11 (fun x => decide (x = ids)) 1 (q := .sl c c2) ?_), ?_⟩
              · simp -implicitDefEqProofs (disch := omega) only [go_sem, ht, h10, hHr, t1, f1, decide_eq_true_eq]
                rw [frzL_flat _ _ 0 f1, if_pos (by omega)]; rfl
              · simp -implicitDefEqProofs (disch := omega) only [go_sem, ht, h11, hHs, t2, f2, dropD_at, decide_eq_true_eq, if_neg n1.symm]
                rw [frzL_flat _ _ 0 f2, if_pos (by omega)]; rfl
              · simp -implicitDefEqProofs (disch := omega) only [go_sem, ht, h0, h1, h2, h7, h8, h9, h12, h13]
                (refine append_ownX (by refine ⟨?_, ?_, ?_, ?_, ?_, ?_, ?_, ?_⟩ <;> (simp -implicitDefEqProofs (disch := omega) only [srcP_ref, srcP_sl, srcP_nil, Option.isSome_some, hH, dropD_at, decide_eq_true_eq, if_neg n2.symm, if_neg n3.symm, go_sem, ht] <;> rfl)) (by simp <;> omega) (by first | assumption | (simp <;> omega)) (by first | rfl | simp) (by first | omega | (simp <;> omega)) ?_; intro id1 cap1 rest1 H1 nx1 hH1 hcap1 hid1 hnx1 hfr1 hfs1; simp only [put_nx, withH_nx, put_H, withH_H] at hid1 hnx1 hfr1 hfs1; (try simp only [app_U, ← List.map_append] at hH1))
                simp -implicitDefEqProofs (disch := omega) only [go_sem, ht, h0, h1, h2, h8]
                exact ⟨⟨j + 1, by omega, by congr 2; omega, id1, cap1, rest1, rfl, by rw [hH1, hoth], by omega, by omega⟩, by omega⟩
            · have hlt : c < n := by omega
              have ha1 := SWc_at (l := li) (i := c) (by omega)
              have ha2 := SWc_at (l := ln) (i := c) (by omega)
              have w1 := hRi.wn (i := c) (by omega)
              have w2 := hRn.wn (i := c) (by omega)
              have hof := wof_v (x := kAt by' i) hk1 hk2
              have hmu := mulW w1 (Wn.C hkz (by omega))
              have had := addW w1 w2
              have st1 : (rowK m by' i).take (c + 1) = (rowK m by' i).take c ++ [vc (vals li) c * kAt by' i] := hrt c hlt
              have st2 : (sumK m i).take (c + 1) = (sumK m i).take c ++ [vc (vals li) c + vc (vals ln) c] := hst c hlt
              have hl1 : (SWc (CZ ((rowK m by' i).take c))).length = 2 * c := by rw [SWc_len, CZ_len, List.length_take, hrl]; omega
              have hl2 : (SWc (CZ ((sumK m i).take c))).length = 2 * c := by rw [SWc_len, CZ_len, List.length_take, hsl]; omega
              generalize vc (vals li) c * kAt by' i = x1 at *
              generalize vc (vals li) c + vc (vals ln) c = x2 at *
              have sw1 : SWc (CZ ((rowK m by' i).take c)) ++ [.val (.bool (decide (x1 < 0))), .sl (D x1.natAbs).length ((D x1.natAbs).map U)] = SWc (CZ ((rowK m by' i).take (c + 1))) := by
                rw [st1, CZ_app, SWc_app]; rfl
              have sw2 : SWc (CZ ((sumK m i).take c)) ++ [.val (.bool (decide (x2 < 0))), .sl (D x2.natAbs).length ((D x2.natAbs).map U)] = SWc (CZ ((sumK m i).take (c + 1))) := by
                rw [st2, CZ_app, SWc_app]; rfl
              refine ⟨s, Gh.refl s, ?_⟩
              simp -implicitDefEqProofs (disch := omega) only [go_sem, ht, h0, h1, h2, h7, h8, h9, h10, h11, h12, h13, hgi, ha1, ha2]
              ((refine pCall_vw (by refine ⟨⟨?_, ?_⟩, ?_, ?_⟩; rotate_left 2; (first | (right; rintro r rfl; rfl) | left); all_goals ((try simp -implicitDefEqProofs (disch := omega) only [h0, h1, h2, h7, h8, h9, h10, h11, h12, h13, hgi, ha1, ha2, go_sem, ht]) <;> rfl)) (hof) ?_; rintro _ nx_18 - rfl hnx_18; simp -implicitDefEqProofs (disch := omega) only [h0, h1, h2, h7, h8, h9, h10, h11, h12, h13, hgi, ha1, ha2, go_sem, ht]); (refine pCall_vw (by refine ⟨⟨?_, ?_⟩, ?_, ?_⟩; rotate_left 2; (first | (right; rintro r rfl; rfl) | left); all_goals ((try simp -implicitDefEqProofs (disch := omega) only [h0, h1, h2, h7, h8, h9, h10, h11, h12, h13, hgi, ha1, ha2, go_sem, ht]) <;> rfl)) (hmu) ?_; rintro _ nx_19 - rfl hnx_19; simp -implicitDefEqProofs (disch := omega) only [h0, h1, h2, h7, h8, h9, h10, h11, h12, h13, hgi, ha1, ha2, go_sem, ht]))
              (refine append_ownSX (by refine ⟨?_, ?_, ?_, ?_, ?_, ?_, ?_, ?_⟩ <;> (simp -implicitDefEqProofs (disch := omega) only [srcP_ref, srcP_sl, srcP_nil, Option.isSome_some, hHr, go_sem, ht] <;> rfl)) (by rfl) (by first | omega | (simp <;> omega)) (by first | assumption | (simp <;> omega)) (by first | rfl | simp) (by first | omega | (simp <;> omega)) ?_; intro id1 cap1 rest1 H1 nx1 hH1 hcap1 hid1 hnx1 hfr1 hfs1; simp only [put_nx, withH_nx, put_H, withH_H] at hid1 hnx1 hfr1 hfs1)
              rw [sw1] at hH1
              simp -implicitDefEqProofs (disch := omega) only [go_sem, ht, h0, h1, h2, h7, h8, h9, h11, h12, h13, hgi, ha1, ha2]
              ((refine pCall_vw (by refine ⟨⟨?_, ?_⟩, ?_, ?_⟩; rotate_left 2; (first | (right; rintro r rfl; rfl) | left); all_goals ((try simp -implicitDefEqProofs (disch := omega) only [h0, h1, h2, h7, h8, h9, h11, h12, h13, hgi, ha1, ha2, go_sem, ht]) <;> rfl)) (had) ?_; rintro _ nx_20 - rfl hnx_20; simp -implicitDefEqProofs (disch := omega) only [h0, h1, h2, h7, h8, h9, h11, h12, h13, hgi, ha1, ha2, go_sem, ht]))
              have hs1 : H1 ids = some (SWc (CZ ((sumK m i).take c)) ++ rs.map .val) := by
                rw [hfr1 ids (Ne.symm n1) (by omega), upd_ne _ _ (by omega)]; exact hHs
              have ho1 : H1 idO = some (((oth m by' j).map CZ).map SW ++ restO.map .val) := by
                rw [hfr1 idO (Ne.symm n2) (by omega), upd_ne _ _ (by omega)]; exact hH
              (refine append_ownSX (by refine ⟨?_, ?_, ?_, ?_, ?_, ?_, ?_, ?_⟩ <;> (simp -implicitDefEqProofs (disch := omega) only [srcP_ref, srcP_sl, srcP_nil, Option.isSome_some, hs1, go_sem, ht] <;> rfl)) (by rfl) (by first | omega | (simp <;> omega)) (by first | assumption | (simp <;> omega)) (by first | rfl | simp) (by first | omega | (simp <;> omega)) ?_; intro id2 cap2 rest2 H2 nx2 hH2 hcap2 hid2 hnx2 hfr2 hfs2; simp only [put_nx, withH_nx, put_H, withH_H] at hid2 hnx2 hfr2 hfs2)
              rw [sw2] at hH2
              have hr2 : H2 id1 = some (SWc (CZ ((rowK m by' i).take (c + 1))) ++ rest1.map .val) := by
                rw [hfr2 id1 (by omega) (by omega), upd_ne _ _ (by omega)]; exact hH1
              have ho2 : H2 idO = some (((oth m by' j).map CZ).map SW ++ restO.map .val) := by
                rw [hfr2 idO (Ne.symm n3) (by omega), upd_ne _ _ (by omega)]; exact ho1
              simp -implicitDefEqProofs (disch := omega) only [go_sem, ht, h0, h1, h2, h7, h8, h9, h12, h13]
              exact ⟨⟨ho2, by omega, c + 1, by omega, rfl, id1, cap1, rest1, id2, cap2, rest2, rfl, hr2, hcap1, by omega, rfl, hH2, hcap2, by omega, by omega, by omega, by omega⟩, by omega⟩
end
end Go.Proofs.Ytfjdfnlkobeehaa
open Go.ChangeShapes Go.WideShapes Go.ChangeAt Go.RowKit
namespace Go.Proofs.Ytfjdfnlkobeehaa
end Go.Proofs.Ytfjdfnlkobeehaa
end
