/- The rows of the law MatrixSpace: how many cells they take, and that they span what the first ones span. My own work. -/
import Derived.Test.YtfjdfnlkobeehaaEch2
import Derived.Test.YtfjdfnlkobeehaaMAwake
set_option linter.unusedVariables false
set_option linter.unusedSimpArgs false
namespace Go.Proofs.Ytfjdfnlkobeehaa

/-- The law's number for a row. -/
def kAt (by' : List Int) (i : Nat) : Int := if by' = [] then 1 else if by'.getD (i % by'.length) 0 = 0 then -3 else by'.getD (i % by'.length) 0
theorem kAt_ne (by' : List Int) (i : Nat) : kAt by' i ≠ 0 := by unfold kAt; split; decide; split; decide; assumption
def rowK (m : List (List (Bool × List Nat))) (by' : List Int) (i : Nat) : List Int := (vals (m.getD i [])).map (· * kAt by' i)
def sumK (m : List (List (Bool × List Nat))) (i : Nat) : List Int := List.zipWith (· + ·) (vals (m.getD i [])) (vals (m.getD ((i + 1) % m.length) []))
/-- The law's other rows. -/
def oth (m : List (List (Bool × List Nat))) (by' : List Int) (j : Nat) : List (List Int) := (List.range j).flatMap fun q => [rowK m by' (m.length - 1 - q), sumK m (m.length - 1 - q)]
theorem oth_succ (m : List (List (Bool × List Nat))) (by' : List Int) (j : Nat) : oth m by' (j + 1) = oth m by' j ++ [rowK m by' (m.length - 1 - j), sumK m (m.length - 1 - j)] := by
  simp [oth, List.range_succ]
theorem oth_len (m : List (List (Bool × List Nat))) (by' : List Int) : ∀ j, (oth m by' j).length = 2 * j
  | 0 => rfl
  | j + 1 => by rw [oth_succ, List.length_append, oth_len m by' j]; simp; omega

theorem lenW_mulC {l : List (Bool × List Nat)} {k : Int} (hk : Z 2 k) (h : ∀ p ∈ l, Lm p.2) : lenW (CZ ((vals l).map (· * k))) ≤ lenW l + 2 * l.length := by
  induction l with
  | nil => simp [CZ, vals, lenW]
  | cons p l ih =>
    have h1 := ((Z.V (b := p.1) (h p (List.mem_cons_self ..)) (Nat.le_refl _)).mul hk).len
    have h2 := ih fun x hx => h x (List.mem_cons_of_mem _ hx)
    have e : CZ ((vals (p :: l)).map (· * k)) = toC (WV p.1 p.2 * k) :: CZ ((vals l).map (· * k)) := rfl
    rw [e]
    simp only [lenW, toC, List.length_cons]
    omega
theorem lenW_addC : ∀ {l l' : List (Bool × List Nat)}, (∀ p ∈ l, Lm p.2) → (∀ p ∈ l', Lm p.2) → lenW (CZ (List.zipWith (· + ·) (vals l) (vals l'))) ≤ lenW l + lenW l'
  | [], _, _, _ => by simp [CZ, vals, lenW]
  | _ :: _, [], _, _ => by simp [CZ, vals, lenW]
  | p :: l, q :: l', h, h' => by
    have h1 := ((Z.V (k := max p.2.length q.2.length) (b := p.1) (h p (List.mem_cons_self ..)) (by omega)).add (Z.V (k := max p.2.length q.2.length) (b := q.1) (h' q (List.mem_cons_self ..)) (by omega))).len
    have h2 := lenW_addC (l := l) (l' := l') (fun x hx => h x (List.mem_cons_of_mem _ hx)) (fun x hx => h' x (List.mem_cons_of_mem _ hx))
    have e : CZ (List.zipWith (· + ·) (vals (p :: l)) (vals (q :: l'))) = toC (WV p.1 p.2 + WV q.1 q.2) :: CZ (List.zipWith (· + ·) (vals l) (vals l')) := rfl
    rw [e]
    simp only [lenW, toC]
    omega
section
variable {m : List (List (Bool × List Nat))} {by' : List Int}
theorem oth_size (hm : ∀ l ∈ m, ∀ p ∈ l, Lm p.2) (hl : lenM m ≤ 1500) (hn : ∀ l ∈ m, l.length ≤ 32) (hk : ∀ i, Z 2 (kAt by' i)) : ∀ j, j ≤ m.length → lenM ((oth m by' j).map CZ) ≤ j * 5000
  | 0, _ => by simp [oth, lenM]
  | j + 1, hj => by
    have ih := oth_size hm hl hn hk j (by omega)
    have g1 := getD_mem (d := []) (show m.length - 1 - j < m.length by omega)
    have g2 := getD_mem (d := []) (show (m.length - 1 - j + 1) % m.length < m.length from Nat.mod_lt _ (by omega))
    have h1 := lenW_mulC (hk (m.length - 1 - j)) (hm _ g1)
    have h2 := lenW_addC (hm _ g1) (hm _ g2)
    have h3 := lenM_mem g1
    have h4 := lenM_mem g2
    have h5 := hn _ g1
    rw [oth_succ]
    unfold rowK sumK
    simp only [lenM, List.map_append, List.map_cons, List.map_nil, List.sum_append, List.sum_cons, List.sum_nil] at *
    omega
theorem oth_mem {z : List Int} : ∀ {j : Nat}, j ≤ m.length → z ∈ oth m by' j → ∃ i, i < m.length ∧ (z = rowK m by' i ∨ z = sumK m i)
  | 0, _, h => by simp [oth] at h
  | j + 1, hj, h => by
    rw [oth_succ] at h
    rcases List.mem_append.1 h with h | h
    · exact oth_mem (j := j) (by omega) h
    · simp only [List.mem_cons, List.not_mem_nil, or_false] at h
      exact ⟨_, by omega, h⟩
theorem mem_oth {i : Nat} : ∀ {j : Nat}, j ≤ m.length → m.length - j ≤ i → i < m.length → rowK m by' i ∈ oth m by' j
  | 0, _, h1, h2 => by omega
  | j + 1, hj, h1, h2 => by
    rw [oth_succ]
    by_cases h : m.length - j ≤ i
    · exact List.mem_append_left _ (mem_oth (j := j) (by omega) h h2)
    · have : m.length - 1 - j = i := by omega
      rw [this]
      exact List.mem_append_right _ (List.mem_cons_self ..)
theorem rowK_len (i : Nat) : (rowK m by' i).length = (m.getD i []).length := by unfold rowK; rw [List.length_map, vals_len]
theorem vc_rowK (i c : Nat) : vc (rowK m by' i) c = kAt by' i * vc (vals (m.getD i [])) c := by
  by_cases h : c < (vals (m.getD i [])).length
  · rw [vc_lt (by rw [rowK_len]; rw [vals_len] at h; exact h), vc_lt h]
    simp only [rowK, List.getElem_map]
    exact Int.mul_comm ..
  · rw [vc_ge (by rw [rowK_len]; rw [vals_len] at h; omega), vc_ge (by omega), Int.mul_zero]
theorem vc_sumK {i : Nat} (h : (m.getD i []).length = (m.getD ((i + 1) % m.length) []).length) (c : Nat) : vc (sumK m i) c = vc (vals (m.getD i [])) c + vc (vals (m.getD ((i + 1) % m.length) [])) c := by
  have e : (sumK m i).length = (m.getD i []).length := by unfold sumK; rw [List.length_zipWith, vals_len, vals_len]; omega
  by_cases hc : c < (m.getD i []).length
  · rw [vc_lt (by omega), vc_lt (by rw [vals_len]; exact hc), vc_lt (by rw [vals_len]; omega)]
    simp only [sumK, List.getElem_zipWith]
  · rw [vc_ge (by omega), vc_ge (by rw [vals_len]; omega), vc_ge (by rw [vals_len]; omega)]; rfl
theorem rows_mem {T : List (List Int)} {r : Vc} : rowsOf T r ↔ ∃ z ∈ T, r = vc z := by
  constructor
  · rintro ⟨i, hi, rfl⟩
    exact ⟨_, getD_mem hi, rfl⟩
  · rintro ⟨z, hz, rfl⟩
    obtain ⟨i, hi, rfl⟩ := mem_getD (d := []) hz
    exact ⟨i, hi, rfl⟩
theorem space_same {n : Nat} (hm : ∀ l ∈ m, ∀ p ∈ l, Lm p.2) (hl : lenM m ≤ 1500) (hn : ∀ l ∈ m, l.length = n) (hn32 : n ≤ 32) (h20 : m.length ≤ 20) (hk : ∀ i, Z 2 (kAt by' i)) :
    Mx ((oth m by' m.length).map CZ) 100000 ∧ (∀ l ∈ (oth m by' m.length).map CZ, l.length = n) ∧
    echT (((oth m by' m.length).map CZ).map vals) n = echT (m.map vals) n ∧ (echW (((oth m by' m.length).map CZ).map vals) n).2 = (echW (m.map vals) n).2 := by
  have hM' : Mx ((oth m by' m.length).map CZ) 100000 := by
    refine ⟨fun l hl p hp => ?_, ?_, by omega⟩
    · obtain ⟨z, _, rfl⟩ := List.mem_map.1 hl
      exact CZ_lm z p hp
    · have := oth_size hm hl (fun l h => by rw [hn l h]; exact hn32) hk m.length (Nat.le_refl _)
      omega
  have hM : Mx m 1500 := ⟨hm, hl, by omega⟩
  have hg : ∀ i, i < m.length → (m.getD i []).length = n := fun i hi => hn _ (getD_mem hi)
  have hlen : ∀ l ∈ (oth m by' m.length).map CZ, l.length = n := by
    intro l hl
    obtain ⟨z, hz, rfl⟩ := List.mem_map.1 hl
    rw [CZ_len]
    obtain ⟨i, hi, rfl | rfl⟩ := oth_mem (Nat.le_refl _) hz
    · rw [rowK_len]; exact hg i hi
    · unfold sumK; rw [List.length_zipWith, vals_len, vals_len, hg i hi, hg _ (Nat.mod_lt _ (by omega)), Nat.min_self]
  have hv : ((oth m by' m.length).map CZ).map vals = oth m by' m.length := by
    rw [List.map_map]
    conv => rhs; rw [← List.map_id (oth m by' m.length)]
    exact List.map_congr_left fun z _ => vals_CZ z
  have hmem : ∀ i, i < m.length → rowsOf (m.map vals) (vc (vals (m.getD i []))) := fun i hi => rows_mem.2 ⟨_, List.mem_map_of_mem (getD_mem hi), rfl⟩
  refine ⟨hM', hlen, ech_same hM' hM hlen hn (fun r hr => ?_) (fun r hr => ?_)⟩
  · rw [hv] at hr
    obtain ⟨z, hz, rfl⟩ := rows_mem.1 hr
    obtain ⟨i, hi, rfl | rfl⟩ := oth_mem (Nat.le_refl _) hz
    · exact .scale (a := kAt by' i) (g := 1) (.mem (hmem i hi)) (by decide) fun c => by rw [vc_rowK]; omega
    · exact .comb (a := 1) (b := 1) (g := 1) (.mem (hmem i hi)) (.mem (hmem _ (Nat.mod_lt (i + 1) (by omega)))) (by decide) fun c => by
        rw [vc_sumK (by rw [hg i hi, hg _ (Nat.mod_lt _ (by omega))])]; omega
  · obtain ⟨z, hz, rfl⟩ := rows_mem.1 hr
    obtain ⟨l, hl, rfl⟩ := List.mem_map.1 hz
    obtain ⟨i, hi, rfl⟩ := mem_getD (d := []) hl
    rw [hv]
    exact .scale (a := 1) (g := kAt by' i) (.mem (rows_mem.2 ⟨_, mem_oth (i := i) (Nat.le_refl _) (by omega) hi, rfl⟩)) (kAt_ne by' i) fun c => by rw [vc_rowK]; omega
end
end Go.Proofs.Ytfjdfnlkobeehaa
