/- The echelon form spans what the rows span, and begins where it should. No program in sight. -/
import Derived.Test.YtfjdfnlkobeehaaUniq
set_option linter.unusedVariables false
set_option linter.unusedSimpArgs false
namespace Go.Proofs.Ytfjdfnlkobeehaa

/-- One step, told by its rows. -/
theorem step_cases {s : List (List Int) × List Nat} {n c : Nat} (hn : s.1.length = n) :
    (stepE c s = s ∧ ∀ i, s.2.length ≤ i → i < n → vc (s.1.getD i []) c = 0) ∨
    ∃ i, s.2.length ≤ i ∧ i < n ∧ vc (s.1.getD i []) c ≠ 0 ∧ (stepE c s).2 = s.2 ++ [c] ∧ (stepE c s).1.length = n ∧
      ∀ k, k < n → (stepE c s).1.getD k [] = if k = s.2.length then s.1.getD i [] else clearZ (s.1.getD (swp i s.2.length k) []) (s.1.getD i []) c := by
  unfold stepE
  by_cases hf : findP s.1 c s.2.length < s.1.length
  · right
    obtain ⟨hge, hne⟩ := findP_spec hf
    refine ⟨findP s.1 c s.2.length, hge, by omega, hne, by rw [if_pos hf], by rw [if_pos hf]; simp only [clearAll_len, swapL_len]; exact hn, fun k hk => ?_⟩
    rw [if_pos hf]
    have htn : s.2.length < n := by omega
    simp only
    rw [clearAll_get (by rw [swapL_len]; omega), swapL_get (by omega) hf (by omega), swapL_get (by omega) hf (by omega), swp_t]
    by_cases hkt : k = s.2.length
    · rw [if_pos hkt, if_pos hkt, hkt, swp_t]
    · rw [if_neg hkt, if_neg hkt]
  · left
    refine ⟨by rw [if_neg hf], fun i hi hin => ?_⟩
    have := findP_le (W := s.1) (c := c) (r := s.2.length)
    exact findP_none (by omega) i hi (by omega)
theorem swp_swp {i t k : Nat} : swp i t (swp i t k) = k := by
  unfold swp
  by_cases h1 : k = i
  · subst h1
    rw [if_pos rfl]
    by_cases h2 : t = k
    · rw [if_pos h2]; exact h2
    · rw [if_neg h2, if_pos rfl]
  · rw [if_neg h1]
    by_cases h2 : k = t
    · subst h2; rw [if_pos rfl, if_pos rfl]
    · rw [if_neg h2, if_neg h1, if_neg h2]
/-- What stays true of the work over rows. -/
structure EW (rows : List (List Int)) (n cols c : Nat) (s : List (List Int) × List Nat) : Prop where
  len : s.1.length = n
  row : ∀ k, k < n → (s.1.getD k []).length = cols
  tle : s.2.length ≤ n
  sub : ∀ k, k < n → Sp (rowsOf rows) (vc (s.1.getD k []))
  sup : ∀ k, k < n → Sp (rowsOf s.1) (vc (rows.getD k []))
  low : ∀ k, s.2.length ≤ k → k < n → ∀ j, j < c → vc (s.1.getD k []) j = 0
  lead : ∀ k (hk : k < s.2.length), s.2[k] < c ∧ ∀ j, j < s.2[k] → vc (s.1.getD k []) j = 0
theorem EW.start {rows : List (List Int)} {cols : Nat} (hc : ∀ z ∈ rows, z.length = cols) : EW rows rows.length cols 0 (rows.map primZ, []) := by
  have hg : ∀ k, k < rows.length → (rows.map primZ).getD k [] = primZ (rows.getD k []) := fun k hk => by simp [List.getD_eq_getElem?_getD, hk]
  refine ⟨by simp, fun k hk => ?_, by simp, fun k hk => ?_, fun k hk => ?_, fun k _ _ j hj => by omega, fun k hk => by simp at hk⟩
  · simp only [hg k hk]
    rw [primZ_len]; exact hc _ (getD_mem hk)
  · simp only [hg k hk]
    by_cases h0 : gcdL (rows.getD k []) = 0
    · refine .zero fun j => ?_
      by_cases hj : j < (primZ (rows.getD k [])).length
      · have hj' := hj
        rw [primZ_len] at hj'
        rw [vc_lt hj]
        simp only [primZ, List.getElem_map]
        rw [gcdL_zero.1 h0 _ (List.getElem_mem hj')]; simp
      · rw [vc_ge (by omega)]
    · exact (Sp.mem ⟨k, hk, rfl⟩).scale (g := (gcdL (rows.getD k []) : Nat)) (a := 1) (by omega) fun j => by rw [primZ_vc]; omega
  · have hm : rowsOf (rows.map primZ) (vc (primZ (rows.getD k []))) := ⟨k, by simpa using hk, by rw [hg k hk]⟩
    exact (Sp.mem hm).scale (g := 1) (a := (gcdL (rows.getD k []) : Nat)) (by decide) fun j => by rw [primZ_vc]; omega
theorem EW.step {rows : List (List Int)} {n cols c : Nat} {s : List (List Int) × List Nat} (h : EW rows n cols c s) : EW rows n cols (c + 1) (stepE c s) := by
  rcases step_cases (c := c) h.len with ⟨e, hz⟩ | ⟨i, hi, hin, hne, eP, hl, hg⟩
  · rw [e]
    refine ⟨h.len, h.row, h.tle, h.sub, h.sup, fun k hk hkn j hj => ?_, fun k hk => ?_⟩
    · by_cases hjc : j = c
      · subst hjc; exact hz k hk hkn
      · exact h.low k hk hkn j (by omega)
    · have := h.lead k hk
      exact ⟨by omega, this.2⟩
  · have htn : s.2.length < n := by omega
    have hPl : (stepE c s).2.length = s.2.length + 1 := by rw [eP]; simp
    have hcl : ∀ k, k < n → k ≠ s.2.length → ∃ a b g : Int, a ≠ 0 ∧ g ≠ 0 ∧ (∀ j, g * vc ((stepE c s).1.getD k []) j = a * vc (s.1.getD (swp i s.2.length k) []) j - b * vc (s.1.getD i []) j) ∧ vc ((stepE c s).1.getD k []) c = 0 := fun k hk hkt => by
      rw [hg k hk, if_neg hkt]
      exact clearZ_line (by rw [h.row _ (swp_bd hin htn hk), h.row i hin]) hne
    have hgt : (stepE c s).1.getD s.2.length [] = s.1.getD i [] := by rw [hg _ htn, if_pos rfl]
    refine ⟨hl, fun k hk => ?_, by omega, fun k hk => ?_, fun k hk => ?_, fun k hk hkn j hj => ?_, fun k hk => ?_⟩
    · rw [hg k hk]
      split
      · exact h.row i hin
      · rw [clearZ_len (by rw [h.row _ (swp_bd hin htn hk), h.row i hin])]; exact h.row _ (swp_bd hin htn hk)
    · by_cases hkt : k = s.2.length
      · subst hkt; rw [hgt]; exact h.sub i hin
      · obtain ⟨a, b, g, _, hg0, hv, _⟩ := hcl k hk hkt
        exact .comb (a := a) (b := -b) (h.sub _ (swp_bd hin htn hk)) (h.sub i hin) hg0 fun j => by rw [hv j, Int.neg_mul]; omega
    · refine Sp.trans ?_ (h.sup k hk)
      rintro r ⟨p, hp, rfl⟩
      rw [h.len] at hp
      have hmt : rowsOf (stepE c s).1 (vc (s.1.getD i [])) := ⟨s.2.length, by omega, by rw [hgt]⟩
      by_cases hpt : swp i s.2.length p = s.2.length
      · have : p = i := by
          have := congrArg (swp i s.2.length) hpt
          rwa [swp_swp, swp_t] at this
        rw [this]; exact .mem hmt
      · obtain ⟨a, b, g, ha, _, hv, _⟩ := hcl _ (swp_bd hin htn hp) hpt
        simp only [swp_swp] at hv
        exact .comb (a := g) (b := b) (.mem ⟨_, by rw [hl]; exact swp_bd hin htn hp, rfl⟩) (.mem hmt) ha fun j => by have := hv j; omega
    · rw [hPl] at hk
      obtain ⟨a, b, g, _, hg0, hv, hvc⟩ := hcl k hkn (by omega)
      by_cases hjc : j = c
      · subst hjc; exact hvc
      · have h1 := hv j
        rw [h.low _ (swp_ge hi (by omega)) (swp_bd hin htn hkn) j (by omega), h.low i hi hin j (by omega), Int.mul_zero, Int.mul_zero] at h1
        exact (Int.mul_eq_zero.1 h1).resolve_left hg0
    · have hk' := hk
      rw [hPl] at hk'
      by_cases hkt : k < s.2.length
      · obtain ⟨a, b, g, _, hg0, hv, _⟩ := hcl k (by omega) (by omega)
        obtain ⟨h1, h2⟩ := h.lead k hkt
        have e : (stepE c s).2[k] = s.2[k] := by simp only [eP]; exact List.getElem_append_left hkt
        rw [e]
        refine ⟨by omega, fun j hj => ?_⟩
        have h3 := hv j
        rw [swp_lt hi hkt, h2 j hj, h.low i hi hin j (by omega), Int.mul_zero, Int.mul_zero] at h3
        exact (Int.mul_eq_zero.1 h3).resolve_left hg0
      · have hkeq : k = s.2.length := by omega
        have e : (stepE c s).2[k] = c := by simp only [eP]; rw [List.getElem_append_right (by omega)]; simp
        rw [e]
        refine ⟨by omega, fun j hj => ?_⟩
        rw [hkeq, hgt]
        exact h.low i hi hin j hj
theorem EW.all {rows : List (List Int)} {cols : Nat} (hc : ∀ z ∈ rows, z.length = cols) : ∀ c, EW rows rows.length cols c (echW rows c)
  | 0 => .start hc
  | c + 1 => (EW.all hc c).step
theorem sgF_zero {t : Int} (ht : t ≠ 0) : ∀ zs : List Int, sgF t zs = t
  | [] => rfl
  | z :: zs => by
    show sgF (if t = 0 then cZ z 0 else t) zs = t
    rw [if_neg ht]; exact sgF_zero ht zs
/-- The sign of a row is that of its first number. -/
theorem sgF_lead : ∀ (z : List Int) (c : Nat), (∀ j, j < c → vc z j = 0) → vc z c ≠ 0 → sgF 0 z = cZ (vc z c) 0
  | [], c, _, h => absurd (vc_ge (by simp)) h
  | x :: z, 0, _, h => by
    have e : vc (x :: z) 0 = x := rfl
    rw [e] at h ⊢
    show sgF (if (0 : Int) = 0 then cZ x 0 else 0) z = _
    rw [if_pos rfl]
    exact sgF_zero (by unfold cZ; split <;> (try split) <;> omega) z
  | x :: z, c + 1, h0, h => by
    have e0 := h0 0 (by omega)
    have e : vc (x :: z) 0 = x := rfl
    rw [e] at e0
    subst e0
    show sgF (if (0 : Int) = 0 then cZ 0 0 else 0) z = _
    rw [if_pos rfl, cZ_eq rfl]
    exact sgF_lead z c (fun j hj => h0 (j + 1) (by omega)) h
theorem upZ_pos {z : List Int} {c : Nat} (h : ∀ j, j < c → vc z j = 0) (hc : vc z c ≠ 0) : 0 < vc (upZ z) c := by
  have hs := sgF_lead z c h hc
  unfold upZ
  by_cases hneg : vc z c < 0
  · rw [hs, cZ_lt hneg, if_pos (by decide), neg_vc]; omega
  · rw [hs, cZ_gt (by omega), if_neg (by decide)]; omega
/-- What Echelon tells is in echelon form, and spans what the rows span. -/
theorem echT_RE {m : List (List (Bool × List Nat))} {cols B : Nat} (h : Mx m B) (hc : ∀ l ∈ m, l.length = cols) :
    RE (echT (m.map vals) cols) (echW (m.map vals) cols).2 cols ∧ (∀ r, rowsOf (echT (m.map vals) cols) r → Sp (rowsOf (m.map vals)) r) ∧ (∀ r, rowsOf (m.map vals) r → Sp (rowsOf (echT (m.map vals) cols)) r) := by
  have hR := h.rr hc
  have hW := EW.all (rows := m.map vals) (cols := cols) (fun z hz => by
    obtain ⟨l, hl, rfl⟩ := List.mem_map.1 hz
    rw [vals_len]; exact hc l hl) cols
  rw [List.length_map] at hW
  have hle : (echW (m.map vals) cols).2.length ≤ (echW (m.map vals) cols).1.length := by rw [hW.len]; exact hW.tle
  have hget : ∀ i, i < (echW (m.map vals) cols).2.length → (echT (m.map vals) cols).getD i [] = upZ ((echW (m.map vals) cols).1.getD i []) := fun i hi => echT_get hi hle
  have hup : ∀ z : List Int, Sp (fun r => r = vc z) (vc (upZ z)) ∧ Sp (fun r => r = vc (upZ z)) (vc z) := fun z => by
    rcases upZ_cases z with e | e
    · rw [e]; exact ⟨.mem rfl, .mem rfl⟩
    · rw [e]
      exact ⟨(Sp.mem (I := fun r => r = vc z) (r := vc z) rfl).scale (g := 1) (a := -1) (by decide) fun j => by rw [neg_vc]; omega, (Sp.mem (I := fun r => r = vc (z.map (- ·))) (r := vc (z.map (- ·))) rfl).scale (g := 1) (a := -1) (by decide) fun j => by rw [neg_vc]; omega⟩
  refine ⟨⟨hR.len, fun i hi => (hR.row i hi).1, hR.col, hR.inc, hR.piv, hR.prm, fun i hi j hj => ?_, fun i hi => ?_⟩, ?_, ?_⟩
  · rw [hget i hi]
    have := (hW.lead i hi).2 j hj
    rcases upZ_cases ((echW (m.map vals) cols).1.getD i []) with e | e
    · rw [e]; exact this
    · rw [e, neg_vc, this]; rfl
  · rw [hget i hi]
    refine upZ_pos (hW.lead i hi).2 ?_
    have := (hR.piv i i hi hi).2 rfl
    rw [hget i hi] at this
    rcases upZ_cases ((echW (m.map vals) cols).1.getD i []) with e | e
    · rwa [e] at this
    · rw [e, neg_vc] at this; omega
  · rintro r ⟨i, hi, rfl⟩
    rw [hR.len] at hi
    rw [hget i hi]
    exact Sp.trans (fun r hr => by rw [hr]; exact hW.sub i (by have := hW.tle; omega)) (hup _).1
  · rintro r ⟨i, hi, rfl⟩
    refine Sp.trans ?_ (hW.sup i (by simpa using hi))
    rintro r ⟨k, hk, rfl⟩
    by_cases hkt : k < (echW (m.map vals) cols).2.length
    · refine Sp.trans (fun r hr => ?_) (hup _).2
      rw [hr, ← hget k hkt]
      exact .mem ⟨k, by rw [hR.len]; exact hkt, rfl⟩
    · have hkn : k < m.length := by rw [hW.len] at hk; exact hk
      refine .zero fun j => ?_
      by_cases hj : j < cols
      · exact hW.low k (by omega) hkn j hj
      · exact vc_ge (by rw [hW.row k hkn]; omega)
/-- The same span, the same echelon form. -/
theorem ech_same {m m' : List (List (Bool × List Nat))} {cols B B' : Nat} (h : Mx m B) (h' : Mx m' B') (hc : ∀ l ∈ m, l.length = cols) (hc' : ∀ l ∈ m', l.length = cols)
    (hs : ∀ r, rowsOf (m.map vals) r → Sp (rowsOf (m'.map vals)) r) (hs' : ∀ r, rowsOf (m'.map vals) r → Sp (rowsOf (m.map vals)) r) : echT (m.map vals) cols = echT (m'.map vals) cols ∧ (echW (m.map vals) cols).2 = (echW (m'.map vals) cols).2 := by
  obtain ⟨a1, a2, a3⟩ := echT_RE h hc
  obtain ⟨b1, b2, b3⟩ := echT_RE h' hc'
  exact a1.uniq b1 (fun r hr => (Sp.trans hs (a2 r hr)).trans b3) (fun r hr => (Sp.trans hs' (b2 r hr)).trans a3)
end Go.Proofs.Ytfjdfnlkobeehaa
