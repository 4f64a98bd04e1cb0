/- Part 36 of the way to the statement: the walk and what it needs. -/
import Derived.Test.YtfjdfnlkobeehaaKDeF35
section
set_option linter.unusedVariables false
set_option linter.unusedSimpArgs false
namespace Go.Proofs.Ytfjdfnlkobeehaa


inductive Sp (I : Vc → Prop) : Vc → Prop
  | zero {w : Vc} : (∀ j, w j = 0) → Sp I w
  | mem {r : Vc} : I r → Sp I r
  | comb {u v w : Vc} {a b g : Int} : Sp I u → Sp I v → g ≠ 0 → (∀ j, g * w j = a * u j + b * v j) → Sp I w
theorem Sp.trans {I J : Vc → Prop} (h : ∀ r, I r → Sp J r) {u : Vc} (hu : Sp I u) : Sp J u := by
  induction hu with
  | zero h => exact .zero h
  | mem hm => exact h _ hm
  | comb _ _ hg hw ih1 ih2 => exact .comb ih1 ih2 hg hw
theorem Sp.scale {I : Vc → Prop} {u w : Vc} {a g : Int} (hu : Sp I u) (hg : g ≠ 0) (hw : ∀ j, g * w j = a * u j) : Sp I w :=
  .comb (a := a) (b := 0) hu hu hg fun j => by rw [hw j]; omega
def rowsOf (T : List (List Int)) (r : Vc) : Prop := ∃ i, i < T.length ∧ r = vc (T.getD i [])
end Go.Proofs.Ytfjdfnlkobeehaa
end

section
set_option linter.unusedVariables false
set_option linter.unusedSimpArgs false
namespace Go.Proofs.Ytfjdfnlkobeehaa


theorem step_cases {s : List (List Int) × List Nat} {n c : Nat} (hn : s.1.length = n) :
    (stepE c s = s ∧ ∀ i, s.2.length ≤ i → i < n → vc (s.1.getD i []) c = 0) ∨
    ∃ i, s.2.length ≤ i ∧ i < n ∧ vc (s.1.getD i []) c ≠ 0 ∧ (stepE c s).2 = s.2 ++ [c] ∧ (stepE c s).1.length = n ∧
      ∀ k, k < n → (stepE c s).1.getD k [] = if k = s.2.length then s.1.getD i [] else clearZ (s.1.getD (swp i s.2.length k) []) (s.1.getD i []) c := by
  unfold stepE
  by_cases hf : findP s.1 c s.2.length < s.1.length
  · right
    obtain ⟨hge, hne⟩ := findP_spec hf
    refine ⟨findP s.1 c s.2.length, hge, by omega, hne, by rw [if_pos hf], by rw [if_pos hf]; simp only [clearAll_len, swapL_len]; exact hn, fun k hk => ?_⟩
    rw [if_pos hf]
    have htn : s.2.length < n := by omega
    simp only
    rw [clearAll_get (by rw [swapL_len]; omega), swapL_get (by omega) hf (by omega), swapL_get (by omega) hf (by omega), swp_t]
    by_cases hkt : k = s.2.length
    · rw [if_pos hkt, if_pos hkt, hkt, swp_t]
    · rw [if_neg hkt, if_neg hkt]
  · left
    refine ⟨by rw [if_neg hf], fun i hi hin => ?_⟩
    have := findP_le (W := s.1) (c := c) (r := s.2.length)
    exact findP_none (by omega) i hi (by omega)
theorem swp_swp {i t k : Nat} : swp i t (swp i t k) = k := by
  unfold swp
  by_cases h1 : k = i
  · subst h1
    rw [if_pos rfl]
    by_cases h2 : t = k
    · rw [if_pos h2]; exact h2
    · rw [if_neg h2, if_pos rfl]
  · rw [if_neg h1]
    by_cases h2 : k = t
    · subst h2; rw [if_pos rfl, if_pos rfl]
    · rw [if_neg h2, if_neg h1, if_neg h2]

structure EW (rows : List (List Int)) (n cols c : Nat) (s : List (List Int) × List Nat) : Prop where
  len : s.1.length = n
  row : ∀ k, k < n → (s.1.getD k []).length = cols
  tle : s.2.length ≤ n
  sub : ∀ k, k < n → Sp (rowsOf rows) (vc (s.1.getD k []))
  sup : ∀ k, k < n → Sp (rowsOf s.1) (vc (rows.getD k []))
  low : ∀ k, s.2.length ≤ k → k < n → ∀ j, j < c → vc (s.1.getD k []) j = 0
  lead : ∀ k (hk : k < s.2.length), s.2[k] < c ∧ ∀ j, j < s.2[k] → vc (s.1.getD k []) j = 0
theorem EW.start {rows : List (List Int)} {cols : Nat} (hc : ∀ z ∈ rows, z.length = cols) : EW rows rows.length cols 0 (rows.map primZ, []) := by
  have hg : ∀ k, k < rows.length → (rows.map primZ).getD k [] = primZ (rows.getD k []) := fun k hk => by simp [List.getD_eq_getElem?_getD, hk]
  refine ⟨by simp, fun k hk => ?_, by simp, fun k hk => ?_, fun k hk => ?_, fun k _ _ j hj => by omega, fun k hk => by simp at hk⟩
  · simp only [hg k hk]
    rw [primZ_len]; exact hc _ (getD_mem hk)
  · simp only [hg k hk]
    by_cases h0 : gcdL (rows.getD k []) = 0
    · refine .zero fun j => ?_
      by_cases hj : j < (primZ (rows.getD k [])).length
      · have hj' := hj
        rw [primZ_len] at hj'
        rw [vc_lt hj]
        simp only [primZ, List.getElem_map]
        rw [gcdL_zero.1 h0 _ (List.getElem_mem hj')]; simp
      · rw [vc_ge (by omega)]
    · exact (Sp.mem ⟨k, hk, rfl⟩).scale (g := (gcdL (rows.getD k []) : Nat)) (a := 1) (by omega) fun j => by rw [primZ_vc]; omega
  · have hm : rowsOf (rows.map primZ) (vc (primZ (rows.getD k []))) := ⟨k, by simpa using hk, by rw [hg k hk]⟩
    exact (Sp.mem hm).scale (g := 1) (a := (gcdL (rows.getD k []) : Nat)) (by decide) fun j => by rw [primZ_vc]; omega
theorem EW.step {rows : List (List Int)} {n cols c : Nat} {s : List (List Int) × List Nat} (h : EW rows n cols c s) : EW rows n cols (c + 1) (stepE c s) := by
  rcases step_cases (c := c) h.len with ⟨e, hz⟩ | ⟨i, hi, hin, hne, eP, hl, hg⟩
  · rw [e]
    refine ⟨h.len, h.row, h.tle, h.sub, h.sup, fun k hk hkn j hj => ?_, fun k hk => ?_⟩
    · by_cases hjc : j = c
      · subst hjc; exact hz k hk hkn
      · exact h.low k hk hkn j (by omega)
    · have := h.lead k hk
      exact ⟨by omega, this.2⟩
  · have htn : s.2.length < n := by omega
    have hPl : (stepE c s).2.length = s.2.length + 1 := by rw [eP]; simp
    have hcl : ∀ k, k < n → k ≠ s.2.length → ∃ a b g : Int, a ≠ 0 ∧ g ≠ 0 ∧ (∀ j, g * vc ((stepE c s).1.getD k []) j = a * vc (s.1.getD (swp i s.2.length k) []) j - b * vc (s.1.getD i []) j) ∧ vc ((stepE c s).1.getD k []) c = 0 := fun k hk hkt => by
      rw [hg k hk, if_neg hkt]
      exact clearZ_line (by rw [h.row _ (swp_bd hin htn hk), h.row i hin]) hne
    have hgt : (stepE c s).1.getD s.2.length [] = s.1.getD i [] := by rw [hg _ htn, if_pos rfl]
    refine ⟨hl, fun k hk => ?_, by omega, fun k hk => ?_, fun k hk => ?_, fun k hk hkn j hj => ?_, fun k hk => ?_⟩
    · rw [hg k hk]
      split
      · exact h.row i hin
      · rw [clearZ_len (by rw [h.row _ (swp_bd hin htn hk), h.row i hin])]; exact h.row _ (swp_bd hin htn hk)
    · by_cases hkt : k = s.2.length
      · subst hkt; rw [hgt]; exact h.sub i hin
      · obtain ⟨a, b, g, _, hg0, hv, _⟩ := hcl k hk hkt
        exact .comb (a := a) (b := -b) (h.sub _ (swp_bd hin htn hk)) (h.sub i hin) hg0 fun j => by rw [hv j, Int.neg_mul]; omega
    · refine Sp.trans ?_ (h.sup k hk)
      rintro r ⟨p, hp, rfl⟩
      rw [h.len] at hp
      have hmt : rowsOf (stepE c s).1 (vc (s.1.getD i [])) := ⟨s.2.length, by omega, by rw [hgt]⟩
      by_cases hpt : swp i s.2.length p = s.2.length
      · have : p = i := by
          have := congrArg (swp i s.2.length) hpt
          rwa [swp_swp, swp_t] at this
        rw [this]; exact .mem hmt
      · obtain ⟨a, b, g, ha, _, hv, _⟩ := hcl _ (swp_bd hin htn hp) hpt
        simp only [swp_swp] at hv
        exact .comb (a := g) (b := b) (.mem ⟨_, by rw [hl]; exact swp_bd hin htn hp, rfl⟩) (.mem hmt) ha fun j => by have := hv j; omega
    · rw [hPl] at hk
      obtain ⟨a, b, g, _, hg0, hv, hvc⟩ := hcl k hkn (by omega)
      by_cases hjc : j = c
      · subst hjc; exact hvc
      · have h1 := hv j
        rw [h.low _ (swp_ge hi (by omega)) (swp_bd hin htn hkn) j (by omega), h.low i hi hin j (by omega), Int.mul_zero, Int.mul_zero] at h1
        exact (Int.mul_eq_zero.1 h1).resolve_left hg0
    · have hk' := hk
      rw [hPl] at hk'
      by_cases hkt : k < s.2.length
      · obtain ⟨a, b, g, _, hg0, hv, _⟩ := hcl k (by omega) (by omega)
        obtain ⟨h1, h2⟩ := h.lead k hkt
        have e : (stepE c s).2[k] = s.2[k] := by simp only [eP]; exact List.getElem_append_left hkt
        rw [e]
        refine ⟨by omega, fun j hj => ?_⟩
        have h3 := hv j
        rw [swp_lt hi hkt, h2 j hj, h.low i hi hin j (by omega), Int.mul_zero, Int.mul_zero] at h3
        exact (Int.mul_eq_zero.1 h3).resolve_left hg0
      · have hkeq : k = s.2.length := by omega
        have e : (stepE c s).2[k] = c := by simp only [eP]; rw [List.getElem_append_right (by omega)]; simp
        rw [e]
        refine ⟨by omega, fun j hj => ?_⟩
        rw [hkeq, hgt]
        exact h.low i hi hin j hj
theorem EW.all {rows : List (List Int)} {cols : Nat} (hc : ∀ z ∈ rows, z.length = cols) : ∀ c, EW rows rows.length cols c (echW rows c)
  | 0 => .start hc
  | c + 1 => (EW.all hc c).step
end Go.Proofs.Ytfjdfnlkobeehaa
end

section
set_option maxRecDepth 100000
set_option linter.unusedVariables false
set_option linter.unusedSimpArgs false
namespace Go.Proofs.Ytfjdfnlkobeehaa

theorem vc_z {z : List Int} {k : Nat} (h : ∀ x ∈ z, Z k x) (j : Nat) : Z k (vc z j) := by
  by_cases hj : j < z.length
  · rw [vc_lt hj]; exact h _ (List.getElem_mem hj)
  · rw [vc_ge (by omega)]; exact Z.zero k
def insW (T : List (List Int)) (Pv : List Nat) (v : List Int) : Nat → List Int
  | 0 => v
  | k + 1 => clearZ (insW T Pv v k) (T.getD k []) (Pv.getD k 0)
def insB (T : List (List Int)) (Pv : List Nat) (v : List Int) : Bool := zeroB (insW T Pv v Pv.length)
section
variable {e : List (List (Bool × List Nat))} {Pv : List Nat} {v : List (Bool × List Nat)} {cols j k : Nat}
theorem getD_vals {i : Nat} (h : i < e.length) : (e.map vals).getD i [] = vals (e.getD i []) := by simp [h]
end
end Go.Proofs.Ytfjdfnlkobeehaa

namespace Go.Proofs.Ytfjdfnlkobeehaa


theorem spl_set {z : List Int} {p : Nat} (h : p < z.length) (x : Int) : spl (SWc (CZ z)) (p * 2) [.val (.bool (decide (x < 0))), .sl (D x.natAbs).length ((D x.natAbs).map U)] = SWc (CZ (z.set p x)) := by
  have e1 : CZ z = CZ (z.take p) ++ CZ (z.drop p) := by rw [← CZ_app, List.take_append_drop]
  have e2 : z.set p x = z.take p ++ x :: z.drop (p + 1) := by rw [List.set_eq_take_append_cons_drop, if_pos h]
  have e3 : z.drop p = z[p] :: z.drop (p + 1) := List.drop_eq_getElem_cons h
  rw [e2, e1, SWc_app, spl_W (by rw [SWc_len, CZ_len, List.length_take]; omega), CZ_app, SWc_app, e3, List.append_assoc]
  rfl

end Go.Proofs.Ytfjdfnlkobeehaa

namespace Go.Proofs.Ytfjdfnlkobeehaa


end Go.Proofs.Ytfjdfnlkobeehaa

namespace Go.Proofs.Ytfjdfnlkobeehaa

theorem sub_len : ∀ {l m : List Nat}, l.Nodup → (∀ x ∈ l, x ∈ m) → l.length ≤ m.length
  | [], _, _, _ => Nat.zero_le _
  | x :: l, m, hn, hs => by
    rw [List.nodup_cons] at hn
    have hx := hs x (List.mem_cons_self ..)
    have h1 := sub_len (l := l) (m := m.erase x) hn.2 fun y hy => (List.mem_erase_of_ne (by rintro rfl; exact hn.1 hy)).2 (hs y (List.mem_cons_of_mem _ hy))
    rw [List.length_erase_of_mem hx] at h1
    have := List.length_pos_of_mem hx
    simp only [List.length_cons]
    omega
theorem sub_eq {l m : List Nat} (hn : l.Nodup) (hs : ∀ x ∈ l, x ∈ m) (hl : l.length = m.length) : ∀ y ∈ m, y ∈ l := by
  intro y hy
  apply Classical.byContradiction
  intro hno
  have h1 := sub_len (l := l) (m := m.erase y) hn fun x hx => (List.mem_erase_of_ne (by rintro rfl; exact hno hx)).2 (hs x hx)
  rw [List.length_erase_of_mem hy] at h1
  have := List.length_pos_of_mem hy
  omega
end Go.Proofs.Ytfjdfnlkobeehaa

namespace Go.Proofs.Ytfjdfnlkobeehaa

structure EP (rows : List (List Int)) (n cols : Nat) (s : List (List Int) × List Nat) : Prop where
  len : s.1.length = n
  row : ∀ k, k < n → (s.1.getD k []).length = cols
  st : ∃ (O : Nat → Vc) (σ : Nat → Nat), EI (fun k => vc (s.1.getD k [])) O n s.2 ∧ (∀ k, k < n → σ k < n ∧ O k = vc (rows.getD (σ k) [])) ∧ ∀ a b, a < n → b < n → σ a = σ b → a = b
theorem EP.start {rows : List (List Int)} {cols : Nat} (hc : ∀ z ∈ rows, z.length = cols) : EP rows rows.length cols (rows.map primZ, []) := by
  have h0 := EZ.start (β := 2) (B := sz (fun k => ((rows.map fun z => (z.map Int.natAbs).sum).sum)) rows.length) (rows := rows) (κ := fun k => ((rows.map fun z => (z.map Int.natAbs).sum).sum)) hc (fun k hk x hx => by
    have h1 : ∀ (l : List Nat) (a : Nat), a ∈ l → a ≤ l.sum := fun l a ha => by
      induction l with
      | nil => simp at ha
      | cons b l ih =>
        rw [List.sum_cons]
        rcases List.mem_cons.1 ha with rfl | ha
        · omega
        · have := ih ha; omega
    have h2 := h1 _ _ (List.mem_map_of_mem (f := Int.natAbs) hx)
    have h3 := h1 _ _ (List.mem_map_of_mem (f := fun z => (z.map Int.natAbs).sum) (getD_mem (d := []) hk))
    have h4 := Nat.lt_two_pow_self (n := (rows.map fun z => (z.map Int.natAbs).sum).sum)
    omega) (Nat.le_refl _)
  have hg : ∀ k, k < rows.length → (rows.map primZ).getD k [] = primZ (rows.getD k []) := fun k hk => by simp [List.getD_eq_getElem?_getD, hk]
  refine ⟨h0.len, fun k hk => (h0.row k hk).1, fun k => vc (rows.getD k []), fun k => k, EI.start fun k hk => ?_, fun k hk => ⟨hk, rfl⟩, fun a b _ _ h => h⟩
  simp only [hg k hk]
  by_cases h0 : gcdL (rows.getD k []) = 0
  · refine ⟨1, by decide, fun j => ?_⟩
    have h2 := gcdL_zero.1 h0
    have h1 := primZ_vc (rows.getD k []) j
    rw [h0] at h1
    rw [← h1]
    by_cases hj : j < (primZ (rows.getD k [])).length
    · have hj' := hj
      rw [primZ_len] at hj'
      rw [vc_lt hj]
      simp only [primZ, List.getElem_map]
      rw [h2 _ (List.getElem_mem hj')]; simp
    · rw [vc_ge (by omega)]; simp
  · exact ⟨(gcdL (rows.getD k []) : Nat), by omega, fun j => primZ_vc _ j⟩
theorem EP.step {rows : List (List Int)} {n cols c : Nat} {s : List (List Int) × List Nat} (h : EP rows n cols s) : EP rows n cols (stepE c s) := by
  obtain ⟨O, σ, hE, hO, hinj⟩ := h.st
  rcases step_cases (c := c) h.len with ⟨e, hz⟩ | ⟨i, hi, hin, hne, eP, hl, hg⟩
  · rw [e]; exact h
  · have htn : s.2.length < n := by omega
    have hS := hE.swap hi hin
    refine ⟨hl, fun k hk => ?_, fun k => O (swp i s.2.length k), fun k => σ (swp i s.2.length k), ?_, fun k hk => hO _ (swp_bd hin htn hk), fun a b ha hb hab => ?_⟩
    · rw [hg k hk]
      split
      · exact h.row i hin
      · rw [clearZ_len (by rw [h.row _ (swp_bd hin htn hk), h.row i hin])]; exact h.row _ (swp_bd hin htn hk)
    · rw [eP]
      refine EI.clear hS htn (c := c) ?_ ?_ ?_
      · simp only [swp_t]; exact hne
      · simp only [hg _ htn, if_pos, swp_t]
      · intro k hk hkt
        simp only [hg k hk, if_neg hkt, swp_t]
        exact clearZ_line (by rw [h.row _ (swp_bd hin htn hk), h.row i hin]) hne
    · have := hinj _ _ (swp_bd hin htn ha) (swp_bd hin htn hb) hab
      have := congrArg (swp i s.2.length) this
      rwa [swp_swp, swp_swp] at this
theorem EP.all {rows : List (List Int)} {cols : Nat} (hc : ∀ z ∈ rows, z.length = cols) : ∀ c, EP rows rows.length cols (echW rows c)
  | 0 => .start hc
  | c + 1 => (EP.all hc c).step

end Go.Proofs.Ytfjdfnlkobeehaa

namespace Go.Proofs.Ytfjdfnlkobeehaa

end Go.Proofs.Ytfjdfnlkobeehaa

namespace Go.Proofs.Ytfjdfnlkobeehaa


end Go.Proofs.Ytfjdfnlkobeehaa

namespace Go.Proofs.Ytfjdfnlkobeehaa

end Go.Proofs.Ytfjdfnlkobeehaa

namespace Go.Proofs.Ytfjdfnlkobeehaa

end Go.Proofs.Ytfjdfnlkobeehaa
end

section
set_option linter.unusedVariables false
set_option linter.unusedSimpArgs false
namespace Go.Proofs.Ytfjdfnlkobeehaa


def mulL (t : Int) (z : List Int) : List Int := z.map (t * ·)
theorem mulL_one (z : List Int) : mulL 1 z = z := by simp [mulL]
theorem mulL_neg (z : List Int) : z.map (- ·) = mulL (-1) z := by simp [mulL]
theorem mulL_len (t : Int) (z : List Int) : (mulL t z).length = z.length := by simp [mulL]
theorem mulL_vc (t : Int) (z : List Int) (j : Nat) : vc (mulL t z) j = t * vc z j := by
  by_cases h : j < z.length
  · rw [vc_lt (by rw [mulL_len]; exact h), vc_lt h]; simp [mulL]
  · rw [vc_ge (by rw [mulL_len]; omega), vc_ge (by omega), Int.mul_zero]
theorem upZ_mul (z : List Int) : ∃ s : Int, (s = 1 ∨ s = -1) ∧ upZ z = mulL s z := by
  rcases upZ_cases z with e | e
  · exact ⟨1, .inl rfl, by rw [e, mulL_one]⟩
  · exact ⟨-1, .inr rfl, by rw [e, mulL_neg]⟩
def canZ (z : List Int) : List Int := upZ (primZ z)
theorem canZ_len (z : List Int) : (canZ z).length = z.length := by rw [canZ, upZ_len, primZ_len]
theorem up_vc0 {z : List Int} {c : Nat} : vc (upZ z) c = 0 ↔ vc z c = 0 := by
  obtain ⟨s, hs, e⟩ := upZ_mul z
  rw [e, mulL_vc]
  rcases hs with rfl | rfl <;> omega

def insR (T : List (List Int)) (Pv : List Nat) (v : List Int) : Nat → List Int
  | 0 => v
  | k + 1 => if vc (insR T Pv v k) (Pv.getD k 0) = 0 then insR T Pv v k else canZ (combZ (vc (T.getD k []) (Pv.getD k 0)) (vc (insR T Pv v k) (Pv.getD k 0)) (insR T Pv v k) (T.getD k []))
end Go.Proofs.Ytfjdfnlkobeehaa
end
