/- Part 36 of the way to the statement: the walk and what it needs. -/
import Derived.Test.YtfjdfnlkobeehaaGreatKSoF35
section
set_option linter.unusedVariables false
set_option linter.unusedSimpArgs false
namespace Go.Proofs.YtfjdfnlkobeehaaGreat


inductive Sp (I : Vc → Prop) : Vc → Prop
  | zero {w : Vc} : (∀ j, w j = 0) → Sp I w
  | mem {r : Vc} : I r → Sp I r
  | comb {u v w : Vc} {a b g : Int} : Sp I u → Sp I v → g ≠ 0 → (∀ j, g * w j = a * u j + b * v j) → Sp I w
theorem Sp.trans {I J : Vc → Prop} (h : ∀ r, I r → Sp J r) {u : Vc} (hu : Sp I u) : Sp J u := by
  induction hu with
  | zero h => exact .zero h
  | mem hm => exact h _ hm
  | comb _ _ hg hw ih1 ih2 => exact .comb ih1 ih2 hg hw
theorem Sp.scale {I : Vc → Prop} {u w : Vc} {a g : Int} (hu : Sp I u) (hg : g ≠ 0) (hw : ∀ j, g * w j = a * u j) : Sp I w :=
  .comb (a := a) (b := 0) hu hu hg fun j => by rw [hw j]; omega
structure RE (T : List (List Int)) (Pv : List Nat) (cols : Nat) : Prop where
  len : T.length = Pv.length
  row : ∀ i, i < T.length → (T.getD i []).length = cols
  col : ∀ c ∈ Pv, c < cols
  inc : ∀ i j (hi : i < Pv.length) (hj : j < Pv.length), i < j → Pv[i] < Pv[j]
  piv : ∀ i j (hj : j < Pv.length), i < Pv.length → (vc (T.getD i []) Pv[j] ≠ 0 ↔ j = i)
  prm : ∀ i, i < T.length → Prm (T.getD i [])
  lead : ∀ i (hi : i < Pv.length), ∀ j, j < Pv[i] → vc (T.getD i []) j = 0
  pos : ∀ i (hi : i < Pv.length), 0 < vc (T.getD i []) Pv[i]


def rowsOf (T : List (List Int)) (r : Vc) : Prop := ∃ i, i < T.length ∧ r = vc (T.getD i [])
end Go.Proofs.YtfjdfnlkobeehaaGreat
end

section
set_option linter.unusedVariables false
set_option linter.unusedSimpArgs false
namespace Go.Proofs.YtfjdfnlkobeehaaGreat


theorem step_cases {s : List (List Int) × List Nat} {n c : Nat} (hn : s.1.length = n) :
    (stepE c s = s ∧ ∀ i, s.2.length ≤ i → i < n → vc (s.1.getD i []) c = 0) ∨
    ∃ i, s.2.length ≤ i ∧ i < n ∧ vc (s.1.getD i []) c ≠ 0 ∧ (stepE c s).2 = s.2 ++ [c] ∧ (stepE c s).1.length = n ∧
      ∀ k, k < n → (stepE c s).1.getD k [] = if k = s.2.length then s.1.getD i [] else clearZ (s.1.getD (swp i s.2.length k) []) (s.1.getD i []) c := by
  unfold stepE
  by_cases hf : findP s.1 c s.2.length < s.1.length
  · right
    obtain ⟨hge, hne⟩ := findP_spec hf
    refine ⟨findP s.1 c s.2.length, hge, by omega, hne, by rw [if_pos hf], by rw [if_pos hf]; simp only [clearAll_len, swapL_len]; exact hn, fun k hk => ?_⟩
    rw [if_pos hf]
    have htn : s.2.length < n := by omega
    simp only
    rw [clearAll_get (by rw [swapL_len]; omega), swapL_get (by omega) hf (by omega), swapL_get (by omega) hf (by omega), swp_t]
    by_cases hkt : k = s.2.length
    · rw [if_pos hkt, if_pos hkt, hkt, swp_t]
    · rw [if_neg hkt, if_neg hkt]
  · left
    refine ⟨by rw [if_neg hf], fun i hi hin => ?_⟩
    have := findP_le (W := s.1) (c := c) (r := s.2.length)
    exact findP_none (by omega) i hi (by omega)
theorem swp_swp {i t k : Nat} : swp i t (swp i t k) = k := by
  unfold swp
  by_cases h1 : k = i
  · subst h1
    rw [if_pos rfl]
    by_cases h2 : t = k
    · rw [if_pos h2]; exact h2
    · rw [if_neg h2, if_pos rfl]
  · rw [if_neg h1]
    by_cases h2 : k = t
    · subst h2; rw [if_pos rfl, if_pos rfl]
    · rw [if_neg h2, if_neg h1, if_neg h2]

structure EW (rows : List (List Int)) (n cols c : Nat) (s : List (List Int) × List Nat) : Prop where
  len : s.1.length = n
  row : ∀ k, k < n → (s.1.getD k []).length = cols
  tle : s.2.length ≤ n
  sub : ∀ k, k < n → Sp (rowsOf rows) (vc (s.1.getD k []))
  sup : ∀ k, k < n → Sp (rowsOf s.1) (vc (rows.getD k []))
  low : ∀ k, s.2.length ≤ k → k < n → ∀ j, j < c → vc (s.1.getD k []) j = 0
  lead : ∀ k (hk : k < s.2.length), s.2[k] < c ∧ ∀ j, j < s.2[k] → vc (s.1.getD k []) j = 0
theorem EW.start {rows : List (List Int)} {cols : Nat} (hc : ∀ z ∈ rows, z.length = cols) : EW rows rows.length cols 0 (rows.map primZ, []) := by
  have hg : ∀ k, k < rows.length → (rows.map primZ).getD k [] = primZ (rows.getD k []) := fun k hk => by simp [List.getD_eq_getElem?_getD, hk]
  refine ⟨by simp, fun k hk => ?_, by simp, fun k hk => ?_, fun k hk => ?_, fun k _ _ j hj => by omega, fun k hk => by simp at hk⟩
  · simp only [hg k hk]
    rw [primZ_len]; exact hc _ (getD_mem hk)
  · simp only [hg k hk]
    by_cases h0 : gcdL (rows.getD k []) = 0
    · refine .zero fun j => ?_
      by_cases hj : j < (primZ (rows.getD k [])).length
      · have hj' := hj
        rw [primZ_len] at hj'
        rw [vc_lt hj]
        simp only [primZ, List.getElem_map]
        rw [gcdL_zero.1 h0 _ (List.getElem_mem hj')]; simp
      · rw [vc_ge (by omega)]
    · exact (Sp.mem ⟨k, hk, rfl⟩).scale (g := (gcdL (rows.getD k []) : Nat)) (a := 1) (by omega) fun j => by rw [primZ_vc]; omega
  · have hm : rowsOf (rows.map primZ) (vc (primZ (rows.getD k []))) := ⟨k, by simpa using hk, by rw [hg k hk]⟩
    exact (Sp.mem hm).scale (g := 1) (a := (gcdL (rows.getD k []) : Nat)) (by decide) fun j => by rw [primZ_vc]; omega
theorem EW.step {rows : List (List Int)} {n cols c : Nat} {s : List (List Int) × List Nat} (h : EW rows n cols c s) : EW rows n cols (c + 1) (stepE c s) := by
  rcases step_cases (c := c) h.len with ⟨e, hz⟩ | ⟨i, hi, hin, hne, eP, hl, hg⟩
  · rw [e]
    refine ⟨h.len, h.row, h.tle, h.sub, h.sup, fun k hk hkn j hj => ?_, fun k hk => ?_⟩
    · by_cases hjc : j = c
      · subst hjc; exact hz k hk hkn
      · exact h.low k hk hkn j (by omega)
    · have := h.lead k hk
      exact ⟨by omega, this.2⟩
  · have htn : s.2.length < n := by omega
    have hPl : (stepE c s).2.length = s.2.length + 1 := by rw [eP]; simp
    have hcl : ∀ k, k < n → k ≠ s.2.length → ∃ a b g : Int, a ≠ 0 ∧ g ≠ 0 ∧ (∀ j, g * vc ((stepE c s).1.getD k []) j = a * vc (s.1.getD (swp i s.2.length k) []) j - b * vc (s.1.getD i []) j) ∧ vc ((stepE c s).1.getD k []) c = 0 := fun k hk hkt => by
      rw [hg k hk, if_neg hkt]
      exact clearZ_line (by rw [h.row _ (swp_bd hin htn hk), h.row i hin]) hne
    have hgt : (stepE c s).1.getD s.2.length [] = s.1.getD i [] := by rw [hg _ htn, if_pos rfl]
    refine ⟨hl, fun k hk => ?_, by omega, fun k hk => ?_, fun k hk => ?_, fun k hk hkn j hj => ?_, fun k hk => ?_⟩
    · rw [hg k hk]
      split
      · exact h.row i hin
      · rw [clearZ_len (by rw [h.row _ (swp_bd hin htn hk), h.row i hin])]; exact h.row _ (swp_bd hin htn hk)
    · by_cases hkt : k = s.2.length
      · subst hkt; rw [hgt]; exact h.sub i hin
      · obtain ⟨a, b, g, _, hg0, hv, _⟩ := hcl k hk hkt
        exact .comb (a := a) (b := -b) (h.sub _ (swp_bd hin htn hk)) (h.sub i hin) hg0 fun j => by rw [hv j, Int.neg_mul]; omega
    · refine Sp.trans ?_ (h.sup k hk)
      rintro r ⟨p, hp, rfl⟩
      rw [h.len] at hp
      have hmt : rowsOf (stepE c s).1 (vc (s.1.getD i [])) := ⟨s.2.length, by omega, by rw [hgt]⟩
      by_cases hpt : swp i s.2.length p = s.2.length
      · have : p = i := by
          have := congrArg (swp i s.2.length) hpt
          rwa [swp_swp, swp_t] at this
        rw [this]; exact .mem hmt
      · obtain ⟨a, b, g, ha, _, hv, _⟩ := hcl _ (swp_bd hin htn hp) hpt
        simp only [swp_swp] at hv
        exact .comb (a := g) (b := b) (.mem ⟨_, by rw [hl]; exact swp_bd hin htn hp, rfl⟩) (.mem hmt) ha fun j => by have := hv j; omega
    · rw [hPl] at hk
      obtain ⟨a, b, g, _, hg0, hv, hvc⟩ := hcl k hkn (by omega)
      by_cases hjc : j = c
      · subst hjc; exact hvc
      · have h1 := hv j
        rw [h.low _ (swp_ge hi (by omega)) (swp_bd hin htn hkn) j (by omega), h.low i hi hin j (by omega), Int.mul_zero, Int.mul_zero] at h1
        exact (Int.mul_eq_zero.1 h1).resolve_left hg0
    · have hk' := hk
      rw [hPl] at hk'
      by_cases hkt : k < s.2.length
      · obtain ⟨a, b, g, _, hg0, hv, _⟩ := hcl k (by omega) (by omega)
        obtain ⟨h1, h2⟩ := h.lead k hkt
        have e : (stepE c s).2[k] = s.2[k] := by simp only [eP]; exact List.getElem_append_left hkt
        rw [e]
        refine ⟨by omega, fun j hj => ?_⟩
        have h3 := hv j
        rw [swp_lt hi hkt, h2 j hj, h.low i hi hin j (by omega), Int.mul_zero, Int.mul_zero] at h3
        exact (Int.mul_eq_zero.1 h3).resolve_left hg0
      · have hkeq : k = s.2.length := by omega
        have e : (stepE c s).2[k] = c := by simp only [eP]; rw [List.getElem_append_right (by omega)]; simp
        rw [e]
        refine ⟨by omega, fun j hj => ?_⟩
        rw [hkeq, hgt]
        exact h.low i hi hin j hj
theorem EW.all {rows : List (List Int)} {cols : Nat} (hc : ∀ z ∈ rows, z.length = cols) : ∀ c, EW rows rows.length cols c (echW rows c)
  | 0 => .start hc
  | c + 1 => (EW.all hc c).step
theorem sgF_zero {t : Int} (ht : t ≠ 0) : ∀ zs : List Int, sgF t zs = t
  | [] => rfl
  | z :: zs => by
    show sgF (if t = 0 then cZ z 0 else t) zs = t
    rw [if_neg ht]; exact sgF_zero ht zs

theorem sgF_lead : ∀ (z : List Int) (c : Nat), (∀ j, j < c → vc z j = 0) → vc z c ≠ 0 → sgF 0 z = cZ (vc z c) 0
  | [], c, _, h => absurd (vc_ge (by simp)) h
  | x :: z, 0, _, h => by
    have e : vc (x :: z) 0 = x := rfl
    rw [e] at h ⊢
    show sgF (if (0 : Int) = 0 then cZ x 0 else 0) z = _
    rw [if_pos rfl]
    exact sgF_zero (by unfold cZ; split <;> (try split) <;> omega) z
  | x :: z, c + 1, h0, h => by
    have e0 := h0 0 (by omega)
    have e : vc (x :: z) 0 = x := rfl
    rw [e] at e0
    subst e0
    show sgF (if (0 : Int) = 0 then cZ 0 0 else 0) z = _
    rw [if_pos rfl, cZ_eq rfl]
    exact sgF_lead z c (fun j hj => h0 (j + 1) (by omega)) h
theorem upZ_pos {z : List Int} {c : Nat} (h : ∀ j, j < c → vc z j = 0) (hc : vc z c ≠ 0) : 0 < vc (upZ z) c := by
  have hs := sgF_lead z c h hc
  unfold upZ
  by_cases hneg : vc z c < 0
  · rw [hs, cZ_lt hneg, if_pos (by decide), neg_vc]; omega
  · rw [hs, cZ_gt (by omega), if_neg (by decide)]; omega

theorem echT_RE {m : List (List (Bool × List Nat))} {cols B : Nat} (h : Mx m B) (hc : ∀ l ∈ m, l.length = cols) :
    RE (echT (m.map vals) cols) (echW (m.map vals) cols).2 cols ∧ (∀ r, rowsOf (echT (m.map vals) cols) r → Sp (rowsOf (m.map vals)) r) ∧ (∀ r, rowsOf (m.map vals) r → Sp (rowsOf (echT (m.map vals) cols)) r) := by
  have hR := h.rr hc
  have hW := EW.all (rows := m.map vals) (cols := cols) (fun z hz => by
    obtain ⟨l, hl, rfl⟩ := List.mem_map.1 hz
    rw [vals_len]; exact hc l hl) cols
  rw [List.length_map] at hW
  have hle : (echW (m.map vals) cols).2.length ≤ (echW (m.map vals) cols).1.length := by rw [hW.len]; exact hW.tle
  have hget : ∀ i, i < (echW (m.map vals) cols).2.length → (echT (m.map vals) cols).getD i [] = upZ ((echW (m.map vals) cols).1.getD i []) := fun i hi => echT_get hi hle
  have hup : ∀ z : List Int, Sp (fun r => r = vc z) (vc (upZ z)) ∧ Sp (fun r => r = vc (upZ z)) (vc z) := fun z => by
    rcases upZ_cases z with e | e
    · rw [e]; exact ⟨.mem rfl, .mem rfl⟩
    · rw [e]
      exact ⟨(Sp.mem (I := fun r => r = vc z) (r := vc z) rfl).scale (g := 1) (a := -1) (by decide) fun j => by rw [neg_vc]; omega, (Sp.mem (I := fun r => r = vc (z.map (- ·))) (r := vc (z.map (- ·))) rfl).scale (g := 1) (a := -1) (by decide) fun j => by rw [neg_vc]; omega⟩
  refine ⟨⟨hR.len, fun i hi => (hR.row i hi).1, hR.col, hR.inc, hR.piv, hR.prm, fun i hi j hj => ?_, fun i hi => ?_⟩, ?_, ?_⟩
  · rw [hget i hi]
    have := (hW.lead i hi).2 j hj
    rcases upZ_cases ((echW (m.map vals) cols).1.getD i []) with e | e
    · rw [e]; exact this
    · rw [e, neg_vc, this]; rfl
  · rw [hget i hi]
    refine upZ_pos (hW.lead i hi).2 ?_
    have := (hR.piv i i hi hi).2 rfl
    rw [hget i hi] at this
    rcases upZ_cases ((echW (m.map vals) cols).1.getD i []) with e | e
    · rwa [e] at this
    · rw [e, neg_vc] at this; omega
  · rintro r ⟨i, hi, rfl⟩
    rw [hR.len] at hi
    rw [hget i hi]
    exact Sp.trans (fun r hr => by rw [hr]; exact hW.sub i (by have := hW.tle; omega)) (hup _).1
  · rintro r ⟨i, hi, rfl⟩
    refine Sp.trans ?_ (hW.sup i (by simpa using hi))
    rintro r ⟨k, hk, rfl⟩
    by_cases hkt : k < (echW (m.map vals) cols).2.length
    · refine Sp.trans (fun r hr => ?_) (hup _).2
      rw [hr, ← hget k hkt]
      exact .mem ⟨k, by rw [hR.len]; exact hkt, rfl⟩
    · have hkn : k < m.length := by rw [hW.len] at hk; exact hk
      refine .zero fun j => ?_
      by_cases hj : j < cols
      · exact hW.low k (by omega) hkn j hj
      · exact vc_ge (by rw [hW.row k hkn]; omega)

end Go.Proofs.YtfjdfnlkobeehaaGreat
end

section
set_option maxRecDepth 100000
set_option linter.unusedVariables false
set_option linter.unusedSimpArgs false
namespace Go.Proofs.YtfjdfnlkobeehaaGreat

theorem combZ_z {a b : Int} {i j : Nat} : ∀ {z p : List Int}, Z j a → Z i b → (∀ x ∈ z, Z i x) → (∀ x ∈ p, Z j x) → ∀ x ∈ combZ a b z p, Z (i + j + 1) x
  | [], _, _, _, _, _ => fun x hx => by simp [combZ] at hx
  | _ :: _, [], _, _, _, _ => fun x hx => by simp [combZ] at hx
  | z :: zs, p :: ps, ha, hb, hz, hp => fun x hx => by
    have e : combZ a b (z :: zs) (p :: ps) = (a * z - b * p) :: combZ a b zs ps := rfl
    rw [e] at hx
    rcases List.mem_cons.1 hx with rfl | hx
    · have h1 := ha.mul (hz z (List.mem_cons_self ..))
      rw [Nat.add_comm] at h1
      exact h1.sub (hb.mul (hp p (List.mem_cons_self ..)))
    · exact combZ_z ha hb (fun y hy => hz y (List.mem_cons_of_mem _ hy)) (fun y hy => hp y (List.mem_cons_of_mem _ hy)) x hx
theorem vc_z {z : List Int} {k : Nat} (h : ∀ x ∈ z, Z k x) (j : Nat) : Z k (vc z j) := by
  by_cases hj : j < z.length
  · rw [vc_lt hj]; exact h _ (List.getElem_mem hj)
  · rw [vc_ge (by omega)]; exact Z.zero k
def insW (T : List (List Int)) (Pv : List Nat) (v : List Int) : Nat → List Int
  | 0 => v
  | k + 1 => clearZ (insW T Pv v k) (T.getD k []) (Pv.getD k 0)
def insB (T : List (List Int)) (Pv : List Nat) (v : List Int) : Bool := zeroB (insW T Pv v Pv.length)
section
variable {e : List (List (Bool × List Nat))} {Pv : List Nat} {v : List (Bool × List Nat)} {cols j k : Nat}
theorem getD_vals {i : Nat} (h : i < e.length) : (e.map vals).getD i [] = vals (e.getD i []) := by simp [h]

end
end Go.Proofs.YtfjdfnlkobeehaaGreat

namespace Go.Proofs.YtfjdfnlkobeehaaGreat


end Go.Proofs.YtfjdfnlkobeehaaGreat

namespace Go.Proofs.YtfjdfnlkobeehaaGreat


def frees (Pv : List Nat) (n : Nat) : List Nat := (List.range n).filter fun f => decide (f ∉ Pv)
theorem frees_succ (Pv : List Nat) (n : Nat) : frees Pv (n + 1) = frees Pv n ++ if n ∈ Pv then [] else [n] := by
  unfold frees
  rw [List.range_succ, List.filter_append]
  by_cases h : n ∈ Pv <;> simp [h]
theorem mem_frees {Pv : List Nat} {n f : Nat} : f ∈ frees Pv n ↔ f < n ∧ f ∉ Pv := by simp [frees]

end Go.Proofs.YtfjdfnlkobeehaaGreat

namespace Go.Proofs.YtfjdfnlkobeehaaGreat

section
variable {T T' : List (List Int)} {Pv Pv' : List Nat} {cols : Nat}
theorem RE.pivD (h : RE T Pv cols) {i : Nat} (hi : i < Pv.length) : 0 < vc (T.getD i []) (Pv.getD i 0) := by
  have := h.pos i hi
  rwa [show Pv.getD i 0 = Pv[i] by simp [hi]]
end
end Go.Proofs.YtfjdfnlkobeehaaGreat

namespace Go.Proofs.YtfjdfnlkobeehaaGreat

end Go.Proofs.YtfjdfnlkobeehaaGreat

namespace Go.Proofs.YtfjdfnlkobeehaaGreat

end Go.Proofs.YtfjdfnlkobeehaaGreat

namespace Go.Proofs.YtfjdfnlkobeehaaGreat


theorem Mx.tle {m : List (List (Bool × List Nat))} {cols B : Nat} (h : Mx m B) (hc : ∀ l ∈ m, l.length = cols) : (echW (m.map vals) cols).2.length ≤ m.length := by
  obtain ⟨O, κ, hI, _⟩ := ((h.ez hc).1 cols).st
  exact hI.tle
section
variable {m : List (List (Bool × List Nat))} {cols B κ j k : Nat} {v : List (Bool × List Nat)}
theorem Mx.echZ (h : Mx m B) (hc : ∀ l ∈ m, l.length = cols) : ∀ z ∈ echT (m.map vals) cols, ∀ x ∈ z, Z (B + 1) x := by
  intro z hz
  obtain ⟨i, hi, rfl⟩ := mem_getD (d := []) hz
  exact ((h.rr hc).row i hi).2
end
end Go.Proofs.YtfjdfnlkobeehaaGreat

namespace Go.Proofs.YtfjdfnlkobeehaaGreat


end Go.Proofs.YtfjdfnlkobeehaaGreat

namespace Go.Proofs.YtfjdfnlkobeehaaGreat

end Go.Proofs.YtfjdfnlkobeehaaGreat
end
