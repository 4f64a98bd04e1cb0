/- Part 36 of the way to the statement: the walk and what it needs. -/
import Derived.Test.YtfjdfnlkobeehaaKInF35
section
set_option linter.unusedVariables false
set_option linter.unusedSimpArgs false
namespace Go.Proofs.Ytfjdfnlkobeehaa


inductive Sp (I : Vc → Prop) : Vc → Prop
  | zero {w : Vc} : (∀ j, w j = 0) → Sp I w
  | mem {r : Vc} : I r → Sp I r
  | comb {u v w : Vc} {a b g : Int} : Sp I u → Sp I v → g ≠ 0 → (∀ j, g * w j = a * u j + b * v j) → Sp I w
theorem Sp.trans {I J : Vc → Prop} (h : ∀ r, I r → Sp J r) {u : Vc} (hu : Sp I u) : Sp J u := by
  induction hu with
  | zero h => exact .zero h
  | mem hm => exact h _ hm
  | comb _ _ hg hw ih1 ih2 => exact .comb ih1 ih2 hg hw
theorem Sp.scale {I : Vc → Prop} {u w : Vc} {a g : Int} (hu : Sp I u) (hg : g ≠ 0) (hw : ∀ j, g * w j = a * u j) : Sp I w :=
  .comb (a := a) (b := 0) hu hu hg fun j => by rw [hw j]; omega
structure RE (T : List (List Int)) (Pv : List Nat) (cols : Nat) : Prop where
  len : T.length = Pv.length
  row : ∀ i, i < T.length → (T.getD i []).length = cols
  col : ∀ c ∈ Pv, c < cols
  inc : ∀ i j (hi : i < Pv.length) (hj : j < Pv.length), i < j → Pv[i] < Pv[j]
  piv : ∀ i j (hj : j < Pv.length), i < Pv.length → (vc (T.getD i []) Pv[j] ≠ 0 ↔ j = i)
  prm : ∀ i, i < T.length → Prm (T.getD i [])
  lead : ∀ i (hi : i < Pv.length), ∀ j, j < Pv[i] → vc (T.getD i []) j = 0
  pos : ∀ i (hi : i < Pv.length), 0 < vc (T.getD i []) Pv[i]


def rowsOf (T : List (List Int)) (r : Vc) : Prop := ∃ i, i < T.length ∧ r = vc (T.getD i [])
end Go.Proofs.Ytfjdfnlkobeehaa
end

section
set_option linter.unusedVariables false
set_option linter.unusedSimpArgs false
namespace Go.Proofs.Ytfjdfnlkobeehaa


theorem step_cases {s : List (List Int) × List Nat} {n c : Nat} (hn : s.1.length = n) :
    (stepE c s = s ∧ ∀ i, s.2.length ≤ i → i < n → vc (s.1.getD i []) c = 0) ∨
    ∃ i, s.2.length ≤ i ∧ i < n ∧ vc (s.1.getD i []) c ≠ 0 ∧ (stepE c s).2 = s.2 ++ [c] ∧ (stepE c s).1.length = n ∧
      ∀ k, k < n → (stepE c s).1.getD k [] = if k = s.2.length then s.1.getD i [] else clearZ (s.1.getD (swp i s.2.length k) []) (s.1.getD i []) c := by
  unfold stepE
  by_cases hf : findP s.1 c s.2.length < s.1.length
  · right
    obtain ⟨hge, hne⟩ := findP_spec hf
    refine ⟨findP s.1 c s.2.length, hge, by omega, hne, by rw [if_pos hf], by rw [if_pos hf]; simp only [clearAll_len, swapL_len]; exact hn, fun k hk => ?_⟩
    rw [if_pos hf]
    have htn : s.2.length < n := by omega
    simp only
    rw [clearAll_get (by rw [swapL_len]; omega), swapL_get (by omega) hf (by omega), swapL_get (by omega) hf (by omega), swp_t]
    by_cases hkt : k = s.2.length
    · rw [if_pos hkt, if_pos hkt, hkt, swp_t]
    · rw [if_neg hkt, if_neg hkt]
  · left
    refine ⟨by rw [if_neg hf], fun i hi hin => ?_⟩
    have := findP_le (W := s.1) (c := c) (r := s.2.length)
    exact findP_none (by omega) i hi (by omega)
theorem swp_swp {i t k : Nat} : swp i t (swp i t k) = k := by
  unfold swp
  by_cases h1 : k = i
  · subst h1
    rw [if_pos rfl]
    by_cases h2 : t = k
    · rw [if_pos h2]; exact h2
    · rw [if_neg h2, if_pos rfl]
  · rw [if_neg h1]
    by_cases h2 : k = t
    · subst h2; rw [if_pos rfl, if_pos rfl]
    · rw [if_neg h2, if_neg h1, if_neg h2]

structure EW (rows : List (List Int)) (n cols c : Nat) (s : List (List Int) × List Nat) : Prop where
  len : s.1.length = n
  row : ∀ k, k < n → (s.1.getD k []).length = cols
  tle : s.2.length ≤ n
  sub : ∀ k, k < n → Sp (rowsOf rows) (vc (s.1.getD k []))
  sup : ∀ k, k < n → Sp (rowsOf s.1) (vc (rows.getD k []))
  low : ∀ k, s.2.length ≤ k → k < n → ∀ j, j < c → vc (s.1.getD k []) j = 0
  lead : ∀ k (hk : k < s.2.length), s.2[k] < c ∧ ∀ j, j < s.2[k] → vc (s.1.getD k []) j = 0
theorem EW.start {rows : List (List Int)} {cols : Nat} (hc : ∀ z ∈ rows, z.length = cols) : EW rows rows.length cols 0 (rows.map primZ, []) := by
  have hg : ∀ k, k < rows.length → (rows.map primZ).getD k [] = primZ (rows.getD k []) := fun k hk => by simp [List.getD_eq_getElem?_getD, hk]
  refine ⟨by simp, fun k hk => ?_, by simp, fun k hk => ?_, fun k hk => ?_, fun k _ _ j hj => by omega, fun k hk => by simp at hk⟩
  · simp only [hg k hk]
    rw [primZ_len]; exact hc _ (getD_mem hk)
  · simp only [hg k hk]
    by_cases h0 : gcdL (rows.getD k []) = 0
    · refine .zero fun j => ?_
      by_cases hj : j < (primZ (rows.getD k [])).length
      · have hj' := hj
        rw [primZ_len] at hj'
        rw [vc_lt hj]
        simp only [primZ, List.getElem_map]
        rw [gcdL_zero.1 h0 _ (List.getElem_mem hj')]; simp
      · rw [vc_ge (by omega)]
    · exact (Sp.mem ⟨k, hk, rfl⟩).scale (g := (gcdL (rows.getD k []) : Nat)) (a := 1) (by omega) fun j => by rw [primZ_vc]; omega
  · have hm : rowsOf (rows.map primZ) (vc (primZ (rows.getD k []))) := ⟨k, by simpa using hk, by rw [hg k hk]⟩
    exact (Sp.mem hm).scale (g := 1) (a := (gcdL (rows.getD k []) : Nat)) (by decide) fun j => by rw [primZ_vc]; omega
theorem EW.step {rows : List (List Int)} {n cols c : Nat} {s : List (List Int) × List Nat} (h : EW rows n cols c s) : EW rows n cols (c + 1) (stepE c s) := by
  rcases step_cases (c := c) h.len with ⟨e, hz⟩ | ⟨i, hi, hin, hne, eP, hl, hg⟩
  · rw [e]
    refine ⟨h.len, h.row, h.tle, h.sub, h.sup, fun k hk hkn j hj => ?_, fun k hk => ?_⟩
    · by_cases hjc : j = c
      · subst hjc; exact hz k hk hkn
      · exact h.low k hk hkn j (by omega)
    · have := h.lead k hk
      exact ⟨by omega, this.2⟩
  · have htn : s.2.length < n := by omega
    have hPl : (stepE c s).2.length = s.2.length + 1 := by rw [eP]; simp
    have hcl : ∀ k, k < n → k ≠ s.2.length → ∃ a b g : Int, a ≠ 0 ∧ g ≠ 0 ∧ (∀ j, g * vc ((stepE c s).1.getD k []) j = a * vc (s.1.getD (swp i s.2.length k) []) j - b * vc (s.1.getD i []) j) ∧ vc ((stepE c s).1.getD k []) c = 0 := fun k hk hkt => by
      rw [hg k hk, if_neg hkt]
      exact clearZ_line (by rw [h.row _ (swp_bd hin htn hk), h.row i hin]) hne
    have hgt : (stepE c s).1.getD s.2.length [] = s.1.getD i [] := by rw [hg _ htn, if_pos rfl]
    refine ⟨hl, fun k hk => ?_, by omega, fun k hk => ?_, fun k hk => ?_, fun k hk hkn j hj => ?_, fun k hk => ?_⟩
    · rw [hg k hk]
      split
      · exact h.row i hin
      · rw [clearZ_len (by rw [h.row _ (swp_bd hin htn hk), h.row i hin])]; exact h.row _ (swp_bd hin htn hk)
    · by_cases hkt : k = s.2.length
      · subst hkt; rw [hgt]; exact h.sub i hin
      · obtain ⟨a, b, g, _, hg0, hv, _⟩ := hcl k hk hkt
        exact .comb (a := a) (b := -b) (h.sub _ (swp_bd hin htn hk)) (h.sub i hin) hg0 fun j => by rw [hv j, Int.neg_mul]; omega
    · refine Sp.trans ?_ (h.sup k hk)
      rintro r ⟨p, hp, rfl⟩
      rw [h.len] at hp
      have hmt : rowsOf (stepE c s).1 (vc (s.1.getD i [])) := ⟨s.2.length, by omega, by rw [hgt]⟩
      by_cases hpt : swp i s.2.length p = s.2.length
      · have : p = i := by
          have := congrArg (swp i s.2.length) hpt
          rwa [swp_swp, swp_t] at this
        rw [this]; exact .mem hmt
      · obtain ⟨a, b, g, ha, _, hv, _⟩ := hcl _ (swp_bd hin htn hp) hpt
        simp only [swp_swp] at hv
        exact .comb (a := g) (b := b) (.mem ⟨_, by rw [hl]; exact swp_bd hin htn hp, rfl⟩) (.mem hmt) ha fun j => by have := hv j; omega
    · rw [hPl] at hk
      obtain ⟨a, b, g, _, hg0, hv, hvc⟩ := hcl k hkn (by omega)
      by_cases hjc : j = c
      · subst hjc; exact hvc
      · have h1 := hv j
        rw [h.low _ (swp_ge hi (by omega)) (swp_bd hin htn hkn) j (by omega), h.low i hi hin j (by omega), Int.mul_zero, Int.mul_zero] at h1
        exact (Int.mul_eq_zero.1 h1).resolve_left hg0
    · have hk' := hk
      rw [hPl] at hk'
      by_cases hkt : k < s.2.length
      · obtain ⟨a, b, g, _, hg0, hv, _⟩ := hcl k (by omega) (by omega)
        obtain ⟨h1, h2⟩ := h.lead k hkt
        have e : (stepE c s).2[k] = s.2[k] := by simp only [eP]; exact List.getElem_append_left hkt
        rw [e]
        refine ⟨by omega, fun j hj => ?_⟩
        have h3 := hv j
        rw [swp_lt hi hkt, h2 j hj, h.low i hi hin j (by omega), Int.mul_zero, Int.mul_zero] at h3
        exact (Int.mul_eq_zero.1 h3).resolve_left hg0
      · have hkeq : k = s.2.length := by omega
        have e : (stepE c s).2[k] = c := by simp only [eP]; rw [List.getElem_append_right (by omega)]; simp
        rw [e]
        refine ⟨by omega, fun j hj => ?_⟩
        rw [hkeq, hgt]
        exact h.low i hi hin j hj
theorem EW.all {rows : List (List Int)} {cols : Nat} (hc : ∀ z ∈ rows, z.length = cols) : ∀ c, EW rows rows.length cols c (echW rows c)
  | 0 => .start hc
  | c + 1 => (EW.all hc c).step
theorem sgF_zero {t : Int} (ht : t ≠ 0) : ∀ zs : List Int, sgF t zs = t
  | [] => rfl
  | z :: zs => by
    show sgF (if t = 0 then cZ z 0 else t) zs = t
    rw [if_neg ht]; exact sgF_zero ht zs

theorem sgF_lead : ∀ (z : List Int) (c : Nat), (∀ j, j < c → vc z j = 0) → vc z c ≠ 0 → sgF 0 z = cZ (vc z c) 0
  | [], c, _, h => absurd (vc_ge (by simp)) h
  | x :: z, 0, _, h => by
    have e : vc (x :: z) 0 = x := rfl
    rw [e] at h ⊢
    show sgF (if (0 : Int) = 0 then cZ x 0 else 0) z = _
    rw [if_pos rfl]
    exact sgF_zero (by unfold cZ; split <;> (try split) <;> omega) z
  | x :: z, c + 1, h0, h => by
    have e0 := h0 0 (by omega)
    have e : vc (x :: z) 0 = x := rfl
    rw [e] at e0
    subst e0
    show sgF (if (0 : Int) = 0 then cZ 0 0 else 0) z = _
    rw [if_pos rfl, cZ_eq rfl]
    exact sgF_lead z c (fun j hj => h0 (j + 1) (by omega)) h
theorem upZ_pos {z : List Int} {c : Nat} (h : ∀ j, j < c → vc z j = 0) (hc : vc z c ≠ 0) : 0 < vc (upZ z) c := by
  have hs := sgF_lead z c h hc
  unfold upZ
  by_cases hneg : vc z c < 0
  · rw [hs, cZ_lt hneg, if_pos (by decide), neg_vc]; omega
  · rw [hs, cZ_gt (by omega), if_neg (by decide)]; omega

theorem echT_RE {m : List (List (Bool × List Nat))} {cols B : Nat} (h : Mx m B) (hc : ∀ l ∈ m, l.length = cols) :
    RE (echT (m.map vals) cols) (echW (m.map vals) cols).2 cols ∧ (∀ r, rowsOf (echT (m.map vals) cols) r → Sp (rowsOf (m.map vals)) r) ∧ (∀ r, rowsOf (m.map vals) r → Sp (rowsOf (echT (m.map vals) cols)) r) := by
  have hR := h.rr hc
  have hW := EW.all (rows := m.map vals) (cols := cols) (fun z hz => by
    obtain ⟨l, hl, rfl⟩ := List.mem_map.1 hz
    rw [vals_len]; exact hc l hl) cols
  rw [List.length_map] at hW
  have hle : (echW (m.map vals) cols).2.length ≤ (echW (m.map vals) cols).1.length := by rw [hW.len]; exact hW.tle
  have hget : ∀ i, i < (echW (m.map vals) cols).2.length → (echT (m.map vals) cols).getD i [] = upZ ((echW (m.map vals) cols).1.getD i []) := fun i hi => echT_get hi hle
  have hup : ∀ z : List Int, Sp (fun r => r = vc z) (vc (upZ z)) ∧ Sp (fun r => r = vc (upZ z)) (vc z) := fun z => by
    rcases upZ_cases z with e | e
    · rw [e]; exact ⟨.mem rfl, .mem rfl⟩
    · rw [e]
      exact ⟨(Sp.mem (I := fun r => r = vc z) (r := vc z) rfl).scale (g := 1) (a := -1) (by decide) fun j => by rw [neg_vc]; omega, (Sp.mem (I := fun r => r = vc (z.map (- ·))) (r := vc (z.map (- ·))) rfl).scale (g := 1) (a := -1) (by decide) fun j => by rw [neg_vc]; omega⟩
  refine ⟨⟨hR.len, fun i hi => (hR.row i hi).1, hR.col, hR.inc, hR.piv, hR.prm, fun i hi j hj => ?_, fun i hi => ?_⟩, ?_, ?_⟩
  · rw [hget i hi]
    have := (hW.lead i hi).2 j hj
    rcases upZ_cases ((echW (m.map vals) cols).1.getD i []) with e | e
    · rw [e]; exact this
    · rw [e, neg_vc, this]; rfl
  · rw [hget i hi]
    refine upZ_pos (hW.lead i hi).2 ?_
    have := (hR.piv i i hi hi).2 rfl
    rw [hget i hi] at this
    rcases upZ_cases ((echW (m.map vals) cols).1.getD i []) with e | e
    · rwa [e] at this
    · rw [e, neg_vc] at this; omega
  · rintro r ⟨i, hi, rfl⟩
    rw [hR.len] at hi
    rw [hget i hi]
    exact Sp.trans (fun r hr => by rw [hr]; exact hW.sub i (by have := hW.tle; omega)) (hup _).1
  · rintro r ⟨i, hi, rfl⟩
    refine Sp.trans ?_ (hW.sup i (by simpa using hi))
    rintro r ⟨k, hk, rfl⟩
    by_cases hkt : k < (echW (m.map vals) cols).2.length
    · refine Sp.trans (fun r hr => ?_) (hup _).2
      rw [hr, ← hget k hkt]
      exact .mem ⟨k, by rw [hR.len]; exact hkt, rfl⟩
    · have hkn : k < m.length := by rw [hW.len] at hk; exact hk
      refine .zero fun j => ?_
      by_cases hj : j < cols
      · exact hW.low k (by omega) hkn j hj
      · exact vc_ge (by rw [hW.row k hkn]; omega)

end Go.Proofs.Ytfjdfnlkobeehaa
end

section
set_option maxRecDepth 100000
set_option linter.unusedVariables false
set_option linter.unusedSimpArgs false
namespace Go.Proofs.Ytfjdfnlkobeehaa

theorem combZ_z {a b : Int} {i j : Nat} : ∀ {z p : List Int}, Z j a → Z i b → (∀ x ∈ z, Z i x) → (∀ x ∈ p, Z j x) → ∀ x ∈ combZ a b z p, Z (i + j + 1) x
  | [], _, _, _, _, _ => fun x hx => by simp [combZ] at hx
  | _ :: _, [], _, _, _, _ => fun x hx => by simp [combZ] at hx
  | z :: zs, p :: ps, ha, hb, hz, hp => fun x hx => by
    have e : combZ a b (z :: zs) (p :: ps) = (a * z - b * p) :: combZ a b zs ps := rfl
    rw [e] at hx
    rcases List.mem_cons.1 hx with rfl | hx
    · have h1 := ha.mul (hz z (List.mem_cons_self ..))
      rw [Nat.add_comm] at h1
      exact h1.sub (hb.mul (hp p (List.mem_cons_self ..)))
    · exact combZ_z ha hb (fun y hy => hz y (List.mem_cons_of_mem _ hy)) (fun y hy => hp y (List.mem_cons_of_mem _ hy)) x hx
theorem vc_z {z : List Int} {k : Nat} (h : ∀ x ∈ z, Z k x) (j : Nat) : Z k (vc z j) := by
  by_cases hj : j < z.length
  · rw [vc_lt hj]; exact h _ (List.getElem_mem hj)
  · rw [vc_ge (by omega)]; exact Z.zero k
theorem clearZ_z {z p : List Int} {i j c : Nat} (hz : ∀ x ∈ z, Z i x) (hp : ∀ x ∈ p, Z j x) : ∀ x ∈ clearZ z p c, Z (i + j + 1) x := by
  intro x hx
  unfold clearZ at hx
  split at hx
  · exact (hz x hx).mono (by omega)
  · obtain ⟨y, hy, rfl⟩ := List.mem_map.1 hx
    exact (combZ_z (vc_z hp c).div (vc_z hz c).div hz hp y hy).div

def insW (T : List (List Int)) (Pv : List Nat) (v : List Int) : Nat → List Int
  | 0 => v
  | k + 1 => clearZ (insW T Pv v k) (T.getD k []) (Pv.getD k 0)
def insB (T : List (List Int)) (Pv : List Nat) (v : List Int) : Bool := zeroB (insW T Pv v Pv.length)
section
variable {e : List (List (Bool × List Nat))} {Pv : List Nat} {v : List (Bool × List Nat)} {cols j k : Nat}
theorem getD_vals {i : Nat} (h : i < e.length) : (e.map vals).getD i [] = vals (e.getD i []) := by simp [h]
theorem einside_calls (he : ∀ l ∈ e, Rn l j ∧ l.length = cols) (hPv : Pv.length = e.length) (hPc : ∀ c ∈ Pv, c < cols) (hv : Rn v k) (hvl : v.length = cols) (hcols : cols ≤ 1000000) (hn : Pv.length ≤ 1000000)
    (hk : 2 * (k + Pv.length * (j + 1) + j) + 1 ≤ 1000000) :
    PT Try.prog 62 [SM e, .sl Pv.length (Pv.map Ref.I), SW v] (isV (.val (.bool (insB (e.map vals) Pv (vals v))))) := by
  refine PCalls.enter (n := 26) (rs := [.tmp 6]) (tb := []) Try.func62 rfl rfl rfl (by kernel_rfl) (by kernel_rfl) (by simp) fun c hc ht => ?_
  simp -implicitDefEqProofs (disch := omega) only [go_sem, ht]
  refine LW.loopW hc ht (by kernel_rfl) (fun t => t.sl 0 = .sl e.length (e.map SW) ∧ t.sl 9 = .sl Pv.length (Pv.map Ref.I) ∧ t.sl 10 = .val (.int .i64 Pv.length) ∧ ∃ i : Nat, i ≤ Pv.length ∧ t.sl 11 = .val (.int .i64 i) ∧
      ∃ l : List (Bool × List Nat), t.sl 2 = .sl l.length (SWc l) ∧ l.length = cols ∧ vals l = insW (e.map vals) Pv (vals v) i ∧ Rn l (k + i * (j + 1)))
    (fun t => match t.sl 11 with | .val (.int _ x) => Pv.length - x.toNat | _ => 0) ?_ ?_
  · simp -implicitDefEqProofs (disch := omega) only [go_sem, ht]
    exact ⟨0, Nat.zero_le _, rfl, v, rfl, hvl, rfl, by simpa using hv⟩
  · rintro t ⟨h0, h9, h10, i, hi, h11, l, h2, hll, hvals, hl⟩
    by_cases hil : i = Pv.length
    · subst hil
      have hz := zero_calls hl (by omega)
      rw [hvals] at hz
      change PT _ _ _ (isV (.val (.bool (insB (e.map vals) Pv (vals v))))) at hz
      simp -implicitDefEqProofs (disch := omega) only [go_sem, ht, h0, h9, h10, h11, h2]
      (refine pCall_vw (by refine ⟨⟨?_, ?_⟩, ?_, ?_⟩; rotate_left 2; (first | (right; rintro r rfl; rfl) | left); all_goals ((try simp -implicitDefEqProofs (disch := omega) only [h2, go_sem, ht]) <;> rfl)) (hz) ?_; rintro _ nx - rfl hnx; simp -implicitDefEqProofs (disch := omega) only [h2, go_sem, ht])
      (refine end_treeW 0 ?_; simp -implicitDefEqProofs (disch := omega) only [go_sem, ht])
    · have hlt : i < Pv.length := by omega
      have hge := get_SM' (m := e) (show i < e.length by omega)
      have hgp : (Pv.map Ref.I)[i]? = some (.val (.int .i64 (Pv.getD i 0 : Nat))) := by simp [hlt, Ref.I]
      have hpc : Pv.getD i 0 < cols := hPc _ (getD_mem hlt)
      obtain ⟨r1, r2⟩ := he _ (getD_mem (d := []) (show i < e.length by omega))
      have hsz : i * (j + 1) + (j + 1) ≤ Pv.length * (j + 1) := by
        have := Nat.mul_le_mul_right (j + 1) (show i + 1 ≤ Pv.length from hlt)
        rw [Nat.succ_mul] at this
        exact this
      have hcl := clear_calls (c := Pv.getD i 0) (k := k + i * (j + 1) + j) (l := l) (p := e.getD i []) ⟨fun q hq => ⟨(hl.ok q hq).1, by have := (hl.ok q hq).2; omega⟩, by omega⟩ ⟨fun q hq => ⟨(r1.ok q hq).1, by have := (r1.ok q hq).2; omega⟩, by omega⟩ (by omega) (by omega) (by omega) (by omega)
      have hst : insW (e.map vals) Pv (vals v) (i + 1) = clearZ (vals l) (vals (e.getD i [])) (Pv.getD i 0) := by
        rw [hvals, ← getD_vals (show i < e.length by omega)]; rfl
      have hnew : ∃ l' : List (Bool × List Nat), (if vc (vals l) (Pv.getD i 0) = 0 then l else CZ (clearZ (vals l) (vals (e.getD i [])) (Pv.getD i 0))) = l' ∧ l'.length = cols ∧ vals l' = insW (e.map vals) Pv (vals v) (i + 1) ∧ Rn l' (k + (i + 1) * (j + 1)) := by
        refine ⟨_, rfl, ?_⟩
        have hs2 : k + (i + 1) * (j + 1) = k + i * (j + 1) + j + 1 := by rw [Nat.succ_mul]; omega
        split
        · rename_i h0
          refine ⟨hll, by rw [hst, clearZ, if_pos h0], ⟨fun q hq => ⟨(hl.ok q hq).1, by have := (hl.ok q hq).2; omega⟩, by omega⟩⟩
        · refine ⟨by rw [CZ_len, clearZ_len (by rw [vals_len, vals_len]; omega), vals_len]; exact hll, by rw [vals_CZ, hst], ?_⟩
          rw [hs2]
          exact .C (clearZ_z hl.z r1.z) (by omega)
      obtain ⟨l', e', g1, g2, g3⟩ := hnew
      rw [e'] at hcl
      rw [SW_def, SW_def, r2] at hcl
      rw [SW_def, r2] at hge
      generalize e.getD i [] = p at *
      generalize Pv.getD i 0 = c at *
      simp -implicitDefEqProofs (disch := omega) only [go_sem, ht, h0, h9, h10, h11, h2, hge, hgp]
      (refine pCall_vw (by refine ⟨⟨?_, ?_⟩, ?_, ?_⟩; rotate_left 2; (first | (right; rintro r rfl; rfl) | left); all_goals ((try simp -implicitDefEqProofs (disch := omega) only [h0, h9, h10, h11, h2, hge, hgp, go_sem, ht]) <;> rfl)) (hcl) ?_; rintro _ nx - rfl hnx; simp -implicitDefEqProofs (disch := omega) only [h0, h9, h10, h11, h2, hge, hgp, go_sem, ht])
      exact ⟨⟨i + 1, by omega, rfl, l', rfl, g1, g2, g3⟩, by omega⟩
end
end Go.Proofs.Ytfjdfnlkobeehaa

namespace Go.Proofs.Ytfjdfnlkobeehaa


end Go.Proofs.Ytfjdfnlkobeehaa

namespace Go.Proofs.Ytfjdfnlkobeehaa


theorem map_vals_CZ (W : List (List Int)) : (W.map CZ).map vals = W := by
  rw [List.map_map]
  conv => rhs; rw [← List.map_id W]
  exact List.map_congr_left fun z _ => vals_CZ z
end Go.Proofs.Ytfjdfnlkobeehaa

namespace Go.Proofs.Ytfjdfnlkobeehaa

theorem sub_len : ∀ {l m : List Nat}, l.Nodup → (∀ x ∈ l, x ∈ m) → l.length ≤ m.length
  | [], _, _, _ => Nat.zero_le _
  | x :: l, m, hn, hs => by
    rw [List.nodup_cons] at hn
    have hx := hs x (List.mem_cons_self ..)
    have h1 := sub_len (l := l) (m := m.erase x) hn.2 fun y hy => (List.mem_erase_of_ne (by rintro rfl; exact hn.1 hy)).2 (hs y (List.mem_cons_of_mem _ hy))
    rw [List.length_erase_of_mem hx] at h1
    have := List.length_pos_of_mem hx
    simp only [List.length_cons]
    omega
theorem inc_nodup {l : List Nat} (h : ∀ i j (hi : i < l.length) (hj : j < l.length), i < j → l[i] < l[j]) : l.Nodup := by
  rw [List.Nodup, List.pairwise_iff_getElem]
  intro i j hi hj hij e
  have := h i j hi hj hij
  omega
end Go.Proofs.Ytfjdfnlkobeehaa

namespace Go.Proofs.Ytfjdfnlkobeehaa

end Go.Proofs.Ytfjdfnlkobeehaa

namespace Go.Proofs.Ytfjdfnlkobeehaa

end Go.Proofs.Ytfjdfnlkobeehaa

namespace Go.Proofs.Ytfjdfnlkobeehaa


theorem Mx.tle {m : List (List (Bool × List Nat))} {cols B : Nat} (h : Mx m B) (hc : ∀ l ∈ m, l.length = cols) : (echW (m.map vals) cols).2.length ≤ m.length := by
  obtain ⟨O, κ, hI, _⟩ := ((h.ez hc).1 cols).st
  exact hI.tle
def mIns (m : List (List (Bool × List Nat))) (c : Int) (v : List (Bool × List Nat)) : Bool × Int :=
  if wrongM m c || decide ((v.length : Int) ≠ c) then (false, 1) else (insB (echT (m.map vals) c.toNat) (echW (m.map vals) c.toNat).2 (vals v), 0)
section
variable {m : List (List (Bool × List Nat))} {cols B κ j k : Nat} {v : List (Bool × List Nat)}
theorem Mx.echRn (h : Mx m B) (hc : ∀ l ∈ m, l.length = cols) (hj : ∀ z ∈ echT (m.map vals) cols, ∀ x ∈ z, Z j x) (hj1 : j ≤ 1000000) : ∀ l ∈ (echT (m.map vals) cols).map CZ, Rn l j ∧ l.length = cols := by
  intro l hl
  obtain ⟨z, hz, rfl⟩ := List.mem_map.1 hl
  refine ⟨.C (hj z hz) hj1, ?_⟩
  rw [CZ_len]
  obtain ⟨i, hi, rfl⟩ := mem_getD (d := []) hz
  exact ((h.rr hc).row i hi).1
theorem Mx.echZ (h : Mx m B) (hc : ∀ l ∈ m, l.length = cols) : ∀ z ∈ echT (m.map vals) cols, ∀ x ∈ z, Z (B + 1) x := by
  intro z hz
  obtain ⟨i, hi, rfl⟩ := mem_getD (d := []) hz
  exact ((h.rr hc).row i hi).2
theorem mins_calls (h : Mx m B) {cn : Int} (hv : Rn v k) (hvl : v.length ≤ 1000000) (hj : ∀ n : Nat, cn = n → n ≤ 32 → (∀ l ∈ m, l.length = n) → ∀ z ∈ echT (m.map vals) n, ∀ x ∈ z, Z j x) (hsz : 2 * (k + 64 * (j + 1) + j) + 1 ≤ 1000000) :
    PT Try.prog 27 [SM m, .val (.int .i64 cn), SW v] (isV (.tup [.val (.bool (mIns m cn v).1), .val (.int .i64 (mIns m cn v).2)])) := by
  have hw := wrong_calls (m := m) (cn := cn)
  unfold mIns
  by_cases hb : wrongM m cn = true
  · rw [hb] at hw
    rw [hb, Bool.true_or, if_pos rfl]
    refine PCalls.enter (n := 29) (rs := [.tmp 6, .tmp 7]) (tb := []) Try.func27 rfl rfl rfl (by kernel_rfl) (by kernel_rfl) (by simp) fun c hc ht => ?_
    simp -implicitDefEqProofs (disch := omega) only [go_sem, ht]
    (refine pCall_vw (by refine ⟨⟨?_, ?_⟩, ?_, ?_⟩; rotate_left 2; (first | (right; rintro r rfl; rfl) | left); all_goals ((try simp -implicitDefEqProofs (disch := omega) only [go_sem, ht]) <;> rfl)) (hw) ?_; rintro _ nx - rfl hnx; simp -implicitDefEqProofs (disch := omega) only [go_sem, ht])
    (refine end_treeW 0 ?_; simp -implicitDefEqProofs (disch := omega) only [go_sem, ht])
  · have hb' : wrongM m cn = false := by simpa using hb
    obtain ⟨n, rfl, hn, hml, hlc⟩ := wrongM_false hb'
    rw [hb'] at hw
    rw [hb', Bool.false_or]
    by_cases hvn : v.length = n
    · rw [if_neg (by simp [hvn])]
      have he := h.ech hlc (by omega) (by omega)
      obtain ⟨hRE, _, _⟩ := echT_RE h hlc
      have htle := h.tle hlc
      have h5 := Nat.mul_le_mul_right (j + 1) (show (echW (m.map vals) n).2.length ≤ 64 by omega)
      have hin := einside_calls (h.echRn hlc (hj n rfl hn hlc) (by omega)) (by rw [List.length_map]; exact hRE.len.symm) hRE.col hv hvn (by omega) (by omega) (by omega)
      rw [map_vals_CZ] at hin
      rw [Int.toNat_natCast]
      generalize insB (echT (m.map vals) n) (echW (m.map vals) n).2 (vals v) = b at *
      generalize (echT (m.map vals) n).map CZ = m1 at *
      generalize (echW (m.map vals) n).2 = Pv at *
      refine PCalls.enter (n := 29) (rs := [.tmp 6, .tmp 7]) (tb := []) Try.func27 rfl rfl rfl (by kernel_rfl) (by kernel_rfl) (by simp) fun c hc ht => ?_
      simp -implicitDefEqProofs (disch := omega) only [go_sem, ht, hvn]
      ((refine pCall_vw (by refine ⟨⟨?_, ?_⟩, ?_, ?_⟩; rotate_left 2; (first | (right; rintro r rfl; rfl) | left); all_goals ((try simp -implicitDefEqProofs (disch := omega) only [hvn, go_sem, ht]) <;> rfl)) (hw) ?_; rintro _ nx_11 - rfl hnx_11; simp -implicitDefEqProofs (disch := omega) only [hvn, go_sem, ht]); (refine pCall_vw (by refine ⟨⟨?_, ?_⟩, ?_, ?_⟩; rotate_left 2; (first | (right; rintro r rfl; rfl) | left); all_goals ((try simp -implicitDefEqProofs (disch := omega) only [hvn, go_sem, ht]) <;> rfl)) (he) ?_; rintro _ nx_12 - rfl hnx_12; simp -implicitDefEqProofs (disch := omega) only [hvn, go_sem, ht]); (refine pCall_vw (by refine ⟨⟨?_, ?_⟩, ?_, ?_⟩; rotate_left 2; (first | (right; rintro r rfl; rfl) | left); all_goals ((try simp -implicitDefEqProofs (disch := omega) only [hvn, go_sem, ht]) <;> rfl)) (hin) ?_; rintro _ nx_13 - rfl hnx_13; simp -implicitDefEqProofs (disch := omega) only [hvn, go_sem, ht]))
      (refine end_treeW 0 ?_; simp -implicitDefEqProofs (disch := omega) only [go_sem, ht])
    · rw [if_pos (by simp; omega)]
      refine PCalls.enter (n := 29) (rs := [.tmp 6, .tmp 7]) (tb := []) Try.func27 rfl rfl rfl (by kernel_rfl) (by kernel_rfl) (by simp) fun c hc ht => ?_
      simp -implicitDefEqProofs (disch := omega) only [go_sem, ht]
      (refine pCall_vw (by refine ⟨⟨?_, ?_⟩, ?_, ?_⟩; rotate_left 2; (first | (right; rintro r rfl; rfl) | left); all_goals ((try simp -implicitDefEqProofs (disch := omega) only [go_sem, ht]) <;> rfl)) (hw) ?_; rintro _ nx - rfl hnx; simp -implicitDefEqProofs (disch := omega) only [go_sem, ht])
      (refine end_treeW 0 ?_; simp -implicitDefEqProofs (disch := omega) only [go_sem, ht])
end
end Go.Proofs.Ytfjdfnlkobeehaa

namespace Go.Proofs.Ytfjdfnlkobeehaa

end Go.Proofs.Ytfjdfnlkobeehaa

namespace Go.Proofs.Ytfjdfnlkobeehaa

end Go.Proofs.Ytfjdfnlkobeehaa
end

section
set_option linter.unusedVariables false
set_option linter.unusedSimpArgs false
namespace Go.Proofs.Ytfjdfnlkobeehaa


def mulL (t : Int) (z : List Int) : List Int := z.map (t * ·)
theorem mulL_one (z : List Int) : mulL 1 z = z := by simp [mulL]
theorem mulL_neg (z : List Int) : z.map (- ·) = mulL (-1) z := by simp [mulL]
theorem mulL_mulL (s t : Int) (z : List Int) : mulL s (mulL t z) = mulL (s * t) z := by simp [mulL, Int.mul_assoc]
theorem mulL_len (t : Int) (z : List Int) : (mulL t z).length = z.length := by simp [mulL]
theorem mulL_vc (t : Int) (z : List Int) (j : Nat) : vc (mulL t z) j = t * vc z j := by
  by_cases h : j < z.length
  · rw [vc_lt (by rw [mulL_len]; exact h), vc_lt h]; simp [mulL]
  · rw [vc_ge (by rw [mulL_len]; omega), vc_ge (by omega), Int.mul_zero]
theorem upZ_mul (z : List Int) : ∃ s : Int, (s = 1 ∨ s = -1) ∧ upZ z = mulL s z := by
  rcases upZ_cases z with e | e
  · exact ⟨1, .inl rfl, by rw [e, mulL_one]⟩
  · exact ⟨-1, .inr rfl, by rw [e, mulL_neg]⟩
theorem gcdF_mul (t : Int) : ∀ (z : List Int) (g : Nat), gcdF (t.natAbs * g) (mulL t z) = t.natAbs * gcdF g z
  | [], _ => rfl
  | x :: z, g => by
    show gcdF (Nat.gcd (t.natAbs * g) (t * x).natAbs) (mulL t z) = _
    rw [Int.natAbs_mul, Nat.gcd_mul_left, gcdF_mul t z]; rfl
theorem gcdL_mul (t : Int) (z : List Int) : gcdL (mulL t z) = t.natAbs * gcdL z := by
  have := gcdF_mul t z 0
  rwa [Nat.mul_zero] at this
theorem cZ_mul {t x : Int} (ht : t ≠ 0) : cZ (t * x) 0 = cZ t 0 * cZ x 0 := by
  unfold cZ
  rcases Int.lt_or_gt_of_ne ht with h | h <;> rcases Int.lt_trichotomy x 0 with hx | hx | hx
  · have := Int.mul_pos_of_neg_of_neg h hx
    rw [if_neg (by omega), if_neg (by omega), if_pos h, if_pos hx]; rfl
  · subst hx; rw [Int.mul_zero]; simp
  · have := Int.mul_neg_of_neg_of_pos h hx
    rw [if_pos this, if_pos h, if_neg (by omega), if_neg (by omega)]; rfl
  · have := Int.mul_neg_of_pos_of_neg h hx
    rw [if_pos this, if_neg (by omega), if_neg (by omega), if_pos hx]; rfl
  · subst hx; rw [Int.mul_zero]; simp
  · have := Int.mul_pos h hx
    rw [if_neg (by omega), if_neg (by omega), if_neg (by omega), if_neg (by omega), if_neg (by omega), if_neg (by omega)]; rfl
theorem cZ_zero {x : Int} : cZ x 0 = 0 ↔ x = 0 := by unfold cZ; split <;> (try split) <;> omega
theorem sgF_mul {t : Int} (ht : t ≠ 0) : ∀ (z : List Int) (g : Int), sgF (cZ t 0 * g) (mulL t z) = cZ t 0 * sgF g z
  | [], _ => rfl
  | x :: z, g => by
    show sgF (if cZ t 0 * g = 0 then cZ (t * x) 0 else cZ t 0 * g) (mulL t z) = cZ t 0 * sgF (if g = 0 then cZ x 0 else g) z
    have h0 : cZ t 0 ≠ 0 := fun h => ht (cZ_zero.1 h)
    by_cases hg : g = 0
    · subst hg
      rw [if_pos (Int.mul_zero _), if_pos rfl, cZ_mul ht]
      exact sgF_mul ht z _
    · rw [if_neg (Int.mul_ne_zero h0 hg), if_neg hg]
      exact sgF_mul ht z _
theorem sgF_mul0 {t : Int} (ht : t ≠ 0) (z : List Int) : sgF 0 (mulL t z) = cZ t 0 * sgF 0 z := by
  have := sgF_mul ht z 0
  rwa [Int.mul_zero] at this
theorem sgF_all : ∀ (z : List Int), sgF 0 z = 0 → ∀ x ∈ z, x = 0
  | [], _, x, hx => by simp at hx
  | y :: z, h, x, hx => by
    have h : sgF (cZ y 0) z = 0 := h
    by_cases hy : y = 0
    · subst hy
      rw [cZ_eq rfl] at h
      rcases List.mem_cons.1 hx with rfl | hx
      · rfl
      · exact sgF_all z h x hx
    · have h0 : cZ y 0 ≠ 0 := fun e => hy (cZ_zero.1 e)
      rw [sgF_zero h0] at h
      exact absurd h h0
theorem mulL_zeros {z : List Int} (h : ∀ x ∈ z, x = 0) (t : Int) : mulL t z = z := by
  unfold mulL
  conv => rhs; rw [← List.map_id z]
  exact List.map_congr_left fun x hx => by rw [h x hx, Int.mul_zero]; rfl
theorem upZ_neg (z : List Int) : upZ (mulL (-1) z) = upZ z := by
  have h := sgF_mul0 (t := -1) (by decide) z
  rw [show cZ (-1) 0 = -1 from rfl] at h
  unfold upZ
  rw [h, mulL_neg, mulL_neg, mulL_mulL]
  rcases Int.lt_trichotomy (sgF 0 z) 0 with hs | hs | hs
  · rw [if_neg (by omega), if_pos hs]
  · rw [if_neg (by omega), if_neg (by omega)]
    exact mulL_zeros (sgF_all z hs) _
  · rw [if_pos (by omega), if_neg (by omega)]
    exact mulL_one z

def canZ (z : List Int) : List Int := upZ (primZ z)
theorem canZ_len (z : List Int) : (canZ z).length = z.length := by rw [canZ, upZ_len, primZ_len]
theorem primZ_mul {t : Int} (ht : t ≠ 0) (z : List Int) : primZ (mulL t z) = mulL (cZ t 0) (primZ z) := by
  unfold primZ
  rw [gcdL_mul]
  simp only [mulL, List.map_map]
  refine List.map_congr_left fun x hx => ?_
  simp only [Function.comp]
  by_cases hg : gcdL z = 0
  · rw [hg]; simp
  obtain ⟨y, hy⟩ : ∃ y, x = (gcdL z : Int) * y := Int.ofNat_dvd_left.2 (gcdL_dvd hx)
  have hg0 : (gcdL z : Int) ≠ 0 := by omega
  rw [hy, Int.mul_ediv_cancel_left y hg0]
  have e : ((t.natAbs * gcdL z : Nat) : Int) = cZ t 0 * t * gcdL z := by
    rw [Int.natCast_mul]
    congr 1
    unfold cZ
    split
    · omega
    · first | omega | (rw [if_neg ht]; omega)
  have hs : cZ t 0 * cZ t 0 = 1 := by
    unfold cZ
    split
    · rfl
    · first | rfl | (rw [if_neg ht]; rfl)
  have e2 : t * ((gcdL z : Int) * y) = (cZ t 0 * t * gcdL z) * (cZ t 0 * y) := by
    have : (cZ t 0 * t * gcdL z) * (cZ t 0 * y) = (cZ t 0 * cZ t 0) * (t * ((gcdL z : Int) * y)) := by ac_rfl
    rw [this, hs, Int.one_mul]
  rw [e, e2]
  refine Int.mul_ediv_cancel_left _ ?_
  exact Int.mul_ne_zero (Int.mul_ne_zero (fun h => ht (cZ_zero.1 h)) ht) hg0
theorem canZ_mul {t : Int} (ht : t ≠ 0) (z : List Int) : canZ (mulL t z) = canZ z := by
  unfold canZ
  rw [primZ_mul ht]
  have : cZ t 0 = 1 ∨ cZ t 0 = -1 := by unfold cZ; split <;> (try split) <;> omega
  rcases this with e | e
  · rw [e, mulL_one]
  · rw [e, upZ_neg]
theorem combZ_mul {a b s t : Int} : ∀ {z p : List Int}, combZ (t * a) (s * b) (mulL s z) (mulL t p) = mulL (s * t) (combZ a b z p)
  | [], _ => by simp [combZ, mulL]
  | _ :: _, [] => by simp [combZ, mulL]
  | x :: z, y :: p => by
    have ih := combZ_mul (a := a) (b := b) (s := s) (t := t) (z := z) (p := p)
    show (t * a * (s * x) - s * b * (t * y)) :: combZ (t * a) (s * b) (mulL s z) (mulL t p) = (s * t * (a * x - b * y)) :: mulL (s * t) (combZ a b z p)
    rw [ih]
    congr 1
    rw [Int.mul_sub]
    congr 1 <;> ac_rfl
theorem combZ_fac {a b g : Int} : ∀ {z p : List Int}, combZ (g * a) (g * b) z p = mulL g (combZ a b z p)
  | [], _ => by simp [combZ, mulL]
  | _ :: _, [] => by simp [combZ, mulL]
  | x :: z, y :: p => by
    have ih := combZ_fac (a := a) (b := b) (g := g) (z := z) (p := p)
    show (g * a * x - g * b * y) :: combZ (g * a) (g * b) z p = (g * (a * x - b * y)) :: mulL g (combZ a b z p)
    rw [ih]
    congr 1
    rw [Int.mul_sub]
    congr 1 <;> ac_rfl

theorem join_clear {z p : List Int} {c : Nat} (h0 : vc z c ≠ 0) : canZ (combZ (vc p c) (vc z c) z p) = upZ (clearZ z p c) := by
  have hg : ((Int.gcd (vc z c) (vc p c) : Nat) : Int) ≠ 0 := by
    have := Int.gcd_pos_of_ne_zero_left (vc p c) h0
    omega
  have e1 : vc p c = ((Int.gcd (vc z c) (vc p c) : Nat) : Int) * (vc p c / ((Int.gcd (vc z c) (vc p c) : Nat) : Int)) := (Int.mul_ediv_cancel' (Int.gcd_dvd_right ..)).symm
  have e2 : vc z c = ((Int.gcd (vc z c) (vc p c) : Nat) : Int) * (vc z c / ((Int.gcd (vc z c) (vc p c) : Nat) : Int)) := (Int.mul_ediv_cancel' (Int.gcd_dvd_left ..)).symm
  rw [clearZ, if_neg h0]
  have e3 : combZ (vc p c) (vc z c) z p = mulL ((Int.gcd (vc z c) (vc p c) : Nat) : Int) (combZ (vc p c / ((Int.gcd (vc z c) (vc p c) : Nat) : Int)) (vc z c / ((Int.gcd (vc z c) (vc p c) : Nat) : Int)) z p) := by
    rw [← combZ_fac, ← e1, ← e2]
  rw [e3, canZ_mul hg]; rfl
theorem join_up {z p : List Int} {c : Nat} (h0 : vc z c ≠ 0) : canZ (combZ (vc (upZ p) c) (vc (upZ z) c) (upZ z) (upZ p)) = upZ (clearZ z p c) := by
  obtain ⟨s, hs, e⟩ := upZ_mul z
  obtain ⟨t, ht, e'⟩ := upZ_mul p
  rw [e, e', mulL_vc, mulL_vc, combZ_mul, canZ_mul (Int.mul_ne_zero (by omega) (by omega)), join_clear h0]
theorem up_vc0 {z : List Int} {c : Nat} : vc (upZ z) c = 0 ↔ vc z c = 0 := by
  obtain ⟨s, hs, e⟩ := upZ_mul z
  rw [e, mulL_vc]
  rcases hs with rfl | rfl <;> omega

def Ln (u v : List Int) : Prop := ∃ s t : Int, s ≠ 0 ∧ t ≠ 0 ∧ ∀ j, s * vc u j = t * vc v j
theorem Ln.refl (u : List Int) : Ln u u := ⟨1, 1, by decide, by decide, fun _ => rfl⟩
theorem Ln.symm {u v : List Int} (h : Ln u v) : Ln v u := by
  obtain ⟨s, t, h1, h2, h3⟩ := h
  exact ⟨t, s, h2, h1, fun j => (h3 j).symm⟩
theorem Ln.trans {u v w : List Int} (h : Ln u v) (h' : Ln v w) : Ln u w := by
  obtain ⟨s, t, h1, h2, h3⟩ := h
  obtain ⟨s', t', h1', h2', h3'⟩ := h'
  refine ⟨s' * s, t * t', Int.mul_ne_zero h1' h1, Int.mul_ne_zero h2 h2', fun j => ?_⟩
  rw [Int.mul_assoc, h3, ← Int.mul_assoc, Int.mul_comm s' t, Int.mul_assoc, h3', ← Int.mul_assoc]
theorem Ln.zero {u v : List Int} (h : Ln u v) (j : Nat) : vc u j = 0 ↔ vc v j = 0 := by
  obtain ⟨s, t, h1, h2, h3⟩ := h
  have := h3 j
  constructor
  · intro e; rw [e, Int.mul_zero] at this
    exact (Int.mul_eq_zero.1 this.symm).resolve_left h2
  · intro e; rw [e, Int.mul_zero] at this
    exact (Int.mul_eq_zero.1 this).resolve_left h1
theorem Ln.up (z : List Int) : Ln (upZ z) z := by
  obtain ⟨s, hs, e⟩ := upZ_mul z
  exact ⟨1, s, by decide, by omega, fun j => by rw [e, mulL_vc, Int.one_mul]⟩
theorem Ln.prim (z : List Int) : Ln (primZ z) z := by
  by_cases hg : gcdL z = 0
  · refine ⟨1, 1, by decide, by decide, fun j => ?_⟩
    have := primZ_vc z j
    rw [hg] at this
    have h0 := gcdL_zero.1 hg
    have hp : primZ z = z := by
      unfold primZ
      conv => rhs; rw [← List.map_id z]
      exact List.map_congr_left fun x hx => by rw [h0 x hx]; simp
    rw [hp]
  · exact ⟨gcdL z, 1, by omega, by decide, fun j => by rw [primZ_vc, Int.one_mul]⟩
theorem Ln.can (z : List Int) : Ln (canZ z) z := (Ln.up _).trans (.prim z)
theorem Ln.comb {u v p : List Int} {c : Nat} (h : Ln u v) (hu : u.length = p.length) (hv : v.length = p.length) : Ln (combZ (vc p c) (vc u c) u p) (combZ (vc p c) (vc v c) v p) := by
  obtain ⟨s, t, h1, h2, h3⟩ := h
  refine ⟨s, t, h1, h2, fun j => ?_⟩
  rw [combZ_vc hu, combZ_vc hv, Int.mul_sub, Int.mul_sub]
  have e1 := h3 j
  have e2 := h3 c
  congr 1
  · rw [Int.mul_left_comm, e1, Int.mul_left_comm]
  · rw [← Int.mul_assoc, e2, Int.mul_assoc]
theorem Ln.len0 {u v : List Int} (h : Ln u v) (hl : u.length = v.length) : zeroB u = zeroB v := by
  unfold zeroB
  rw [Bool.eq_iff_iff, decide_eq_true_iff, decide_eq_true_iff]
  have key : ∀ w : List Int, (∀ z ∈ w, z = 0) ↔ ∀ j, vc w j = 0 := fun w => by
    constructor
    · intro h j
      by_cases hj : j < w.length
      · rw [vc_lt hj]; exact h _ (List.getElem_mem hj)
      · exact vc_ge (by omega)
    · intro h z hz
      obtain ⟨i, hi, rfl⟩ := List.mem_iff_getElem.1 hz
      rw [← vc_lt hi]; exact h i
  rw [key, key]
  exact ⟨fun hu j => (h.zero j).1 (hu j), fun hv j => (h.zero j).2 (hv j)⟩

def insR (T : List (List Int)) (Pv : List Nat) (v : List Int) : Nat → List Int
  | 0 => v
  | k + 1 => if vc (insR T Pv v k) (Pv.getD k 0) = 0 then insR T Pv v k else canZ (combZ (vc (T.getD k []) (Pv.getD k 0)) (vc (insR T Pv v k) (Pv.getD k 0)) (insR T Pv v k) (T.getD k []))
theorem insR_ln {T : List (List Int)} {Pv : List Nat} {v : List Int} {cols : Nat} (hv : v.length = cols) (hT : ∀ k, k < Pv.length → (T.getD k []).length = cols) : ∀ k, k ≤ Pv.length → Ln (insR T Pv v k) (insW T Pv v k) ∧ (insR T Pv v k).length = cols ∧ (insW T Pv v k).length = cols
  | 0, _ => ⟨.refl v, hv, hv⟩
  | k + 1, hk => by
    obtain ⟨h1, h2, h3⟩ := insR_ln hv hT k (by omega)
    have hl := hT k (by omega)
    rw [insR, insW]
    by_cases h0 : vc (insR T Pv v k) (Pv.getD k 0) = 0
    · rw [if_pos h0, clearZ, if_pos ((h1.zero _).1 h0)]
      exact ⟨h1, h2, h3⟩
    · have h0' : vc (insW T Pv v k) (Pv.getD k 0) ≠ 0 := fun e => h0 ((h1.zero _).2 e)
      rw [if_neg h0]
      refine ⟨(Ln.can _).trans ((h1.comb (by omega) (by omega)).trans ((Ln.can _).symm.trans ?_)), by rw [canZ_len, combZ_len (by omega)]; exact h2, by rw [clearZ_len (by omega)]; exact h3⟩
      rw [join_clear h0']
      exact .up _
theorem insR_B {T : List (List Int)} {Pv : List Nat} {v : List Int} {cols : Nat} (hv : v.length = cols) (hT : ∀ k, k < Pv.length → (T.getD k []).length = cols) : zeroB (insR T Pv v Pv.length) = insB T Pv v := by
  obtain ⟨h1, h2, h3⟩ := insR_ln hv hT Pv.length (Nat.le_refl _)
  exact h1.len0 (by omega)
end Go.Proofs.Ytfjdfnlkobeehaa
end
