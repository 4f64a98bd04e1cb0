/- Part 36 of the way to the statement: the walk and what it needs. -/
import Derived.Test.YtfjdfnlkobeehaaKMkF35
section
set_option linter.unusedVariables false
set_option linter.unusedSimpArgs false
namespace Go.Proofs.Ytfjdfnlkobeehaa


inductive Sp (I : Vc → Prop) : Vc → Prop
  | zero {w : Vc} : (∀ j, w j = 0) → Sp I w
  | mem {r : Vc} : I r → Sp I r
  | comb {u v w : Vc} {a b g : Int} : Sp I u → Sp I v → g ≠ 0 → (∀ j, g * w j = a * u j + b * v j) → Sp I w
theorem Sp.trans {I J : Vc → Prop} (h : ∀ r, I r → Sp J r) {u : Vc} (hu : Sp I u) : Sp J u := by
  induction hu with
  | zero h => exact .zero h
  | mem hm => exact h _ hm
  | comb _ _ hg hw ih1 ih2 => exact .comb ih1 ih2 hg hw
theorem Sp.scale {I : Vc → Prop} {u w : Vc} {a g : Int} (hu : Sp I u) (hg : g ≠ 0) (hw : ∀ j, g * w j = a * u j) : Sp I w :=
  .comb (a := a) (b := 0) hu hu hg fun j => by rw [hw j]; omega
structure RE (T : List (List Int)) (Pv : List Nat) (cols : Nat) : Prop where
  len : T.length = Pv.length
  row : ∀ i, i < T.length → (T.getD i []).length = cols
  col : ∀ c ∈ Pv, c < cols
  inc : ∀ i j (hi : i < Pv.length) (hj : j < Pv.length), i < j → Pv[i] < Pv[j]
  piv : ∀ i j (hj : j < Pv.length), i < Pv.length → (vc (T.getD i []) Pv[j] ≠ 0 ↔ j = i)
  prm : ∀ i, i < T.length → Prm (T.getD i [])
  lead : ∀ i (hi : i < Pv.length), ∀ j, j < Pv[i] → vc (T.getD i []) j = 0
  pos : ∀ i (hi : i < Pv.length), 0 < vc (T.getD i []) Pv[i]


def sumI (f : Nat → Int) : Nat → Int
  | 0 => 0
  | n + 1 => sumI f n + f n
theorem sumI_congr {f g : Nat → Int} : ∀ {n : Nat}, (∀ k, k < n → f k = g k) → sumI f n = sumI g n
  | 0, _ => rfl
  | n + 1, h => by rw [sumI, sumI, sumI_congr fun k hk => h k (by omega), h n (by omega)]
theorem sumI_zero {f : Nat → Int} {n : Nat} (h : ∀ k, k < n → f k = 0) : sumI f n = 0 := by
  induction n with
  | zero => rfl
  | succ n ih => rw [sumI, ih fun k hk => h k (by omega), h n (by omega)]; rfl
theorem sumI_lin {f g : Nat → Int} {a b : Int} : ∀ n, sumI (fun k => a * f k + b * g k) n = a * sumI f n + b * sumI g n
  | 0 => by simp [sumI]
  | n + 1 => by rw [sumI, sumI, sumI, sumI_lin n]; simp only [Int.mul_add]; omega
theorem sumI_one {f : Nat → Int} {i : Nat} : ∀ {n : Nat}, i < n → (∀ k, k < n → k ≠ i → f k = 0) → sumI f n = f i
  | 0, h, _ => by omega
  | n + 1, h, hz => by
    rw [sumI]
    by_cases hi : i = n
    · subst hi
      rw [sumI_zero fun k hk => hz k (by omega) (by omega)]; omega
    · rw [sumI_one (n := n) (by omega) fun k hk hne => hz k (by omega) hne, hz n (by omega) (fun e => hi e.symm)]; omega
theorem sumI_scale {f : Nat → Int} {a : Int} (n : Nat) : sumI (fun k => a * f k) n = a * sumI f n := by
  have := sumI_lin (f := f) (g := f) (a := a) (b := 0) n
  simp only [Int.zero_mul, Int.add_zero] at this
  exact this
def rowsOf (T : List (List Int)) (r : Vc) : Prop := ∃ i, i < T.length ∧ r = vc (T.getD i [])
section
variable {T : List (List Int)} {Pv : List Nat} {cols : Nat}

theorem exists_coef {d : Nat → Int} : ∀ n, (∀ k, k < n → d k ≠ 0) → ∃ (D : Int) (e : Nat → Int), D ≠ 0 ∧ ∀ k, k < n → e k * d k = D
  | 0, _ => ⟨1, fun _ => 0, by decide, fun k hk => by omega⟩
  | n + 1, h => by
    obtain ⟨D, e, hD, he⟩ := exists_coef n fun k hk => h k (by omega)
    refine ⟨D * d n, fun k => if k = n then D else e k * d n, Int.mul_ne_zero hD (h n (by omega)), fun k hk => ?_⟩
    by_cases hkn : k = n
    · subst hkn
      show (if k = k then D else _) * d k = _
      rw [if_pos rfl]
    · simp only [if_neg hkn]
      rw [Int.mul_right_comm, he k (by omega)]

theorem RE.expand (h : RE T Pv cols) : ∃ (D : Int) (e : Nat → Int), D ≠ 0 ∧ (∀ k, k < Pv.length → e k ≠ 0) ∧ ∀ u, Sp (rowsOf T) u → ∀ j, D * u j = sumI (fun k => e k * u (Pv.getD k 0) * vc (T.getD k []) j) Pv.length := by
  have hne : ∀ k, k < Pv.length → vc (T.getD k []) (Pv.getD k 0) ≠ 0 := fun k hk => by
    have := (h.piv k k hk hk).2 rfl
    rwa [show Pv.getD k 0 = Pv[k] by simp [hk]]
  obtain ⟨D, e, hD, he⟩ := exists_coef Pv.length hne
  refine ⟨D, e, hD, fun k hk h0 => hD (by rw [← he k hk, h0, Int.zero_mul]), fun u hu => ?_⟩
  induction hu with
  | zero hz =>
    intro j
    rw [hz j, sumI_zero fun k hk => by rw [hz]; simp]
    simp
  | mem hm =>
    obtain ⟨i, hi, rfl⟩ := hm
    intro j
    have hi' : i < Pv.length := by rw [← h.len]; exact hi
    rw [sumI_one hi' fun k hk hki => ?_]
    · rw [he i hi']
    · have : vc (T.getD i []) (Pv.getD k 0) = 0 := Classical.byContradiction fun hx => by
        rw [show Pv.getD k 0 = Pv[k] by simp [hk]] at hx
        exact hki ((h.piv i k hk hi').1 hx)
      rw [this]; simp
  | comb _ _ hg hw ih1 ih2 =>
    rename_i u v w a b g s1 s2
    intro j
    have h1 := ih1 j
    have h2 := ih2 j
    have e1 : g * (D * w j) = g * sumI (fun k => e k * w (Pv.getD k 0) * vc (T.getD k []) j) Pv.length := by
      rw [← sumI_scale]
      have : sumI (fun k => g * (e k * w (Pv.getD k 0) * vc (T.getD k []) j)) Pv.length = sumI (fun k => a * (e k * u (Pv.getD k 0) * vc (T.getD k []) j) + b * (e k * v (Pv.getD k 0) * vc (T.getD k []) j)) Pv.length := sumI_congr fun k hk => by
        have hwk := hw (Pv.getD k 0)
        have : g * (e k * w (Pv.getD k 0) * vc (T.getD k []) j) = e k * (g * w (Pv.getD k 0)) * vc (T.getD k []) j := by simp only [Int.mul_left_comm, Int.mul_assoc]
        rw [this, hwk]
        simp only [Int.mul_add, Int.add_mul]
        congr 1 <;> simp only [Int.mul_left_comm, Int.mul_assoc]
      rw [this, sumI_lin, ← h1, ← h2, Int.mul_left_comm, hw j, Int.mul_add]
      congr 1 <;> exact Int.mul_left_comm _ _ _
    exact Int.eq_of_mul_eq_mul_left hg e1
theorem RE.first (h : RE T Pv cols) {u : Vc} (hu : Sp (rowsOf T) u) {c : Nat} (hc : u c ≠ 0) (hz : ∀ j, j < c → u j = 0) : c ∈ Pv := by
  obtain ⟨D, e, hD, hek, hx⟩ := h.expand
  apply Classical.byContradiction
  intro hcp
  
  have := hx u hu c
  rw [sumI_zero fun k hk => ?_] at this
  · exact hc ((Int.mul_eq_zero.1 this).resolve_left hD)
  · have hpk : Pv.getD k 0 = Pv[k] := by simp [hk]
    have hne : Pv[k] ≠ c := fun e => hcp (e ▸ List.getElem_mem hk)
    rcases Nat.lt_or_ge Pv[k] c with h1 | h1
    · rw [hpk, hz _ h1]; simp
    · rw [h.lead k hk c (by omega)]; simp
end
theorem sorted_eq : ∀ {l m : List Nat}, (∀ i j (hi : i < l.length) (hj : j < l.length), i < j → l[i] < l[j]) → (∀ i j (hi : i < m.length) (hj : j < m.length), i < j → m[i] < m[j]) → (∀ x, x ∈ l ↔ x ∈ m) → l = m
  | [], [], _, _, _ => rfl
  | [], y :: m, _, _, h => by have := (h y).2 (List.mem_cons_self ..); simp at this
  | x :: l, [], _, _, h => by have := (h x).1 (List.mem_cons_self ..); simp at this
  | x :: l, y :: m, hl, hm, h => by
    have lx : ∀ z ∈ l, x < z := fun z hz => by
      obtain ⟨i, hi, rfl⟩ := List.mem_iff_getElem.1 hz
      have := hl 0 (i + 1) (by simp) (by simpa using hi) (by omega)
      simpa using this
    have my : ∀ z ∈ m, y < z := fun z hz => by
      obtain ⟨i, hi, rfl⟩ := List.mem_iff_getElem.1 hz
      have := hm 0 (i + 1) (by simp) (by simpa using hi) (by omega)
      simpa using this
    have exy : x = y := by
      have h1 := (h x).1 (List.mem_cons_self ..)
      have h2 := (h y).2 (List.mem_cons_self ..)
      rcases List.mem_cons.1 h1 with e | h1
      · exact e
      · rcases List.mem_cons.1 h2 with e | h2
        · exact e.symm
        · have := my x h1; have := lx y h2; omega
    subst exy
    congr 1
    refine sorted_eq (fun i j hi hj hij => ?_) (fun i j hi hj hij => ?_) fun z => ?_
    · have := hl (i + 1) (j + 1) (by simpa using hi) (by simpa using hj) (by omega)
      simpa using this
    · have := hm (i + 1) (j + 1) (by simpa using hi) (by simpa using hj) (by omega)
      simpa using this
    · constructor
      · intro hz
        rcases List.mem_cons.1 ((h z).1 (List.mem_cons_of_mem _ hz)) with e | h1
        · have := lx z hz; omega
        · exact h1
      · intro hz
        rcases List.mem_cons.1 ((h z).2 (List.mem_cons_of_mem _ hz)) with e | h1
        · have := my z hz; omega
        · exact h1

end Go.Proofs.Ytfjdfnlkobeehaa
end

section
set_option linter.unusedVariables false
set_option linter.unusedSimpArgs false
namespace Go.Proofs.Ytfjdfnlkobeehaa


theorem step_cases {s : List (List Int) × List Nat} {n c : Nat} (hn : s.1.length = n) :
    (stepE c s = s ∧ ∀ i, s.2.length ≤ i → i < n → vc (s.1.getD i []) c = 0) ∨
    ∃ i, s.2.length ≤ i ∧ i < n ∧ vc (s.1.getD i []) c ≠ 0 ∧ (stepE c s).2 = s.2 ++ [c] ∧ (stepE c s).1.length = n ∧
      ∀ k, k < n → (stepE c s).1.getD k [] = if k = s.2.length then s.1.getD i [] else clearZ (s.1.getD (swp i s.2.length k) []) (s.1.getD i []) c := by
  unfold stepE
  by_cases hf : findP s.1 c s.2.length < s.1.length
  · right
    obtain ⟨hge, hne⟩ := findP_spec hf
    refine ⟨findP s.1 c s.2.length, hge, by omega, hne, by rw [if_pos hf], by rw [if_pos hf]; simp only [clearAll_len, swapL_len]; exact hn, fun k hk => ?_⟩
    rw [if_pos hf]
    have htn : s.2.length < n := by omega
    simp only
    rw [clearAll_get (by rw [swapL_len]; omega), swapL_get (by omega) hf (by omega), swapL_get (by omega) hf (by omega), swp_t]
    by_cases hkt : k = s.2.length
    · rw [if_pos hkt, if_pos hkt, hkt, swp_t]
    · rw [if_neg hkt, if_neg hkt]
  · left
    refine ⟨by rw [if_neg hf], fun i hi hin => ?_⟩
    have := findP_le (W := s.1) (c := c) (r := s.2.length)
    exact findP_none (by omega) i hi (by omega)
theorem swp_swp {i t k : Nat} : swp i t (swp i t k) = k := by
  unfold swp
  by_cases h1 : k = i
  · subst h1
    rw [if_pos rfl]
    by_cases h2 : t = k
    · rw [if_pos h2]; exact h2
    · rw [if_neg h2, if_pos rfl]
  · rw [if_neg h1]
    by_cases h2 : k = t
    · subst h2; rw [if_pos rfl, if_pos rfl]
    · rw [if_neg h2, if_neg h1, if_neg h2]

structure EW (rows : List (List Int)) (n cols c : Nat) (s : List (List Int) × List Nat) : Prop where
  len : s.1.length = n
  row : ∀ k, k < n → (s.1.getD k []).length = cols
  tle : s.2.length ≤ n
  sub : ∀ k, k < n → Sp (rowsOf rows) (vc (s.1.getD k []))
  sup : ∀ k, k < n → Sp (rowsOf s.1) (vc (rows.getD k []))
  low : ∀ k, s.2.length ≤ k → k < n → ∀ j, j < c → vc (s.1.getD k []) j = 0
  lead : ∀ k (hk : k < s.2.length), s.2[k] < c ∧ ∀ j, j < s.2[k] → vc (s.1.getD k []) j = 0
theorem EW.start {rows : List (List Int)} {cols : Nat} (hc : ∀ z ∈ rows, z.length = cols) : EW rows rows.length cols 0 (rows.map primZ, []) := by
  have hg : ∀ k, k < rows.length → (rows.map primZ).getD k [] = primZ (rows.getD k []) := fun k hk => by simp [List.getD_eq_getElem?_getD, hk]
  refine ⟨by simp, fun k hk => ?_, by simp, fun k hk => ?_, fun k hk => ?_, fun k _ _ j hj => by omega, fun k hk => by simp at hk⟩
  · simp only [hg k hk]
    rw [primZ_len]; exact hc _ (getD_mem hk)
  · simp only [hg k hk]
    by_cases h0 : gcdL (rows.getD k []) = 0
    · refine .zero fun j => ?_
      by_cases hj : j < (primZ (rows.getD k [])).length
      · have hj' := hj
        rw [primZ_len] at hj'
        rw [vc_lt hj]
        simp only [primZ, List.getElem_map]
        rw [gcdL_zero.1 h0 _ (List.getElem_mem hj')]; simp
      · rw [vc_ge (by omega)]
    · exact (Sp.mem ⟨k, hk, rfl⟩).scale (g := (gcdL (rows.getD k []) : Nat)) (a := 1) (by omega) fun j => by rw [primZ_vc]; omega
  · have hm : rowsOf (rows.map primZ) (vc (primZ (rows.getD k []))) := ⟨k, by simpa using hk, by rw [hg k hk]⟩
    exact (Sp.mem hm).scale (g := 1) (a := (gcdL (rows.getD k []) : Nat)) (by decide) fun j => by rw [primZ_vc]; omega
theorem EW.step {rows : List (List Int)} {n cols c : Nat} {s : List (List Int) × List Nat} (h : EW rows n cols c s) : EW rows n cols (c + 1) (stepE c s) := by
  rcases step_cases (c := c) h.len with ⟨e, hz⟩ | ⟨i, hi, hin, hne, eP, hl, hg⟩
  · rw [e]
    refine ⟨h.len, h.row, h.tle, h.sub, h.sup, fun k hk hkn j hj => ?_, fun k hk => ?_⟩
    · by_cases hjc : j = c
      · subst hjc; exact hz k hk hkn
      · exact h.low k hk hkn j (by omega)
    · have := h.lead k hk
      exact ⟨by omega, this.2⟩
  · have htn : s.2.length < n := by omega
    have hPl : (stepE c s).2.length = s.2.length + 1 := by rw [eP]; simp
    have hcl : ∀ k, k < n → k ≠ s.2.length → ∃ a b g : Int, a ≠ 0 ∧ g ≠ 0 ∧ (∀ j, g * vc ((stepE c s).1.getD k []) j = a * vc (s.1.getD (swp i s.2.length k) []) j - b * vc (s.1.getD i []) j) ∧ vc ((stepE c s).1.getD k []) c = 0 := fun k hk hkt => by
      rw [hg k hk, if_neg hkt]
      exact clearZ_line (by rw [h.row _ (swp_bd hin htn hk), h.row i hin]) hne
    have hgt : (stepE c s).1.getD s.2.length [] = s.1.getD i [] := by rw [hg _ htn, if_pos rfl]
    refine ⟨hl, fun k hk => ?_, by omega, fun k hk => ?_, fun k hk => ?_, fun k hk hkn j hj => ?_, fun k hk => ?_⟩
    · rw [hg k hk]
      split
      · exact h.row i hin
      · rw [clearZ_len (by rw [h.row _ (swp_bd hin htn hk), h.row i hin])]; exact h.row _ (swp_bd hin htn hk)
    · by_cases hkt : k = s.2.length
      · subst hkt; rw [hgt]; exact h.sub i hin
      · obtain ⟨a, b, g, _, hg0, hv, _⟩ := hcl k hk hkt
        exact .comb (a := a) (b := -b) (h.sub _ (swp_bd hin htn hk)) (h.sub i hin) hg0 fun j => by rw [hv j, Int.neg_mul]; omega
    · refine Sp.trans ?_ (h.sup k hk)
      rintro r ⟨p, hp, rfl⟩
      rw [h.len] at hp
      have hmt : rowsOf (stepE c s).1 (vc (s.1.getD i [])) := ⟨s.2.length, by omega, by rw [hgt]⟩
      by_cases hpt : swp i s.2.length p = s.2.length
      · have : p = i := by
          have := congrArg (swp i s.2.length) hpt
          rwa [swp_swp, swp_t] at this
        rw [this]; exact .mem hmt
      · obtain ⟨a, b, g, ha, _, hv, _⟩ := hcl _ (swp_bd hin htn hp) hpt
        simp only [swp_swp] at hv
        exact .comb (a := g) (b := b) (.mem ⟨_, by rw [hl]; exact swp_bd hin htn hp, rfl⟩) (.mem hmt) ha fun j => by have := hv j; omega
    · rw [hPl] at hk
      obtain ⟨a, b, g, _, hg0, hv, hvc⟩ := hcl k hkn (by omega)
      by_cases hjc : j = c
      · subst hjc; exact hvc
      · have h1 := hv j
        rw [h.low _ (swp_ge hi (by omega)) (swp_bd hin htn hkn) j (by omega), h.low i hi hin j (by omega), Int.mul_zero, Int.mul_zero] at h1
        exact (Int.mul_eq_zero.1 h1).resolve_left hg0
    · have hk' := hk
      rw [hPl] at hk'
      by_cases hkt : k < s.2.length
      · obtain ⟨a, b, g, _, hg0, hv, _⟩ := hcl k (by omega) (by omega)
        obtain ⟨h1, h2⟩ := h.lead k hkt
        have e : (stepE c s).2[k] = s.2[k] := by simp only [eP]; exact List.getElem_append_left hkt
        rw [e]
        refine ⟨by omega, fun j hj => ?_⟩
        have h3 := hv j
        rw [swp_lt hi hkt, h2 j hj, h.low i hi hin j (by omega), Int.mul_zero, Int.mul_zero] at h3
        exact (Int.mul_eq_zero.1 h3).resolve_left hg0
      · have hkeq : k = s.2.length := by omega
        have e : (stepE c s).2[k] = c := by simp only [eP]; rw [List.getElem_append_right (by omega)]; simp
        rw [e]
        refine ⟨by omega, fun j hj => ?_⟩
        rw [hkeq, hgt]
        exact h.low i hi hin j hj
theorem EW.all {rows : List (List Int)} {cols : Nat} (hc : ∀ z ∈ rows, z.length = cols) : ∀ c, EW rows rows.length cols c (echW rows c)
  | 0 => .start hc
  | c + 1 => (EW.all hc c).step
theorem sgF_zero {t : Int} (ht : t ≠ 0) : ∀ zs : List Int, sgF t zs = t
  | [] => rfl
  | z :: zs => by
    show sgF (if t = 0 then cZ z 0 else t) zs = t
    rw [if_neg ht]; exact sgF_zero ht zs

theorem sgF_lead : ∀ (z : List Int) (c : Nat), (∀ j, j < c → vc z j = 0) → vc z c ≠ 0 → sgF 0 z = cZ (vc z c) 0
  | [], c, _, h => absurd (vc_ge (by simp)) h
  | x :: z, 0, _, h => by
    have e : vc (x :: z) 0 = x := rfl
    rw [e] at h ⊢
    show sgF (if (0 : Int) = 0 then cZ x 0 else 0) z = _
    rw [if_pos rfl]
    exact sgF_zero (by unfold cZ; split <;> (try split) <;> omega) z
  | x :: z, c + 1, h0, h => by
    have e0 := h0 0 (by omega)
    have e : vc (x :: z) 0 = x := rfl
    rw [e] at e0
    subst e0
    show sgF (if (0 : Int) = 0 then cZ 0 0 else 0) z = _
    rw [if_pos rfl, cZ_eq rfl]
    exact sgF_lead z c (fun j hj => h0 (j + 1) (by omega)) h
theorem upZ_pos {z : List Int} {c : Nat} (h : ∀ j, j < c → vc z j = 0) (hc : vc z c ≠ 0) : 0 < vc (upZ z) c := by
  have hs := sgF_lead z c h hc
  unfold upZ
  by_cases hneg : vc z c < 0
  · rw [hs, cZ_lt hneg, if_pos (by decide), neg_vc]; omega
  · rw [hs, cZ_gt (by omega), if_neg (by decide)]; omega

theorem echT_RE {m : List (List (Bool × List Nat))} {cols B : Nat} (h : Mx m B) (hc : ∀ l ∈ m, l.length = cols) :
    RE (echT (m.map vals) cols) (echW (m.map vals) cols).2 cols ∧ (∀ r, rowsOf (echT (m.map vals) cols) r → Sp (rowsOf (m.map vals)) r) ∧ (∀ r, rowsOf (m.map vals) r → Sp (rowsOf (echT (m.map vals) cols)) r) := by
  have hR := h.rr hc
  have hW := EW.all (rows := m.map vals) (cols := cols) (fun z hz => by
    obtain ⟨l, hl, rfl⟩ := List.mem_map.1 hz
    rw [vals_len]; exact hc l hl) cols
  rw [List.length_map] at hW
  have hle : (echW (m.map vals) cols).2.length ≤ (echW (m.map vals) cols).1.length := by rw [hW.len]; exact hW.tle
  have hget : ∀ i, i < (echW (m.map vals) cols).2.length → (echT (m.map vals) cols).getD i [] = upZ ((echW (m.map vals) cols).1.getD i []) := fun i hi => echT_get hi hle
  have hup : ∀ z : List Int, Sp (fun r => r = vc z) (vc (upZ z)) ∧ Sp (fun r => r = vc (upZ z)) (vc z) := fun z => by
    rcases upZ_cases z with e | e
    · rw [e]; exact ⟨.mem rfl, .mem rfl⟩
    · rw [e]
      exact ⟨(Sp.mem (I := fun r => r = vc z) (r := vc z) rfl).scale (g := 1) (a := -1) (by decide) fun j => by rw [neg_vc]; omega, (Sp.mem (I := fun r => r = vc (z.map (- ·))) (r := vc (z.map (- ·))) rfl).scale (g := 1) (a := -1) (by decide) fun j => by rw [neg_vc]; omega⟩
  refine ⟨⟨hR.len, fun i hi => (hR.row i hi).1, hR.col, hR.inc, hR.piv, hR.prm, fun i hi j hj => ?_, fun i hi => ?_⟩, ?_, ?_⟩
  · rw [hget i hi]
    have := (hW.lead i hi).2 j hj
    rcases upZ_cases ((echW (m.map vals) cols).1.getD i []) with e | e
    · rw [e]; exact this
    · rw [e, neg_vc, this]; rfl
  · rw [hget i hi]
    refine upZ_pos (hW.lead i hi).2 ?_
    have := (hR.piv i i hi hi).2 rfl
    rw [hget i hi] at this
    rcases upZ_cases ((echW (m.map vals) cols).1.getD i []) with e | e
    · rwa [e] at this
    · rw [e, neg_vc] at this; omega
  · rintro r ⟨i, hi, rfl⟩
    rw [hR.len] at hi
    rw [hget i hi]
    exact Sp.trans (fun r hr => by rw [hr]; exact hW.sub i (by have := hW.tle; omega)) (hup _).1
  · rintro r ⟨i, hi, rfl⟩
    refine Sp.trans ?_ (hW.sup i (by simpa using hi))
    rintro r ⟨k, hk, rfl⟩
    by_cases hkt : k < (echW (m.map vals) cols).2.length
    · refine Sp.trans (fun r hr => ?_) (hup _).2
      rw [hr, ← hget k hkt]
      exact .mem ⟨k, by rw [hR.len]; exact hkt, rfl⟩
    · have hkn : k < m.length := by rw [hW.len] at hk; exact hk
      refine .zero fun j => ?_
      by_cases hj : j < cols
      · exact hW.low k (by omega) hkn j hj
      · exact vc_ge (by rw [hW.row k hkn]; omega)

end Go.Proofs.Ytfjdfnlkobeehaa
end

section
set_option maxRecDepth 100000
set_option linter.unusedVariables false
set_option linter.unusedSimpArgs false
namespace Go.Proofs.Ytfjdfnlkobeehaa

theorem vc_z {z : List Int} {k : Nat} (h : ∀ x ∈ z, Z k x) (j : Nat) : Z k (vc z j) := by
  by_cases hj : j < z.length
  · rw [vc_lt hj]; exact h _ (List.getElem_mem hj)
  · rw [vc_ge (by omega)]; exact Z.zero k
def insW (T : List (List Int)) (Pv : List Nat) (v : List Int) : Nat → List Int
  | 0 => v
  | k + 1 => clearZ (insW T Pv v k) (T.getD k []) (Pv.getD k 0)
def insB (T : List (List Int)) (Pv : List Nat) (v : List Int) : Bool := zeroB (insW T Pv v Pv.length)
section
variable {e : List (List (Bool × List Nat))} {Pv : List Nat} {v : List (Bool × List Nat)} {cols j k : Nat}
theorem getD_vals {i : Nat} (h : i < e.length) : (e.map vals).getD i [] = vals (e.getD i []) := by simp [h]
end
end Go.Proofs.Ytfjdfnlkobeehaa

namespace Go.Proofs.Ytfjdfnlkobeehaa


end Go.Proofs.Ytfjdfnlkobeehaa

namespace Go.Proofs.Ytfjdfnlkobeehaa


end Go.Proofs.Ytfjdfnlkobeehaa

namespace Go.Proofs.Ytfjdfnlkobeehaa

end Go.Proofs.Ytfjdfnlkobeehaa

namespace Go.Proofs.Ytfjdfnlkobeehaa

end Go.Proofs.Ytfjdfnlkobeehaa

namespace Go.Proofs.Ytfjdfnlkobeehaa

end Go.Proofs.Ytfjdfnlkobeehaa

namespace Go.Proofs.Ytfjdfnlkobeehaa


section
variable {m : List (List (Bool × List Nat))} {cols B κ j k : Nat} {v : List (Bool × List Nat)}
theorem Mx.echZ (h : Mx m B) (hc : ∀ l ∈ m, l.length = cols) : ∀ z ∈ echT (m.map vals) cols, ∀ x ∈ z, Z (B + 1) x := by
  intro z hz
  obtain ⟨i, hi, rfl⟩ := mem_getD (d := []) hz
  exact ((h.rr hc).row i hi).2
end
end Go.Proofs.Ytfjdfnlkobeehaa

namespace Go.Proofs.Ytfjdfnlkobeehaa

theorem fits_calls {m : List (List (Bool × List Nat))} {cn : Int} (hm : m.length ≤ 8796093022208) : PT Try.prog 13 [SM m, .val (.int .i64 cn)] (isV (.val (.bool (!wrongM m cn)))) := by
  by_cases h1 : cn < 0
  · rw [show wrongM m cn = true from decide_eq_true (.inl h1)]
    refine PCalls.enter (n := 30) (rs := [.tmp 4]) (tb := []) Try.func13 rfl rfl rfl (by kernel_rfl) (by kernel_rfl) (by simp) fun c hc ht => ?_
    simp -implicitDefEqProofs (disch := omega) only [go_sem, ht]
    (refine end_treeW 0 ?_; simp -implicitDefEqProofs (disch := omega) only [go_sem, ht, Bool.not_true])
  by_cases h2 : 32 < cn
  · rw [show wrongM m cn = true from decide_eq_true (.inr (.inl h2))]
    refine PCalls.enter (n := 30) (rs := [.tmp 4]) (tb := []) Try.func13 rfl rfl rfl (by kernel_rfl) (by kernel_rfl) (by simp) fun c hc ht => ?_
    simp -implicitDefEqProofs (disch := omega) only [go_sem, ht]
    (refine end_treeW 0 ?_; simp -implicitDefEqProofs (disch := omega) only [go_sem, ht, Bool.not_true])
  by_cases h3 : 64 < m.length
  · rw [show wrongM m cn = true from decide_eq_true (.inr (.inr (.inl h3)))]
    refine PCalls.enter (n := 30) (rs := [.tmp 4]) (tb := []) Try.func13 rfl rfl rfl (by kernel_rfl) (by kernel_rfl) (by simp) fun c hc ht => ?_
    simp -implicitDefEqProofs (disch := omega) only [go_sem, ht]
    (refine end_treeW 0 ?_; simp -implicitDefEqProofs (disch := omega) only [go_sem, ht, Bool.not_true])
  refine PCalls.enter (n := 30) (rs := [.tmp 4]) (tb := []) Try.func13 rfl rfl rfl (by kernel_rfl) (by kernel_rfl) (by simp) fun c hc ht => ?_
  simp -implicitDefEqProofs (disch := omega) only [go_sem, ht]
  refine LW.loopW hc ht (by kernel_rfl) (fun t => t.sl 0 = .sl m.length (m.map SW) ∧ t.sl 1 = .val (.int .i64 cn) ∧ ∃ i : Nat, i ≤ m.length ∧ t.sl 5 = .val (.int .i64 i) ∧ ∀ l ∈ m.take i, (l.length : Int) = cn)
    (fun t => match t.sl 5 with | .val (.int _ k) => m.length - k.toNat | _ => 0) ?_ ?_
  · simp -implicitDefEqProofs (disch := omega) only [go_sem, ht]
    exact ⟨0, Nat.zero_le _, rfl, by simp⟩
  · rintro t ⟨h0, h1', i, hi, h5, hall⟩
    by_cases hil : i = m.length
    · subst hil
      rw [List.take_length] at hall
      rw [show wrongM m cn = false from decide_eq_false (by
        rintro (h | h | h | ⟨l, hl, hne⟩)
        · exact h1 h
        · exact h2 h
        · exact h3 h
        · exact hne (hall l hl))]
      simp -implicitDefEqProofs (disch := omega) only [go_sem, ht, h0, h1', h5]
      (refine end_treeW 0 ?_; simp -implicitDefEqProofs (disch := omega) only [go_sem, ht, Bool.not_false])
    · have hlt : i < m.length := by omega
      have hgi := get_SM' hlt
      have hmem := getD_mem (d := []) hlt
      have hst := getD_take (d := []) hlt
      by_cases he : ((m.getD i []).length : Int) = cn
      · generalize m.getD i [] = l0 at *
        simp -implicitDefEqProofs (disch := omega) only [go_sem, ht, h0, h1', h5, hgi, he]
        refine ⟨⟨i + 1, by omega, rfl, fun l hl => ?_⟩, by omega⟩
        rw [hst] at hl
        rcases List.mem_append.1 hl with hl | hl
        · exact hall l hl
        · have : l = l0 := by simpa using hl
          rw [this]; exact he
      · rw [show wrongM m cn = true from decide_eq_true (.inr (.inr (.inr ⟨_, hmem, he⟩)))]
        generalize m.getD i [] = l0 at *
        simp -implicitDefEqProofs (disch := omega) only [go_sem, ht, h0, h1', h5, hgi, he]
        (refine end_treeW 0 ?_; simp -implicitDefEqProofs (disch := omega) only [go_sem, ht, Bool.not_true])

end Go.Proofs.Ytfjdfnlkobeehaa

namespace Go.Proofs.Ytfjdfnlkobeehaa

end Go.Proofs.Ytfjdfnlkobeehaa
end
