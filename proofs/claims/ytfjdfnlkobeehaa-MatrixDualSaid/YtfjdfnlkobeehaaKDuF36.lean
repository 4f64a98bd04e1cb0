/- Part 36 of the way to the statement: the walk and what it needs. -/
import Derived.Test.YtfjdfnlkobeehaaKDuF35
section
set_option linter.unusedVariables false
set_option linter.unusedSimpArgs false
namespace Go.Proofs.Ytfjdfnlkobeehaa


inductive Sp (I : Vc → Prop) : Vc → Prop
  | zero {w : Vc} : (∀ j, w j = 0) → Sp I w
  | mem {r : Vc} : I r → Sp I r
  | comb {u v w : Vc} {a b g : Int} : Sp I u → Sp I v → g ≠ 0 → (∀ j, g * w j = a * u j + b * v j) → Sp I w
theorem Sp.trans {I J : Vc → Prop} (h : ∀ r, I r → Sp J r) {u : Vc} (hu : Sp I u) : Sp J u := by
  induction hu with
  | zero h => exact .zero h
  | mem hm => exact h _ hm
  | comb _ _ hg hw ih1 ih2 => exact .comb ih1 ih2 hg hw
theorem Sp.scale {I : Vc → Prop} {u w : Vc} {a g : Int} (hu : Sp I u) (hg : g ≠ 0) (hw : ∀ j, g * w j = a * u j) : Sp I w :=
  .comb (a := a) (b := 0) hu hu hg fun j => by rw [hw j]; omega
structure RE (T : List (List Int)) (Pv : List Nat) (cols : Nat) : Prop where
  len : T.length = Pv.length
  row : ∀ i, i < T.length → (T.getD i []).length = cols
  col : ∀ c ∈ Pv, c < cols
  inc : ∀ i j (hi : i < Pv.length) (hj : j < Pv.length), i < j → Pv[i] < Pv[j]
  piv : ∀ i j (hj : j < Pv.length), i < Pv.length → (vc (T.getD i []) Pv[j] ≠ 0 ↔ j = i)
  prm : ∀ i, i < T.length → Prm (T.getD i [])
  lead : ∀ i (hi : i < Pv.length), ∀ j, j < Pv[i] → vc (T.getD i []) j = 0
  pos : ∀ i (hi : i < Pv.length), 0 < vc (T.getD i []) Pv[i]


def sumI (f : Nat → Int) : Nat → Int
  | 0 => 0
  | n + 1 => sumI f n + f n
theorem sumI_congr {f g : Nat → Int} : ∀ {n : Nat}, (∀ k, k < n → f k = g k) → sumI f n = sumI g n
  | 0, _ => rfl
  | n + 1, h => by rw [sumI, sumI, sumI_congr fun k hk => h k (by omega), h n (by omega)]
theorem sumI_zero {f : Nat → Int} {n : Nat} (h : ∀ k, k < n → f k = 0) : sumI f n = 0 := by
  induction n with
  | zero => rfl
  | succ n ih => rw [sumI, ih fun k hk => h k (by omega), h n (by omega)]; rfl
theorem sumI_lin {f g : Nat → Int} {a b : Int} : ∀ n, sumI (fun k => a * f k + b * g k) n = a * sumI f n + b * sumI g n
  | 0 => by simp [sumI]
  | n + 1 => by rw [sumI, sumI, sumI, sumI_lin n]; simp only [Int.mul_add]; omega
theorem sumI_one {f : Nat → Int} {i : Nat} : ∀ {n : Nat}, i < n → (∀ k, k < n → k ≠ i → f k = 0) → sumI f n = f i
  | 0, h, _ => by omega
  | n + 1, h, hz => by
    rw [sumI]
    by_cases hi : i = n
    · subst hi
      rw [sumI_zero fun k hk => hz k (by omega) (by omega)]; omega
    · rw [sumI_one (n := n) (by omega) fun k hk hne => hz k (by omega) hne, hz n (by omega) (fun e => hi e.symm)]; omega
theorem sumI_scale {f : Nat → Int} {a : Int} (n : Nat) : sumI (fun k => a * f k) n = a * sumI f n := by
  have := sumI_lin (f := f) (g := f) (a := a) (b := 0) n
  simp only [Int.zero_mul, Int.add_zero] at this
  exact this
theorem sumI_add {f g : Nat → Int} (n : Nat) : sumI (fun k => f k + g k) n = sumI f n + sumI g n := by
  have := sumI_lin (f := f) (g := g) (a := 1) (b := 1) n
  simp only [Int.one_mul] at this
  exact this


def rowsOf (T : List (List Int)) (r : Vc) : Prop := ∃ i, i < T.length ∧ r = vc (T.getD i [])
section
variable {T : List (List Int)} {Pv : List Nat} {cols : Nat}

theorem exists_coef {d : Nat → Int} : ∀ n, (∀ k, k < n → d k ≠ 0) → ∃ (D : Int) (e : Nat → Int), D ≠ 0 ∧ ∀ k, k < n → e k * d k = D
  | 0, _ => ⟨1, fun _ => 0, by decide, fun k hk => by omega⟩
  | n + 1, h => by
    obtain ⟨D, e, hD, he⟩ := exists_coef n fun k hk => h k (by omega)
    refine ⟨D * d n, fun k => if k = n then D else e k * d n, Int.mul_ne_zero hD (h n (by omega)), fun k hk => ?_⟩
    by_cases hkn : k = n
    · subst hkn
      show (if k = k then D else _) * d k = _
      rw [if_pos rfl]
    · simp only [if_neg hkn]
      rw [Int.mul_right_comm, he k (by omega)]

theorem RE.expand (h : RE T Pv cols) : ∃ (D : Int) (e : Nat → Int), D ≠ 0 ∧ (∀ k, k < Pv.length → e k ≠ 0) ∧ ∀ u, Sp (rowsOf T) u → ∀ j, D * u j = sumI (fun k => e k * u (Pv.getD k 0) * vc (T.getD k []) j) Pv.length := by
  have hne : ∀ k, k < Pv.length → vc (T.getD k []) (Pv.getD k 0) ≠ 0 := fun k hk => by
    have := (h.piv k k hk hk).2 rfl
    rwa [show Pv.getD k 0 = Pv[k] by simp [hk]]
  obtain ⟨D, e, hD, he⟩ := exists_coef Pv.length hne
  refine ⟨D, e, hD, fun k hk h0 => hD (by rw [← he k hk, h0, Int.zero_mul]), fun u hu => ?_⟩
  induction hu with
  | zero hz =>
    intro j
    rw [hz j, sumI_zero fun k hk => by rw [hz]; simp]
    simp
  | mem hm =>
    obtain ⟨i, hi, rfl⟩ := hm
    intro j
    have hi' : i < Pv.length := by rw [← h.len]; exact hi
    rw [sumI_one hi' fun k hk hki => ?_]
    · rw [he i hi']
    · have : vc (T.getD i []) (Pv.getD k 0) = 0 := Classical.byContradiction fun hx => by
        rw [show Pv.getD k 0 = Pv[k] by simp [hk]] at hx
        exact hki ((h.piv i k hk hi').1 hx)
      rw [this]; simp
  | comb _ _ hg hw ih1 ih2 =>
    rename_i u v w a b g s1 s2
    intro j
    have h1 := ih1 j
    have h2 := ih2 j
    have e1 : g * (D * w j) = g * sumI (fun k => e k * w (Pv.getD k 0) * vc (T.getD k []) j) Pv.length := by
      rw [← sumI_scale]
      have : sumI (fun k => g * (e k * w (Pv.getD k 0) * vc (T.getD k []) j)) Pv.length = sumI (fun k => a * (e k * u (Pv.getD k 0) * vc (T.getD k []) j) + b * (e k * v (Pv.getD k 0) * vc (T.getD k []) j)) Pv.length := sumI_congr fun k hk => by
        have hwk := hw (Pv.getD k 0)
        have : g * (e k * w (Pv.getD k 0) * vc (T.getD k []) j) = e k * (g * w (Pv.getD k 0)) * vc (T.getD k []) j := by simp only [Int.mul_left_comm, Int.mul_assoc]
        rw [this, hwk]
        simp only [Int.mul_add, Int.add_mul]
        congr 1 <;> simp only [Int.mul_left_comm, Int.mul_assoc]
      rw [this, sumI_lin, ← h1, ← h2, Int.mul_left_comm, hw j, Int.mul_add]
      congr 1 <;> exact Int.mul_left_comm _ _ _
    exact Int.eq_of_mul_eq_mul_left hg e1
theorem RE.zero (h : RE T Pv cols) {u : Vc} (hu : Sp (rowsOf T) u) (hz : ∀ c ∈ Pv, u c = 0) (j : Nat) : u j = 0 := by
  obtain ⟨D, e, hD, _, hx⟩ := h.expand
  have := hx u hu j
  rw [sumI_zero fun k hk => by rw [hz (Pv.getD k 0) (by rw [show Pv.getD k 0 = Pv[k] by simp [hk]]; exact List.getElem_mem hk)]; simp] at this
  exact (Int.mul_eq_zero.1 this).resolve_left hD

theorem RE.first (h : RE T Pv cols) {u : Vc} (hu : Sp (rowsOf T) u) {c : Nat} (hc : u c ≠ 0) (hz : ∀ j, j < c → u j = 0) : c ∈ Pv := by
  obtain ⟨D, e, hD, hek, hx⟩ := h.expand
  apply Classical.byContradiction
  intro hcp
  
  have := hx u hu c
  rw [sumI_zero fun k hk => ?_] at this
  · exact hc ((Int.mul_eq_zero.1 this).resolve_left hD)
  · have hpk : Pv.getD k 0 = Pv[k] := by simp [hk]
    have hne : Pv[k] ≠ c := fun e => hcp (e ▸ List.getElem_mem hk)
    rcases Nat.lt_or_ge Pv[k] c with h1 | h1
    · rw [hpk, hz _ h1]; simp
    · rw [h.lead k hk c (by omega)]; simp
end
theorem sorted_eq : ∀ {l m : List Nat}, (∀ i j (hi : i < l.length) (hj : j < l.length), i < j → l[i] < l[j]) → (∀ i j (hi : i < m.length) (hj : j < m.length), i < j → m[i] < m[j]) → (∀ x, x ∈ l ↔ x ∈ m) → l = m
  | [], [], _, _, _ => rfl
  | [], y :: m, _, _, h => by have := (h y).2 (List.mem_cons_self ..); simp at this
  | x :: l, [], _, _, h => by have := (h x).1 (List.mem_cons_self ..); simp at this
  | x :: l, y :: m, hl, hm, h => by
    have lx : ∀ z ∈ l, x < z := fun z hz => by
      obtain ⟨i, hi, rfl⟩ := List.mem_iff_getElem.1 hz
      have := hl 0 (i + 1) (by simp) (by simpa using hi) (by omega)
      simpa using this
    have my : ∀ z ∈ m, y < z := fun z hz => by
      obtain ⟨i, hi, rfl⟩ := List.mem_iff_getElem.1 hz
      have := hm 0 (i + 1) (by simp) (by simpa using hi) (by omega)
      simpa using this
    have exy : x = y := by
      have h1 := (h x).1 (List.mem_cons_self ..)
      have h2 := (h y).2 (List.mem_cons_self ..)
      rcases List.mem_cons.1 h1 with e | h1
      · exact e
      · rcases List.mem_cons.1 h2 with e | h2
        · exact e.symm
        · have := my x h1; have := lx y h2; omega
    subst exy
    congr 1
    refine sorted_eq (fun i j hi hj hij => ?_) (fun i j hi hj hij => ?_) fun z => ?_
    · have := hl (i + 1) (j + 1) (by simpa using hi) (by simpa using hj) (by omega)
      simpa using this
    · have := hm (i + 1) (j + 1) (by simpa using hi) (by simpa using hj) (by omega)
      simpa using this
    · constructor
      · intro hz
        rcases List.mem_cons.1 ((h z).1 (List.mem_cons_of_mem _ hz)) with e | h1
        · have := lx z hz; omega
        · exact h1
      · intro hz
        rcases List.mem_cons.1 ((h z).2 (List.mem_cons_of_mem _ hz)) with e | h1
        · have := my z hz; omega
        · exact h1

theorem prm_same {z w : List Int} {a b : Int} (hz : Prm z) (hw : Prm w) (hl : z.length = w.length) (ha : a ≠ 0) (hb : b ≠ 0) (h : ∀ j, a * vc z j = b * vc w j) : z = w ∨ z = w.map (- ·) := by
  have h1 : ∀ j, (vc z j).natAbs = (vc w j).natAbs := fun j => by
    by_cases hj : j < z.length
    · have e1 := prm_le hz ha hb h hj
      have e2 := prm_le hw hb ha (fun j => (h j).symm) (j := j) (by omega)
      omega
    · rw [vc_ge (by omega), vc_ge (by omega)]
  by_cases h0 : ∀ j, vc z j = 0
  · left
    refine List.ext_getElem hl fun i h2 h3 => ?_
    have e1 := h0 i
    have e2 := h1 i
    rw [vc_lt h2] at e1 e2
    rw [vc_lt h3] at e2
    omega
  · obtain ⟨i, hi⟩ : ∃ i, vc z i ≠ 0 := Classical.byContradiction fun hno => h0 fun j => Classical.byContradiction fun hne => hno ⟨j, hne⟩
    have hab : a = b ∨ a = -b := by
      have e1 := congrArg Int.natAbs (h i)
      rw [Int.natAbs_mul, Int.natAbs_mul, ← h1 i] at e1
      have e2 := Nat.eq_of_mul_eq_mul_right (by omega) e1
      omega
    rcases hab with rfl | rfl
    · left
      refine List.ext_getElem hl fun i h2 h3 => ?_
      have := Int.eq_of_mul_eq_mul_left ha (h i)
      rwa [vc_lt h2, vc_lt h3] at this
    · right
      refine List.ext_getElem (by simpa using hl) fun i h2 h3 => ?_
      have e1 := h i
      rw [Int.neg_mul, ← Int.mul_neg] at e1
      have := Int.eq_of_mul_eq_mul_left hb e1
      rw [vc_lt h2, vc_lt (by omega)] at this
      simp only [List.getElem_map]
      omega
theorem RE.uniq {T T' : List (List Int)} {Pv Pv' : List Nat} {cols : Nat} (h : RE T Pv cols) (h' : RE T' Pv' cols) (hs : ∀ r, rowsOf T r → Sp (rowsOf T') r) (hs' : ∀ r, rowsOf T' r → Sp (rowsOf T) r) : T = T' ∧ Pv = Pv' := by
  have key : ∀ {T T' : List (List Int)} {Pv Pv' : List Nat}, RE T Pv cols → RE T' Pv' cols → (∀ r, rowsOf T r → Sp (rowsOf T') r) → ∀ x ∈ Pv, x ∈ Pv' := by
    intro T T' Pv Pv' h h' hs x hx
    obtain ⟨i, hi, rfl⟩ := List.mem_iff_getElem.1 hx
    refine h'.first (hs _ ⟨i, by rw [h.len]; exact hi, rfl⟩) ?_ (h.lead i hi)
    exact (h.piv i i hi hi).2 rfl
  have hp : Pv = Pv' := sorted_eq h.inc h'.inc fun x => ⟨key h h' hs x, key h' h hs' x⟩
  subst hp
  refine ⟨?_, rfl⟩
  have hll : T.length = T'.length := by rw [h.len, h'.len]
  refine List.ext_getElem hll fun i h1 h2 => ?_
  have e1 : T.getD i [] = T[i] := by simp [h1]
  have e2 : T'.getD i [] = T'[i] := by simp [h2]
  have hi : i < Pv.length := by rw [← h.len]; exact h1
  have p1 := h.pos i hi
  have p2 := h'.pos i hi
  have hline : ∀ j, vc (T'.getD i []) Pv[i] * vc (T.getD i []) j = vc (T.getD i []) Pv[i] * vc (T'.getD i []) j := fun j => by
    have hsp : Sp (rowsOf T) (fun j => vc (T'.getD i []) Pv[i] * vc (T.getD i []) j - vc (T.getD i []) Pv[i] * vc (T'.getD i []) j) :=
      .comb (a := vc (T'.getD i []) Pv[i]) (b := -vc (T.getD i []) Pv[i]) (g := 1) (.mem ⟨i, h1, rfl⟩) (hs' _ ⟨i, h2, rfl⟩) (by decide) fun j => by rw [Int.neg_mul]; omega
    have := h.zero hsp (fun c hc => by
      obtain ⟨k, hk, rfl⟩ := List.mem_iff_getElem.1 hc
      by_cases hki : k = i
      · subst hki
        rw [Int.mul_comm]; omega
      · have z1 : vc (T.getD i []) Pv[k] = 0 := Classical.byContradiction fun hx => hki ((h.piv i k hk hi).1 hx)
        have z2 : vc (T'.getD i []) Pv[k] = 0 := Classical.byContradiction fun hx => hki ((h'.piv i k hk hi).1 hx)
        rw [z1, z2]; simp) j
    omega
  rw [← e1, ← e2]
  rcases prm_same (h.prm i h1) (h'.prm i h2) (by rw [h.row i h1, h'.row i h2]) (by omega) (by omega) hline with e | e
  · exact e
  · rw [e, neg_vc] at p1
    omega
end Go.Proofs.Ytfjdfnlkobeehaa
end

section
set_option linter.unusedVariables false
set_option linter.unusedSimpArgs false
namespace Go.Proofs.Ytfjdfnlkobeehaa


theorem step_cases {s : List (List Int) × List Nat} {n c : Nat} (hn : s.1.length = n) :
    (stepE c s = s ∧ ∀ i, s.2.length ≤ i → i < n → vc (s.1.getD i []) c = 0) ∨
    ∃ i, s.2.length ≤ i ∧ i < n ∧ vc (s.1.getD i []) c ≠ 0 ∧ (stepE c s).2 = s.2 ++ [c] ∧ (stepE c s).1.length = n ∧
      ∀ k, k < n → (stepE c s).1.getD k [] = if k = s.2.length then s.1.getD i [] else clearZ (s.1.getD (swp i s.2.length k) []) (s.1.getD i []) c := by
  unfold stepE
  by_cases hf : findP s.1 c s.2.length < s.1.length
  · right
    obtain ⟨hge, hne⟩ := findP_spec hf
    refine ⟨findP s.1 c s.2.length, hge, by omega, hne, by rw [if_pos hf], by rw [if_pos hf]; simp only [clearAll_len, swapL_len]; exact hn, fun k hk => ?_⟩
    rw [if_pos hf]
    have htn : s.2.length < n := by omega
    simp only
    rw [clearAll_get (by rw [swapL_len]; omega), swapL_get (by omega) hf (by omega), swapL_get (by omega) hf (by omega), swp_t]
    by_cases hkt : k = s.2.length
    · rw [if_pos hkt, if_pos hkt, hkt, swp_t]
    · rw [if_neg hkt, if_neg hkt]
  · left
    refine ⟨by rw [if_neg hf], fun i hi hin => ?_⟩
    have := findP_le (W := s.1) (c := c) (r := s.2.length)
    exact findP_none (by omega) i hi (by omega)
theorem swp_swp {i t k : Nat} : swp i t (swp i t k) = k := by
  unfold swp
  by_cases h1 : k = i
  · subst h1
    rw [if_pos rfl]
    by_cases h2 : t = k
    · rw [if_pos h2]; exact h2
    · rw [if_neg h2, if_pos rfl]
  · rw [if_neg h1]
    by_cases h2 : k = t
    · subst h2; rw [if_pos rfl, if_pos rfl]
    · rw [if_neg h2, if_neg h1, if_neg h2]

structure EW (rows : List (List Int)) (n cols c : Nat) (s : List (List Int) × List Nat) : Prop where
  len : s.1.length = n
  row : ∀ k, k < n → (s.1.getD k []).length = cols
  tle : s.2.length ≤ n
  sub : ∀ k, k < n → Sp (rowsOf rows) (vc (s.1.getD k []))
  sup : ∀ k, k < n → Sp (rowsOf s.1) (vc (rows.getD k []))
  low : ∀ k, s.2.length ≤ k → k < n → ∀ j, j < c → vc (s.1.getD k []) j = 0
  lead : ∀ k (hk : k < s.2.length), s.2[k] < c ∧ ∀ j, j < s.2[k] → vc (s.1.getD k []) j = 0
theorem EW.start {rows : List (List Int)} {cols : Nat} (hc : ∀ z ∈ rows, z.length = cols) : EW rows rows.length cols 0 (rows.map primZ, []) := by
  have hg : ∀ k, k < rows.length → (rows.map primZ).getD k [] = primZ (rows.getD k []) := fun k hk => by simp [List.getD_eq_getElem?_getD, hk]
  refine ⟨by simp, fun k hk => ?_, by simp, fun k hk => ?_, fun k hk => ?_, fun k _ _ j hj => by omega, fun k hk => by simp at hk⟩
  · simp only [hg k hk]
    rw [primZ_len]; exact hc _ (getD_mem hk)
  · simp only [hg k hk]
    by_cases h0 : gcdL (rows.getD k []) = 0
    · refine .zero fun j => ?_
      by_cases hj : j < (primZ (rows.getD k [])).length
      · have hj' := hj
        rw [primZ_len] at hj'
        rw [vc_lt hj]
        simp only [primZ, List.getElem_map]
        rw [gcdL_zero.1 h0 _ (List.getElem_mem hj')]; simp
      · rw [vc_ge (by omega)]
    · exact (Sp.mem ⟨k, hk, rfl⟩).scale (g := (gcdL (rows.getD k []) : Nat)) (a := 1) (by omega) fun j => by rw [primZ_vc]; omega
  · have hm : rowsOf (rows.map primZ) (vc (primZ (rows.getD k []))) := ⟨k, by simpa using hk, by rw [hg k hk]⟩
    exact (Sp.mem hm).scale (g := 1) (a := (gcdL (rows.getD k []) : Nat)) (by decide) fun j => by rw [primZ_vc]; omega
theorem EW.step {rows : List (List Int)} {n cols c : Nat} {s : List (List Int) × List Nat} (h : EW rows n cols c s) : EW rows n cols (c + 1) (stepE c s) := by
  rcases step_cases (c := c) h.len with ⟨e, hz⟩ | ⟨i, hi, hin, hne, eP, hl, hg⟩
  · rw [e]
    refine ⟨h.len, h.row, h.tle, h.sub, h.sup, fun k hk hkn j hj => ?_, fun k hk => ?_⟩
    · by_cases hjc : j = c
      · subst hjc; exact hz k hk hkn
      · exact h.low k hk hkn j (by omega)
    · have := h.lead k hk
      exact ⟨by omega, this.2⟩
  · have htn : s.2.length < n := by omega
    have hPl : (stepE c s).2.length = s.2.length + 1 := by rw [eP]; simp
    have hcl : ∀ k, k < n → k ≠ s.2.length → ∃ a b g : Int, a ≠ 0 ∧ g ≠ 0 ∧ (∀ j, g * vc ((stepE c s).1.getD k []) j = a * vc (s.1.getD (swp i s.2.length k) []) j - b * vc (s.1.getD i []) j) ∧ vc ((stepE c s).1.getD k []) c = 0 := fun k hk hkt => by
      rw [hg k hk, if_neg hkt]
      exact clearZ_line (by rw [h.row _ (swp_bd hin htn hk), h.row i hin]) hne
    have hgt : (stepE c s).1.getD s.2.length [] = s.1.getD i [] := by rw [hg _ htn, if_pos rfl]
    refine ⟨hl, fun k hk => ?_, by omega, fun k hk => ?_, fun k hk => ?_, fun k hk hkn j hj => ?_, fun k hk => ?_⟩
    · rw [hg k hk]
      split
      · exact h.row i hin
      · rw [clearZ_len (by rw [h.row _ (swp_bd hin htn hk), h.row i hin])]; exact h.row _ (swp_bd hin htn hk)
    · by_cases hkt : k = s.2.length
      · subst hkt; rw [hgt]; exact h.sub i hin
      · obtain ⟨a, b, g, _, hg0, hv, _⟩ := hcl k hk hkt
        exact .comb (a := a) (b := -b) (h.sub _ (swp_bd hin htn hk)) (h.sub i hin) hg0 fun j => by rw [hv j, Int.neg_mul]; omega
    · refine Sp.trans ?_ (h.sup k hk)
      rintro r ⟨p, hp, rfl⟩
      rw [h.len] at hp
      have hmt : rowsOf (stepE c s).1 (vc (s.1.getD i [])) := ⟨s.2.length, by omega, by rw [hgt]⟩
      by_cases hpt : swp i s.2.length p = s.2.length
      · have : p = i := by
          have := congrArg (swp i s.2.length) hpt
          rwa [swp_swp, swp_t] at this
        rw [this]; exact .mem hmt
      · obtain ⟨a, b, g, ha, _, hv, _⟩ := hcl _ (swp_bd hin htn hp) hpt
        simp only [swp_swp] at hv
        exact .comb (a := g) (b := b) (.mem ⟨_, by rw [hl]; exact swp_bd hin htn hp, rfl⟩) (.mem hmt) ha fun j => by have := hv j; omega
    · rw [hPl] at hk
      obtain ⟨a, b, g, _, hg0, hv, hvc⟩ := hcl k hkn (by omega)
      by_cases hjc : j = c
      · subst hjc; exact hvc
      · have h1 := hv j
        rw [h.low _ (swp_ge hi (by omega)) (swp_bd hin htn hkn) j (by omega), h.low i hi hin j (by omega), Int.mul_zero, Int.mul_zero] at h1
        exact (Int.mul_eq_zero.1 h1).resolve_left hg0
    · have hk' := hk
      rw [hPl] at hk'
      by_cases hkt : k < s.2.length
      · obtain ⟨a, b, g, _, hg0, hv, _⟩ := hcl k (by omega) (by omega)
        obtain ⟨h1, h2⟩ := h.lead k hkt
        have e : (stepE c s).2[k] = s.2[k] := by simp only [eP]; exact List.getElem_append_left hkt
        rw [e]
        refine ⟨by omega, fun j hj => ?_⟩
        have h3 := hv j
        rw [swp_lt hi hkt, h2 j hj, h.low i hi hin j (by omega), Int.mul_zero, Int.mul_zero] at h3
        exact (Int.mul_eq_zero.1 h3).resolve_left hg0
      · have hkeq : k = s.2.length := by omega
        have e : (stepE c s).2[k] = c := by simp only [eP]; rw [List.getElem_append_right (by omega)]; simp
        rw [e]
        refine ⟨by omega, fun j hj => ?_⟩
        rw [hkeq, hgt]
        exact h.low i hi hin j hj
theorem EW.all {rows : List (List Int)} {cols : Nat} (hc : ∀ z ∈ rows, z.length = cols) : ∀ c, EW rows rows.length cols c (echW rows c)
  | 0 => .start hc
  | c + 1 => (EW.all hc c).step
theorem sgF_zero {t : Int} (ht : t ≠ 0) : ∀ zs : List Int, sgF t zs = t
  | [] => rfl
  | z :: zs => by
    show sgF (if t = 0 then cZ z 0 else t) zs = t
    rw [if_neg ht]; exact sgF_zero ht zs

theorem sgF_lead : ∀ (z : List Int) (c : Nat), (∀ j, j < c → vc z j = 0) → vc z c ≠ 0 → sgF 0 z = cZ (vc z c) 0
  | [], c, _, h => absurd (vc_ge (by simp)) h
  | x :: z, 0, _, h => by
    have e : vc (x :: z) 0 = x := rfl
    rw [e] at h ⊢
    show sgF (if (0 : Int) = 0 then cZ x 0 else 0) z = _
    rw [if_pos rfl]
    exact sgF_zero (by unfold cZ; split <;> (try split) <;> omega) z
  | x :: z, c + 1, h0, h => by
    have e0 := h0 0 (by omega)
    have e : vc (x :: z) 0 = x := rfl
    rw [e] at e0
    subst e0
    show sgF (if (0 : Int) = 0 then cZ 0 0 else 0) z = _
    rw [if_pos rfl, cZ_eq rfl]
    exact sgF_lead z c (fun j hj => h0 (j + 1) (by omega)) h
theorem upZ_pos {z : List Int} {c : Nat} (h : ∀ j, j < c → vc z j = 0) (hc : vc z c ≠ 0) : 0 < vc (upZ z) c := by
  have hs := sgF_lead z c h hc
  unfold upZ
  by_cases hneg : vc z c < 0
  · rw [hs, cZ_lt hneg, if_pos (by decide), neg_vc]; omega
  · rw [hs, cZ_gt (by omega), if_neg (by decide)]; omega

theorem echT_RE {m : List (List (Bool × List Nat))} {cols B : Nat} (h : Mx m B) (hc : ∀ l ∈ m, l.length = cols) :
    RE (echT (m.map vals) cols) (echW (m.map vals) cols).2 cols ∧ (∀ r, rowsOf (echT (m.map vals) cols) r → Sp (rowsOf (m.map vals)) r) ∧ (∀ r, rowsOf (m.map vals) r → Sp (rowsOf (echT (m.map vals) cols)) r) := by
  have hR := h.rr hc
  have hW := EW.all (rows := m.map vals) (cols := cols) (fun z hz => by
    obtain ⟨l, hl, rfl⟩ := List.mem_map.1 hz
    rw [vals_len]; exact hc l hl) cols
  rw [List.length_map] at hW
  have hle : (echW (m.map vals) cols).2.length ≤ (echW (m.map vals) cols).1.length := by rw [hW.len]; exact hW.tle
  have hget : ∀ i, i < (echW (m.map vals) cols).2.length → (echT (m.map vals) cols).getD i [] = upZ ((echW (m.map vals) cols).1.getD i []) := fun i hi => echT_get hi hle
  have hup : ∀ z : List Int, Sp (fun r => r = vc z) (vc (upZ z)) ∧ Sp (fun r => r = vc (upZ z)) (vc z) := fun z => by
    rcases upZ_cases z with e | e
    · rw [e]; exact ⟨.mem rfl, .mem rfl⟩
    · rw [e]
      exact ⟨(Sp.mem (I := fun r => r = vc z) (r := vc z) rfl).scale (g := 1) (a := -1) (by decide) fun j => by rw [neg_vc]; omega, (Sp.mem (I := fun r => r = vc (z.map (- ·))) (r := vc (z.map (- ·))) rfl).scale (g := 1) (a := -1) (by decide) fun j => by rw [neg_vc]; omega⟩
  refine ⟨⟨hR.len, fun i hi => (hR.row i hi).1, hR.col, hR.inc, hR.piv, hR.prm, fun i hi j hj => ?_, fun i hi => ?_⟩, ?_, ?_⟩
  · rw [hget i hi]
    have := (hW.lead i hi).2 j hj
    rcases upZ_cases ((echW (m.map vals) cols).1.getD i []) with e | e
    · rw [e]; exact this
    · rw [e, neg_vc, this]; rfl
  · rw [hget i hi]
    refine upZ_pos (hW.lead i hi).2 ?_
    have := (hR.piv i i hi hi).2 rfl
    rw [hget i hi] at this
    rcases upZ_cases ((echW (m.map vals) cols).1.getD i []) with e | e
    · rwa [e] at this
    · rw [e, neg_vc] at this; omega
  · rintro r ⟨i, hi, rfl⟩
    rw [hR.len] at hi
    rw [hget i hi]
    exact Sp.trans (fun r hr => by rw [hr]; exact hW.sub i (by have := hW.tle; omega)) (hup _).1
  · rintro r ⟨i, hi, rfl⟩
    refine Sp.trans ?_ (hW.sup i (by simpa using hi))
    rintro r ⟨k, hk, rfl⟩
    by_cases hkt : k < (echW (m.map vals) cols).2.length
    · refine Sp.trans (fun r hr => ?_) (hup _).2
      rw [hr, ← hget k hkt]
      exact .mem ⟨k, by rw [hR.len]; exact hkt, rfl⟩
    · have hkn : k < m.length := by rw [hW.len] at hk; exact hk
      refine .zero fun j => ?_
      by_cases hj : j < cols
      · exact hW.low k (by omega) hkn j hj
      · exact vc_ge (by rw [hW.row k hkn]; omega)

theorem ech_same {m m' : List (List (Bool × List Nat))} {cols B B' : Nat} (h : Mx m B) (h' : Mx m' B') (hc : ∀ l ∈ m, l.length = cols) (hc' : ∀ l ∈ m', l.length = cols)
    (hs : ∀ r, rowsOf (m.map vals) r → Sp (rowsOf (m'.map vals)) r) (hs' : ∀ r, rowsOf (m'.map vals) r → Sp (rowsOf (m.map vals)) r) : echT (m.map vals) cols = echT (m'.map vals) cols ∧ (echW (m.map vals) cols).2 = (echW (m'.map vals) cols).2 := by
  obtain ⟨a1, a2, a3⟩ := echT_RE h hc
  obtain ⟨b1, b2, b3⟩ := echT_RE h' hc'
  exact a1.uniq b1 (fun r hr => (Sp.trans hs (a2 r hr)).trans b3) (fun r hr => (Sp.trans hs' (b2 r hr)).trans a3)
end Go.Proofs.Ytfjdfnlkobeehaa
end

section
set_option maxRecDepth 100000
set_option linter.unusedVariables false
set_option linter.unusedSimpArgs false
namespace Go.Proofs.Ytfjdfnlkobeehaa

theorem combZ_z {a b : Int} {i j : Nat} : ∀ {z p : List Int}, Z j a → Z i b → (∀ x ∈ z, Z i x) → (∀ x ∈ p, Z j x) → ∀ x ∈ combZ a b z p, Z (i + j + 1) x
  | [], _, _, _, _, _ => fun x hx => by simp [combZ] at hx
  | _ :: _, [], _, _, _, _ => fun x hx => by simp [combZ] at hx
  | z :: zs, p :: ps, ha, hb, hz, hp => fun x hx => by
    have e : combZ a b (z :: zs) (p :: ps) = (a * z - b * p) :: combZ a b zs ps := rfl
    rw [e] at hx
    rcases List.mem_cons.1 hx with rfl | hx
    · have h1 := ha.mul (hz z (List.mem_cons_self ..))
      rw [Nat.add_comm] at h1
      exact h1.sub (hb.mul (hp p (List.mem_cons_self ..)))
    · exact combZ_z ha hb (fun y hy => hz y (List.mem_cons_of_mem _ hy)) (fun y hy => hp y (List.mem_cons_of_mem _ hy)) x hx
theorem vc_z {z : List Int} {k : Nat} (h : ∀ x ∈ z, Z k x) (j : Nat) : Z k (vc z j) := by
  by_cases hj : j < z.length
  · rw [vc_lt hj]; exact h _ (List.getElem_mem hj)
  · rw [vc_ge (by omega)]; exact Z.zero k
theorem clearZ_z {z p : List Int} {i j c : Nat} (hz : ∀ x ∈ z, Z i x) (hp : ∀ x ∈ p, Z j x) : ∀ x ∈ clearZ z p c, Z (i + j + 1) x := by
  intro x hx
  unfold clearZ at hx
  split at hx
  · exact (hz x hx).mono (by omega)
  · obtain ⟨y, hy, rfl⟩ := List.mem_map.1 hx
    exact (combZ_z (vc_z hp c).div (vc_z hz c).div hz hp y hy).div

def insW (T : List (List Int)) (Pv : List Nat) (v : List Int) : Nat → List Int
  | 0 => v
  | k + 1 => clearZ (insW T Pv v k) (T.getD k []) (Pv.getD k 0)
def insB (T : List (List Int)) (Pv : List Nat) (v : List Int) : Bool := zeroB (insW T Pv v Pv.length)
section
variable {e : List (List (Bool × List Nat))} {Pv : List Nat} {v : List (Bool × List Nat)} {cols j k : Nat}
theorem getD_vals {i : Nat} (h : i < e.length) : (e.map vals).getD i [] = vals (e.getD i []) := by simp [h]
theorem einside_calls (he : ∀ l ∈ e, Rn l j ∧ l.length = cols) (hPv : Pv.length = e.length) (hPc : ∀ c ∈ Pv, c < cols) (hv : Rn v k) (hvl : v.length = cols) (hcols : cols ≤ 1000000) (hn : Pv.length ≤ 1000000)
    (hk : 2 * (k + Pv.length * (j + 1) + j) + 1 ≤ 1000000) :
    PT Try.prog 62 [SM e, .sl Pv.length (Pv.map Ref.I), SW v] (isV (.val (.bool (insB (e.map vals) Pv (vals v))))) := by
  refine PCalls.enter (n := 26) (rs := [.tmp 6]) (tb := []) Try.func62 rfl rfl rfl (by kernel_rfl) (by kernel_rfl) (by simp) fun c hc ht => ?_
  simp -implicitDefEqProofs (disch := omega) only [go_sem, ht]
  refine LW.loopW hc ht (by kernel_rfl) (fun t => t.sl 0 = .sl e.length (e.map SW) ∧ t.sl 9 = .sl Pv.length (Pv.map Ref.I) ∧ t.sl 10 = .val (.int .i64 Pv.length) ∧ ∃ i : Nat, i ≤ Pv.length ∧ t.sl 11 = .val (.int .i64 i) ∧
      ∃ l : List (Bool × List Nat), t.sl 2 = .sl l.length (SWc l) ∧ l.length = cols ∧ vals l = insW (e.map vals) Pv (vals v) i ∧ Rn l (k + i * (j + 1)))
    (fun t => match t.sl 11 with | .val (.int _ x) => Pv.length - x.toNat | _ => 0) ?_ ?_
  · simp -implicitDefEqProofs (disch := omega) only [go_sem, ht]
    exact ⟨0, Nat.zero_le _, rfl, v, rfl, hvl, rfl, by simpa using hv⟩
  · rintro t ⟨h0, h9, h10, i, hi, h11, l, h2, hll, hvals, hl⟩
    by_cases hil : i = Pv.length
    · subst hil
      have hz := zero_calls hl (by omega)
      rw [hvals] at hz
      change PT _ _ _ (isV (.val (.bool (insB (e.map vals) Pv (vals v))))) at hz
      simp -implicitDefEqProofs (disch := omega) only [go_sem, ht, h0, h9, h10, h11, h2]
      (refine pCall_vw (by refine ⟨⟨?_, ?_⟩, ?_, ?_⟩; rotate_left 2; (first | (right; rintro r rfl; rfl) | left); all_goals ((try simp -implicitDefEqProofs (disch := omega) only [h2, go_sem, ht]) <;> rfl)) (hz) ?_; rintro _ nx - rfl hnx; simp -implicitDefEqProofs (disch := omega) only [h2, go_sem, ht])
      (refine end_treeW 0 ?_; simp -implicitDefEqProofs (disch := omega) only [go_sem, ht])
    · have hlt : i < Pv.length := by omega
      have hge := get_SM' (m := e) (show i < e.length by omega)
      have hgp : (Pv.map Ref.I)[i]? = some (.val (.int .i64 (Pv.getD i 0 : Nat))) := by simp [hlt, Ref.I]
      have hpc : Pv.getD i 0 < cols := hPc _ (getD_mem hlt)
      obtain ⟨r1, r2⟩ := he _ (getD_mem (d := []) (show i < e.length by omega))
      have hsz : i * (j + 1) + (j + 1) ≤ Pv.length * (j + 1) := by
        have := Nat.mul_le_mul_right (j + 1) (show i + 1 ≤ Pv.length from hlt)
        rw [Nat.succ_mul] at this
        exact this
      have hcl := clear_calls (c := Pv.getD i 0) (k := k + i * (j + 1) + j) (l := l) (p := e.getD i []) ⟨fun q hq => ⟨(hl.ok q hq).1, by have := (hl.ok q hq).2; omega⟩, by omega⟩ ⟨fun q hq => ⟨(r1.ok q hq).1, by have := (r1.ok q hq).2; omega⟩, by omega⟩ (by omega) (by omega) (by omega) (by omega)
      have hst : insW (e.map vals) Pv (vals v) (i + 1) = clearZ (vals l) (vals (e.getD i [])) (Pv.getD i 0) := by
        rw [hvals, ← getD_vals (show i < e.length by omega)]; rfl
      have hnew : ∃ l' : List (Bool × List Nat), (if vc (vals l) (Pv.getD i 0) = 0 then l else CZ (clearZ (vals l) (vals (e.getD i [])) (Pv.getD i 0))) = l' ∧ l'.length = cols ∧ vals l' = insW (e.map vals) Pv (vals v) (i + 1) ∧ Rn l' (k + (i + 1) * (j + 1)) := by
        refine ⟨_, rfl, ?_⟩
        have hs2 : k + (i + 1) * (j + 1) = k + i * (j + 1) + j + 1 := by rw [Nat.succ_mul]; omega
        split
        · rename_i h0
          refine ⟨hll, by rw [hst, clearZ, if_pos h0], ⟨fun q hq => ⟨(hl.ok q hq).1, by have := (hl.ok q hq).2; omega⟩, by omega⟩⟩
        · refine ⟨by rw [CZ_len, clearZ_len (by rw [vals_len, vals_len]; omega), vals_len]; exact hll, by rw [vals_CZ, hst], ?_⟩
          rw [hs2]
          exact .C (clearZ_z hl.z r1.z) (by omega)
      obtain ⟨l', e', g1, g2, g3⟩ := hnew
      rw [e'] at hcl
      rw [SW_def, SW_def, r2] at hcl
      rw [SW_def, r2] at hge
      generalize e.getD i [] = p at *
      generalize Pv.getD i 0 = c at *
      simp -implicitDefEqProofs (disch := omega) only [go_sem, ht, h0, h9, h10, h11, h2, hge, hgp]
      (refine pCall_vw (by refine ⟨⟨?_, ?_⟩, ?_, ?_⟩; rotate_left 2; (first | (right; rintro r rfl; rfl) | left); all_goals ((try simp -implicitDefEqProofs (disch := omega) only [h0, h9, h10, h11, h2, hge, hgp, go_sem, ht]) <;> rfl)) (hcl) ?_; rintro _ nx - rfl hnx; simp -implicitDefEqProofs (disch := omega) only [h0, h9, h10, h11, h2, hge, hgp, go_sem, ht])
      exact ⟨⟨i + 1, by omega, rfl, l', rfl, g1, g2, g3⟩, by omega⟩
end
end Go.Proofs.Ytfjdfnlkobeehaa

namespace Go.Proofs.Ytfjdfnlkobeehaa


theorem Gh.nnc {st : PS} {id : Nat} {cs : List PV} (h0 : st.H id = some cs) (hne : cs ≠ []) : Gh st (st.withH (upd st.H id (some (cs.map nn1))) st.nx) := by
  rintro c a w ⟨ρ, h⟩
  have hne' : cs.map nn1 ≠ [] := fun e => hne (by simpa using e)
  have hl : ∀ i, Live (upd st.H id (some (cs.map nn1))) st.it i ↔ Live st.H st.it i := by
    intro i
    by_cases hx : i = id
    · subst hx
      exact ⟨fun _ => .inl ⟨cs, h0, hne⟩, fun _ => .inl ⟨_, upd_self _ _ _, hne'⟩⟩
    · unfold Live; rw [upd_ne _ _ hx]
  have hle : En.le (enOf c.A0 w ρ st.H st.it st.nx) (enOf c.A0 w ρ (upd st.H id (some (cs.map nn1))) st.it st.nx) :=
    ⟨fun _ _ _ _ hv => hv, fun b _ _ hA _ hA' => hA (hA'.imp_right fun ⟨i, hi, e⟩ => ⟨i, (hl i).1 hi, e⟩), Nat.le_refl _, fun _ _ => rfl⟩
  refine ⟨ρ, ⟨fun i hi => ?_, fun i ds hc hd => ?_, fun i j hi hj he => h.own.inj i j ((hl i).1 hi) ((hl j).1 hj) he, fun i ds hc hd => ?_, h.own.itb, fun i hi => h.own.out i ((hl i).1 hi)⟩,
    fun u => Rep.mono hle _ _ (h.slots u), h.size, h.defers, h.frame, h.grow, h.ids, h.ρk, h.fF, h.fA, h.sw⟩
  · have hi : upd st.H id (some (cs.map nn1)) i ≠ none ∨ st.it i ≠ none := hi
    by_cases hx : i = id
    · subst hx; exact h.own.bound i (.inl (by rw [h0]; simp))
    · rw [upd_ne _ _ hx] at hi; exact h.own.bound i hi
  · have hc : upd st.H id (some (cs.map nn1)) i = some ds := hc
    by_cases hx : i = id
    · subst hx; exact h.own.excl i cs h0 hne
    · rw [upd_ne _ _ hx] at hc; exact h.own.excl i ds hc hd
  · have hc : upd st.H id (some (cs.map nn1)) i = some ds := hc
    by_cases hx : i = id
    · subst hx
      rw [upd_self] at hc
      obtain rfl : cs.map nn1 = ds := by simpa using hc
      obtain ⟨vs, e, hh, hr⟩ := h.own.blk i cs h0 hne
      exact ⟨vs, e, hh, RepL.mono hle _ _ (nnL_rep hr)⟩
    · rw [upd_ne _ _ hx] at hc
      obtain ⟨vs, e, hh, hr⟩ := h.own.blk i ds hc hd
      exact ⟨vs, e, hh, RepL.mono hle _ _ hr⟩
theorem repl_nn (n : Nat) : (repl n [PV.val (.bool false), PV.val (.slice none 0 0)]).map nn1 = SWc (CZ (List.replicate n 0)) := by
  unfold repl
  induction n with
  | zero => rfl
  | succ n ih =>
    simp only [List.replicate_succ, List.flatten_cons, List.map_append, ih]
    rw [show CZ (0 :: List.replicate n 0) = toC 0 :: CZ (List.replicate n 0) from rfl, SWc_cons]
    simp [nn1, toC, SU_def, D_zero]
theorem spl_map {cs ys : List PV} {k : Nat} (f : PV → PV) : (spl cs k ys).map f = spl (cs.map f) k (ys.map f) := by simp [spl, List.map_take, List.map_drop]
theorem spl_set {z : List Int} {p : Nat} (h : p < z.length) (x : Int) : spl (SWc (CZ z)) (p * 2) [.val (.bool (decide (x < 0))), .sl (D x.natAbs).length ((D x.natAbs).map U)] = SWc (CZ (z.set p x)) := by
  have e1 : CZ z = CZ (z.take p) ++ CZ (z.drop p) := by rw [← CZ_app, List.take_append_drop]
  have e2 : z.set p x = z.take p ++ x :: z.drop (p + 1) := by rw [List.set_eq_take_append_cons_drop, if_pos h]
  have e3 : z.drop p = z[p] :: z.drop (p + 1) := List.drop_eq_getElem_cons h
  rw [e2, e1, SWc_app, spl_W (by rw [SWc_len, CZ_len, List.length_take]; omega), CZ_app, SWc_app, e3, List.append_assoc]
  rfl

def lcP (T : List (List Int)) (Pv : List Nat) : Nat → Int
  | 0 => 1
  | i + 1 => lcP T Pv i * (vc (T.getD i []) (Pv.getD i 0) / (Int.gcd (lcP T Pv i) (vc (T.getD i []) (Pv.getD i 0)) : Nat))

def agZ (T : List (List Int)) (Pv : List Nat) (f cols : Nat) : Nat → List Int
  | 0 => (List.replicate cols 0).set f (lcP T Pv Pv.length)
  | i + 1 => (agZ T Pv f cols i).set (Pv.getD i 0) (-(lcP T Pv Pv.length / vc (T.getD i []) (Pv.getD i 0) * vc (T.getD i []) f))
theorem agZ_len {T : List (List Int)} {Pv : List Nat} {f cols : Nat} : ∀ i, (agZ T Pv f cols i).length = cols
  | 0 => by simp [agZ]
  | i + 1 => by rw [agZ, List.length_set, agZ_len i]
section
variable {e : List (List (Bool × List Nat))} {Pv : List Nat} {cols j κ f : Nat}
set_option maxHeartbeats 4000000 in
theorem against_calls (he : ∀ l ∈ e, Rn l j ∧ l.length = cols) (hPv : Pv.length = e.length) (hPc : ∀ c ∈ Pv, c < cols) (hp : ∀ i, i < Pv.length → vc ((e.map vals).getD i []) (Pv.getD i 0) ≠ 0) (hf : f < cols) (hcols : cols ≤ 1000000) (hn : Pv.length ≤ 1000000)
    (hL : ∀ i, i ≤ Pv.length → Z κ (lcP (e.map vals) Pv i)) (hκ : κ + j ≤ 1000000) :
    PT Try.prog 117 [SM e, .sl Pv.length (Pv.map Ref.I), .val (.int .i64 f), .val (.int .i64 cols)] (isV (SW (CZ (agZ (e.map vals) Pv f cols Pv.length)))) := by
  have o1 := wof_v (x := 1) (by decide) (by decide)
  refine PCalls.enter (n := 95) (rs := [.tmp 8]) (tb := [(5, [(0, []), (1, []), (2, []), (3, []), (4, []), (5, []), (6, []), (7, []), (8, []), (9, []), (10, []), (11, []), (12, []), (13, []), (14, []), (15, [0, 1, 2, 3, 4, 5, 6]), (16, []), (17, []), (18, []), (19, []), (20, []), (21, [0, 1, 2, 3, 4, 5, 6, 7, 8, 9, 10, 11, 12, 13, 14, 17, 18, 19, 20]), (22, [0, 1, 2, 3, 4, 5, 6, 7, 8, 9, 10, 11, 12, 13, 14, 17, 18, 19, 20]), (23, [19, 20]), (24, [20]), (25, [])]), (1000005, [(0, []), (0, []), (3, []), (7, []), (0, []), (31, []), (63, []), (0, []), (0, []), (0, []), (768, []), (1792, []), (0, []), (7936, []), (16128, []), (32640, []), (65535, []), (131071, []), (262143, []), (262143, []), (262143, []), (0, []), (0, []), (6815743, []), (15728639, []), (33554431, [])]), (13, [(0, []), (1, []), (2, []), (3, []), (4, []), (5, []), (6, []), (7, []), (8, []), (9, []), (10, []), (11, []), (12, []), (13, [0, 1, 2, 3, 4, 5, 6, 7, 9, 10, 11, 12]), (14, [0, 1, 2, 3, 4, 5, 6, 7, 9, 10, 11, 12]), (15, [11, 12]), (16, [12]), (17, [])]), (1000013, [(0, []), (0, []), (0, []), (6, []), (14, []), (0, []), (62, []), (126, []), (255, []), (511, []), (1023, []), (1023, []), (1023, []), (0, []), (0, []), (26623, []), (61439, []), (131071, [])]), (14, [(0, []), (1, []), (2, []), (3, []), (4, []), (5, []), (6, []), (7, []), (8, []), (9, []), (10, [0, 1]), (11, [0, 1]), (12, []), (13, [])]), (1000014, [(0, []), (0, []), (0, []), (0, []), (0, []), (24, []), (56, []), (0, []), (248, []), (504, []), (1020, []), (2044, []), (4095, []), (8191, [])])]) Try.func117 rfl rfl rfl (by kernel_rfl) (by kernel_rfl) (by simp) fun c hc ht => ?_
  simp -implicitDefEqProofs (disch := omega) only [go_sem, ht]
  (refine pCall_vw (by refine ⟨⟨?_, ?_⟩, ?_, ?_⟩; rotate_left 2; (first | (right; rintro r rfl; rfl) | left); all_goals ((try simp -implicitDefEqProofs (disch := omega) only [go_sem, ht]) <;> rfl)) (o1) ?_; rintro _ nx - rfl hnx; simp -implicitDefEqProofs (disch := omega) only [go_sem, ht])
  refine LW.loopW hc ht (by kernel_rfl) (fun t => t.sl 0 = .sl e.length (e.map SW) ∧ t.sl 1 = .sl Pv.length (Pv.map Ref.I) ∧ t.sl 2 = .val (.int .i64 f) ∧ t.sl 3 = .val (.int .i64 cols) ∧ t.sl 9 = .ptr nx 0 ∧ nx < t.nx ∧
      t.sl 22 = .sl Pv.length (Pv.map Ref.I) ∧ t.sl 23 = .val (.int .i64 Pv.length) ∧ ∃ i : Nat, i ≤ Pv.length ∧ t.sl 24 = .val (.int .i64 i) ∧
      t.H nx = some [.val (.bool (decide (lcP (e.map vals) Pv i < 0))), .sl (D (lcP (e.map vals) Pv i).natAbs).length ((D (lcP (e.map vals) Pv i).natAbs).map U)])
    (fun t => match t.sl 24 with | .val (.int _ x) => Pv.length - x.toNat | _ => 0) ?_ ?_
  · simp -implicitDefEqProofs (disch := omega) only [go_sem, ht]
    exact ⟨by omega, 0, Nat.zero_le _, rfl, rfl⟩
  · rintro t ⟨h0, h1, h2, h3, h9, hnx', h22, h23, i, hi, h24, hH⟩
    by_cases hil : i = Pv.length
    · subst hil
      have hLn := hL Pv.length (Nat.le_refl _)
      have hini : (spl (repl cols [PV.val (.bool false), PV.val (.slice none 0 0)]) (f * 2) [.val (.bool (decide (lcP (e.map vals) Pv Pv.length < 0))), .sl (D (lcP (e.map vals) Pv Pv.length).natAbs).length ((D (lcP (e.map vals) Pv Pv.length).natAbs).map U)]).map nn1 = SWc (CZ (agZ (e.map vals) Pv f cols 0)) := by
        rw [spl_map, repl_nn]
        exact spl_set (by simpa using hf) _
      have hagl : ∀ i, (SWc (CZ (agZ (e.map vals) Pv f cols i))).length = 2 * cols := fun i => by rw [SWc_len, CZ_len, agZ_len]
      have hast : ∀ i, agZ (e.map vals) Pv f cols (i + 1) = (agZ (e.map vals) Pv f cols i).set (Pv.getD i 0) (-(lcP (e.map vals) Pv Pv.length / vc ((e.map vals).getD i []) (Pv.getD i 0) * vc ((e.map vals).getD i []) f)) := fun i => rfl
      have hagn : ∀ i, (agZ (e.map vals) Pv f cols i).length = cols := agZ_len
      generalize agZ (e.map vals) Pv f cols = ag at *
      generalize lcP (e.map vals) Pv Pv.length = L at *
      simp -implicitDefEqProofs (disch := omega) only [go_sem, ht, h0, h1, h2, h3, h9, h22, h23, h24, hH]
      refine ⟨by rw [repl_len]; simp; omega, ?_⟩
      refine LW.ghost (Gh.nnc (id := t.nx) (by simp -implicitDefEqProofs (disch := omega) only [go_sem, ht] <;> rfl) (by intro h; have := congrArg List.length h; simp [spl] at this)) ?_
      rw [hini]
      refine LW.loopW hc ht (by kernel_rfl) (fun s => s.sl 0 = .sl e.length (e.map SW) ∧ s.sl 1 = .sl Pv.length (Pv.map Ref.I) ∧ s.sl 2 = .val (.int .i64 f) ∧ s.sl 3 = .val (.int .i64 cols) ∧ s.sl 9 = .ptr nx 0 ∧ t.nx < s.nx ∧ s.sl 15 = .ref t.nx 0 cols cols 2 ∧
          s.sl 60 = .sl Pv.length (Pv.map Ref.I) ∧ s.sl 61 = .val (.int .i64 Pv.length) ∧ s.H nx = some [.val (.bool (decide (L < 0))), .sl (D L.natAbs).length ((D L.natAbs).map U)] ∧ ∃ i : Nat, i ≤ Pv.length ∧ s.sl 62 = .val (.int .i64 i) ∧ s.H t.nx = some (SWc (CZ (ag i))))
        (fun s => match s.sl 62 with | .val (.int _ x) => Pv.length - x.toNat | _ => 0) ?_ ?_
      · simp -implicitDefEqProofs (disch := omega) only [go_sem, ht, h0, h1, h2, h3, h9, h22, h23, hH]
        exact ⟨by omega, 0, Nat.zero_le _, rfl, rfl⟩
      · clear h0 h1 h2 h3 h9 h22 h23 h24 hH
        rintro s ⟨h0, h1, h2, h3, h9, hsx, h15, h60, h61, hH, i, hi, h62, hz⟩
        by_cases hil : i = Pv.length
        · subst hil
          have htk : List.take (cols * 2) (SWc (CZ (ag Pv.length))) = SWc (CZ (ag Pv.length)) := List.take_of_length_le (by rw [hagl]; omega)
          have hle := hagl Pv.length
          have hcl : (CZ (ag Pv.length)).length = cols := by rw [CZ_len, hagn]
          have hcl' : ((ag Pv.length)).length = cols := hagn _
          have hfl := SWc_flat (CZ (ag Pv.length))
          generalize SWc (CZ (ag Pv.length)) = zz at *
          simp -implicitDefEqProofs (disch := omega) only [go_sem, ht, h0, h1, h2, h3, h15, h60, h61, h62]
          (refine end_treeM 2 ?_; simp -implicitDefEqProofs (disch := omega) only [go_sem, ht, hz, htk, hle, hcl])
          exact ⟨by omega, zz, frzL_flat _ _ 1 hfl, hfl, rfl⟩
        · have hlt : i < Pv.length := by omega
          have hge := get_SM' (m := e) (show i < e.length by omega)
          have hgp : (Pv.map Ref.I)[i]? = some (.val (.int .i64 (Pv.getD i 0 : Nat))) := by simp [hlt, Ref.I]
          have hpc : Pv.getD i 0 < cols := hPc _ (getD_mem hlt)
          obtain ⟨r1, r2⟩ := he _ (getD_mem (d := []) (show i < e.length by omega))
          have hpi := hp i hlt
          have est := hast i
          rw [getD_vals (show i < e.length by omega)] at hpi est
          have hat := SWc_at (show Pv.getD i 0 < (e.getD i []).length by omega)
          have haf := SWc_at (show f < (e.getD i []).length by omega)
          have w1 := Wn.C hLn (by omega)
          have w2 := r1.wn (show Pv.getD i 0 < (e.getD i []).length by omega)
          have w3 := r1.wn (show f < (e.getD i []).length by omega)
          have d1 := divW w1 w2 hpi
          have zs : Z κ (L / vc (vals (e.getD i [])) (Pv.getD i 0)) := hLn.div
          have m1 := mulW (Wn.C zs (by omega)) w3
          have n1 := negW (Wn.C (zs.mul w3.z) hκ)
          rw [SW_def, r2] at hge
          have hspl := spl_set (z := ag i) (p := Pv.getD i 0) (by rw [hagn]; exact hpc) (-(L / vc (vals (e.getD i [])) (Pv.getD i 0) * vc (vals (e.getD i [])) f))
          rw [← est] at hspl
          have hgl := hagl i
          clear w1 w2 w3 zs hpi est
          generalize L / vc (vals (e.getD i [])) (Pv.getD i 0) = q at *
          generalize L % vc (vals (e.getD i [])) (Pv.getD i 0) = qr at *
          generalize q * vc (vals (e.getD i [])) f = q2 at *
          generalize -q2 = q3 at *
          simp -implicitDefEqProofs (disch := omega) only [go_sem, ht, h0, h1, h2, h3, h9, h15, h60, h61, h62, hH, hge, hgp, hat, haf]
          ((refine pCall_vw (by refine ⟨⟨?_, ?_⟩, ?_, ?_⟩; rotate_left 2; (first | (right; rintro r rfl; rfl) | left); all_goals ((try simp -implicitDefEqProofs (disch := omega) only [h0, h1, h2, h3, h9, h15, h60, h61, h62, hH, hge, hgp, hat, haf, hz, hspl, go_sem, ht]) <;> rfl)) (d1) ?_; rintro _ nx_1 - rfl hnx_1; simp -implicitDefEqProofs (disch := omega) only [h0, h1, h2, h3, h9, h15, h60, h61, h62, hH, hge, hgp, hat, haf, hz, hspl, go_sem, ht]); (refine pCall_vw (by refine ⟨⟨?_, ?_⟩, ?_, ?_⟩; rotate_left 2; (first | (right; rintro r rfl; rfl) | left); all_goals ((try simp -implicitDefEqProofs (disch := omega) only [h0, h1, h2, h3, h9, h15, h60, h61, h62, hH, hge, hgp, hat, haf, hz, hspl, go_sem, ht]) <;> rfl)) (m1) ?_; rintro _ nx_2 - rfl hnx_2; simp -implicitDefEqProofs (disch := omega) only [h0, h1, h2, h3, h9, h15, h60, h61, h62, hH, hge, hgp, hat, haf, hz, hspl, go_sem, ht]); (refine pCall_vw (by refine ⟨⟨?_, ?_⟩, ?_, ?_⟩; rotate_left 2; (first | (right; rintro r rfl; rfl) | left); all_goals ((try simp -implicitDefEqProofs (disch := omega) only [h0, h1, h2, h3, h9, h15, h60, h61, h62, hH, hge, hgp, hat, haf, hz, hspl, go_sem, ht]) <;> rfl)) (n1) ?_; rintro _ nx_3 - rfl hnx_3; simp -implicitDefEqProofs (disch := omega) only [h0, h1, h2, h3, h9, h15, h60, h61, h62, hH, hge, hgp, hat, haf, hz, hspl, go_sem, ht]))
          exact ⟨by rw [CZ_len, hagn]; omega, ⟨by omega, i + 1, by omega, rfl, rfl⟩, by omega⟩
    · have hlt : i < Pv.length := by omega
      have hge := get_SM' (m := e) (show i < e.length by omega)
      have hgp : (Pv.map Ref.I)[i]? = some (.val (.int .i64 (Pv.getD i 0 : Nat))) := by simp [hlt, Ref.I]
      have hpc : Pv.getD i 0 < cols := hPc _ (getD_mem hlt)
      obtain ⟨r1, r2⟩ := he _ (getD_mem (d := []) (show i < e.length by omega))
      have hpi := hp i hlt
      have hLi := hL i hi
      have hLs := hL (i + 1) hlt
      have est : lcP (e.map vals) Pv (i + 1) = lcP (e.map vals) Pv i * (vc ((e.map vals).getD i []) (Pv.getD i 0) / (Int.gcd (lcP (e.map vals) Pv i) (vc ((e.map vals).getD i []) (Pv.getD i 0)) : Nat)) := rfl
      rw [est] at hLs
      rw [getD_vals (show i < e.length by omega)] at hLs est hpi
      have hat := SWc_at (show Pv.getD i 0 < (e.getD i []).length by omega)
      have w1 := Wn.C hLi (by omega)
      have w2 := r1.wn (show Pv.getD i 0 < (e.getD i []).length by omega)
      have gc := gcdW w1 w2
      have hg0 : ((Int.gcd (lcP (e.map vals) Pv i) (vc (vals (e.getD i [])) (Pv.getD i 0)) : Nat) : Int) ≠ 0 := by
        have := Int.gcd_pos_of_ne_zero_right (lcP (e.map vals) Pv i) hpi
        omega
      have zg : Z (κ + j) ((Int.gcd (lcP (e.map vals) Pv i) (vc (vals (e.getD i [])) (Pv.getD i 0)) : Nat) : Int) := (hLi.mono (by omega)).gcd (w2.z.mono (by omega))
      have d1 := divW w2 (Wn.C zg (by omega)) hg0
      have m1 := mulW w1 (Wn.C (w2.z.div (y := ((Int.gcd (lcP (e.map vals) Pv i) (vc (vals (e.getD i [])) (Pv.getD i 0)) : Nat) : Int))) (by omega))
      rw [← est] at m1
      rw [SW_def, r2] at hge
      clear zg hg0 hLs w1 w2 hpi
      obtain ⟨L', eL⟩ : ∃ x, lcP (e.map vals) Pv (i + 1) = x := ⟨_, rfl⟩
      rw [eL] at m1
      generalize lcP (e.map vals) Pv i = L at *
      generalize vc (vals (e.getD i [])) (Pv.getD i 0) / (Int.gcd L (vc (vals (e.getD i [])) (Pv.getD i 0)) : Nat) = q at *
      generalize vc (vals (e.getD i [])) (Pv.getD i 0) % (Int.gcd L (vc (vals (e.getD i [])) (Pv.getD i 0)) : Nat) = qr at *
      generalize ((Int.gcd L (vc (vals (e.getD i [])) (Pv.getD i 0)) : Nat) : Int) = g at *
      simp -implicitDefEqProofs (disch := omega) only [go_sem, ht, h0, h1, h2, h3, h9, h22, h23, h24, hH, hge, hgp, hat]
      ((refine pCall_vw (by refine ⟨⟨?_, ?_⟩, ?_, ?_⟩; rotate_left 2; (first | (right; rintro r rfl; rfl) | left); all_goals ((try simp -implicitDefEqProofs (disch := omega) only [h0, h1, h2, h3, h9, h22, h23, h24, hH, hge, hgp, hat, go_sem, ht]) <;> rfl)) (gc) ?_; rintro _ nx_4 - rfl hnx_4; simp -implicitDefEqProofs (disch := omega) only [h0, h1, h2, h3, h9, h22, h23, h24, hH, hge, hgp, hat, go_sem, ht]); (refine pCall_vw (by refine ⟨⟨?_, ?_⟩, ?_, ?_⟩; rotate_left 2; (first | (right; rintro r rfl; rfl) | left); all_goals ((try simp -implicitDefEqProofs (disch := omega) only [h0, h1, h2, h3, h9, h22, h23, h24, hH, hge, hgp, hat, go_sem, ht]) <;> rfl)) (d1) ?_; rintro _ nx_5 - rfl hnx_5; simp -implicitDefEqProofs (disch := omega) only [h0, h1, h2, h3, h9, h22, h23, h24, hH, hge, hgp, hat, go_sem, ht]); (refine pCall_vw (by refine ⟨⟨?_, ?_⟩, ?_, ?_⟩; rotate_left 2; (first | (right; rintro r rfl; rfl) | left); all_goals ((try simp -implicitDefEqProofs (disch := omega) only [h0, h1, h2, h3, h9, h22, h23, h24, hH, hge, hgp, hat, go_sem, ht]) <;> rfl)) (m1) ?_; rintro _ nx_6 - rfl hnx_6; simp -implicitDefEqProofs (disch := omega) only [h0, h1, h2, h3, h9, h22, h23, h24, hH, hge, hgp, hat, go_sem, ht]))
      exact ⟨⟨by omega, i + 1, by omega, rfl, by rw [eL]⟩, by omega⟩
end
end Go.Proofs.Ytfjdfnlkobeehaa

namespace Go.Proofs.Ytfjdfnlkobeehaa


def frees (Pv : List Nat) (n : Nat) : List Nat := (List.range n).filter fun f => decide (f ∉ Pv)
theorem frees_succ (Pv : List Nat) (n : Nat) : frees Pv (n + 1) = frees Pv n ++ if n ∈ Pv then [] else [n] := by
  unfold frees
  rw [List.range_succ, List.filter_append]
  by_cases h : n ∈ Pv <;> simp [h]
theorem frees_le (Pv : List Nat) (n : Nat) : (frees Pv n).length ≤ n := by
  have := List.length_filter_le (fun f => decide (f ∉ Pv)) (List.range n)
  rw [List.length_range] at this
  exact this
theorem mem_frees {Pv : List Nat} {n f : Nat} : f ∈ frees Pv n ↔ f < n ∧ f ∉ Pv := by simp [frees]

def kerR (T : List (List Int)) (Pv : List Nat) (cols n : Nat) : List (List Int) := (frees Pv n).map fun f => agZ T Pv f cols Pv.length
theorem kerR_len (T : List (List Int)) (Pv : List Nat) (cols n : Nat) : (kerR T Pv cols n).length = (frees Pv n).length := by simp [kerR]
theorem kerR_row {T : List (List Int)} {Pv : List Nat} {cols n : Nat} : ∀ z ∈ kerR T Pv cols n, z.length = cols := by
  intro z hz
  obtain ⟨f, _, rfl⟩ := List.mem_map.1 hz
  exact agZ_len _
theorem map_vals_CZ (W : List (List Int)) : (W.map CZ).map vals = W := by
  rw [List.map_map]
  conv => rhs; rw [← List.map_id W]
  exact List.map_congr_left fun z _ => vals_CZ z
section
variable {e : List (List (Bool × List Nat))} {Pv : List Nat} {cols j κ B : Nat}
set_option maxHeartbeats 4000000 in
theorem ekernel_calls (he : ∀ l ∈ e, Rn l j ∧ l.length = cols) (hPv : Pv.length = e.length) (hPc : ∀ c ∈ Pv, c < cols) (hp : ∀ i, i < Pv.length → vc ((e.map vals).getD i []) (Pv.getD i 0) ≠ 0) (hcols : cols ≤ 1000) (hn : Pv.length ≤ 1000000)
    (inc : ∀ i j (hi : i < Pv.length) (hj : j < Pv.length), i < j → Pv[i] < Pv[j]) (hL : ∀ i, i ≤ Pv.length → Z κ (lcP (e.map vals) Pv i)) (hκ : κ + j ≤ 1000000) (hM : Mx ((kerR (e.map vals) Pv cols cols).map CZ) B) :
    PT Try.prog 78 [SM e, .sl Pv.length (Pv.map Ref.I), .val (.int .i64 cols)] (isV (SM ((echT (kerR (e.map vals) Pv cols cols) cols).map CZ))) := by
  have hec := hM.ech (cols := cols) (fun l hl => by
    obtain ⟨z, hz, rfl⟩ := List.mem_map.1 hl
    rw [CZ_len]; exact kerR_row z hz) hcols (by rw [List.length_map, kerR_len]; have := frees_le Pv cols; omega)
  rw [map_vals_CZ] at hec
  refine PCalls.enter (n := 46) (rs := [.tmp 6]) (tb := []) Try.func78 rfl rfl rfl (by kernel_rfl) (by kernel_rfl) (by simp) fun c hc ht => ?_
  simp -implicitDefEqProofs (disch := omega) only [go_sem, ht]
  refine LW.ghost (Gh.nilW 7 1 (by simp -implicitDefEqProofs (disch := omega) only [go_sem, ht])) ?_
  refine LW.loopW hc ht (by kernel_rfl) (fun t => t.sl 0 = .sl e.length (e.map SW) ∧ t.sl 1 = .sl Pv.length (Pv.map Ref.I) ∧ t.sl 2 = .val (.int .i64 cols) ∧ t.sl 12 = .val (.int .i64 cols) ∧ ∃ f : Nat, f ≤ cols ∧ t.sl 13 = .val (.int .i64 f) ∧
      (∃ k : Nat, k ≤ Pv.length ∧ t.sl 8 = .val (.int .i64 k) ∧ (∀ x (hx : x < Pv.length), x < k → Pv[x] < f) ∧ ∀ x (hx : x < Pv.length), k ≤ x → f ≤ Pv[x]) ∧
      ∃ (idO capO : Nat) (restO : List Value), t.sl 7 = .ref idO 0 (frees Pv f).length capO 1 ∧ t.H idO = some (((kerR (e.map vals) Pv cols f).map CZ).map SW ++ restO.map .val) ∧ (frees Pv f).length + restO.length = capO ∧ idO < t.nx)
    (fun t => match t.sl 13 with | .val (.int _ x) => cols - x.toNat | _ => 0) ?_ ?_
  · simp -implicitDefEqProofs (disch := omega) only [go_sem, ht]
    exact ⟨0, Nat.zero_le _, rfl, ⟨0, Nat.zero_le _, rfl, fun x _ hx => by omega, fun x _ _ => Nat.zero_le _⟩, _, 0, [], rfl, upd_self _ _ _, rfl, by omega⟩
  · rintro t ⟨h0, h1, h2, h12, f, hf, h13, ⟨k, hk, h8, hlo, hhi⟩, idO, capO, restO, h7, hH, hcO, hid⟩
    by_cases hfc : f = cols
    · subst hfc
      have hfl := frzL_flat (fun _ => true) t.H 0 (SM_flat ((kerR (e.map vals) Pv f f).map CZ))
      have hOl : (((kerR (e.map vals) Pv f f).map CZ).map SW).length = (frees Pv f).length := by rw [List.length_map, List.length_map, kerR_len]
      have htk : List.take (frees Pv f).length (((kerR (e.map vals) Pv f f).map CZ).map SW ++ restO.map .val) = ((kerR (e.map vals) Pv f f).map CZ).map SW := by rw [← hOl, List.take_left]
      have hle : (frees Pv f).length ≤ ((kerR (e.map vals) Pv f f).map CZ).length + restO.length := by rw [List.length_map, kerR_len]; omega
      have hOn : ((kerR (e.map vals) Pv f f).map CZ).length = (frees Pv f).length := by rw [List.length_map, kerR_len]
      generalize (kerR (e.map vals) Pv f f).map CZ = O at *
      have hfl2 := SM_flat ((echT (kerR (e.map vals) Pv f f) f).map CZ)
      have hEl : ((echT (kerR (e.map vals) Pv f f) f).map CZ).length = (echT (kerR (e.map vals) Pv f f) f).length := by rw [List.length_map]
      generalize (echT (kerR (e.map vals) Pv f f) f).map CZ = E at *
      simp -implicitDefEqProofs (disch := omega) only [go_sem, ht, h0, h1, h2, h7, h8, h12, h13]
      (refine pCall_frz (fun _ => true) 1 (by simp -implicitDefEqProofs (disch := omega) only [h0, h1, h2, h7, h8, h12, h13, hH, htk, hle, hfl, if_pos, hOn, go_sem, ht] <;> rfl) (by simp -implicitDefEqProofs (disch := omega) only [h0, h1, h2, h7, h8, h12, h13, hH, htk, hle, hfl, if_pos, hOn, go_sem, ht]) (by simp -implicitDefEqProofs (disch := omega) only [h0, h1, h2, h7, h8, h12, h13, hH, htk, hle, hfl, if_pos, hOn, go_sem, ht] <;> rfl) (by simp -implicitDefEqProofs (disch := omega) only [h0, h1, h2, h7, h8, h12, h13, hH, htk, hle, hfl, if_pos, hOn, go_sem, ht]) (hec) ?_; rintro _ nx - rfl hnx; (try simp only [put_nx, withH_nx, begP_nx] at hnx); simp -implicitDefEqProofs (disch := omega) only [h0, h1, h2, h7, h8, h12, h13, hH, htk, hle, hfl, if_pos, hOn, go_sem, ht])
      (refine end_treeM 2 ?_; simp -implicitDefEqProofs (disch := omega) only [go_sem, ht, hfl2])
      rw [hEl]
    · have hlt : f < cols := by omega
      by_cases hfp : k < Pv.length ∧ Pv.getD k 0 = f
      · obtain ⟨hk1, hk2⟩ := hfp
        have hgp : (Pv.map Ref.I)[k]? = some (.val (.int .i64 f)) := by rw [← hk2]; simp [hk1, Ref.I]
        have hk3 : Pv[k] = f := by rw [← hk2]; simp [hk1]
        have hfr : frees Pv (f + 1) = frees Pv f := by rw [frees_succ, if_pos (hk3 ▸ List.getElem_mem hk1), List.append_nil]
        simp -implicitDefEqProofs (disch := omega) only [go_sem, ht, h0, h1, h2, h7, h8, h12, h13, hgp]
        refine ⟨⟨f + 1, by omega, rfl, ⟨k + 1, by omega, rfl, fun x hx hxk => ?_, fun x hx hxk => ?_⟩, idO, capO, restO, by rw [hfr], by unfold kerR at hH ⊢; rw [hfr]; exact hH, by rw [hfr]; exact hcO, by omega⟩, by omega⟩
        · rcases Nat.lt_or_ge x k with h | h
          · have := hlo x hx h; omega
          · have : x = k := by omega
            subst this; omega
        · have := inc k x hk1 hx (by omega)
          omega
      · have hnp : f ∉ Pv := by
          intro hm
          obtain ⟨x, hx, e'⟩ := List.mem_iff_getElem.1 hm
          rcases Nat.lt_or_ge x k with h | h
          · have := hlo x hx h; omega
          · rcases Nat.lt_or_ge k x with h' | h'
            · have h1' := inc k x (by omega) hx h'
              have h2' := hhi k (by omega) (Nat.le_refl _)
              omega
            · have : x = k := by omega
              subst this
              exact hfp ⟨hx, by simp [hx, e']⟩
        have hfr : frees Pv (f + 1) = frees Pv f ++ [f] := by rw [frees_succ, if_neg hnp]
        have hag := against_calls (f := f) he hPv hPc hp hlt (by omega) hn hL hκ
        have hkr : kerR (e.map vals) Pv cols (f + 1) = kerR (e.map vals) Pv cols f ++ [agZ (e.map vals) Pv f cols Pv.length] := by unfold kerR; rw [hfr, List.map_append]; rfl
        have hagl : (CZ (agZ (e.map vals) Pv f cols Pv.length)).length = cols := by rw [CZ_len, agZ_len]
        have hol := kerR_len (e.map vals) Pv cols f
        have hfn := frees_le Pv f
        rw [SW_def, hagl] at hag
        have hnew : ((kerR (e.map vals) Pv cols f).map CZ).map SW ++ [.sl cols (SWc (CZ (agZ (e.map vals) Pv f cols Pv.length)))] = ((kerR (e.map vals) Pv cols (f + 1)).map CZ).map SW := by
          rw [hkr, List.map_append, List.map_append]
          simp only [List.map_cons, List.map_nil, SW_def, hagl]
        have hfrl : (frees Pv (f + 1)).length = (frees Pv f).length + 1 := by rw [hfr, List.length_append]; rfl
        have hlo' : ∀ x (hx : x < Pv.length), x < k → Pv[x] < f + 1 := fun x hx h => by have := hlo x hx h; omega
        have hhi' : ∀ x (hx : x < Pv.length), k ≤ x → f + 1 ≤ Pv[x] := fun x hx h => by
          have := hhi x hx h
          rcases Nat.lt_or_ge f Pv[x] with h' | h'
          · exact h'
          · exact absurd (by rw [show f = Pv[x] by omega]; exact List.getElem_mem hx) hnp
        have hfc1 := SWc_flat (CZ (agZ (e.map vals) Pv f cols Pv.length))
        generalize SWc (CZ (agZ (e.map vals) Pv f cols Pv.length)) = c1 at *
        by_cases hkl : k < Pv.length
        · have hne : Pv.getD k 0 ≠ f := fun h => hfp ⟨hkl, h⟩
          have hgp : (Pv.map Ref.I)[k]? = some (.val (.int .i64 (Pv.getD k 0 : Nat))) := by simp [hkl, Ref.I]
          generalize Pv.getD k 0 = p at *
          simp -implicitDefEqProofs (disch := omega) only [go_sem, ht, h0, h1, h2, h7, h8, h12, h13, hgp]
          (refine pCall_vw (by refine ⟨⟨?_, ?_⟩, ?_, ?_⟩; rotate_left 2; (first | (right; rintro r rfl; rfl) | left); all_goals ((try simp -implicitDefEqProofs (disch := omega) only [h0, h1, h2, h7, h8, h12, h13, hgp, go_sem, ht]) <;> rfl)) (hag) ?_; rintro _ nx - rfl hnx; simp -implicitDefEqProofs (disch := omega) only [h0, h1, h2, h7, h8, h12, h13, hgp, go_sem, ht])
          (refine append_ownX (by refine ⟨?_, ?_, ?_, ?_, ?_, ?_, ?_, ?_⟩ <;> (simp -implicitDefEqProofs (disch := omega) only [srcP_ref, srcP_sl, srcP_nil, Option.isSome_some, hH, go_sem, ht] <;> rfl)) (by simp <;> omega) (by first | assumption | (simp <;> omega)) (by first | rfl | simp) (by first | omega | (simp <;> omega)) ?_; intro id1 cap1 rest1 H1 nx1 hH1 hcap1 hid1 hnx1 hfr1 hfs1; simp only [put_nx, withH_nx, put_H, withH_H] at hid1 hnx1 hfr1 hfs1; (try simp only [app_U, ← List.map_append] at hH1))
          simp -implicitDefEqProofs (disch := omega) only [go_sem, ht, h0, h1, h2, h8, h12, h13]
          exact ⟨⟨f + 1, by omega, rfl, ⟨k, hk, rfl, hlo', hhi'⟩, id1, cap1, rest1, by rw [hfrl], by rw [hH1, hnew], by omega, by omega⟩, by omega⟩
        · simp -implicitDefEqProofs (disch := omega) only [go_sem, ht, h0, h1, h2, h7, h8, h12, h13]
          (refine pCall_vw (by refine ⟨⟨?_, ?_⟩, ?_, ?_⟩; rotate_left 2; (first | (right; rintro r rfl; rfl) | left); all_goals ((try simp -implicitDefEqProofs (disch := omega) only [h0, h1, h2, h7, h8, h12, h13, go_sem, ht]) <;> rfl)) (hag) ?_; rintro _ nx - rfl hnx; simp -implicitDefEqProofs (disch := omega) only [h0, h1, h2, h7, h8, h12, h13, go_sem, ht])
          (refine append_ownX (by refine ⟨?_, ?_, ?_, ?_, ?_, ?_, ?_, ?_⟩ <;> (simp -implicitDefEqProofs (disch := omega) only [srcP_ref, srcP_sl, srcP_nil, Option.isSome_some, hH, go_sem, ht] <;> rfl)) (by simp <;> omega) (by first | assumption | (simp <;> omega)) (by first | rfl | simp) (by first | omega | (simp <;> omega)) ?_; intro id1 cap1 rest1 H1 nx1 hH1 hcap1 hid1 hnx1 hfr1 hfs1; simp only [put_nx, withH_nx, put_H, withH_H] at hid1 hnx1 hfr1 hfs1; (try simp only [app_U, ← List.map_append] at hH1))
          simp -implicitDefEqProofs (disch := omega) only [go_sem, ht, h0, h1, h2, h8, h12, h13]
          exact ⟨⟨f + 1, by omega, rfl, ⟨k, hk, rfl, hlo', hhi'⟩, id1, cap1, rest1, by rw [hfrl], by rw [hH1, hnew], by omega, by omega⟩, by omega⟩
end
end Go.Proofs.Ytfjdfnlkobeehaa

namespace Go.Proofs.Ytfjdfnlkobeehaa

theorem sub_len : ∀ {l m : List Nat}, l.Nodup → (∀ x ∈ l, x ∈ m) → l.length ≤ m.length
  | [], _, _, _ => Nat.zero_le _
  | x :: l, m, hn, hs => by
    rw [List.nodup_cons] at hn
    have hx := hs x (List.mem_cons_self ..)
    have h1 := sub_len (l := l) (m := m.erase x) hn.2 fun y hy => (List.mem_erase_of_ne (by rintro rfl; exact hn.1 hy)).2 (hs y (List.mem_cons_of_mem _ hy))
    rw [List.length_erase_of_mem hx] at h1
    have := List.length_pos_of_mem hx
    simp only [List.length_cons]
    omega
theorem sub_eq {l m : List Nat} (hn : l.Nodup) (hs : ∀ x ∈ l, x ∈ m) (hl : l.length = m.length) : ∀ y ∈ m, y ∈ l := by
  intro y hy
  apply Classical.byContradiction
  intro hno
  have h1 := sub_len (l := l) (m := m.erase y) hn fun x hx => (List.mem_erase_of_ne (by rintro rfl; exact hno hx)).2 (hs x hx)
  rw [List.length_erase_of_mem hy] at h1
  have := List.length_pos_of_mem hy
  omega
theorem inc_nodup {l : List Nat} (h : ∀ i j (hi : i < l.length) (hj : j < l.length), i < j → l[i] < l[j]) : l.Nodup := by
  rw [List.Nodup, List.pairwise_iff_getElem]
  intro i j hi hj hij e
  have := h i j hi hj hij
  omega
theorem inc_range {n : Nat} (p : Nat → Bool) : ∀ i j (hi : i < ((List.range n).filter p).length) (hj : j < ((List.range n).filter p).length), i < j → ((List.range n).filter p)[i] < ((List.range n).filter p)[j] := by
  have := (List.pairwise_lt_range (n := n)).filter p
  rw [List.pairwise_iff_getElem] at this
  exact fun i j hi hj hij => this i j hi hj hij
theorem filter_two {α : Type} (p : α → Bool) : ∀ l : List α, (l.filter p).length + (l.filter fun x => !p x).length = l.length
  | [] => rfl
  | x :: l => by
    have := filter_two p l
    cases h : p x <;> simp [List.filter_cons, h] <;> omega
theorem frees_count {Pv : List Nat} {cols : Nat} (hPc : ∀ c ∈ Pv, c < cols) (inc : ∀ i j (hi : i < Pv.length) (hj : j < Pv.length), i < j → Pv[i] < Pv[j]) : (frees Pv cols).length + Pv.length = cols := by
  have h1 : (List.range cols).filter (fun f => decide (f ∈ Pv)) = Pv := sorted_eq (inc_range _) inc fun x => by
    simp only [List.mem_filter, List.mem_range, decide_eq_true_eq]
    exact ⟨fun h => h.2, fun h => ⟨hPc x h, h⟩⟩
  have h2 := filter_two (fun f => decide (f ∈ Pv)) (List.range cols)
  rw [h1, List.length_range] at h2
  have h3 : frees Pv cols = (List.range cols).filter fun f => !decide (f ∈ Pv) := by
    unfold frees
    congr 1
    funext f
    simp
  rw [h3]
  omega
section
variable {T T' : List (List Int)} {Pv Pv' : List Nat} {cols : Nat}
theorem RE.pivD (h : RE T Pv cols) {i : Nat} (hi : i < Pv.length) : 0 < vc (T.getD i []) (Pv.getD i 0) := by
  have := h.pos i hi
  rwa [show Pv.getD i 0 = Pv[i] by simp [hi]]
theorem RE.pivN (h : RE T Pv cols) {i k : Nat} (hi : i < Pv.length) (hk : k < Pv.length) (hne : k ≠ i) : vc (T.getD i []) (Pv.getD k 0) = 0 := by
  rw [show Pv.getD k 0 = Pv[k] by simp [hk]]
  exact Classical.byContradiction fun hx => hne ((h.piv i k hk hi).1 hx)
theorem RE.all (h : RE T Pv cols) (h' : RE T' Pv' cols) (hs : ∀ r, rowsOf T r → Sp (rowsOf T') r) (hl : Pv'.length ≤ Pv.length) : ∀ c ∈ Pv', c ∈ Pv := by
  have h1 : ∀ c ∈ Pv, c ∈ Pv' := by
    intro c hc
    obtain ⟨i, hi, rfl⟩ := List.mem_iff_getElem.1 hc
    refine h'.first (hs _ ⟨i, by rw [h.len]; exact hi, rfl⟩) ?_ (h.lead i hi)
    have := h.pos i hi
    omega
  have h2 := sub_len (inc_nodup h.inc) h1
  exact sub_eq (inc_nodup h.inc) h1 (by omega)

theorem insW_rel (h : RE T Pv cols) {v : List Int} (hv : v.length = cols) : ∀ k, k ≤ Pv.length → (insW T Pv v k).length = cols ∧ (∀ i, i < k → vc (insW T Pv v k) (Pv.getD i 0) = 0) ∧
    ∃ (a g : Int) (u : Vc), a ≠ 0 ∧ g ≠ 0 ∧ Sp (rowsOf T) u ∧ ∀ j, g * vc (insW T Pv v k) j = a * vc v j + u j
  | 0, _ => ⟨hv, fun i hi => by omega, 1, 1, fun _ => 0, by decide, by decide, .zero fun _ => rfl, fun j => by simp [insW]⟩
  | k + 1, hk => by
    obtain ⟨h1, h2, a, g, u, ha, hg, hu, hj⟩ := insW_rel h hv k (by omega)
    have hkT : k < T.length := by rw [h.len]; omega
    have hrow := h.row k hkT
    have hp := h.pivD (show k < Pv.length by omega)
    have e : insW T Pv v (k + 1) = clearZ (insW T Pv v k) (T.getD k []) (Pv.getD k 0) := rfl
    obtain ⟨a', b', g', ha', hg', hl, hz⟩ := clearZ_line (z := insW T Pv v k) (p := T.getD k []) (c := Pv.getD k 0) (by rw [h1, hrow]) (by omega)
    rw [e]
    refine ⟨by rw [clearZ_len (by rw [h1, hrow])]; exact h1, fun i hi => ?_, a' * a, g * g', fun j => a' * u j + -(g * b') * vc (T.getD k []) j, Int.mul_ne_zero ha' ha, Int.mul_ne_zero hg hg', ?_, fun j => ?_⟩
    · by_cases hik : i = k
      · subst hik; exact hz
      · have e1 := hl (Pv.getD i 0)
        rw [h2 i (by omega), h.pivN (show k < Pv.length by omega) (show i < Pv.length by omega) hik, Int.mul_zero, Int.mul_zero] at e1
        exact (Int.mul_eq_zero.1 e1).resolve_left hg'
    · exact .comb (g := 1) (a := a') (b := -(g * b')) hu (.mem ⟨k, hkT, rfl⟩) (by decide) fun j => by omega
    · show _ = a' * a * vc v j + (a' * u j + -(g * b') * vc (T.getD k []) j)
      rw [Int.mul_assoc, hl j, Int.mul_sub, show g * (a' * vc (insW T Pv v k) j) = a' * (g * vc (insW T Pv v k) j) from Int.mul_left_comm .., hj j, Int.mul_add, Int.mul_assoc, Int.neg_mul, Int.mul_assoc]
      omega
theorem insB_vc {v : List Int} : insB T Pv v = true ↔ ∀ j, vc (insW T Pv v Pv.length) j = 0 := by
  unfold insB zeroB
  rw [decide_eq_true_iff]
  constructor
  · intro h j
    by_cases hj : j < (insW T Pv v Pv.length).length
    · rw [vc_lt hj]; exact h _ (List.getElem_mem hj)
    · exact vc_ge (by omega)
  · intro h z hz
    obtain ⟨i, hi, rfl⟩ := List.mem_iff_getElem.1 hz
    rw [← vc_lt hi]; exact h i

theorem insB_sp (h : RE T Pv cols) {v : List Int} (hv : v.length = cols) : insB T Pv v = true ↔ Sp (rowsOf T) (vc v) := by
  obtain ⟨h1, h2, a, g, u, ha, hg, hu, hj⟩ := insW_rel h hv Pv.length (Nat.le_refl _)
  rw [insB_vc]
  constructor
  · intro hz
    exact .comb (a := -1) (b := 0) hu hu ha fun j => by have := hj j; rw [hz j, Int.mul_zero] at this; omega
  · intro hs
    refine h.zero (.comb (a := a) (b := 1) hs hu hg fun j => by rw [hj j]; omega) fun c hc => ?_
    obtain ⟨i, hi, rfl⟩ := List.mem_iff_getElem.1 hc
    have := h2 i hi
    rwa [show Pv.getD i 0 = Pv[i] by simp [hi]] at this
theorem RE.sp_all (h : RE T Pv cols) (h' : RE T' Pv' cols) (hs : ∀ r, rowsOf T r → Sp (rowsOf T') r) (hl : Pv'.length ≤ Pv.length) {v : List Int} (hv : v.length = cols) (hvs : Sp (rowsOf T') (vc v)) : Sp (rowsOf T) (vc v) := by
  have hP := h.all h' hs hl
  obtain ⟨h1, h2, a, g, u, ha, hg, hu, hj⟩ := insW_rel h hv Pv.length (Nat.le_refl _)
  rw [← insB_sp h hv, insB_vc]
  refine h'.zero (.comb (a := a) (b := 1) hvs (Sp.trans hs hu) hg fun j => by rw [hj j]; omega) fun c hc => ?_
  obtain ⟨i, hi, rfl⟩ := List.mem_iff_getElem.1 (hP c hc)
  have := h2 i hi
  rwa [show Pv.getD i 0 = Pv[i] by simp [hi]] at this


def dotI (u w : Vc) (n : Nat) : Int := sumI (fun c => u c * w c) n
theorem dotI_comm (u w : Vc) (n : Nat) : dotI u w n = dotI w u n := sumI_congr fun k _ => Int.mul_comm ..
theorem dotI_comb {u v w z : Vc} {a b g : Int} (h : ∀ j, g * w j = a * u j + b * v j) (n : Nat) : g * dotI w z n = a * dotI u z n + b * dotI v z n := by
  unfold dotI
  rw [← sumI_scale, ← sumI_lin]
  exact sumI_congr fun k _ => by rw [← Int.mul_assoc, h k, Int.add_mul, Int.mul_assoc, Int.mul_assoc]
theorem Sp.dot {I : Vc → Prop} {z : Vc} {n : Nat} (hz : ∀ r, I r → dotI r z n = 0) {u : Vc} (hu : Sp I u) : dotI u z n = 0 := by
  induction hu with
  | zero h => exact sumI_zero fun k _ => by rw [h k, Int.zero_mul]
  | mem h => exact hz _ h
  | comb _ _ hg hw ih1 ih2 =>
    have := dotI_comb (z := z) hw n
    rw [ih1, ih2] at this
    simp only [Int.mul_zero, Int.add_zero] at this
    exact (Int.mul_eq_zero.1 this).resolve_left hg

theorem lcP_dvd : ∀ {n i : Nat}, i ≤ n → lcP T Pv i ∣ lcP T Pv n
  | 0, i, h => by rw [show i = 0 by omega]; exact Int.dvd_refl _
  | n + 1, i, h => by
    by_cases hi : i = n + 1
    · rw [hi]; exact Int.dvd_refl _
    · exact Int.dvd_trans (lcP_dvd (n := n) (i := i) (by omega)) ⟨_, rfl⟩
theorem piv_dvd_succ (i : Nat) : vc (T.getD i []) (Pv.getD i 0) ∣ lcP T Pv (i + 1) := by
  show _ ∣ lcP T Pv i * _
  generalize vc (T.getD i []) (Pv.getD i 0) = p
  generalize lcP T Pv i = L
  have h1 := Int.ediv_mul_cancel (Int.gcd_dvd_left L p)
  have h2 := Int.ediv_mul_cancel (Int.gcd_dvd_right L p)
  refine ⟨L / (Int.gcd L p : Nat), ?_⟩
  generalize ((Int.gcd L p : Nat) : Int) = g at *
  conv => lhs; rw [← h1]
  conv => rhs; rw [← h2]
  rw [h2]
  rw [Int.mul_assoc, Int.mul_comm g, h2, Int.mul_comm]
theorem piv_dvd {i n : Nat} (h : i < n) : vc (T.getD i []) (Pv.getD i 0) ∣ lcP T Pv n := Int.dvd_trans (piv_dvd_succ i) (lcP_dvd h)
theorem lcP_ne (h : RE T Pv cols) : ∀ n, n ≤ Pv.length → lcP T Pv n ≠ 0
  | 0, _ => by show (1 : Int) ≠ 0; decide
  | n + 1, hn => by
    have h1 := lcP_ne h n (by omega)
    have hp := h.pivD (show n < Pv.length by omega)
    show lcP T Pv n * _ ≠ 0
    refine Int.mul_ne_zero h1 fun h0 => ?_
    have h2 := Int.ediv_mul_cancel (Int.gcd_dvd_right (lcP T Pv n) (vc (T.getD n []) (Pv.getD n 0)))
    rw [h0, Int.zero_mul] at h2
    omega
theorem vc_set {z : List Int} {p : Nat} {x : Int} (h : p < z.length) (c : Nat) : vc (z.set p x) c = if c = p then x else vc z c := by
  unfold vc
  simp only [List.getD_eq_getElem?_getD, List.getElem?_set]
  by_cases hc : c = p
  · subst hc; simp [h]
  · rw [if_neg (fun e => hc e.symm), if_neg hc]
theorem agZ_vc (h : RE T Pv cols) {f : Nat} (hf : f < cols) (hfp : f ∉ Pv) : ∀ n, n ≤ Pv.length → vc (agZ T Pv f cols n) f = lcP T Pv Pv.length ∧ (∀ i, i < n → vc (agZ T Pv f cols n) (Pv.getD i 0) = -(lcP T Pv Pv.length / vc (T.getD i []) (Pv.getD i 0) * vc (T.getD i []) f)) ∧
    ∀ c, c ≠ f → c ∉ Pv → vc (agZ T Pv f cols n) c = 0
  | 0, _ => by
    have h0 : ∀ c, vc (List.replicate cols (0 : Int)) c = 0 := fun c => by
      by_cases hc : c < cols
      · rw [vc_lt (by simpa using hc)]; simp
      · exact vc_ge (by simp; omega)
    refine ⟨?_, fun i hi => by omega, fun c hc _ => ?_⟩
    · rw [agZ, vc_set (by simpa using hf), if_pos rfl]
    · rw [agZ, vc_set (by simpa using hf), if_neg hc, h0]
  | n + 1, hn => by
    obtain ⟨h1, h2, h3⟩ := agZ_vc h hf hfp n (by omega)
    have hn' : n < Pv.length := hn
    have hpm : Pv.getD n 0 ∈ Pv := getD_mem hn'
    have hpc : Pv.getD n 0 < (agZ T Pv f cols n).length := by rw [agZ_len]; exact h.col _ hpm
    refine ⟨?_, fun i hi => ?_, fun c hc hcp => ?_⟩
    · rw [agZ, vc_set hpc, if_neg (show ¬ f = Pv.getD n 0 from fun e => hfp (by rw [e]; exact hpm)), h1]
    · rw [agZ, vc_set hpc]
      by_cases hin : i = n
      · subst hin; rw [if_pos rfl]
      · rw [if_neg, h2 i (by omega)]
        rw [show Pv.getD i 0 = Pv[i]'(by omega) by simp [show i < Pv.length by omega], show Pv.getD n 0 = Pv[n] by simp [hn']]
        intro e
        have := h.inc i n (by omega) hn' (by omega)
        omega
    · rw [agZ, vc_set hpc, if_neg (show ¬ c = Pv.getD n 0 from fun e => hcp (by rw [e]; exact hpm)), h3 c hc hcp]
theorem sumI_two {f : Nat → Int} {n a b : Nat} (ha : a < n) (hb : b < n) (hab : a ≠ b) (h : ∀ k, k < n → k ≠ a → k ≠ b → f k = 0) : sumI f n = f a + f b := by
  have e : sumI f n = sumI (fun k => (if k = a then f k else 0) + (if k = a then 0 else f k)) n := sumI_congr fun k _ => by split <;> omega
  rw [e, sumI_add, sumI_one ha (fun k _ hk => if_neg hk), sumI_one hb (fun k hk hkb => by
    by_cases hka : k = a
    · rw [if_pos hka]
    · rw [if_neg hka]; exact h k hk hka hkb), if_pos rfl, if_neg (Ne.symm hab)]

theorem kerR_dot (h : RE T Pv cols) {n : Nat} (hn : n ≤ cols) : ∀ z ∈ kerR T Pv cols n, ∀ r, rowsOf T r → dotI r (vc z) cols = 0 := by
  intro z hz r hr
  obtain ⟨f, hf, rfl⟩ := List.mem_map.1 hz
  obtain ⟨hfn, hfp⟩ := mem_frees.1 hf
  obtain ⟨i, hi, rfl⟩ := hr
  rw [h.len] at hi
  obtain ⟨h1, h2, h3⟩ := agZ_vc h (f := f) (by omega) hfp Pv.length (Nat.le_refl _)
  have hpm : Pv.getD i 0 ∈ Pv := getD_mem hi
  unfold dotI
  rw [sumI_two (a := f) (b := Pv.getD i 0) (by omega) (h.col _ hpm) (fun e => hfp (e ▸ hpm)) fun k hk hkf hkp => ?_]
  · rw [h1, h2 i hi, Int.mul_neg, ← Int.mul_assoc, Int.mul_ediv_cancel' (piv_dvd hi), Int.mul_comm]
    omega
  · by_cases hkP : k ∈ Pv
    · obtain ⟨x, hx, rfl⟩ := List.mem_iff_getElem.1 hkP
      have hxi : x ≠ i := fun e => hkp (by subst e; simp [hx])
      have := h.pivN hi hx hxi
      rw [show Pv.getD x 0 = Pv[x] by simp [hx]] at this
      rw [this, Int.zero_mul]
    · rw [h3 k hkf hkP, Int.mul_zero]

theorem ker_sp (h : RE T Pv cols) {v : List Int} (hv : v.length = cols) (hz : ∀ z ∈ kerR T Pv cols cols, dotI (vc v) (vc z) cols = 0) : Sp (rowsOf T) (vc v) := by
  obtain ⟨h1, h2, a, g, u, ha, hg, hu, hj⟩ := insW_rel h hv Pv.length (Nat.le_refl _)
  rw [← insB_sp h hv, insB_vc]
  intro j
  by_cases hjc : j < cols
  · by_cases hjp : j ∈ Pv
    · obtain ⟨i, hi, rfl⟩ := List.mem_iff_getElem.1 hjp
      have := h2 i hi
      rwa [show Pv.getD i 0 = Pv[i] by simp [hi]] at this
    · have hm : agZ T Pv j cols Pv.length ∈ kerR T Pv cols cols := List.mem_map.2 ⟨j, mem_frees.2 ⟨hjc, hjp⟩, rfl⟩
      have hd : g * dotI (vc (insW T Pv v Pv.length)) (vc (agZ T Pv j cols Pv.length)) cols = 0 := by
        rw [dotI_comb (a := a) (b := 1) (u := vc v) (v := u) (fun j => by rw [hj j]; omega), hz _ hm, Sp.dot (kerR_dot h (Nat.le_refl _) _ hm) hu]; simp
      have hd := (Int.mul_eq_zero.1 hd).resolve_left hg
      obtain ⟨g1, g2, g3⟩ := agZ_vc h hjc hjp Pv.length (Nat.le_refl _)
      unfold dotI at hd
      rw [sumI_one hjc fun k hk hkj => ?_] at hd
      · rw [g1] at hd
        exact (Int.mul_eq_zero.1 hd).resolve_right (lcP_ne h _ (Nat.le_refl _))
      · by_cases hkp : k ∈ Pv
        · obtain ⟨i, hi, rfl⟩ := List.mem_iff_getElem.1 hkp
          have := h2 i hi
          rw [show Pv.getD i 0 = Pv[i] by simp [hi]] at this
          rw [this, Int.zero_mul]
        · rw [g3 k hkj hkp, Int.mul_zero]
  · exact vc_ge (by omega)
end
end Go.Proofs.Ytfjdfnlkobeehaa

namespace Go.Proofs.Ytfjdfnlkobeehaa

theorem lcs_zero {j : Nat} : ∀ {m : List Int} {I : List Vc}, (∀ r ∈ I, r j = 0) → lcs m I j = 0
  | [], I, _ => lcs_nil _ _
  | a :: m, [], _ => lcs_nil_r _ _
  | a :: m, r :: I, h => by rw [lcs_cons, h r (List.mem_cons_self ..), lcs_zero fun x hx => h x (List.mem_cons_of_mem _ hx)]; simp

structure EP (rows : List (List Int)) (n cols : Nat) (s : List (List Int) × List Nat) : Prop where
  len : s.1.length = n
  row : ∀ k, k < n → (s.1.getD k []).length = cols
  st : ∃ (O : Nat → Vc) (σ : Nat → Nat), EI (fun k => vc (s.1.getD k [])) O n s.2 ∧ (∀ k, k < n → σ k < n ∧ O k = vc (rows.getD (σ k) [])) ∧ ∀ a b, a < n → b < n → σ a = σ b → a = b
theorem EP.start {rows : List (List Int)} {cols : Nat} (hc : ∀ z ∈ rows, z.length = cols) : EP rows rows.length cols (rows.map primZ, []) := by
  have h0 := EZ.start (β := 2) (B := sz (fun k => ((rows.map fun z => (z.map Int.natAbs).sum).sum)) rows.length) (rows := rows) (κ := fun k => ((rows.map fun z => (z.map Int.natAbs).sum).sum)) hc (fun k hk x hx => by
    have h1 : ∀ (l : List Nat) (a : Nat), a ∈ l → a ≤ l.sum := fun l a ha => by
      induction l with
      | nil => simp at ha
      | cons b l ih =>
        rw [List.sum_cons]
        rcases List.mem_cons.1 ha with rfl | ha
        · omega
        · have := ih ha; omega
    have h2 := h1 _ _ (List.mem_map_of_mem (f := Int.natAbs) hx)
    have h3 := h1 _ _ (List.mem_map_of_mem (f := fun z => (z.map Int.natAbs).sum) (getD_mem (d := []) hk))
    have h4 := Nat.lt_two_pow_self (n := (rows.map fun z => (z.map Int.natAbs).sum).sum)
    omega) (Nat.le_refl _)
  have hg : ∀ k, k < rows.length → (rows.map primZ).getD k [] = primZ (rows.getD k []) := fun k hk => by simp [List.getD_eq_getElem?_getD, hk]
  refine ⟨h0.len, fun k hk => (h0.row k hk).1, fun k => vc (rows.getD k []), fun k => k, EI.start fun k hk => ?_, fun k hk => ⟨hk, rfl⟩, fun a b _ _ h => h⟩
  simp only [hg k hk]
  by_cases h0 : gcdL (rows.getD k []) = 0
  · refine ⟨1, by decide, fun j => ?_⟩
    have h2 := gcdL_zero.1 h0
    have h1 := primZ_vc (rows.getD k []) j
    rw [h0] at h1
    rw [← h1]
    by_cases hj : j < (primZ (rows.getD k [])).length
    · have hj' := hj
      rw [primZ_len] at hj'
      rw [vc_lt hj]
      simp only [primZ, List.getElem_map]
      rw [h2 _ (List.getElem_mem hj')]; simp
    · rw [vc_ge (by omega)]; simp
  · exact ⟨(gcdL (rows.getD k []) : Nat), by omega, fun j => primZ_vc _ j⟩
theorem EP.step {rows : List (List Int)} {n cols c : Nat} {s : List (List Int) × List Nat} (h : EP rows n cols s) : EP rows n cols (stepE c s) := by
  obtain ⟨O, σ, hE, hO, hinj⟩ := h.st
  rcases step_cases (c := c) h.len with ⟨e, hz⟩ | ⟨i, hi, hin, hne, eP, hl, hg⟩
  · rw [e]; exact h
  · have htn : s.2.length < n := by omega
    have hS := hE.swap hi hin
    refine ⟨hl, fun k hk => ?_, fun k => O (swp i s.2.length k), fun k => σ (swp i s.2.length k), ?_, fun k hk => hO _ (swp_bd hin htn hk), fun a b ha hb hab => ?_⟩
    · rw [hg k hk]
      split
      · exact h.row i hin
      · rw [clearZ_len (by rw [h.row _ (swp_bd hin htn hk), h.row i hin])]; exact h.row _ (swp_bd hin htn hk)
    · rw [eP]
      refine EI.clear hS htn (c := c) ?_ ?_ ?_
      · simp only [swp_t]; exact hne
      · simp only [hg _ htn, if_pos, swp_t]
      · intro k hk hkt
        simp only [hg k hk, if_neg hkt, swp_t]
        exact clearZ_line (by rw [h.row _ (swp_bd hin htn hk), h.row i hin]) hne
    · have := hinj _ _ (swp_bd hin htn ha) (swp_bd hin htn hb) hab
      have := congrArg (swp i s.2.length) this
      rwa [swp_swp, swp_swp] at this
theorem EP.all {rows : List (List Int)} {cols : Nat} (hc : ∀ z ∈ rows, z.length = cols) : ∀ c, EP rows rows.length cols (echW rows c)
  | 0 => .start hc
  | c + 1 => (EP.all hc c).step

theorem ech_full {rows : List (List Int)} {cols : Nat} (hc : ∀ z ∈ rows, z.length = cols) (hi : ∀ i, i < rows.length → ∃ f, vc (rows.getD i []) f ≠ 0 ∧ ∀ k, k < rows.length → k ≠ i → vc (rows.getD k []) f = 0) : (echW rows cols).2.length = rows.length := by
  have hW := EW.all hc cols
  have hP := EP.all hc cols
  obtain ⟨O, σ, hE, hO, hinj⟩ := hP.st
  have htle := hE.tle
  apply Classical.byContradiction
  intro hne
  have htn : (echW rows cols).2.length < rows.length := by omega
  obtain ⟨⟨q, μ, m, hq, hμ, hm, h1⟩, _⟩ := hE.non _ (Nat.le_refl _) htn
  obtain ⟨hσ, hOt⟩ := hO _ htn
  obtain ⟨f, hf, hfz⟩ := hi _ hσ
  have h2 := h1 f
  have hz : vc ((echW rows cols).1.getD (echW rows cols).2.length []) f = 0 := by
    by_cases hfc : f < cols
    · exact hW.low _ (Nat.le_refl _) htn f hfc
    · exact vc_ge (by rw [hW.row _ htn]; omega)
  rw [hz, hOt, lcs_zero (fun r hr => by
    obtain ⟨k, hk, rfl⟩ := List.mem_map.1 hr
    have hk := List.mem_range.1 hk
    obtain ⟨g1, g2⟩ := hO k (by omega)
    rw [g2]
    exact hfz _ g1 fun e => by have := hinj _ _ (by omega) htn e; omega)] at h2
  simp only [Int.mul_zero, Int.add_zero] at h2
  exact Int.mul_ne_zero hμ hf h2.symm
section
variable {T : List (List Int)} {Pv : List Nat} {cols : Nat}
theorem kerR_full (h : RE T Pv cols) : (echW (kerR T Pv cols cols) cols).2.length + Pv.length = cols := by
  rw [ech_full (fun z hz => kerR_row z hz) fun i hi => ?_, kerR_len, frees_count h.col h.inc]
  rw [kerR_len] at hi
  have hget : ∀ k (hk : k < (frees Pv cols).length), (kerR T Pv cols cols).getD k [] = agZ T Pv ((frees Pv cols)[k]) cols Pv.length := fun k hk => by simp [kerR, hk]
  have hmem : ∀ k (hk : k < (frees Pv cols).length), (frees Pv cols)[k] < cols ∧ (frees Pv cols)[k] ∉ Pv := fun k hk => mem_frees.1 (List.getElem_mem hk)
  refine ⟨(frees Pv cols)[i], ?_, fun k hk hki => ?_⟩
  · rw [hget i hi, (agZ_vc h (hmem i hi).1 (hmem i hi).2 _ (Nat.le_refl _)).1]
    exact lcP_ne h _ (Nat.le_refl _)
  · rw [kerR_len] at hk
    rw [hget k hk]
    refine (agZ_vc h (hmem k hk).1 (hmem k hk).2 _ (Nat.le_refl _)).2.2 _ (fun e => ?_) (hmem i hi).2
    rcases Nat.lt_or_gt_of_ne hki with h1 | h1
    · have := inc_range (n := cols) (fun f => decide (f ∉ Pv)) k i hk hi h1
      unfold frees at e; omega
    · have := inc_range (n := cols) (fun f => decide (f ∉ Pv)) i k hi hk h1
      unfold frees at e; omega
end


theorem EI.line2 {W O : Nat → Vc} {n k : Nat} {C : List Nat} (h : EI W O n C) (hkt : k < C.length) :
    ∃ (a b : Int) (cs : List Nat), a ≠ 0 ∧ b ≠ 0 ∧ (∀ j, a * W k j = b * dt (j :: cs) ((List.range C.length).map O)) ∧ cs.length + 1 = C.length ∧ (dt (C[k] :: cs) ((List.range C.length).map O)).natAbs = (dt C ((List.range C.length).map O)).natAbs := by
  obtain ⟨⟨q, m, hq, hm, h1⟩, hz, hnz⟩ := h.piv k hkt
  rw [List.length_map, List.length_range] at hm
  have hex : ∃ μ ∈ m, μ ≠ 0 := by
    apply Classical.byContradiction
    intro hno
    have hall : ∀ (m : List Int) (I : List Vc) (j : Nat), (∀ μ ∈ m, μ = 0) → lcs m I j = 0 := by
      intro m
      induction m with
      | nil => intro I j _; exact lcs_nil _ _
      | cons a m ih =>
        intro I j hm
        cases I with
        | nil => exact lcs_nil_r _ _
        | cons r I => rw [lcs_cons, ih I j (fun μ hμ => hm μ (List.mem_cons_of_mem _ hμ)), hm a (List.mem_cons_self ..)]; omega
    have e := h1 C[k]
    rw [hall m _ _ (fun μ hμ => Classical.byContradiction fun hne => hno ⟨μ, hμ, hne⟩)] at e
    exact Int.mul_ne_zero hq hnz e
  obtain ⟨μ, hμm, hμ⟩ := hex
  obtain ⟨m1, m2, rfl⟩ := List.append_of_mem hμm
  have hl1 : m1.length < C.length := by simp at hm; omega
  have hsp : (List.range C.length).map O = ((List.range C.length).take m1.length).map O ++ O m1.length :: ((List.range C.length).drop (m1.length + 1)).map O := by
    rw [← List.map_cons, ← List.map_append]
    congr 1
    conv => lhs; rw [← List.take_append_drop m1.length (List.range C.length)]
    congr 1
    rw [List.drop_eq_getElem_cons (by simpa using hl1)]
    simp
  have hput : ∀ cs, q * dt cs (((List.range C.length).take m1.length).map O ++ W k :: ((List.range C.length).drop (m1.length + 1)).map O) = μ * dt cs ((List.range C.length).map O) := fun cs => by
    rw [hsp]
    refine dt_put (m := m1) (n := m2) fun x _ => ?_
    rw [h1 x, hsp, lcs_app _ _ (by simp; omega), lcs_cons]; omega
  have hC : C = C.take k ++ C[k] :: C.drop (k + 1) := by
    conv => lhs; rw [← List.take_append_drop k C]
    congr 1
    exact List.drop_eq_getElem_cons hkt
  have z1 : ∀ j ∈ C.take k, W k j = 0 := fun j hj => by
    obtain ⟨i, hi, rfl⟩ := List.mem_iff_getElem.1 hj
    rw [List.length_take] at hi
    rw [List.getElem_take]
    exact hz i (by omega) (by omega)
  have z2 : ∀ j ∈ C.drop (k + 1), W k j = 0 := fun j hj => by
    obtain ⟨i, hi, rfl⟩ := List.mem_iff_getElem.1 hj
    rw [List.length_drop] at hi
    rw [List.getElem_drop]
    exact hz _ (by omega) (by omega)
  have hD := hput C
  have hone := dt_one (c := C[k]) (cr := C.drop (k + 1)) (u := W k) z2 (((List.range C.length).drop (m1.length + 1)).map O) (C.take k) (((List.range C.length).take m1.length).map O) z1
  rw [← hC] at hone
  rw [hone] at hD
  have hΔ : dt (C.take k ++ C.drop (k + 1)) (((List.range C.length).take m1.length).map O ++ ((List.range C.length).drop (m1.length + 1)).map O) ≠ 0 := fun h0 => by
    rw [h0, Int.mul_zero, Int.mul_zero, Int.mul_zero] at hD
    exact Int.mul_ne_zero hμ h.det hD.symm
  have hline : ∀ j, q * (sgn ((((List.range C.length).take m1.length).map O).length + ([] : List Nat).length) * dt (C.take k ++ C.drop (k + 1)) (((List.range C.length).take m1.length).map O ++ ((List.range C.length).drop (m1.length + 1)).map O)) * W k j = μ * dt (j :: (C.take k ++ C.drop (k + 1))) ((List.range C.length).map O) := fun j => by
    rw [← hput (j :: (C.take k ++ C.drop (k + 1)))]
    have hone2 := dt_one (c := j) (cr := C.take k ++ C.drop (k + 1)) (u := W k) (fun x hx => by
      rcases List.mem_append.1 hx with hx | hx
      · exact z1 x hx
      · exact z2 x hx) (((List.range C.length).drop (m1.length + 1)).map O) [] (((List.range C.length).take m1.length).map O) (fun x hx => by simp at hx)
    rw [List.nil_append, List.nil_append] at hone2
    rw [hone2]
    simp only [Int.mul_assoc]
    congr 2
    exact Int.mul_comm _ _
  refine ⟨_, μ, C.take k ++ C.drop (k + 1), Int.mul_ne_zero hq (Int.mul_ne_zero (sgn_ne _) hΔ), hμ, hline, by rw [List.length_append, List.length_take, List.length_drop]; omega, ?_⟩
  have e1 := congrArg Int.natAbs (hline C[k])
  have e2 := congrArg Int.natAbs hD
  simp only [Int.natAbs_mul, sgn_abs, Nat.one_mul] at e1 e2
  rw [Nat.mul_assoc, Nat.mul_comm (dt (C.take k ++ C.drop (k + 1)) _).natAbs, e2] at e1
  exact (Nat.eq_of_mul_eq_mul_left (by omega) e1).symm

theorem prm_mul {z : List Int} {M : Vc} {a b : Int} (hz : Prm z) (ha : a ≠ 0) (hb : b ≠ 0) (h : ∀ j, a * vc z j = b * M j) : ∃ t : Nat, t ≠ 0 ∧ ∀ j, (M j).natAbs = t * (vc z j).natAbs := by
  rcases hz with hz | hz
  · have hg : 0 < Nat.gcd b.natAbs a.natAbs := Nat.gcd_pos_of_pos_left _ (by omega)
    have hco := Nat.coprime_div_gcd_div_gcd hg
    have hdb := Nat.div_mul_cancel (Nat.gcd_dvd_left b.natAbs a.natAbs)
    have hda := Nat.div_mul_cancel (Nat.gcd_dvd_right b.natAbs a.natAbs)
    generalize Nat.gcd b.natAbs a.natAbs = g at *
    generalize b.natAbs / g = b' at *
    generalize a.natAbs / g = a' at *
    have key : ∀ i, a' * (vc z i).natAbs = b' * (M i).natAbs := fun i => by
      have := congrArg Int.natAbs (h i)
      rw [Int.natAbs_mul, Int.natAbs_mul, ← hda, ← hdb, Nat.mul_right_comm, Nat.mul_right_comm b'] at this
      exact Nat.eq_of_mul_eq_mul_right hg this
    have hb1 : b' ∣ gcdL z := dvd_gcdL.2 fun x hx => by
      obtain ⟨i, hi, rfl⟩ := List.mem_iff_getElem.1 hx
      refine hco.dvd_of_dvd_mul_left (m := a') ?_
      rw [← vc_lt hi, key i]
      exact Nat.dvd_mul_right _ _
    rw [hz] at hb1
    have hb2 : b' = 1 := Nat.dvd_one.1 hb1
    exact ⟨a', fun h0 => by rw [h0, Nat.zero_mul] at hda; omega, fun j => by rw [key j, hb2, Nat.one_mul]⟩
  · refine ⟨1, by decide, fun j => ?_⟩
    have h0 : vc z j = 0 := by
      by_cases hj : j < z.length
      · rw [vc_lt hj]; exact hz _ (List.getElem_mem hj)
      · exact vc_ge (by omega)
    have := h j
    rw [h0, Int.mul_zero] at this
    rw [h0, (Int.mul_eq_zero.1 this.symm).resolve_left hb]
    rfl

theorem EZ.minors {β B n cols : Nat} {s : List (List Int) × List Nat} (h : EZ β B n cols s) (hn : n ≤ β) (hβ : 1 ≤ β) :
    ∃ Δ : Nat, Δ ≠ 0 ∧ Δ ≤ β ^ B ∧ ∀ k (hk : k < s.2.length), ∃ t : Nat, t ≠ 0 ∧ (∀ j, t * (vc (s.1.getD k []) j).natAbs ≤ β ^ B) ∧ t * (vc (s.1.getD k []) s.2[k]).natAbs = Δ := by
  obtain ⟨O, κ, hE, hO, hB⟩ := h.st
  have htn := hE.tle
  have hbd : ∀ cs : List Nat, (dt cs ((List.range s.2.length).map O)).natAbs ≤ β ^ B := fun cs => by
    have h2 := dt_bound cs ((List.range s.2.length).map O) ((List.range s.2.length).map κ) (Bd_range _ fun r hr => hO r (by have := List.mem_range.1 hr; omega)) (by simp; omega)
    exact Nat.le_trans h2 (Nat.pow_le_pow_right hβ (Nat.le_trans (sz_mono (κ := κ) htn) hB))
  refine ⟨(dt s.2 ((List.range s.2.length).map O)).natAbs, by have := hE.det; omega, hbd _, fun k hk => ?_⟩
  obtain ⟨a, b, cs, ha, hb, hl, _, hd⟩ := hE.line2 hk
  obtain ⟨t, ht, hM⟩ := prm_mul (h.row k (by omega)).2 ha hb (M := fun j => dt (j :: cs) ((List.range s.2.length).map O)) hl
  exact ⟨t, ht, fun j => by rw [← hM j]; exact hbd _, by rw [← hM, hd]⟩
end Go.Proofs.Ytfjdfnlkobeehaa

namespace Go.Proofs.Ytfjdfnlkobeehaa

theorem lenW_set {z : List Int} {p κ : Nat} {x : Int} (hx : Z κ x) : lenW (CZ (z.set p x)) ≤ lenW (CZ z) + κ := by
  induction z generalizing p with
  | nil => simp [CZ, lenW]
  | cons y z ih =>
    cases p with
    | zero =>
      have := hx.len
      show lenW (toC x :: CZ z) ≤ lenW (toC y :: CZ z) + κ
      simp only [lenW, toC]
      omega
    | succ p =>
      have := ih (p := p)
      show lenW (toC y :: CZ (z.set p x)) ≤ lenW (toC y :: CZ z) + κ
      simp only [lenW]
      omega
theorem lenW_zero (n : Nat) : lenW (CZ (List.replicate n 0)) = n := by
  induction n with
  | zero => rfl
  | succ n ih =>
    rw [List.replicate_succ]
    show lenW (toC 0 :: CZ (List.replicate n 0)) = n + 1
    simp only [lenW, toC, ih]
    rw [show (0 : Int).natAbs = 0 from rfl, D_zero]
    simp; omega
section
variable {T : List (List Int)} {Pv : List Nat} {cols κ : Nat}
theorem agZ_size {f : Nat} (hL : Z κ (lcP T Pv Pv.length)) : ∀ n, (∀ i, i < n → Z κ (lcP T Pv Pv.length / vc (T.getD i []) (Pv.getD i 0) * vc (T.getD i []) f)) → lenW (CZ (agZ T Pv f cols n)) ≤ cols + (n + 1) * κ
  | 0, _ => by
    have := lenW_set (z := List.replicate cols 0) (p := f) hL
    rw [lenW_zero] at this
    show lenW (CZ ((List.replicate cols 0).set f (lcP T Pv Pv.length))) ≤ _
    omega
  | n + 1, h => by
    have h1 := agZ_size hL n fun i hi => h i (by omega)
    have h2 := lenW_set (z := agZ T Pv f cols n) (p := Pv.getD n 0) (h n (by omega)).neg
    show lenW (CZ ((agZ T Pv f cols n).set (Pv.getD n 0) (-(lcP T Pv Pv.length / vc (T.getD n []) (Pv.getD n 0) * vc (T.getD n []) f)))) ≤ _
    rw [Nat.succ_mul (n + 1)]
    omega
theorem ab272 : ∀ a, a < 34 → ∀ b, b < 34 → a + b ≤ 33 → a * b ≤ 272 := by decide

theorem kerR_size (hPc : (frees Pv cols).length + Pv.length = cols) (hcols : cols ≤ 32) (hL : Z κ (lcP T Pv Pv.length)) (hE : ∀ f, ∀ i, i < Pv.length → Z κ (lcP T Pv Pv.length / vc (T.getD i []) (Pv.getD i 0) * vc (T.getD i []) f)) :
    lenM ((kerR T Pv cols cols).map CZ) ≤ 1056 + 272 * κ := by
  have h1 : ∀ l : List Nat, lenM ((l.map fun f => agZ T Pv f cols Pv.length).map CZ) ≤ l.length * (1 + cols + (Pv.length + 1) * κ) := by
    intro l
    induction l with
    | nil => simp [lenM]
    | cons f l ih =>
      have h2 := agZ_size (cols := cols) (f := f) hL Pv.length fun i hi => hE f i hi
      have e : lenM (((f :: l).map fun f => agZ T Pv f cols Pv.length).map CZ) = (1 + lenW (CZ (agZ T Pv f cols Pv.length))) + lenM ((l.map fun f => agZ T Pv f cols Pv.length).map CZ) := by simp [lenM]
      rw [e, List.length_cons, Nat.succ_mul]
      omega
  have h2 := h1 (frees Pv cols)
  change lenM ((kerR T Pv cols cols).map CZ) ≤ _ at h2
  have h3 : (frees Pv cols).length * (1 + cols) ≤ 32 * 33 := Nat.mul_le_mul (by omega) (by omega)
  have h4 := ab272 (frees Pv cols).length (by omega) (Pv.length + 1) (by omega) (by omega)
  have h5 := Nat.mul_le_mul_right κ h4
  rw [Nat.mul_add, ← Nat.mul_assoc] at h2
  omega
theorem kerR_mx (hPc : (frees Pv cols).length + Pv.length = cols) (hcols : cols ≤ 32) (hL : Z κ (lcP T Pv Pv.length)) (hE : ∀ f, ∀ i, i < Pv.length → Z κ (lcP T Pv Pv.length / vc (T.getD i []) (Pv.getD i 0) * vc (T.getD i []) f)) (hκ : κ ≤ 1800) :
    Mx ((kerR T Pv cols cols).map CZ) 491000 := by
  refine ⟨fun l hl p hp => ?_, ?_, by omega⟩
  · obtain ⟨z, _, rfl⟩ := List.mem_map.1 hl
    exact CZ_lm z p hp
  · have := kerR_size hPc hcols hL hE
    omega
theorem lc_dvd {L p : Int} {D : Nat} (hL : L.natAbs ∣ D) (hp : p.natAbs ∣ D) (hp0 : p ≠ 0) : (L * (p / (Int.gcd L p : Nat))).natAbs ∣ D := by
  have hg : 0 < Nat.gcd L.natAbs p.natAbs := Nat.gcd_pos_of_pos_right _ (by omega)
  have e : (p / (Int.gcd L p : Nat)).natAbs = p.natAbs / Nat.gcd L.natAbs p.natAbs := by
    have h1 := Int.ediv_mul_cancel (Int.gcd_dvd_right L p)
    have h2 := congrArg Int.natAbs h1
    rw [Int.natAbs_mul] at h2
    simp only [Int.natAbs_natCast] at h2
    have h3 : Int.gcd L p = Nat.gcd L.natAbs p.natAbs := rfl
    rw [h3] at h2 ⊢
    exact (Nat.div_eq_of_eq_mul_left hg h2.symm).symm
  rw [Int.natAbs_mul, e]
  generalize L.natAbs = a at *
  generalize p.natAbs = b at *
  have hco := Nat.coprime_div_gcd_div_gcd hg
  have hda := Nat.div_mul_cancel (Nat.gcd_dvd_left a b)
  have hdb := Nat.div_mul_cancel (Nat.gcd_dvd_right a b)
  generalize Nat.gcd a b = g at *
  generalize b / g = b' at *
  generalize a / g = a' at *
  obtain ⟨x, rfl⟩ := hL
  refine Nat.mul_dvd_mul_left _ ?_
  rw [← hda, ← hdb, Nat.mul_right_comm] at hp
  have h1 := Nat.dvd_of_mul_dvd_mul_right hg hp
  exact hco.symm.dvd_of_dvd_mul_left h1
theorem lcP_dvdD {D : Nat} : ∀ {n : Nat}, (∀ i, i < n → vc (T.getD i []) (Pv.getD i 0) ≠ 0 ∧ (vc (T.getD i []) (Pv.getD i 0)).natAbs ∣ D) → (lcP T Pv n).natAbs ∣ D
  | 0, _ => Nat.one_dvd _
  | n + 1, h => lc_dvd (lcP_dvdD fun i hi => h i (by omega)) (h n (by omega)).2 (h n (by omega)).1
end
theorem upZ_abs (z : List Int) (j : Nat) : (vc (upZ z) j).natAbs = (vc z j).natAbs := by
  rcases upZ_cases z with e | e
  · rw [e]
  · rw [e, neg_vc, Int.natAbs_neg]

theorem ker_short {m : List (List (Bool × List Nat))} {cols B : Nat} (h : Mx m B) (hc : ∀ l ∈ m, l.length = cols) :
    (∀ n, n ≤ (echW (m.map vals) cols).2.length → Z (B + 1) (lcP (echT (m.map vals) cols) (echW (m.map vals) cols).2 n)) ∧
    ∀ f i, i < (echW (m.map vals) cols).2.length → Z (B + 1) (lcP (echT (m.map vals) cols) (echW (m.map vals) cols).2 (echW (m.map vals) cols).2.length / vc ((echT (m.map vals) cols).getD i []) ((echW (m.map vals) cols).2.getD i 0) * vc ((echT (m.map vals) cols).getD i []) f) := by
  have hE := (h.ez hc).1 cols
  obtain ⟨hRE, _, _⟩ := echT_RE h hc
  obtain ⟨Δ, hΔ, hΔb, hk⟩ := hE.minors (by have := h.n; omega) (by omega)
  have hW := hE.len
  have htle : (echW (m.map vals) cols).2.length ≤ (echW (m.map vals) cols).1.length := by
    obtain ⟨O, κ, hI, _⟩ := hE.st
    rw [hW]; exact hI.tle
  have hT : ∀ i, i < (echW (m.map vals) cols).2.length → ∃ t : Nat, t ≠ 0 ∧ (∀ j, t * (vc ((echT (m.map vals) cols).getD i []) j).natAbs ≤ 4294967296 ^ B) ∧ t * (vc ((echT (m.map vals) cols).getD i []) ((echW (m.map vals) cols).2.getD i 0)).natAbs = Δ := fun i hi => by
    obtain ⟨t, ht, h1, h2⟩ := hk i hi
    rw [echT_get hi htle, show (echW (m.map vals) cols).2.getD i 0 = (echW (m.map vals) cols).2[i] by simp [hi]]
    exact ⟨t, ht, fun j => by rw [upZ_abs]; exact h1 j, by rw [upZ_abs]; exact h2⟩
  have hp : ∀ i, i < (echW (m.map vals) cols).2.length → 0 < vc ((echT (m.map vals) cols).getD i []) ((echW (m.map vals) cols).2.getD i 0) := fun i hi => hRE.pivD hi
  have hdv : ∀ n, n ≤ (echW (m.map vals) cols).2.length → (lcP (echT (m.map vals) cols) (echW (m.map vals) cols).2 n).natAbs ∣ Δ := fun n hn => lcP_dvdD fun i hi => ⟨by have := hp i (by omega); omega, by
    obtain ⟨t, _, _, h2⟩ := hT i (by omega)
    exact ⟨t, by rw [Nat.mul_comm]; exact h2.symm⟩⟩
  have hlt : 4294967296 ^ B < 4294967296 ^ (B + 1) := Nat.pow_lt_pow_right (by decide) (by omega)
  refine ⟨fun n hn => ?_, fun f i hi => ?_⟩
  · have := Nat.le_of_dvd (by omega) (hdv n hn)
    unfold Z
    omega
  · obtain ⟨s, hs⟩ := hdv _ (Nat.le_refl _)
    obtain ⟨t, ht, h1, h2⟩ := hT i hi
    have hpd := piv_dvd (T := echT (m.map vals) cols) (Pv := (echW (m.map vals) cols).2) hi
    have hpi := hp i hi
    have hq := congrArg Int.natAbs (Int.ediv_mul_cancel hpd)
    rw [Int.natAbs_mul] at hq
    have h1f := h1 f
    generalize lcP (echT (m.map vals) cols) (echW (m.map vals) cols).2 (echW (m.map vals) cols).2.length = L at *
    generalize vc ((echT (m.map vals) cols).getD i []) ((echW (m.map vals) cols).2.getD i 0) = p at *
    generalize vc ((echT (m.map vals) cols).getD i []) f = x at *
    generalize L / p = q at *
    have e1 : q.natAbs * s = t := by
      have : p.natAbs * (q.natAbs * s) = p.natAbs * t := by
        rw [Nat.mul_comm _ t, h2, hs, ← hq]; simp only [Nat.mul_comm, Nat.mul_left_comm]
      exact Nat.eq_of_mul_eq_mul_left (by omega) this
    have hs0 : s ≠ 0 := fun h0 => by rw [h0, Nat.mul_zero] at hs; exact hΔ hs
    unfold Z
    rw [Int.natAbs_mul]
    have h3 : q.natAbs ≤ t := by rw [← e1]; exact Nat.le_mul_of_pos_right _ (by omega)
    have h4 := Nat.mul_le_mul_right x.natAbs h3
    omega
end Go.Proofs.Ytfjdfnlkobeehaa

namespace Go.Proofs.Ytfjdfnlkobeehaa


def kerT (rows : List (List Int)) (cols : Nat) : List (List Int) := echT (kerR (echT rows cols) (echW rows cols).2 cols cols) cols

structure KZ (m : List (List (Bool × List Nat))) (cols κ : Nat) : Prop where
  L : ∀ n, n ≤ (echW (m.map vals) cols).2.length → Z κ (lcP (echT (m.map vals) cols) (echW (m.map vals) cols).2 n)
  E : ∀ f i, i < (echW (m.map vals) cols).2.length → Z κ (lcP (echT (m.map vals) cols) (echW (m.map vals) cols).2 (echW (m.map vals) cols).2.length / vc ((echT (m.map vals) cols).getD i []) ((echW (m.map vals) cols).2.getD i 0) * vc ((echT (m.map vals) cols).getD i []) f)
theorem Mx.kz {m : List (List (Bool × List Nat))} {cols B : Nat} (h : Mx m B) (hc : ∀ l ∈ m, l.length = cols) : KZ m cols (B + 1) := ⟨(ker_short h hc).1, (ker_short h hc).2⟩
theorem Mx.tle {m : List (List (Bool × List Nat))} {cols B : Nat} (h : Mx m B) (hc : ∀ l ∈ m, l.length = cols) : (echW (m.map vals) cols).2.length ≤ m.length := by
  obtain ⟨O, κ, hI, _⟩ := ((h.ez hc).1 cols).st
  exact hI.tle
theorem Mx.ker {m : List (List (Bool × List Nat))} {cols B κ : Nat} (h : Mx m B) (hc : ∀ l ∈ m, l.length = cols) (hcols : cols ≤ 32) (hk : KZ m cols κ) (hκ : κ ≤ 1800) : Mx ((kerR (echT (m.map vals) cols) (echW (m.map vals) cols).2 cols cols).map CZ) 491000 ∧ ∀ l ∈ (kerR (echT (m.map vals) cols) (echW (m.map vals) cols).2 cols cols).map CZ, l.length = cols := by
  obtain ⟨hRE, _, _⟩ := echT_RE h hc
  refine ⟨kerR_mx (frees_count hRE.col hRE.inc) hcols (hk.L _ (Nat.le_refl _)) (fun f i hi => hk.E f i hi) hκ, fun l hl => ?_⟩
  obtain ⟨z, hz, rfl⟩ := List.mem_map.1 hl
  rw [CZ_len]; exact kerR_row z hz
def mKer (m : List (List (Bool × List Nat))) (c : Int) : List (List Int) × Int :=
  if wrongM m c then ([], 1) else if longZ (kerT (m.map vals) c.toNat) then ([], 2) else (kerT (m.map vals) c.toNat, 0)
def mIns (m : List (List (Bool × List Nat))) (c : Int) (v : List (Bool × List Nat)) : Bool × Int :=
  if wrongM m c || decide ((v.length : Int) ≠ c) then (false, 1) else (insB (echT (m.map vals) c.toNat) (echW (m.map vals) c.toNat).2 (vals v), 0)
section
variable {m : List (List (Bool × List Nat))} {cols B κ j k : Nat} {v : List (Bool × List Nat)}
theorem Mx.echRn (h : Mx m B) (hc : ∀ l ∈ m, l.length = cols) (hj : ∀ z ∈ echT (m.map vals) cols, ∀ x ∈ z, Z j x) (hj1 : j ≤ 1000000) : ∀ l ∈ (echT (m.map vals) cols).map CZ, Rn l j ∧ l.length = cols := by
  intro l hl
  obtain ⟨z, hz, rfl⟩ := List.mem_map.1 hl
  refine ⟨.C (hj z hz) hj1, ?_⟩
  rw [CZ_len]
  obtain ⟨i, hi, rfl⟩ := mem_getD (d := []) hz
  exact ((h.rr hc).row i hi).1
theorem Mx.echZ (h : Mx m B) (hc : ∀ l ∈ m, l.length = cols) : ∀ z ∈ echT (m.map vals) cols, ∀ x ∈ z, Z (B + 1) x := by
  intro z hz
  obtain ⟨i, hi, rfl⟩ := mem_getD (d := []) hz
  exact ((h.rr hc).row i hi).2
theorem mker_calls (h : Mx m B) {cn : Int} (hk : ∀ n : Nat, cn = n → n ≤ 32 → (∀ l ∈ m, l.length = n) → KZ m n κ) (hκ : κ ≤ 1800) (hBκ : B + 1 + κ ≤ 1000000) :
    PT Try.prog 37 [SM m, .val (.int .i64 cn)] (isV (.tup [SM ((mKer m cn).1.map CZ), .val (.int .i64 (mKer m cn).2)])) := by
  have hw := wrong_calls (m := m) (cn := cn)
  unfold mKer
  by_cases hb : wrongM m cn = true
  · rw [hb] at hw
    rw [if_pos hb]
    refine PCalls.enter (n := 24) (rs := [.tmp 4, .tmp 5]) (tb := []) Try.func37 rfl rfl rfl (by kernel_rfl) (by kernel_rfl) (by simp) fun c hc ht => ?_
    simp -implicitDefEqProofs (disch := omega) only [go_sem, ht]
    (refine pCall_vw (by refine ⟨⟨?_, ?_⟩, ?_, ?_⟩; rotate_left 2; (first | (right; rintro r rfl; rfl) | left); all_goals ((try simp -implicitDefEqProofs (disch := omega) only [go_sem, ht]) <;> rfl)) (hw) ?_; rintro _ nx - rfl hnx; simp -implicitDefEqProofs (disch := omega) only [go_sem, ht])
    (refine end_treeM 2 ?_; simp -implicitDefEqProofs (disch := omega) only [go_sem, ht, List.map_nil])
  · rw [if_neg hb]
    have hb' : wrongM m cn = false := by simpa using hb
    obtain ⟨n, rfl, hn, hml, hlc⟩ := wrongM_false hb'
    rw [hb'] at hw
    have hkz := hk n rfl hn hlc
    have he := h.ech hlc (by omega) (by omega)
    obtain ⟨hRE, _, _⟩ := echT_RE h hlc
    obtain ⟨hKM, hKc⟩ := h.ker hlc hn hkz hκ
    have htle := h.tle hlc
    have hek := ekernel_calls (κ := κ) (h.echRn hlc (h.echZ hlc) (by omega)) (by rw [List.length_map]; exact hRE.len.symm) hRE.col (fun i hi => by rw [map_vals_CZ]; have := hRE.pivD hi; omega) (by omega) (by omega) hRE.inc (by rw [map_vals_CZ]; exact hkz.L) (by omega) (by rw [map_vals_CZ]; exact hKM)
    rw [map_vals_CZ] at hek
    change PT _ _ _ (isV (SM ((kerT (m.map vals) n).map CZ))) at hek
    have hKl : (kerT (m.map vals) n).length ≤ 1000000 := by
      have h1 := (hKM.rr hKc).len
      have h2 := hKM.tle hKc
      rw [map_vals_CZ] at h1 h2
      rw [List.length_map, kerR_len] at h2
      have h3 := frees_le (echW (m.map vals) n).2 n
      unfold kerT
      omega
    have ht' := told_calls (W := kerT (m.map vals) n) (k := 491001) (cols := n) (fun z hz => by
      obtain ⟨i, hi, rfl⟩ := mem_getD (d := []) hz
      have hr := hKM.rr hKc
      rw [map_vals_CZ] at hr
      exact hr.row i hi) (by omega) hKl (by omega)
    rw [Int.toNat_natCast]
    have e : (if longZ (kerT (m.map vals) n) = true then (([], 2) : List (List Int) × Int) else (kerT (m.map vals) n, 0)) = (if longZ (kerT (m.map vals) n) = true then [] else kerT (m.map vals) n, if longZ (kerT (m.map vals) n) = true then 2 else 0) := by split <;> rfl
    rw [e]
    have hfl := SM_flat ((if longZ (kerT (m.map vals) n) = true then [] else kerT (m.map vals) n).map CZ)
    generalize (if longZ (kerT (m.map vals) n) = true then [] else kerT (m.map vals) n).map CZ = m2 at *
    generalize (if longZ (kerT (m.map vals) n) = true then (2 : Int) else 0) = er at *
    generalize (kerT (m.map vals) n).map CZ = m3 at *
    generalize (echT (m.map vals) n).map CZ = m1 at *
    generalize (echW (m.map vals) n).2 = Pv at *
    refine PCalls.enter (n := 24) (rs := [.tmp 4, .tmp 5]) (tb := []) Try.func37 rfl rfl rfl (by kernel_rfl) (by kernel_rfl) (by simp) fun c hc ht => ?_
    simp -implicitDefEqProofs (disch := omega) only [go_sem, ht]
    ((refine pCall_vw (by refine ⟨⟨?_, ?_⟩, ?_, ?_⟩; rotate_left 2; (first | (right; rintro r rfl; rfl) | left); all_goals ((try simp -implicitDefEqProofs (disch := omega) only [go_sem, ht]) <;> rfl)) (hw) ?_; rintro _ nx_7 - rfl hnx_7; simp -implicitDefEqProofs (disch := omega) only [go_sem, ht]); (refine pCall_vw (by refine ⟨⟨?_, ?_⟩, ?_, ?_⟩; rotate_left 2; (first | (right; rintro r rfl; rfl) | left); all_goals ((try simp -implicitDefEqProofs (disch := omega) only [go_sem, ht]) <;> rfl)) (he) ?_; rintro _ nx_8 - rfl hnx_8; simp -implicitDefEqProofs (disch := omega) only [go_sem, ht]); (refine pCall_vw (by refine ⟨⟨?_, ?_⟩, ?_, ?_⟩; rotate_left 2; (first | (right; rintro r rfl; rfl) | left); all_goals ((try simp -implicitDefEqProofs (disch := omega) only [go_sem, ht]) <;> rfl)) (hek) ?_; rintro _ nx_9 - rfl hnx_9; simp -implicitDefEqProofs (disch := omega) only [go_sem, ht]); (refine pCall_vw (by refine ⟨⟨?_, ?_⟩, ?_, ?_⟩; rotate_left 2; (first | (right; rintro r rfl; rfl) | left); all_goals ((try simp -implicitDefEqProofs (disch := omega) only [go_sem, ht]) <;> rfl)) (ht') ?_; rintro _ nx_10 - rfl hnx_10; simp -implicitDefEqProofs (disch := omega) only [go_sem, ht]))
    (refine end_treeM 2 ?_; simp -implicitDefEqProofs (disch := omega) only [go_sem, ht, hfl])
theorem mins_calls (h : Mx m B) {cn : Int} (hv : Rn v k) (hvl : v.length ≤ 1000000) (hj : ∀ n : Nat, cn = n → n ≤ 32 → (∀ l ∈ m, l.length = n) → ∀ z ∈ echT (m.map vals) n, ∀ x ∈ z, Z j x) (hsz : 2 * (k + 64 * (j + 1) + j) + 1 ≤ 1000000) :
    PT Try.prog 27 [SM m, .val (.int .i64 cn), SW v] (isV (.tup [.val (.bool (mIns m cn v).1), .val (.int .i64 (mIns m cn v).2)])) := by
  have hw := wrong_calls (m := m) (cn := cn)
  unfold mIns
  by_cases hb : wrongM m cn = true
  · rw [hb] at hw
    rw [hb, Bool.true_or, if_pos rfl]
    refine PCalls.enter (n := 29) (rs := [.tmp 6, .tmp 7]) (tb := []) Try.func27 rfl rfl rfl (by kernel_rfl) (by kernel_rfl) (by simp) fun c hc ht => ?_
    simp -implicitDefEqProofs (disch := omega) only [go_sem, ht]
    (refine pCall_vw (by refine ⟨⟨?_, ?_⟩, ?_, ?_⟩; rotate_left 2; (first | (right; rintro r rfl; rfl) | left); all_goals ((try simp -implicitDefEqProofs (disch := omega) only [go_sem, ht]) <;> rfl)) (hw) ?_; rintro _ nx - rfl hnx; simp -implicitDefEqProofs (disch := omega) only [go_sem, ht])
    (refine end_treeW 0 ?_; simp -implicitDefEqProofs (disch := omega) only [go_sem, ht])
  · have hb' : wrongM m cn = false := by simpa using hb
    obtain ⟨n, rfl, hn, hml, hlc⟩ := wrongM_false hb'
    rw [hb'] at hw
    rw [hb', Bool.false_or]
    by_cases hvn : v.length = n
    · rw [if_neg (by simp [hvn])]
      have he := h.ech hlc (by omega) (by omega)
      obtain ⟨hRE, _, _⟩ := echT_RE h hlc
      have htle := h.tle hlc
      have h5 := Nat.mul_le_mul_right (j + 1) (show (echW (m.map vals) n).2.length ≤ 64 by omega)
      have hin := einside_calls (h.echRn hlc (hj n rfl hn hlc) (by omega)) (by rw [List.length_map]; exact hRE.len.symm) hRE.col hv hvn (by omega) (by omega) (by omega)
      rw [map_vals_CZ] at hin
      rw [Int.toNat_natCast]
      generalize insB (echT (m.map vals) n) (echW (m.map vals) n).2 (vals v) = b at *
      generalize (echT (m.map vals) n).map CZ = m1 at *
      generalize (echW (m.map vals) n).2 = Pv at *
      refine PCalls.enter (n := 29) (rs := [.tmp 6, .tmp 7]) (tb := []) Try.func27 rfl rfl rfl (by kernel_rfl) (by kernel_rfl) (by simp) fun c hc ht => ?_
      simp -implicitDefEqProofs (disch := omega) only [go_sem, ht, hvn]
      ((refine pCall_vw (by refine ⟨⟨?_, ?_⟩, ?_, ?_⟩; rotate_left 2; (first | (right; rintro r rfl; rfl) | left); all_goals ((try simp -implicitDefEqProofs (disch := omega) only [hvn, go_sem, ht]) <;> rfl)) (hw) ?_; rintro _ nx_11 - rfl hnx_11; simp -implicitDefEqProofs (disch := omega) only [hvn, go_sem, ht]); (refine pCall_vw (by refine ⟨⟨?_, ?_⟩, ?_, ?_⟩; rotate_left 2; (first | (right; rintro r rfl; rfl) | left); all_goals ((try simp -implicitDefEqProofs (disch := omega) only [hvn, go_sem, ht]) <;> rfl)) (he) ?_; rintro _ nx_12 - rfl hnx_12; simp -implicitDefEqProofs (disch := omega) only [hvn, go_sem, ht]); (refine pCall_vw (by refine ⟨⟨?_, ?_⟩, ?_, ?_⟩; rotate_left 2; (first | (right; rintro r rfl; rfl) | left); all_goals ((try simp -implicitDefEqProofs (disch := omega) only [hvn, go_sem, ht]) <;> rfl)) (hin) ?_; rintro _ nx_13 - rfl hnx_13; simp -implicitDefEqProofs (disch := omega) only [hvn, go_sem, ht]))
      (refine end_treeW 0 ?_; simp -implicitDefEqProofs (disch := omega) only [go_sem, ht])
    · rw [if_pos (by simp; omega)]
      refine PCalls.enter (n := 29) (rs := [.tmp 6, .tmp 7]) (tb := []) Try.func27 rfl rfl rfl (by kernel_rfl) (by kernel_rfl) (by simp) fun c hc ht => ?_
      simp -implicitDefEqProofs (disch := omega) only [go_sem, ht]
      (refine pCall_vw (by refine ⟨⟨?_, ?_⟩, ?_, ?_⟩; rotate_left 2; (first | (right; rintro r rfl; rfl) | left); all_goals ((try simp -implicitDefEqProofs (disch := omega) only [go_sem, ht]) <;> rfl)) (hw) ?_; rintro _ nx - rfl hnx; simp -implicitDefEqProofs (disch := omega) only [go_sem, ht])
      (refine end_treeW 0 ?_; simp -implicitDefEqProofs (disch := omega) only [go_sem, ht])
end
end Go.Proofs.Ytfjdfnlkobeehaa

namespace Go.Proofs.Ytfjdfnlkobeehaa

theorem fits_calls {m : List (List (Bool × List Nat))} {cn : Int} (hm : m.length ≤ 8796093022208) : PT Try.prog 13 [SM m, .val (.int .i64 cn)] (isV (.val (.bool (!wrongM m cn)))) := by
  by_cases h1 : cn < 0
  · rw [show wrongM m cn = true from decide_eq_true (.inl h1)]
    refine PCalls.enter (n := 30) (rs := [.tmp 4]) (tb := []) Try.func13 rfl rfl rfl (by kernel_rfl) (by kernel_rfl) (by simp) fun c hc ht => ?_
    simp -implicitDefEqProofs (disch := omega) only [go_sem, ht]
    (refine end_treeW 0 ?_; simp -implicitDefEqProofs (disch := omega) only [go_sem, ht, Bool.not_true])
  by_cases h2 : 32 < cn
  · rw [show wrongM m cn = true from decide_eq_true (.inr (.inl h2))]
    refine PCalls.enter (n := 30) (rs := [.tmp 4]) (tb := []) Try.func13 rfl rfl rfl (by kernel_rfl) (by kernel_rfl) (by simp) fun c hc ht => ?_
    simp -implicitDefEqProofs (disch := omega) only [go_sem, ht]
    (refine end_treeW 0 ?_; simp -implicitDefEqProofs (disch := omega) only [go_sem, ht, Bool.not_true])
  by_cases h3 : 64 < m.length
  · rw [show wrongM m cn = true from decide_eq_true (.inr (.inr (.inl h3)))]
    refine PCalls.enter (n := 30) (rs := [.tmp 4]) (tb := []) Try.func13 rfl rfl rfl (by kernel_rfl) (by kernel_rfl) (by simp) fun c hc ht => ?_
    simp -implicitDefEqProofs (disch := omega) only [go_sem, ht]
    (refine end_treeW 0 ?_; simp -implicitDefEqProofs (disch := omega) only [go_sem, ht, Bool.not_true])
  refine PCalls.enter (n := 30) (rs := [.tmp 4]) (tb := []) Try.func13 rfl rfl rfl (by kernel_rfl) (by kernel_rfl) (by simp) fun c hc ht => ?_
  simp -implicitDefEqProofs (disch := omega) only [go_sem, ht]
  refine LW.loopW hc ht (by kernel_rfl) (fun t => t.sl 0 = .sl m.length (m.map SW) ∧ t.sl 1 = .val (.int .i64 cn) ∧ ∃ i : Nat, i ≤ m.length ∧ t.sl 5 = .val (.int .i64 i) ∧ ∀ l ∈ m.take i, (l.length : Int) = cn)
    (fun t => match t.sl 5 with | .val (.int _ k) => m.length - k.toNat | _ => 0) ?_ ?_
  · simp -implicitDefEqProofs (disch := omega) only [go_sem, ht]
    exact ⟨0, Nat.zero_le _, rfl, by simp⟩
  · rintro t ⟨h0, h1', i, hi, h5, hall⟩
    by_cases hil : i = m.length
    · subst hil
      rw [List.take_length] at hall
      rw [show wrongM m cn = false from decide_eq_false (by
        rintro (h | h | h | ⟨l, hl, hne⟩)
        · exact h1 h
        · exact h2 h
        · exact h3 h
        · exact hne (hall l hl))]
      simp -implicitDefEqProofs (disch := omega) only [go_sem, ht, h0, h1', h5]
      (refine end_treeW 0 ?_; simp -implicitDefEqProofs (disch := omega) only [go_sem, ht, Bool.not_false])
    · have hlt : i < m.length := by omega
      have hgi := get_SM' hlt
      have hmem := getD_mem (d := []) hlt
      have hst := getD_take (d := []) hlt
      by_cases he : ((m.getD i []).length : Int) = cn
      · generalize m.getD i [] = l0 at *
        simp -implicitDefEqProofs (disch := omega) only [go_sem, ht, h0, h1', h5, hgi, he]
        refine ⟨⟨i + 1, by omega, rfl, fun l hl => ?_⟩, by omega⟩
        rw [hst] at hl
        rcases List.mem_append.1 hl with hl | hl
        · exact hall l hl
        · have : l = l0 := by simpa using hl
          rw [this]; exact he
      · rw [show wrongM m cn = true from decide_eq_true (.inr (.inr (.inr ⟨_, hmem, he⟩)))]
        generalize m.getD i [] = l0 at *
        simp -implicitDefEqProofs (disch := omega) only [go_sem, ht, h0, h1', h5, hgi, he]
        (refine end_treeW 0 ?_; simp -implicitDefEqProofs (disch := omega) only [go_sem, ht, Bool.not_true])

theorem dotI_succ (u w : Vc) (n : Nat) : dotI u w (n + 1) = dotI u w n + u n * w n := rfl
theorem dotI_z {u w : Vc} {a b : Nat} (hu : ∀ j, Z a (u j)) (hw : ∀ j, Z b (w j)) : ∀ n, Z (a + b + n) (dotI u w n)
  | 0 => Z.zero _
  | n + 1 => (dotI_z hu hw n).add (((hu n).mul (hw n)).mono (by omega))
set_option maxHeartbeats 4000000 in
theorem dot_calls {l p : List (Bool × List Nat)} {a b : Nat} (hl : Rn l a) (hp : Rn p b) (hlp : l.length = p.length) (hsz : a + b + l.length + 1 ≤ 1000000) :
    PT Try.prog 39 [SW l, SW p] (isV (WC (dotI (vc (vals l)) (vc (vals p)) l.length))) := by
  have hdz := dotI_z (u := vc (vals l)) (w := vc (vals p)) (a := a) (b := b) (vc_z hl.z) (vc_z hp.z)
  have hd0 : dotI (vc (vals l)) (vc (vals p)) 0 = 0 := rfl
  have hds := dotI_succ (vc (vals l)) (vc (vals p))
  generalize dotI (vc (vals l)) (vc (vals p)) = dd at *
  refine PCalls.enter (n := 26) (rs := [.cell 4 30]) (tb := [(5, [(0, []), (1, []), (2, []), (3, []), (4, []), (5, []), (6, []), (7, []), (8, []), (9, [0]), (10, []), (11, [])]), (1000005, [(0, []), (0, []), (0, []), (6, []), (14, []), (0, []), (0, []), (96, []), (224, []), (510, []), (1023, []), (2047, [])])]) Try.func39 rfl rfl rfl (by kernel_rfl) (by kernel_rfl) (by simp) fun c hc ht => ?_
  simp -implicitDefEqProofs (disch := omega) only [go_sem, ht]
  refine LW.ghost (Gh.nnc (id := 1) (by simp -implicitDefEqProofs (disch := omega) only [go_sem, ht] <;> rfl) (by simp)) ?_
  refine LW.loopW hc ht (by kernel_rfl) (fun t => t.sl 0 = .sl l.length (SWc l) ∧ t.sl 1 = .sl p.length (SWc p) ∧ t.sl 4 = .ptr 0 0 ∧ t.sl 5 = .ptr 1 0 ∧ 1 < t.nx ∧ t.H 0 = some [.val (.bool false), .val (.slice none 0 0)] ∧ ∃ i : Nat, i ≤ l.length ∧ t.sl 6 = .val (.int .i64 i) ∧
      t.H 1 = some [.val (.bool (decide (dd i < 0))), .sl (D (dd i).natAbs).length ((D (dd i).natAbs).map U)])
    (fun t => match t.sl 6 with | .val (.int _ k) => l.length - k.toNat | _ => 0) ?_ ?_
  · simp -implicitDefEqProofs (disch := omega) only [go_sem, ht]
    exact ⟨0, Nat.zero_le _, rfl, by rw [hd0, show (0 : Int).natAbs = 0 from rfl, D_zero]; rfl⟩
  · rintro t ⟨h0, h1, h4, h5, hnx, hH0, i, hi, h6, hH⟩
    by_cases hil : i = l.length
    · subst hil
      simp -implicitDefEqProofs (disch := omega) only [go_sem, ht, h0, h1, h4, h5, h6, hH0, hH]
      (refine end_treeM 2 ?_; simp -implicitDefEqProofs (disch := omega) only [go_sem, ht, h4])
    · have hlt : i < l.length := by omega
      have ha1 := SWc_at hlt
      have ha2 := SWc_at (l := p) (i := i) (by omega)
      have w1 := hl.wn hlt
      have w2 := hp.wn (show i < p.length by omega)
      have m1 := mulW w1 w2
      have z2 := hdz (i + 1)
      have z1 := hdz i
      have a1 := addW (Wn.C (z1.mono (show a + b + i ≤ a + b + l.length by omega)) (by omega)) (Wn.C ((w1.z.mul w2.z).mono (show a + b ≤ a + b + l.length by omega)) (by omega))
      rw [← hds] at a1
      clear z1 z2 w1 w2
      generalize vc (vals l) i * vc (vals p) i = x1 at *
      obtain ⟨y, hy⟩ : ∃ y, dd (i + 1) = y := ⟨_, rfl⟩
      rw [hy] at a1
      simp -implicitDefEqProofs (disch := omega) only [go_sem, ht, h0, h1, h4, h5, h6, hH0, hH, ha1, ha2]
      ((refine pCall_vw (by refine ⟨⟨?_, ?_⟩, ?_, ?_⟩; rotate_left 2; (first | (right; rintro r rfl; rfl) | left); all_goals ((try simp -implicitDefEqProofs (disch := omega) only [h0, h1, h4, h5, h6, hH0, hH, ha1, ha2, go_sem, ht]) <;> rfl)) (m1) ?_; rintro _ nx_14 - rfl hnx_14; simp -implicitDefEqProofs (disch := omega) only [h0, h1, h4, h5, h6, hH0, hH, ha1, ha2, go_sem, ht]); (refine pCall_vw (by refine ⟨⟨?_, ?_⟩, ?_, ?_⟩; rotate_left 2; (first | (right; rintro r rfl; rfl) | left); all_goals ((try simp -implicitDefEqProofs (disch := omega) only [h0, h1, h4, h5, h6, hH0, hH, ha1, ha2, go_sem, ht]) <;> rfl)) (a1) ?_; rintro _ nx_15 - rfl hnx_15; simp -implicitDefEqProofs (disch := omega) only [h0, h1, h4, h5, h6, hH0, hH, ha1, ha2, go_sem, ht]))
      exact ⟨⟨by omega, i + 1, by omega, rfl, by rw [hy]⟩, by omega⟩
end Go.Proofs.Ytfjdfnlkobeehaa

namespace Go.Proofs.Ytfjdfnlkobeehaa

theorem longZ_z {W : List (List Int)} (h : longZ W = false) : ∀ z ∈ W, ∀ x ∈ z, Z 32 x := by
  intro z hz x hx
  have h := of_decide_eq_false h
  have : ¬ 32 < (D x.natAbs).length := fun hl => h ⟨z, hz, x, hx, hl⟩
  unfold Z
  exact D_len_le.1 (by omega)
theorem rows_mem' {T : List (List Int)} {r : Vc} : rowsOf T r ↔ ∃ z ∈ T, r = vc z := by
  constructor
  · rintro ⟨i, hi, rfl⟩
    exact ⟨_, getD_mem hi, rfl⟩
  · rintro ⟨z, hz, rfl⟩
    obtain ⟨i, hi, rfl⟩ := mem_getD (d := []) hz
    exact ⟨i, hi, rfl⟩
section
variable {m : List (List (Bool × List Nat))} {T : List (List Int)} {Pv : List Nat} {cols B κ : Nat}

theorem RE.own (h : RE T Pv cols) (hM : Mx (T.map CZ) B) : echT T cols = T ∧ (echW T cols).2 = Pv := by
  have hc : ∀ l ∈ T.map CZ, l.length = cols := fun l hl => by
    obtain ⟨z, hz, rfl⟩ := List.mem_map.1 hl
    rw [CZ_len]
    obtain ⟨i, hi, rfl⟩ := mem_getD (d := []) hz
    exact h.row i hi
  obtain ⟨a1, a2, a3⟩ := echT_RE hM hc
  rw [map_vals_CZ] at a1 a2 a3
  exact a1.uniq h a2 a3
theorem RE.mx (h : RE T Pv cols) (hcols : cols ≤ 32) (hz : ∀ z ∈ T, ∀ x ∈ z, Z 32 x) : Mx (T.map CZ) 40000 ∧ (∀ l ∈ T.map CZ, l.length = cols) ∧ T.length ≤ 32 := by
  have hl : T.length ≤ 32 := by
    have h1 := sub_len (l := Pv) (m := List.range cols) (inc_nodup h.inc) fun x hx => List.mem_range.2 (h.col x hx)
    rw [List.length_range] at h1
    have := h.len
    omega
  have hr : ∀ z ∈ T, z.length = cols := fun z hz => by
    obtain ⟨i, hi, rfl⟩ := mem_getD (d := []) hz
    exact h.row i hi
  refine ⟨.C (k := 32) (cols := cols) (fun z hzm => ⟨by rw [hr z hzm]; omega, hz z hzm⟩) ?_ (by omega), fun l hl => ?_, hl⟩
  · have h1 : cols * (32 + 1) ≤ 32 * 33 := Nat.mul_le_mul_right _ hcols
    have h2 : T.length * (1 + cols * (32 + 1)) ≤ 32 * (1 + 32 * 33) := Nat.mul_le_mul hl (by omega)
    omega
  · obtain ⟨z, hz, rfl⟩ := List.mem_map.1 hl
    rw [CZ_len]; exact hr z hz

theorem kerT_RE (h : Mx m B) (hc : ∀ l ∈ m, l.length = cols) (hcols : cols ≤ 32) (hk : KZ m cols κ) (hκ : κ ≤ 1800) : ∃ Q, RE (kerT (m.map vals) cols) Q cols ∧ Q.length + (echW (m.map vals) cols).2.length = cols ∧
    (∀ r, rowsOf (kerT (m.map vals) cols) r → Sp (rowsOf (kerR (echT (m.map vals) cols) (echW (m.map vals) cols).2 cols cols)) r) ∧ ∀ r, rowsOf (kerR (echT (m.map vals) cols) (echW (m.map vals) cols).2 cols cols) r → Sp (rowsOf (kerT (m.map vals) cols)) r := by
  obtain ⟨hRE, _, _⟩ := echT_RE h hc
  obtain ⟨hKM, hKc⟩ := h.ker hc hcols hk hκ
  obtain ⟨a1, a2, a3⟩ := echT_RE hKM hKc
  rw [map_vals_CZ] at a1 a2 a3
  exact ⟨_, a1, kerR_full hRE, a2, a3⟩

theorem ker_dot (h : Mx m B) (hc : ∀ l ∈ m, l.length = cols) (hcols : cols ≤ 32) (hk : KZ m cols κ) (hκ : κ ≤ 1800) {u : Vc} (hu : Sp (rowsOf (echT (m.map vals) cols)) u) : ∀ z ∈ kerT (m.map vals) cols, dotI u (vc z) cols = 0 := by
  intro z hz
  obtain ⟨hRE, _, _⟩ := echT_RE h hc
  obtain ⟨Q, _, _, k1, _⟩ := kerT_RE h hc hcols hk hκ
  refine Sp.dot (fun r hr => ?_) hu
  rw [dotI_comm]
  refine Sp.dot (fun r' hr' => ?_) (k1 _ (rows_mem'.2 ⟨z, hz, rfl⟩))
  obtain ⟨z', hz', rfl⟩ := rows_mem'.1 hr'
  rw [dotI_comm]
  exact kerR_dot hRE (Nat.le_refl _) z' hz' r hr

theorem ker_spn (h : Mx m B) (hc : ∀ l ∈ m, l.length = cols) (hcols : cols ≤ 32) (hk : KZ m cols κ) (hκ : κ ≤ 1800) {v : List Int} (hv : v.length = cols) (hd : ∀ z ∈ kerT (m.map vals) cols, dotI (vc v) (vc z) cols = 0) : Sp (rowsOf (echT (m.map vals) cols)) (vc v) := by
  obtain ⟨hRE, _, _⟩ := echT_RE h hc
  obtain ⟨Q, _, _, _, k2⟩ := kerT_RE h hc hcols hk hκ
  refine ker_sp hRE hv fun z hz => ?_
  rw [dotI_comm]
  refine Sp.dot (fun r hr => ?_) (k2 _ (rows_mem'.2 ⟨z, hz, rfl⟩))
  obtain ⟨z', hz', rfl⟩ := rows_mem'.1 hr
  rw [dotI_comm]
  exact hd z' hz'
end
end Go.Proofs.Ytfjdfnlkobeehaa
end

section
set_option maxRecDepth 100000
set_option linter.unusedVariables false
set_option linter.unusedSimpArgs false
namespace Go.Proofs.Ytfjdfnlkobeehaa

section
variable {T : List (List Int)} {Pv : List Nat} {cols : Nat}
theorem lcP_z {j : Nat} (hz : ∀ i c, Z j (vc (T.getD i []) c)) : ∀ n, Z (1 + n * j) (lcP T Pv n)
  | 0 => (Z2 (x := 1) (by decide)).mono (Nat.le_add_right _ _)
  | n + 1 => by
    have h := (lcP_z hz n).mul ((hz n (Pv.getD n 0)).div (y := ((Int.gcd (lcP T Pv n) (vc (T.getD n []) (Pv.getD n 0)) : Nat) : Int)))
    rw [show 1 + (n + 1) * j = 1 + n * j + j by rw [Nat.succ_mul]; omega]
    exact h

theorem RE.kz (h : RE T Pv cols) (hcols : cols ≤ 32) (hz : ∀ z ∈ T, ∀ x ∈ z, Z 32 x) : KZ (T.map CZ) cols 1057 := by
  obtain ⟨hM, hc, hl⟩ := h.mx hcols hz
  obtain ⟨e1, e2⟩ := h.own hM
  have hz' : ∀ i c, Z 32 (vc (T.getD i []) c) := fun i c => by
    by_cases hi : i < T.length
    · exact vc_z (hz _ (getD_mem hi)) c
    · rw [show T.getD i [] = [] by simp [List.getD_eq_getElem?_getD, List.getElem?_eq_none (show T.length ≤ i by omega)]]
      exact Z.zero 32
  have hlen := h.len
  have hL : ∀ n, n ≤ Pv.length → Z 1025 (lcP T Pv n) := fun n hn => (lcP_z hz' n).mono (by omega)
  refine ⟨fun n hn => ?_, fun f i hi => ?_⟩
  · rw [map_vals_CZ, e1, e2] at *
    exact (hL n hn).mono (by omega)
  · rw [map_vals_CZ, e1, e2] at *
    exact (hL _ (Nat.le_refl _)).div.mul (hz' i f)
end

theorem ker_ker {m : List (List (Bool × List Nat))} {cols B κ : Nat} (h : Mx m B) (hc : ∀ l ∈ m, l.length = cols) (hcols : cols ≤ 32) (hk : KZ m cols κ) (hκ : κ ≤ 1800) (hz : ∀ z ∈ kerT (m.map vals) cols, ∀ x ∈ z, Z 32 x) : kerT (kerT (m.map vals) cols) cols = echT (m.map vals) cols := by
  obtain ⟨hRE, _, _⟩ := echT_RE h hc
  obtain ⟨Q, hQ, hQn, _, _⟩ := kerT_RE h hc hcols hk hκ
  obtain ⟨hKM, hKc, hKl⟩ := hQ.mx hcols hz
  obtain ⟨e1, e2⟩ := hQ.own hKM
  have hkz := hQ.kz hcols hz
  obtain ⟨Q2, h2, h2n, _, _⟩ := kerT_RE hKM hKc hcols hkz (by omega)
  have hdot := fun {u} (hu : Sp (rowsOf (echT (((kerT (m.map vals) cols).map CZ).map vals) cols)) u) => ker_dot hKM hKc hcols hkz (by omega) hu
  rw [map_vals_CZ] at h2 h2n hdot
  rw [e1] at hdot
  rw [e2] at h2n
  have hsub : ∀ r, rowsOf (kerT (kerT (m.map vals) cols) cols) r → Sp (rowsOf (echT (m.map vals) cols)) r := fun r hr => by
    obtain ⟨z, hz2, rfl⟩ := rows_mem'.1 hr
    refine ker_spn h hc hcols hk hκ ?_ fun y hy => ?_
    · obtain ⟨i, hi, rfl⟩ := mem_getD (d := []) hz2
      exact h2.row i hi
    · rw [dotI_comm]
      exact hdot (.mem (rows_mem'.2 ⟨y, hy, rfl⟩)) z hz2
  refine (h2.uniq hRE hsub fun r hr => ?_).1
  obtain ⟨z, hz2, rfl⟩ := rows_mem'.1 hr
  refine h2.sp_all hRE hsub (by omega) ?_ (.mem hr)
  obtain ⟨i, hi, rfl⟩ := mem_getD (d := []) hz2
  exact hRE.row i hi

theorem ins_rank {m : List (List (Bool × List Nat))} {v : List (Bool × List Nat)} {cols B B' : Nat} (h : Mx m B) (hc : ∀ l ∈ m, l.length = cols) (h' : Mx (m ++ [v]) B') (hv : v.length = cols) :
    insB (echT (m.map vals) cols) (echW (m.map vals) cols).2 (vals v) = decide ((echW ((m ++ [v]).map vals) cols).2.length = (echW (m.map vals) cols).2.length) := by
  have hc' : ∀ l ∈ m ++ [v], l.length = cols := fun l hl => by
    rcases List.mem_append.1 hl with hl | hl
    · exact hc l hl
    · rw [List.mem_singleton.1 hl]; exact hv
  obtain ⟨a1, a2, a3⟩ := echT_RE h hc
  obtain ⟨b1, b2, b3⟩ := echT_RE h' hc'
  have hvl : (vals v).length = cols := by rw [vals_len]; exact hv
  have hi := insB_sp a1 hvl
  have hmv : rowsOf ((m ++ [v]).map vals) (vc (vals v)) := rows_mem'.2 ⟨vals v, List.mem_map_of_mem (List.mem_append_right _ (List.mem_singleton.2 rfl)), rfl⟩
  have hsub : ∀ r, rowsOf (m.map vals) r → rowsOf ((m ++ [v]).map vals) r := fun r hr => by
    obtain ⟨z, hz, rfl⟩ := rows_mem'.1 hr
    obtain ⟨l, hl, rfl⟩ := List.mem_map.1 hz
    exact rows_mem'.2 ⟨_, List.mem_map_of_mem (List.mem_append_left _ hl), rfl⟩
  rw [Bool.eq_iff_iff, decide_eq_true_iff, hi]
  constructor
  · intro hs
    have := ech_same h' h hc' hc (fun r hr => by
      obtain ⟨z, hz, rfl⟩ := rows_mem'.1 hr
      obtain ⟨l, hl, rfl⟩ := List.mem_map.1 hz
      rcases List.mem_append.1 hl with hl | hl
      · exact .mem (rows_mem'.2 ⟨_, List.mem_map_of_mem hl, rfl⟩)
      · rw [List.mem_singleton.1 hl]; exact Sp.trans a2 hs) (fun r hr => .mem (hsub r hr))
    rw [this.2]
  · intro hl
    exact a1.sp_all b1 (fun r hr => Sp.trans b3 (Sp.trans (fun r hr => .mem (hsub r hr)) (a2 r hr))) (by omega) hvl (b3 _ hmv)
end Go.Proofs.Ytfjdfnlkobeehaa
end

section
set_option maxRecDepth 100000
set_option linter.unusedVariables false
set_option linter.unusedSimpArgs false
namespace Go.Proofs.Ytfjdfnlkobeehaa

section
variable {m : List (List (Bool × List Nat))} {v : List (Bool × List Nat)}
set_option maxHeartbeats 16000000 in
theorem dual_law {cn : Int} (hm : ∀ l ∈ m, ∀ p ∈ l, Lm p.2) (hb : lenM m + 1 ≤ 1048576) (lo : -9223372036854775808 ≤ cn) (hi : cn ≤ 9223372036854775807) (hv : ∀ p ∈ v, Lm p.2) (hvb : lenW v + 1 ≤ 1048576) :
    PT Try.prog 9 [SM m, .val (.int .i64 cn), SW v] (isV (.val (.bool true))) := by
  have hlr := len_rows (m := m) (by omega)
  have hlw := len_wholes (l := v) (by omega)
  have hml := lenM_len m
  have hvl := lenW_len v
  refine PCalls.enter (n := 137) (rs := [.tmp 6]) (tb := []) Try.func9 rfl rfl rfl (by kernel_rfl) (by kernel_rfl) (by simp) fun c hc ht => ?_
  simp -implicitDefEqProofs (disch := omega) only [go_sem, ht]
  ((refine pCall_vw (by refine ⟨⟨?_, ?_⟩, ?_, ?_⟩; rotate_left 2; (first | (right; rintro r rfl; rfl) | left); all_goals ((try simp -implicitDefEqProofs (disch := omega) only [go_sem, ht]) <;> rfl)) (awake_matrix) ?_; rintro _ nx_1 - rfl hnx_1; simp -implicitDefEqProofs (disch := omega) only [go_sem, ht]))
  by_cases hl : 1500 < lenM m + lenW v
  · ((refine pCall_vw (by refine ⟨⟨?_, ?_⟩, ?_, ?_⟩; rotate_left 2; (first | (right; rintro r rfl; rfl) | left); all_goals ((try simp -implicitDefEqProofs (disch := omega) only [go_sem, ht]) <;> rfl)) (hlr) ?_; rintro _ nx_2 - rfl hnx_2; simp -implicitDefEqProofs (disch := omega) only [go_sem, ht]); (refine pCall_vw (by refine ⟨⟨?_, ?_⟩, ?_, ?_⟩; rotate_left 2; (first | (right; rintro r rfl; rfl) | left); all_goals ((try simp -implicitDefEqProofs (disch := omega) only [go_sem, ht]) <;> rfl)) (hlw) ?_; rintro _ nx_3 - rfl hnx_3; simp -implicitDefEqProofs (disch := omega) only [go_sem, ht]))
    (refine end_treeW 0 ?_; simp -implicitDefEqProofs (disch := omega) only [go_sem, ht])
  have hMx : Mx m 1500 := ⟨hm, by omega, by omega⟩
  have hft := fits_calls (m := m) (cn := cn) (by omega)
  by_cases hw : wrongM m cn = true
  · rw [hw, Bool.not_true] at hft
    ((refine pCall_vw (by refine ⟨⟨?_, ?_⟩, ?_, ?_⟩; rotate_left 2; (first | (right; rintro r rfl; rfl) | left); all_goals ((try simp -implicitDefEqProofs (disch := omega) only [go_sem, ht]) <;> rfl)) (hlr) ?_; rintro _ nx_4 - rfl hnx_4; simp -implicitDefEqProofs (disch := omega) only [go_sem, ht]); (refine pCall_vw (by refine ⟨⟨?_, ?_⟩, ?_, ?_⟩; rotate_left 2; (first | (right; rintro r rfl; rfl) | left); all_goals ((try simp -implicitDefEqProofs (disch := omega) only [go_sem, ht]) <;> rfl)) (hlw) ?_; rintro _ nx_5 - rfl hnx_5; simp -implicitDefEqProofs (disch := omega) only [go_sem, ht]); (refine pCall_vw (by refine ⟨⟨?_, ?_⟩, ?_, ?_⟩; rotate_left 2; (first | (right; rintro r rfl; rfl) | left); all_goals ((try simp -implicitDefEqProofs (disch := omega) only [go_sem, ht]) <;> rfl)) (hft) ?_; rintro _ nx_6 - rfl hnx_6; simp -implicitDefEqProofs (disch := omega) only [go_sem, ht]))
    (refine end_treeW 0 ?_; simp -implicitDefEqProofs (disch := omega) only [go_sem, ht])
  have hw' : wrongM m cn = false := by simpa using hw
  rw [hw', Bool.not_false] at hft
  obtain ⟨n, rfl, hn32, hm64, hlc⟩ := wrongM_false hw'
  by_cases hvn' : ¬ v.length = n
  · ((refine pCall_vw (by refine ⟨⟨?_, ?_⟩, ?_, ?_⟩; rotate_left 2; (first | (right; rintro r rfl; rfl) | left); all_goals ((try simp -implicitDefEqProofs (disch := omega) only [go_sem, ht]) <;> rfl)) (hlr) ?_; rintro _ nx_7 - rfl hnx_7; simp -implicitDefEqProofs (disch := omega) only [go_sem, ht]); (refine pCall_vw (by refine ⟨⟨?_, ?_⟩, ?_, ?_⟩; rotate_left 2; (first | (right; rintro r rfl; rfl) | left); all_goals ((try simp -implicitDefEqProofs (disch := omega) only [go_sem, ht]) <;> rfl)) (hlw) ?_; rintro _ nx_8 - rfl hnx_8; simp -implicitDefEqProofs (disch := omega) only [go_sem, ht]); (refine pCall_vw (by refine ⟨⟨?_, ?_⟩, ?_, ?_⟩; rotate_left 2; (first | (right; rintro r rfl; rfl) | left); all_goals ((try simp -implicitDefEqProofs (disch := omega) only [go_sem, ht]) <;> rfl)) (hft) ?_; rintro _ nx_9 - rfl hnx_9; simp -implicitDefEqProofs (disch := omega) only [go_sem, ht]))
    (refine end_treeW 0 ?_; simp -implicitDefEqProofs (disch := omega) only [go_sem, ht])
  have hvn : v.length = n := by omega
  clear hvn'
  by_cases h64 : 64 ≤ m.length
  · ((refine pCall_vw (by refine ⟨⟨?_, ?_⟩, ?_, ?_⟩; rotate_left 2; (first | (right; rintro r rfl; rfl) | left); all_goals ((try simp -implicitDefEqProofs (disch := omega) only [hvn, go_sem, ht]) <;> rfl)) (hlr) ?_; rintro _ nx_10 - rfl hnx_10; simp -implicitDefEqProofs (disch := omega) only [hvn, go_sem, ht]); (refine pCall_vw (by refine ⟨⟨?_, ?_⟩, ?_, ?_⟩; rotate_left 2; (first | (right; rintro r rfl; rfl) | left); all_goals ((try simp -implicitDefEqProofs (disch := omega) only [hvn, go_sem, ht]) <;> rfl)) (hlw) ?_; rintro _ nx_11 - rfl hnx_11; simp -implicitDefEqProofs (disch := omega) only [hvn, go_sem, ht]); (refine pCall_vw (by refine ⟨⟨?_, ?_⟩, ?_, ?_⟩; rotate_left 2; (first | (right; rintro r rfl; rfl) | left); all_goals ((try simp -implicitDefEqProofs (disch := omega) only [hvn, go_sem, ht]) <;> rfl)) (hft) ?_; rintro _ nx_12 - rfl hnx_12; simp -implicitDefEqProofs (disch := omega) only [hvn, go_sem, ht]))
    (refine end_treeW 0 ?_; simp -implicitDefEqProofs (disch := omega) only [go_sem, ht])
  have hkz : KZ m n 1501 := hMx.kz hlc
  have hM' : Mx (m ++ [v]) 1501 := ⟨fun l hl p hp => by
    rcases List.mem_append.1 hl with hl | hl
    · exact hm l hl p hp
    · rw [List.mem_singleton.1 hl] at hp; exact hv p hp, by
    have : lenM (m ++ [v]) = lenM m + (1 + lenW v) := by simp [lenM]
    omega, by omega⟩
  have hlc' : ∀ l ∈ m ++ [v], l.length = n := fun l hl => by
    rcases List.mem_append.1 hl with hl | hl
    · exact hlc l hl
    · rw [List.mem_singleton.1 hl]; exact hvn
  have hwA : wrongM (m ++ [v]) n = false := decide_eq_false (by
    rintro (h | h | h | ⟨l, hl, hne⟩)
    · omega
    · omega
    · rw [List.length_append, List.length_singleton] at h; omega
    · exact hne (by rw [hlc' l hl]))
  have hvR : Rn v 1500 := ⟨fun p hp => ⟨hv p hp, by have := lenW_mem hp; omega⟩, by omega⟩
  have hme := mech_calls hMx (cn := n)
  have hmk := mker_calls (κ := 1501) hMx (cn := n) (fun n' e _ hlc' => by obtain rfl : n = n' := by omega
                                                                          exact hkz) (by omega) (by omega)
  have hin := mins_calls (k := 1500) (j := 1501) hMx (cn := n) hvR (by omega) (fun n' e _ _ => by
    obtain rfl : n = n' := by omega
    exact hMx.echZ hlc) (by omega)
  have hr1 := mrank_calls hMx (cn := n)
  have hr2 := mrank_calls hM' (cn := n)
  have hbr := ins_rank hMx hlc hM' hvn
  have e1 : mEch m n = if longZ (echT (m.map vals) n) then ([], 2) else (echT (m.map vals) n, 0) := by unfold mEch; rw [hw', Int.toNat_natCast]; rfl
  have e2 : mRank m n = (((echW (m.map vals) n).2.length : Int), 0) := by unfold mRank; rw [hw', Int.toNat_natCast]; rfl
  have e2' : mRank (m ++ [v]) n = (((echW ((m ++ [v]).map vals) n).2.length : Int), 0) := by unfold mRank; rw [hwA, Int.toNat_natCast]; rfl
  have e3 : mKer m n = if longZ (kerT (m.map vals) n) then ([], 2) else (kerT (m.map vals) n, 0) := by unfold mKer; rw [hw', Int.toNat_natCast]; rfl
  have e4 : mIns m n v = (insB (echT (m.map vals) n) (echW (m.map vals) n).2 (vals v), 0) := by unfold mIns; rw [hw', hvn, Int.toNat_natCast]; simp
  rw [e1] at hme
  rw [e2] at hr1
  rw [e2'] at hr2
  rw [e3] at hmk
  rw [e4] at hin
  obtain ⟨x1, hx1⟩ : ∃ x, (if longZ (echT (m.map vals) n) then (([], 2) : List (List Int) × Int) else (echT (m.map vals) n, 0)).2 = x := ⟨_, rfl⟩
  obtain ⟨x2, hx2⟩ : ∃ x, (if longZ (kerT (m.map vals) n) then (([], 2) : List (List Int) × Int) else (kerT (m.map vals) n, 0)).2 = x := ⟨_, rfl⟩
  obtain ⟨E, hE⟩ : ∃ x, (if longZ (echT (m.map vals) n) then (([], 2) : List (List Int) × Int) else (echT (m.map vals) n, 0)).1.map CZ = x := ⟨_, rfl⟩
  obtain ⟨K, hK⟩ : ∃ x, (if longZ (kerT (m.map vals) n) then (([], 2) : List (List Int) × Int) else (kerT (m.map vals) n, 0)).1.map CZ = x := ⟨_, rfl⟩
  rw [hx1, hE] at hme
  rw [hx2, hK] at hmk
  have hx1' : x1 = 0 ∨ x1 = 2 := by rw [← hx1]; split <;> simp
  have hx2' : x2 = 0 ∨ x2 = 2 := by rw [← hx2]; split <;> simp
  have hgood : x1 = 0 → x2 = 0 → ∃ (fb : Nat → Bool), fb 0 = true ∧ fb K.length = insB (echT (m.map vals) n) (echW (m.map vals) n).2 (vals v) ∧ E.length ≤ 32 ∧ K.length ≤ 32 ∧
      PT Try.prog 37 [SM K, .val (.int .i64 n)] (isV (.tup [SM E, .val (.int .i64 0)])) ∧ PT Try.prog 18 [SM E, SM E] (isV (.val (.bool true))) ∧
      ∀ j, j < K.length → ∃ s : Int, PT Try.prog 39 [SW v, SW (K.getD j [])] (isV (WC s)) ∧ PT Try.prog 33 [WC s] (isV (.val (.int .i64 (cZ s 0)))) ∧ fb (j + 1) = (fb j && decide (cZ s 0 = 0)) := by
    intro g1 g2
    by_cases hT : longZ (echT (m.map vals) n) = true
    · rw [if_pos hT] at hx1; simp at hx1; omega
    by_cases hKl : longZ (kerT (m.map vals) n) = true
    · rw [if_pos hKl] at hx2; simp at hx2; omega
    rw [if_neg hT] at hE
    rw [if_neg hKl] at hK
    simp only at hE hK
    subst hE hK
    obtain ⟨hRE, hsp1, hsp2⟩ := echT_RE hMx hlc
    obtain ⟨Q, hQ, hQn, hk1, hk2⟩ := kerT_RE hMx hlc hn32 hkz (by omega)
    have hTz := longZ_z (show longZ (echT (m.map vals) n) = false by simpa using hT)
    have hKz := longZ_z (show longZ (kerT (m.map vals) n) = false by simpa using hKl)
    obtain ⟨hTM, hTc, hTl⟩ := hRE.mx hn32 hTz
    obtain ⟨hKM, hKc, hKll⟩ := hQ.mx hn32 hKz
    have hkk := ker_ker hMx hlc hn32 hkz (by omega) hKz
    have hkz2 := hQ.kz hn32 hKz
    have l3 := mker_calls (κ := 1057) hKM (cn := n) (fun n' e _ _ => (show n = n' by omega) ▸ hkz2) (by omega) (by omega)
    have hwK : wrongM ((kerT (m.map vals) n).map CZ) n = false := decide_eq_false (by
      rintro (h | h | h | ⟨l, hl, hne⟩)
      · omega
      · omega
      · rw [List.length_map] at h; omega
      · exact hne (by rw [hKc l hl]))
    have e5 : mKer ((kerT (m.map vals) n).map CZ) n = (echT (m.map vals) n, 0) := by
      unfold mKer
      rw [hwK, Int.toNat_natCast, map_vals_CZ, hkk, if_neg (by simp), if_neg hT]
    rw [e5] at l3
    simp only at l3
    have hTrn : ∀ l ∈ (echT (m.map vals) n).map CZ, Rn l 32 ∧ l.length = n := fun l hl => ⟨by
      obtain ⟨z, hz, rfl⟩ := List.mem_map.1 hl
      exact .C (hTz z hz) (by omega), hTc l hl⟩
    have hKrn : ∀ l ∈ (kerT (m.map vals) n).map CZ, Rn l 32 ∧ l.length = n := fun l hl => ⟨by
      obtain ⟨z, hz, rfl⟩ := List.mem_map.1 hl
      exact .C (hKz z hz) (by omega), hKc l hl⟩
    have hsm := same_rows (m := (echT (m.map vals) n).map CZ) (m' := (echT (m.map vals) n).map CZ) (fun l hl => ⟨fun p hp => by have := ((hTrn l hl).1.ok p hp); exact ⟨this.1, by omega⟩, by rw [hTc l hl]; omega⟩) (fun l hl p hp => by have := ((hTrn l hl).1.ok p hp); exact ⟨this.1, by omega⟩) (by rw [List.length_map]; omega)
    rw [decide_eq_true rfl] at hsm
    have hvz : (vals v).length = n := by rw [vals_len]; exact hvn
    refine ⟨fun j => decide (∀ z ∈ (kerT (m.map vals) n).take j, dotI (vc (vals v)) (vc z) n = 0), by simp, ?_, by rw [List.length_map]; omega, by rw [List.length_map]; omega, l3, hsm, fun j hj => ?_⟩
    · show decide (∀ z ∈ (kerT (m.map vals) n).take ((kerT (m.map vals) n).map CZ).length, dotI (vc (vals v)) (vc z) n = 0) = _
      rw [Bool.eq_iff_iff, insB_sp hRE hvz, List.length_map, List.take_length]
      simp only [decide_eq_true_eq]
      exact ⟨fun hd => ker_spn hMx hlc hn32 hkz (by omega) hvz hd, fun hs => ker_dot hMx hlc hn32 hkz (by omega) hs⟩
    · have hmj := getD_mem (d := []) hj
      have hd := dot_calls (a := 1500) (b := 32) hvR (hKrn _ hmj).1 (by rw [hvn, hKc _ hmj]) (by omega)
      rw [List.length_map] at hj
      have eg : ((kerT (m.map vals) n).map CZ).getD j [] = CZ ((kerT (m.map vals) n).getD j []) := by simp [hj]
      rw [eg, vals_CZ, hvn] at hd
      rw [eg]
      have zd := dotI_z (u := vc (vals v)) (w := vc ((kerT (m.map vals) n).getD j [])) (a := 1500) (b := 32) (vc_z hvR.z) (vc_z (hKz _ (getD_mem hj))) n
      refine ⟨_, hd, signW (Wn.C zd (by omega)), ?_⟩
      have hst := getD_take (d := []) hj
      simp only
      rw [hst, Bool.eq_iff_iff]
      simp only [decide_eq_true_eq, Bool.and_eq_true, List.mem_append, List.mem_singleton]
      have hc0 : ∀ s : Int, cZ s 0 = 0 ↔ s = 0 := fun s => by unfold cZ; split <;> (try split) <;> omega
      rw [hc0]
      exact ⟨fun h => ⟨fun z hz => h z (.inl hz), h _ (.inr rfl)⟩, fun h z hz => hz.elim (h.1 z) (fun e => e ▸ h.2)⟩
  rw [hbr] at hin
  have hbl : ∀ g1 g2, (hgood g1 g2) = hgood g1 g2 := fun _ _ => rfl
  clear hbl
  rw [hbr] at hgood
  have hle1 : (echW (m.map vals) n).2.length ≤ 63 := by have := hMx.tle hlc; omega
  have hle2 : (echW ((m ++ [v]).map vals) n).2.length ≤ 64 := by have := hM'.tle hlc'; rw [List.length_append, List.length_singleton] at this; omega
  clear hbr e1 e2 e2' e3 e4 hx1 hx2 hE hK
  have hr2' : PT Try.prog 22 [.sl (m.length + 1) (m.map SW ++ [.sl n (SWc v)]), .val (.int .i64 n)] (isV (.tup [.val (.int .i64 ((echW ((m ++ [v]).map vals) n).2.length : Nat)), .val (.int .i64 0)])) := by
    rw [SM_def, List.map_append, List.length_append] at hr2
    simp only [List.map_cons, List.map_nil, SW_def v, hvn, List.length_singleton] at hr2
    exact hr2
  generalize (echW ((m ++ [v]).map vals) n).2.length = ra at *
  generalize (echW (m.map vals) n).2.length = rb at *
  have hfv := SWc_flat v
  have hfm := SM_flat m
  obtain ⟨b, hbe⟩ : ∃ b, decide (ra = rb) = b := ⟨_, rfl⟩
  have hbi : decide ((ra : Int) = rb) = b := by rw [← hbe, Bool.eq_iff_iff, decide_eq_true_iff, decide_eq_true_iff]; omega
  rw [hbe] at hin hgood
  ((refine pCall_vw (by refine ⟨⟨?_, ?_⟩, ?_, ?_⟩; rotate_left 2; (first | (right; rintro r rfl; rfl) | left); all_goals ((try simp -implicitDefEqProofs (disch := omega) only [hvn, go_sem, ht]) <;> rfl)) (hlr) ?_; rintro _ nx_13 - rfl hnx_13; simp -implicitDefEqProofs (disch := omega) only [hvn, go_sem, ht]); (refine pCall_vw (by refine ⟨⟨?_, ?_⟩, ?_, ?_⟩; rotate_left 2; (first | (right; rintro r rfl; rfl) | left); all_goals ((try simp -implicitDefEqProofs (disch := omega) only [hvn, go_sem, ht]) <;> rfl)) (hlw) ?_; rintro _ nx_14 - rfl hnx_14; simp -implicitDefEqProofs (disch := omega) only [hvn, go_sem, ht]); (refine pCall_vw (by refine ⟨⟨?_, ?_⟩, ?_, ?_⟩; rotate_left 2; (first | (right; rintro r rfl; rfl) | left); all_goals ((try simp -implicitDefEqProofs (disch := omega) only [hvn, go_sem, ht]) <;> rfl)) (hft) ?_; rintro _ nx_15 - rfl hnx_15; simp -implicitDefEqProofs (disch := omega) only [hvn, go_sem, ht]); (refine pCall_vw (by refine ⟨⟨?_, ?_⟩, ?_, ?_⟩; rotate_left 2; (first | (right; rintro r rfl; rfl) | left); all_goals ((try simp -implicitDefEqProofs (disch := omega) only [hvn, go_sem, ht]) <;> rfl)) (hme) ?_; rintro _ nx_16 - rfl hnx_16; simp -implicitDefEqProofs (disch := omega) only [hvn, go_sem, ht]); (refine pCall_vw (by refine ⟨⟨?_, ?_⟩, ?_, ?_⟩; rotate_left 2; (first | (right; rintro r rfl; rfl) | left); all_goals ((try simp -implicitDefEqProofs (disch := omega) only [hvn, go_sem, ht]) <;> rfl)) (hmk) ?_; rintro _ nx_17 - rfl hnx_17; simp -implicitDefEqProofs (disch := omega) only [hvn, go_sem, ht]); (refine pCall_vw (by refine ⟨⟨?_, ?_⟩, ?_, ?_⟩; rotate_left 2; (first | (right; rintro r rfl; rfl) | left); all_goals ((try simp -implicitDefEqProofs (disch := omega) only [hvn, go_sem, ht]) <;> rfl)) (hin) ?_; rintro _ nx_18 - rfl hnx_18; simp -implicitDefEqProofs (disch := omega) only [hvn, go_sem, ht]); (refine pCall_vw (by refine ⟨⟨?_, ?_⟩, ?_, ?_⟩; rotate_left 2; (first | (right; rintro r rfl; rfl) | left); all_goals ((try simp -implicitDefEqProofs (disch := omega) only [hvn, go_sem, ht]) <;> rfl)) (hr1) ?_; rintro _ nx_19 - rfl hnx_19; simp -implicitDefEqProofs (disch := omega) only [hvn, go_sem, ht]))
  refine append_nil (e := 27) (b := 24) (m := m.length) (z := .slice none 0 0) (ys := m.map SW) T22_elem rfl T27_size T27_bytes T27_zero (by simp -implicitDefEqProofs (disch := omega) only [go_sem, ht, srcP_sl]) (one_SM m) (by omega) (fun h00 => ?_) (fun cap1 rest1 hcap1 hpos => ?_)
  · have hm0 : m = [] := List.eq_nil_of_length_eq_zero h00
    have hr3 : PT Try.prog 22 [.sl 1 [.sl n (SWc v)], .val (.int .i64 n)] (isV (.tup [.val (.int .i64 ra), .val (.int .i64 0)])) := by
      rw [hm0] at hr2'; exact hr2'
    have hfv2 : flatL [PV.sl n (SWc v)] = true := by simp [flatL, flat, hfv]
    have hfz := fun H => frzL_flat (fun _ => true) H 0 hfv2
    simp -implicitDefEqProofs (disch := omega) only [go_sem, ht]
    refine append_nil (e := 27) (b := 24) (m := 1) (z := .slice none 0 0) (ys := [.sl n (SWc v)]) T22_elem rfl T27_size T27_bytes T27_zero (by simp -implicitDefEqProofs (disch := omega) only [go_sem, ht, srcP_ref] <;> rfl) (by rfl) (by omega) (fun h00 => by omega) (fun cap1 rest1 hcap1 hpos => ?_)
    simp -implicitDefEqProofs (disch := omega) only [go_sem, ht]
    (refine pCall_frz (fun _ => true) 1 (by simp -implicitDefEqProofs (disch := omega) only [hfz, hfv2, if_pos, upd_self, hbi, bne_self_eq_false, go_sem, ht] <;> rfl) (by simp -implicitDefEqProofs (disch := omega) only [hfz, hfv2, if_pos, upd_self, hbi, bne_self_eq_false, go_sem, ht]) (by simp -implicitDefEqProofs (disch := omega) only [hfz, hfv2, if_pos, upd_self, hbi, bne_self_eq_false, go_sem, ht] <;> rfl) (by simp -implicitDefEqProofs (disch := omega) only [hfz, hfv2, if_pos, upd_self, hbi, bne_self_eq_false, go_sem, ht]) (hr3) ?_; rintro _ nx - rfl hnx; (try simp only [put_nx, withH_nx, begP_nx] at hnx); simp -implicitDefEqProofs (disch := omega) only [hfz, hfv2, if_pos, upd_self, hbi, bne_self_eq_false, go_sem, ht])
    by_cases hx1 : x1 = 0
    · by_cases hx2 : x2 = 0
      · obtain ⟨fb, hf0, hbf, hElen, hKlen, l3, hsm, hdt⟩ := hgood hx1 hx2
        subst hx1 hx2
        simp -implicitDefEqProofs (disch := omega) only [go_sem, ht]
        ((refine pCall_vw (by refine ⟨⟨?_, ?_⟩, ?_, ?_⟩; rotate_left 2; (first | (right; rintro r rfl; rfl) | left); all_goals ((try simp -implicitDefEqProofs (disch := omega) only [go_sem, ht]) <;> rfl)) (l3) ?_; rintro _ nx_20 - rfl hnx_20; simp -implicitDefEqProofs (disch := omega) only [go_sem, ht]))
        refine LW.loopW hc ht (by kernel_rfl) (fun t => t.sl 2 = .sl v.length (SWc v) ∧ t.sl 7 = .sl E.length (E.map SW) ∧ t.sl 9 = .sl K.length (K.map SW) ∧ t.sl 11 = .val (.bool b) ∧ t.sl 17 = .sl E.length (E.map SW) ∧ t.sl 18 = .val (.int .i64 0) ∧ ∃ j : Nat, j ≤ K.length ∧ t.sl 20 = .val (.int .i64 j) ∧ t.sl 19 = .val (.bool (fb j)))
          (fun t => match t.sl 20 with | .val (.int _ k) => K.length - k.toNat | _ => 0) ?_ ?_
        · simp -implicitDefEqProofs (disch := omega) only [go_sem, ht]
          exact ⟨by rw [hvn], 0, Nat.zero_le _, rfl, by rw [hf0]⟩
        · rintro t ⟨h2, h7, h9, h11, h17, h18, j, hj, h20, h19⟩
          by_cases hjl : j = K.length
          · subst hjl
            rw [hbf] at h19
            simp -implicitDefEqProofs (disch := omega) only [go_sem, ht, h2, h7, h9, h11, h17, h18, h19, h20]
            ((refine pCall_vw (by refine ⟨⟨?_, ?_⟩, ?_, ?_⟩; rotate_left 2; (first | (right; rintro r rfl; rfl) | left); all_goals ((try simp -implicitDefEqProofs (disch := omega) only [h2, h7, h9, h11, h17, h18, h19, h20, go_sem, ht]) <;> rfl)) (hsm) ?_; rintro _ nx_21 - rfl hnx_21; simp -implicitDefEqProofs (disch := omega) only [h2, h7, h9, h11, h17, h18, h19, h20, go_sem, ht]))
            (refine end_treeW 0 ?_; simp -implicitDefEqProofs (disch := omega) only [go_sem, ht])
          · have hjlt : j < K.length := by omega
            have hgj := get_SM' hjlt
            obtain ⟨y, hd1, hd2, hst⟩ := hdt j hjlt
            by_cases hfj : fb j = true
            · rw [hfj] at h19
              generalize K.getD j [] = p at *
              simp -implicitDefEqProofs (disch := omega) only [go_sem, ht, h2, h7, h9, h11, h17, h18, h19, h20, hgj]
              ((refine pCall_vw (by refine ⟨⟨?_, ?_⟩, ?_, ?_⟩; rotate_left 2; (first | (right; rintro r rfl; rfl) | left); all_goals ((try simp -implicitDefEqProofs (disch := omega) only [h2, h7, h9, h11, h17, h18, h19, h20, hgj, go_sem, ht]) <;> rfl)) (hd1) ?_; rintro _ nx_22 - rfl hnx_22; simp -implicitDefEqProofs (disch := omega) only [h2, h7, h9, h11, h17, h18, h19, h20, hgj, go_sem, ht]); (refine pCall_vw (by refine ⟨⟨?_, ?_⟩, ?_, ?_⟩; rotate_left 2; (first | (right; rintro r rfl; rfl) | left); all_goals ((try simp -implicitDefEqProofs (disch := omega) only [h2, h7, h9, h11, h17, h18, h19, h20, hgj, go_sem, ht]) <;> rfl)) (hd2) ?_; rintro _ nx_23 - rfl hnx_23; simp -implicitDefEqProofs (disch := omega) only [h2, h7, h9, h11, h17, h18, h19, h20, hgj, go_sem, ht]))
              exact ⟨⟨j + 1, by omega, rfl, by rw [hst, hfj, Bool.true_and]⟩, by omega⟩
            · have hfj' : fb j = false := by simpa using hfj
              rw [hfj'] at h19
              simp -implicitDefEqProofs (disch := omega) only [go_sem, ht, h2, h7, h9, h11, h17, h18, h19, h20, hgj]
              exact ⟨⟨j + 1, by omega, rfl, by rw [hst, hfj', Bool.false_and]⟩, by omega⟩
      · have hx2 : x2 = 2 := by omega
        subst hx2
        simp -implicitDefEqProofs (disch := omega) only [go_sem, ht]
        (refine end_treeW 0 ?_; simp -implicitDefEqProofs (disch := omega) only [go_sem, ht])
    · have hx1 : x1 = 2 := by omega
      subst hx1
      simp -implicitDefEqProofs (disch := omega) only [go_sem, ht]
      (refine end_treeW 0 ?_; simp -implicitDefEqProofs (disch := omega) only [go_sem, ht])
  · simp -implicitDefEqProofs (disch := omega) only [go_sem, ht]
    (refine append_ownX (by refine ⟨?_, ?_, ?_, ?_, ?_, ?_, ?_, ?_⟩ <;> (simp -implicitDefEqProofs (disch := omega) only [srcP_ref, srcP_sl, srcP_nil, Option.isSome_some, upd_self, go_sem, ht] <;> rfl)) (by simp <;> omega) (by first | assumption | (simp <;> omega)) (by first | rfl | simp) (by first | omega | (simp <;> omega)) ?_; intro id2 cap2 rest2 H2 nx2 hH2 hcap2 hid2 hnx2 hfr2 hfs2; simp only [put_nx, withH_nx, put_H, withH_H] at hid2 hnx2 hfr2 hfs2; (try simp only [app_U, ← List.map_append] at hH2))
    simp -implicitDefEqProofs (disch := omega) only [go_sem, ht]
    have hH2' : H2 id2 = some ((m.map SW ++ [.sl n (SWc v)]) ++ rest2.map .val) := hH2
    have htk : List.take (m.length + 1) ((m.map SW ++ [.sl n (SWc v)]) ++ rest2.map .val) = m.map SW ++ [.sl n (SWc v)] := by
      have e : (m.map SW ++ [PV.sl n (SWc v)]).length = m.length + 1 := by simp
      rw [← e, List.take_left]
    have hfl : flatL (m.map SW ++ [.sl n (SWc v)]) = true := flatL_app' hfm (by simp [flatL, flat, hfv])
    have hfz := frzL_flat (fun _ => true) H2 0 hfl
    (refine pCall_frz (fun _ => true) 1 (by simp -implicitDefEqProofs (disch := omega) only [hH2', htk, hfz, hfl, if_pos, hbi, bne_self_eq_false, go_sem, ht] <;> rfl) (by simp -implicitDefEqProofs (disch := omega) only [hH2', htk, hfz, hfl, if_pos, hbi, bne_self_eq_false, go_sem, ht]) (by simp -implicitDefEqProofs (disch := omega) only [hH2', htk, hfz, hfl, if_pos, hbi, bne_self_eq_false, go_sem, ht] <;> rfl) (by simp -implicitDefEqProofs (disch := omega) only [hH2', htk, hfz, hfl, if_pos, hbi, bne_self_eq_false, go_sem, ht]) (hr2') ?_; rintro _ nx - rfl hnx; (try simp only [put_nx, withH_nx, begP_nx] at hnx); simp -implicitDefEqProofs (disch := omega) only [hH2', htk, hfz, hfl, if_pos, hbi, bne_self_eq_false, go_sem, ht])
    by_cases hx1 : x1 = 0
    · by_cases hx2 : x2 = 0
      · obtain ⟨fb, hf0, hbf, hElen, hKlen, l3, hsm, hdt⟩ := hgood hx1 hx2
        subst hx1 hx2
        simp -implicitDefEqProofs (disch := omega) only [go_sem, ht]
        ((refine pCall_vw (by refine ⟨⟨?_, ?_⟩, ?_, ?_⟩; rotate_left 2; (first | (right; rintro r rfl; rfl) | left); all_goals ((try simp -implicitDefEqProofs (disch := omega) only [go_sem, ht]) <;> rfl)) (l3) ?_; rintro _ nx_24 - rfl hnx_24; simp -implicitDefEqProofs (disch := omega) only [go_sem, ht]))
        refine LW.loopW hc ht (by kernel_rfl) (fun t => t.sl 2 = .sl v.length (SWc v) ∧ t.sl 7 = .sl E.length (E.map SW) ∧ t.sl 9 = .sl K.length (K.map SW) ∧ t.sl 11 = .val (.bool b) ∧ t.sl 17 = .sl E.length (E.map SW) ∧ t.sl 18 = .val (.int .i64 0) ∧ ∃ j : Nat, j ≤ K.length ∧ t.sl 20 = .val (.int .i64 j) ∧ t.sl 19 = .val (.bool (fb j)))
          (fun t => match t.sl 20 with | .val (.int _ k) => K.length - k.toNat | _ => 0) ?_ ?_
        · simp -implicitDefEqProofs (disch := omega) only [go_sem, ht]
          exact ⟨by rw [hvn], 0, Nat.zero_le _, rfl, by rw [hf0]⟩
        · rintro t ⟨h2, h7, h9, h11, h17, h18, j, hj, h20, h19⟩
          by_cases hjl : j = K.length
          · subst hjl
            rw [hbf] at h19
            simp -implicitDefEqProofs (disch := omega) only [go_sem, ht, h2, h7, h9, h11, h17, h18, h19, h20]
            ((refine pCall_vw (by refine ⟨⟨?_, ?_⟩, ?_, ?_⟩; rotate_left 2; (first | (right; rintro r rfl; rfl) | left); all_goals ((try simp -implicitDefEqProofs (disch := omega) only [h2, h7, h9, h11, h17, h18, h19, h20, go_sem, ht]) <;> rfl)) (hsm) ?_; rintro _ nx_25 - rfl hnx_25; simp -implicitDefEqProofs (disch := omega) only [h2, h7, h9, h11, h17, h18, h19, h20, go_sem, ht]))
            (refine end_treeW 0 ?_; simp -implicitDefEqProofs (disch := omega) only [go_sem, ht])
          · have hjlt : j < K.length := by omega
            have hgj := get_SM' hjlt
            obtain ⟨y, hd1, hd2, hst⟩ := hdt j hjlt
            by_cases hfj : fb j = true
            · rw [hfj] at h19
              generalize K.getD j [] = p at *
              simp -implicitDefEqProofs (disch := omega) only [go_sem, ht, h2, h7, h9, h11, h17, h18, h19, h20, hgj]
              ((refine pCall_vw (by refine ⟨⟨?_, ?_⟩, ?_, ?_⟩; rotate_left 2; (first | (right; rintro r rfl; rfl) | left); all_goals ((try simp -implicitDefEqProofs (disch := omega) only [h2, h7, h9, h11, h17, h18, h19, h20, hgj, go_sem, ht]) <;> rfl)) (hd1) ?_; rintro _ nx_26 - rfl hnx_26; simp -implicitDefEqProofs (disch := omega) only [h2, h7, h9, h11, h17, h18, h19, h20, hgj, go_sem, ht]); (refine pCall_vw (by refine ⟨⟨?_, ?_⟩, ?_, ?_⟩; rotate_left 2; (first | (right; rintro r rfl; rfl) | left); all_goals ((try simp -implicitDefEqProofs (disch := omega) only [h2, h7, h9, h11, h17, h18, h19, h20, hgj, go_sem, ht]) <;> rfl)) (hd2) ?_; rintro _ nx_27 - rfl hnx_27; simp -implicitDefEqProofs (disch := omega) only [h2, h7, h9, h11, h17, h18, h19, h20, hgj, go_sem, ht]))
              exact ⟨⟨j + 1, by omega, rfl, by rw [hst, hfj, Bool.true_and]⟩, by omega⟩
            · have hfj' : fb j = false := by simpa using hfj
              rw [hfj'] at h19
              simp -implicitDefEqProofs (disch := omega) only [go_sem, ht, h2, h7, h9, h11, h17, h18, h19, h20, hgj]
              exact ⟨⟨j + 1, by omega, rfl, by rw [hst, hfj', Bool.false_and]⟩, by omega⟩
      · have hx2 : x2 = 2 := by omega
        subst hx2
        simp -implicitDefEqProofs (disch := omega) only [go_sem, ht]
        (refine end_treeW 0 ?_; simp -implicitDefEqProofs (disch := omega) only [go_sem, ht])
    · have hx1 : x1 = 2 := by omega
      subst hx1
      simp -implicitDefEqProofs (disch := omega) only [go_sem, ht]
      (refine end_treeW 0 ?_; simp -implicitDefEqProofs (disch := omega) only [go_sem, ht])
end
end Go.Proofs.Ytfjdfnlkobeehaa
open Go.ChangeShapes Go.WideShapes Go.ChangeAt Go.RowKit
namespace Go.Proofs.Ytfjdfnlkobeehaa
end Go.Proofs.Ytfjdfnlkobeehaa
end
