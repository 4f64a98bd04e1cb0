/- Part 37 of the way to the statement: the walk and what it needs. -/
import Derived.Test.YtfjdfnlkobeehaaKRed3
import Derived.Test.YtfjdfnlkobeehaaKRed36
section
set_option linter.unusedVariables false
set_option linter.unusedSimpArgs false
namespace Go.Proofs.Ytfjdfnlkobeehaa


inductive Sp (I : Vc → Prop) : Vc → Prop
  | zero {w : Vc} : (∀ j, w j = 0) → Sp I w
  | mem {r : Vc} : I r → Sp I r
  | comb {u v w : Vc} {a b g : Int} : Sp I u → Sp I v → g ≠ 0 → (∀ j, g * w j = a * u j + b * v j) → Sp I w
theorem Sp.trans {I J : Vc → Prop} (h : ∀ r, I r → Sp J r) {u : Vc} (hu : Sp I u) : Sp J u := by
  induction hu with
  | zero h => exact .zero h
  | mem hm => exact h _ hm
  | comb _ _ hg hw ih1 ih2 => exact .comb ih1 ih2 hg hw
theorem Sp.scale {I : Vc → Prop} {u w : Vc} {a g : Int} (hu : Sp I u) (hg : g ≠ 0) (hw : ∀ j, g * w j = a * u j) : Sp I w :=
  .comb (a := a) (b := 0) hu hu hg fun j => by rw [hw j]; omega
theorem Sp.lcs {I : Vc → Prop} : ∀ (m : List Int) (rs : List Vc), (∀ r ∈ rs, I r) → Sp I (lcs m rs)
  | [], rs, _ => .zero fun j => lcs_nil _ _
  | a :: m, [], _ => .zero fun j => lcs_nil_r _ _
  | a :: m, r :: rs, h => .comb (a := a) (b := 1) (g := 1) (.mem (h r (List.mem_cons_self ..))) (Sp.lcs m rs fun x hx => h x (List.mem_cons_of_mem _ hx)) (by decide) fun j => by rw [lcs_cons]; omega
structure RE (T : List (List Int)) (Pv : List Nat) (cols : Nat) : Prop where
  len : T.length = Pv.length
  row : ∀ i, i < T.length → (T.getD i []).length = cols
  col : ∀ c ∈ Pv, c < cols
  inc : ∀ i j (hi : i < Pv.length) (hj : j < Pv.length), i < j → Pv[i] < Pv[j]
  piv : ∀ i j (hj : j < Pv.length), i < Pv.length → (vc (T.getD i []) Pv[j] ≠ 0 ↔ j = i)
  prm : ∀ i, i < T.length → Prm (T.getD i [])
  lead : ∀ i (hi : i < Pv.length), ∀ j, j < Pv[i] → vc (T.getD i []) j = 0
  pos : ∀ i (hi : i < Pv.length), 0 < vc (T.getD i []) Pv[i]


def sumI (f : Nat → Int) : Nat → Int
  | 0 => 0
  | n + 1 => sumI f n + f n
theorem sumI_congr {f g : Nat → Int} : ∀ {n : Nat}, (∀ k, k < n → f k = g k) → sumI f n = sumI g n
  | 0, _ => rfl
  | n + 1, h => by rw [sumI, sumI, sumI_congr fun k hk => h k (by omega), h n (by omega)]
theorem sumI_zero {f : Nat → Int} {n : Nat} (h : ∀ k, k < n → f k = 0) : sumI f n = 0 := by
  induction n with
  | zero => rfl
  | succ n ih => rw [sumI, ih fun k hk => h k (by omega), h n (by omega)]; rfl
theorem sumI_lin {f g : Nat → Int} {a b : Int} : ∀ n, sumI (fun k => a * f k + b * g k) n = a * sumI f n + b * sumI g n
  | 0 => by simp [sumI]
  | n + 1 => by rw [sumI, sumI, sumI, sumI_lin n]; simp only [Int.mul_add]; omega
theorem sumI_one {f : Nat → Int} {i : Nat} : ∀ {n : Nat}, i < n → (∀ k, k < n → k ≠ i → f k = 0) → sumI f n = f i
  | 0, h, _ => by omega
  | n + 1, h, hz => by
    rw [sumI]
    by_cases hi : i = n
    · subst hi
      rw [sumI_zero fun k hk => hz k (by omega) (by omega)]; omega
    · rw [sumI_one (n := n) (by omega) fun k hk hne => hz k (by omega) hne, hz n (by omega) (fun e => hi e.symm)]; omega
theorem sumI_scale {f : Nat → Int} {a : Int} (n : Nat) : sumI (fun k => a * f k) n = a * sumI f n := by
  have := sumI_lin (f := f) (g := f) (a := a) (b := 0) n
  simp only [Int.zero_mul, Int.add_zero] at this
  exact this
def rowsOf (T : List (List Int)) (r : Vc) : Prop := ∃ i, i < T.length ∧ r = vc (T.getD i [])
section
variable {T : List (List Int)} {Pv : List Nat} {cols : Nat}

theorem exists_coef {d : Nat → Int} : ∀ n, (∀ k, k < n → d k ≠ 0) → ∃ (D : Int) (e : Nat → Int), D ≠ 0 ∧ ∀ k, k < n → e k * d k = D
  | 0, _ => ⟨1, fun _ => 0, by decide, fun k hk => by omega⟩
  | n + 1, h => by
    obtain ⟨D, e, hD, he⟩ := exists_coef n fun k hk => h k (by omega)
    refine ⟨D * d n, fun k => if k = n then D else e k * d n, Int.mul_ne_zero hD (h n (by omega)), fun k hk => ?_⟩
    by_cases hkn : k = n
    · subst hkn
      show (if k = k then D else _) * d k = _
      rw [if_pos rfl]
    · simp only [if_neg hkn]
      rw [Int.mul_right_comm, he k (by omega)]

theorem RE.expand (h : RE T Pv cols) : ∃ (D : Int) (e : Nat → Int), D ≠ 0 ∧ (∀ k, k < Pv.length → e k ≠ 0) ∧ ∀ u, Sp (rowsOf T) u → ∀ j, D * u j = sumI (fun k => e k * u (Pv.getD k 0) * vc (T.getD k []) j) Pv.length := by
  have hne : ∀ k, k < Pv.length → vc (T.getD k []) (Pv.getD k 0) ≠ 0 := fun k hk => by
    have := (h.piv k k hk hk).2 rfl
    rwa [show Pv.getD k 0 = Pv[k] by simp [hk]]
  obtain ⟨D, e, hD, he⟩ := exists_coef Pv.length hne
  refine ⟨D, e, hD, fun k hk h0 => hD (by rw [← he k hk, h0, Int.zero_mul]), fun u hu => ?_⟩
  induction hu with
  | zero hz =>
    intro j
    rw [hz j, sumI_zero fun k hk => by rw [hz]; simp]
    simp
  | mem hm =>
    obtain ⟨i, hi, rfl⟩ := hm
    intro j
    have hi' : i < Pv.length := by rw [← h.len]; exact hi
    rw [sumI_one hi' fun k hk hki => ?_]
    · rw [he i hi']
    · have : vc (T.getD i []) (Pv.getD k 0) = 0 := Classical.byContradiction fun hx => by
        rw [show Pv.getD k 0 = Pv[k] by simp [hk]] at hx
        exact hki ((h.piv i k hk hi').1 hx)
      rw [this]; simp
  | comb _ _ hg hw ih1 ih2 =>
    rename_i u v w a b g s1 s2
    intro j
    have h1 := ih1 j
    have h2 := ih2 j
    have e1 : g * (D * w j) = g * sumI (fun k => e k * w (Pv.getD k 0) * vc (T.getD k []) j) Pv.length := by
      rw [← sumI_scale]
      have : sumI (fun k => g * (e k * w (Pv.getD k 0) * vc (T.getD k []) j)) Pv.length = sumI (fun k => a * (e k * u (Pv.getD k 0) * vc (T.getD k []) j) + b * (e k * v (Pv.getD k 0) * vc (T.getD k []) j)) Pv.length := sumI_congr fun k hk => by
        have hwk := hw (Pv.getD k 0)
        have : g * (e k * w (Pv.getD k 0) * vc (T.getD k []) j) = e k * (g * w (Pv.getD k 0)) * vc (T.getD k []) j := by simp only [Int.mul_left_comm, Int.mul_assoc]
        rw [this, hwk]
        simp only [Int.mul_add, Int.add_mul]
        congr 1 <;> simp only [Int.mul_left_comm, Int.mul_assoc]
      rw [this, sumI_lin, ← h1, ← h2, Int.mul_left_comm, hw j, Int.mul_add]
      congr 1 <;> exact Int.mul_left_comm _ _ _
    exact Int.eq_of_mul_eq_mul_left hg e1
theorem RE.zero (h : RE T Pv cols) {u : Vc} (hu : Sp (rowsOf T) u) (hz : ∀ c ∈ Pv, u c = 0) (j : Nat) : u j = 0 := by
  obtain ⟨D, e, hD, _, hx⟩ := h.expand
  have := hx u hu j
  rw [sumI_zero fun k hk => by rw [hz (Pv.getD k 0) (by rw [show Pv.getD k 0 = Pv[k] by simp [hk]]; exact List.getElem_mem hk)]; simp] at this
  exact (Int.mul_eq_zero.1 this).resolve_left hD

theorem RE.first (h : RE T Pv cols) {u : Vc} (hu : Sp (rowsOf T) u) {c : Nat} (hc : u c ≠ 0) (hz : ∀ j, j < c → u j = 0) : c ∈ Pv := by
  obtain ⟨D, e, hD, hek, hx⟩ := h.expand
  apply Classical.byContradiction
  intro hcp
  
  have := hx u hu c
  rw [sumI_zero fun k hk => ?_] at this
  · exact hc ((Int.mul_eq_zero.1 this).resolve_left hD)
  · have hpk : Pv.getD k 0 = Pv[k] := by simp [hk]
    have hne : Pv[k] ≠ c := fun e => hcp (e ▸ List.getElem_mem hk)
    rcases Nat.lt_or_ge Pv[k] c with h1 | h1
    · rw [hpk, hz _ h1]; simp
    · rw [h.lead k hk c (by omega)]; simp
end
theorem sorted_eq : ∀ {l m : List Nat}, (∀ i j (hi : i < l.length) (hj : j < l.length), i < j → l[i] < l[j]) → (∀ i j (hi : i < m.length) (hj : j < m.length), i < j → m[i] < m[j]) → (∀ x, x ∈ l ↔ x ∈ m) → l = m
  | [], [], _, _, _ => rfl
  | [], y :: m, _, _, h => by have := (h y).2 (List.mem_cons_self ..); simp at this
  | x :: l, [], _, _, h => by have := (h x).1 (List.mem_cons_self ..); simp at this
  | x :: l, y :: m, hl, hm, h => by
    have lx : ∀ z ∈ l, x < z := fun z hz => by
      obtain ⟨i, hi, rfl⟩ := List.mem_iff_getElem.1 hz
      have := hl 0 (i + 1) (by simp) (by simpa using hi) (by omega)
      simpa using this
    have my : ∀ z ∈ m, y < z := fun z hz => by
      obtain ⟨i, hi, rfl⟩ := List.mem_iff_getElem.1 hz
      have := hm 0 (i + 1) (by simp) (by simpa using hi) (by omega)
      simpa using this
    have exy : x = y := by
      have h1 := (h x).1 (List.mem_cons_self ..)
      have h2 := (h y).2 (List.mem_cons_self ..)
      rcases List.mem_cons.1 h1 with e | h1
      · exact e
      · rcases List.mem_cons.1 h2 with e | h2
        · exact e.symm
        · have := my x h1; have := lx y h2; omega
    subst exy
    congr 1
    refine sorted_eq (fun i j hi hj hij => ?_) (fun i j hi hj hij => ?_) fun z => ?_
    · have := hl (i + 1) (j + 1) (by simpa using hi) (by simpa using hj) (by omega)
      simpa using this
    · have := hm (i + 1) (j + 1) (by simpa using hi) (by simpa using hj) (by omega)
      simpa using this
    · constructor
      · intro hz
        rcases List.mem_cons.1 ((h z).1 (List.mem_cons_of_mem _ hz)) with e | h1
        · have := lx z hz; omega
        · exact h1
      · intro hz
        rcases List.mem_cons.1 ((h z).2 (List.mem_cons_of_mem _ hz)) with e | h1
        · have := my z hz; omega
        · exact h1

theorem prm_same {z w : List Int} {a b : Int} (hz : Prm z) (hw : Prm w) (hl : z.length = w.length) (ha : a ≠ 0) (hb : b ≠ 0) (h : ∀ j, a * vc z j = b * vc w j) : z = w ∨ z = w.map (- ·) := by
  have h1 : ∀ j, (vc z j).natAbs = (vc w j).natAbs := fun j => by
    by_cases hj : j < z.length
    · have e1 := prm_le hz ha hb h hj
      have e2 := prm_le hw hb ha (fun j => (h j).symm) (j := j) (by omega)
      omega
    · rw [vc_ge (by omega), vc_ge (by omega)]
  by_cases h0 : ∀ j, vc z j = 0
  · left
    refine List.ext_getElem hl fun i h2 h3 => ?_
    have e1 := h0 i
    have e2 := h1 i
    rw [vc_lt h2] at e1 e2
    rw [vc_lt h3] at e2
    omega
  · obtain ⟨i, hi⟩ : ∃ i, vc z i ≠ 0 := Classical.byContradiction fun hno => h0 fun j => Classical.byContradiction fun hne => hno ⟨j, hne⟩
    have hab : a = b ∨ a = -b := by
      have e1 := congrArg Int.natAbs (h i)
      rw [Int.natAbs_mul, Int.natAbs_mul, ← h1 i] at e1
      have e2 := Nat.eq_of_mul_eq_mul_right (by omega) e1
      omega
    rcases hab with rfl | rfl
    · left
      refine List.ext_getElem hl fun i h2 h3 => ?_
      have := Int.eq_of_mul_eq_mul_left ha (h i)
      rwa [vc_lt h2, vc_lt h3] at this
    · right
      refine List.ext_getElem (by simpa using hl) fun i h2 h3 => ?_
      have e1 := h i
      rw [Int.neg_mul, ← Int.mul_neg] at e1
      have := Int.eq_of_mul_eq_mul_left hb e1
      rw [vc_lt h2, vc_lt (by omega)] at this
      simp only [List.getElem_map]
      omega
theorem RE.uniq {T T' : List (List Int)} {Pv Pv' : List Nat} {cols : Nat} (h : RE T Pv cols) (h' : RE T' Pv' cols) (hs : ∀ r, rowsOf T r → Sp (rowsOf T') r) (hs' : ∀ r, rowsOf T' r → Sp (rowsOf T) r) : T = T' ∧ Pv = Pv' := by
  have key : ∀ {T T' : List (List Int)} {Pv Pv' : List Nat}, RE T Pv cols → RE T' Pv' cols → (∀ r, rowsOf T r → Sp (rowsOf T') r) → ∀ x ∈ Pv, x ∈ Pv' := by
    intro T T' Pv Pv' h h' hs x hx
    obtain ⟨i, hi, rfl⟩ := List.mem_iff_getElem.1 hx
    refine h'.first (hs _ ⟨i, by rw [h.len]; exact hi, rfl⟩) ?_ (h.lead i hi)
    exact (h.piv i i hi hi).2 rfl
  have hp : Pv = Pv' := sorted_eq h.inc h'.inc fun x => ⟨key h h' hs x, key h' h hs' x⟩
  subst hp
  refine ⟨?_, rfl⟩
  have hll : T.length = T'.length := by rw [h.len, h'.len]
  refine List.ext_getElem hll fun i h1 h2 => ?_
  have e1 : T.getD i [] = T[i] := by simp [h1]
  have e2 : T'.getD i [] = T'[i] := by simp [h2]
  have hi : i < Pv.length := by rw [← h.len]; exact h1
  have p1 := h.pos i hi
  have p2 := h'.pos i hi
  have hline : ∀ j, vc (T'.getD i []) Pv[i] * vc (T.getD i []) j = vc (T.getD i []) Pv[i] * vc (T'.getD i []) j := fun j => by
    have hsp : Sp (rowsOf T) (fun j => vc (T'.getD i []) Pv[i] * vc (T.getD i []) j - vc (T.getD i []) Pv[i] * vc (T'.getD i []) j) :=
      .comb (a := vc (T'.getD i []) Pv[i]) (b := -vc (T.getD i []) Pv[i]) (g := 1) (.mem ⟨i, h1, rfl⟩) (hs' _ ⟨i, h2, rfl⟩) (by decide) fun j => by rw [Int.neg_mul]; omega
    have := h.zero hsp (fun c hc => by
      obtain ⟨k, hk, rfl⟩ := List.mem_iff_getElem.1 hc
      by_cases hki : k = i
      · subst hki
        rw [Int.mul_comm]; omega
      · have z1 : vc (T.getD i []) Pv[k] = 0 := Classical.byContradiction fun hx => hki ((h.piv i k hk hi).1 hx)
        have z2 : vc (T'.getD i []) Pv[k] = 0 := Classical.byContradiction fun hx => hki ((h'.piv i k hk hi).1 hx)
        rw [z1, z2]; simp) j
    omega
  rw [← e1, ← e2]
  rcases prm_same (h.prm i h1) (h'.prm i h2) (by rw [h.row i h1, h'.row i h2]) (by omega) (by omega) hline with e | e
  · exact e
  · rw [e, neg_vc] at p1
    omega
end Go.Proofs.Ytfjdfnlkobeehaa
end

section
set_option linter.unusedVariables false
set_option linter.unusedSimpArgs false
namespace Go.Proofs.Ytfjdfnlkobeehaa


theorem step_cases {s : List (List Int) × List Nat} {n c : Nat} (hn : s.1.length = n) :
    (stepE c s = s ∧ ∀ i, s.2.length ≤ i → i < n → vc (s.1.getD i []) c = 0) ∨
    ∃ i, s.2.length ≤ i ∧ i < n ∧ vc (s.1.getD i []) c ≠ 0 ∧ (stepE c s).2 = s.2 ++ [c] ∧ (stepE c s).1.length = n ∧
      ∀ k, k < n → (stepE c s).1.getD k [] = if k = s.2.length then s.1.getD i [] else clearZ (s.1.getD (swp i s.2.length k) []) (s.1.getD i []) c := by
  unfold stepE
  by_cases hf : findP s.1 c s.2.length < s.1.length
  · right
    obtain ⟨hge, hne⟩ := findP_spec hf
    refine ⟨findP s.1 c s.2.length, hge, by omega, hne, by rw [if_pos hf], by rw [if_pos hf]; simp only [clearAll_len, swapL_len]; exact hn, fun k hk => ?_⟩
    rw [if_pos hf]
    have htn : s.2.length < n := by omega
    simp only
    rw [clearAll_get (by rw [swapL_len]; omega), swapL_get (by omega) hf (by omega), swapL_get (by omega) hf (by omega), swp_t]
    by_cases hkt : k = s.2.length
    · rw [if_pos hkt, if_pos hkt, hkt, swp_t]
    · rw [if_neg hkt, if_neg hkt]
  · left
    refine ⟨by rw [if_neg hf], fun i hi hin => ?_⟩
    have := findP_le (W := s.1) (c := c) (r := s.2.length)
    exact findP_none (by omega) i hi (by omega)
theorem swp_swp {i t k : Nat} : swp i t (swp i t k) = k := by
  unfold swp
  by_cases h1 : k = i
  · subst h1
    rw [if_pos rfl]
    by_cases h2 : t = k
    · rw [if_pos h2]; exact h2
    · rw [if_neg h2, if_pos rfl]
  · rw [if_neg h1]
    by_cases h2 : k = t
    · subst h2; rw [if_pos rfl, if_pos rfl]
    · rw [if_neg h2, if_neg h1, if_neg h2]

structure EW (rows : List (List Int)) (n cols c : Nat) (s : List (List Int) × List Nat) : Prop where
  len : s.1.length = n
  row : ∀ k, k < n → (s.1.getD k []).length = cols
  tle : s.2.length ≤ n
  sub : ∀ k, k < n → Sp (rowsOf rows) (vc (s.1.getD k []))
  sup : ∀ k, k < n → Sp (rowsOf s.1) (vc (rows.getD k []))
  low : ∀ k, s.2.length ≤ k → k < n → ∀ j, j < c → vc (s.1.getD k []) j = 0
  lead : ∀ k (hk : k < s.2.length), s.2[k] < c ∧ ∀ j, j < s.2[k] → vc (s.1.getD k []) j = 0
theorem EW.start {rows : List (List Int)} {cols : Nat} (hc : ∀ z ∈ rows, z.length = cols) : EW rows rows.length cols 0 (rows.map primZ, []) := by
  have hg : ∀ k, k < rows.length → (rows.map primZ).getD k [] = primZ (rows.getD k []) := fun k hk => by simp [List.getD_eq_getElem?_getD, hk]
  refine ⟨by simp, fun k hk => ?_, by simp, fun k hk => ?_, fun k hk => ?_, fun k _ _ j hj => by omega, fun k hk => by simp at hk⟩
  · simp only [hg k hk]
    rw [primZ_len]; exact hc _ (getD_mem hk)
  · simp only [hg k hk]
    by_cases h0 : gcdL (rows.getD k []) = 0
    · refine .zero fun j => ?_
      by_cases hj : j < (primZ (rows.getD k [])).length
      · have hj' := hj
        rw [primZ_len] at hj'
        rw [vc_lt hj]
        simp only [primZ, List.getElem_map]
        rw [gcdL_zero.1 h0 _ (List.getElem_mem hj')]; simp
      · rw [vc_ge (by omega)]
    · exact (Sp.mem ⟨k, hk, rfl⟩).scale (g := (gcdL (rows.getD k []) : Nat)) (a := 1) (by omega) fun j => by rw [primZ_vc]; omega
  · have hm : rowsOf (rows.map primZ) (vc (primZ (rows.getD k []))) := ⟨k, by simpa using hk, by rw [hg k hk]⟩
    exact (Sp.mem hm).scale (g := 1) (a := (gcdL (rows.getD k []) : Nat)) (by decide) fun j => by rw [primZ_vc]; omega
theorem EW.step {rows : List (List Int)} {n cols c : Nat} {s : List (List Int) × List Nat} (h : EW rows n cols c s) : EW rows n cols (c + 1) (stepE c s) := by
  rcases step_cases (c := c) h.len with ⟨e, hz⟩ | ⟨i, hi, hin, hne, eP, hl, hg⟩
  · rw [e]
    refine ⟨h.len, h.row, h.tle, h.sub, h.sup, fun k hk hkn j hj => ?_, fun k hk => ?_⟩
    · by_cases hjc : j = c
      · subst hjc; exact hz k hk hkn
      · exact h.low k hk hkn j (by omega)
    · have := h.lead k hk
      exact ⟨by omega, this.2⟩
  · have htn : s.2.length < n := by omega
    have hPl : (stepE c s).2.length = s.2.length + 1 := by rw [eP]; simp
    have hcl : ∀ k, k < n → k ≠ s.2.length → ∃ a b g : Int, a ≠ 0 ∧ g ≠ 0 ∧ (∀ j, g * vc ((stepE c s).1.getD k []) j = a * vc (s.1.getD (swp i s.2.length k) []) j - b * vc (s.1.getD i []) j) ∧ vc ((stepE c s).1.getD k []) c = 0 := fun k hk hkt => by
      rw [hg k hk, if_neg hkt]
      exact clearZ_line (by rw [h.row _ (swp_bd hin htn hk), h.row i hin]) hne
    have hgt : (stepE c s).1.getD s.2.length [] = s.1.getD i [] := by rw [hg _ htn, if_pos rfl]
    refine ⟨hl, fun k hk => ?_, by omega, fun k hk => ?_, fun k hk => ?_, fun k hk hkn j hj => ?_, fun k hk => ?_⟩
    · rw [hg k hk]
      split
      · exact h.row i hin
      · rw [clearZ_len (by rw [h.row _ (swp_bd hin htn hk), h.row i hin])]; exact h.row _ (swp_bd hin htn hk)
    · by_cases hkt : k = s.2.length
      · subst hkt; rw [hgt]; exact h.sub i hin
      · obtain ⟨a, b, g, _, hg0, hv, _⟩ := hcl k hk hkt
        exact .comb (a := a) (b := -b) (h.sub _ (swp_bd hin htn hk)) (h.sub i hin) hg0 fun j => by rw [hv j, Int.neg_mul]; omega
    · refine Sp.trans ?_ (h.sup k hk)
      rintro r ⟨p, hp, rfl⟩
      rw [h.len] at hp
      have hmt : rowsOf (stepE c s).1 (vc (s.1.getD i [])) := ⟨s.2.length, by omega, by rw [hgt]⟩
      by_cases hpt : swp i s.2.length p = s.2.length
      · have : p = i := by
          have := congrArg (swp i s.2.length) hpt
          rwa [swp_swp, swp_t] at this
        rw [this]; exact .mem hmt
      · obtain ⟨a, b, g, ha, _, hv, _⟩ := hcl _ (swp_bd hin htn hp) hpt
        simp only [swp_swp] at hv
        exact .comb (a := g) (b := b) (.mem ⟨_, by rw [hl]; exact swp_bd hin htn hp, rfl⟩) (.mem hmt) ha fun j => by have := hv j; omega
    · rw [hPl] at hk
      obtain ⟨a, b, g, _, hg0, hv, hvc⟩ := hcl k hkn (by omega)
      by_cases hjc : j = c
      · subst hjc; exact hvc
      · have h1 := hv j
        rw [h.low _ (swp_ge hi (by omega)) (swp_bd hin htn hkn) j (by omega), h.low i hi hin j (by omega), Int.mul_zero, Int.mul_zero] at h1
        exact (Int.mul_eq_zero.1 h1).resolve_left hg0
    · have hk' := hk
      rw [hPl] at hk'
      by_cases hkt : k < s.2.length
      · obtain ⟨a, b, g, _, hg0, hv, _⟩ := hcl k (by omega) (by omega)
        obtain ⟨h1, h2⟩ := h.lead k hkt
        have e : (stepE c s).2[k] = s.2[k] := by simp only [eP]; exact List.getElem_append_left hkt
        rw [e]
        refine ⟨by omega, fun j hj => ?_⟩
        have h3 := hv j
        rw [swp_lt hi hkt, h2 j hj, h.low i hi hin j (by omega), Int.mul_zero, Int.mul_zero] at h3
        exact (Int.mul_eq_zero.1 h3).resolve_left hg0
      · have hkeq : k = s.2.length := by omega
        have e : (stepE c s).2[k] = c := by simp only [eP]; rw [List.getElem_append_right (by omega)]; simp
        rw [e]
        refine ⟨by omega, fun j hj => ?_⟩
        rw [hkeq, hgt]
        exact h.low i hi hin j hj
theorem EW.all {rows : List (List Int)} {cols : Nat} (hc : ∀ z ∈ rows, z.length = cols) : ∀ c, EW rows rows.length cols c (echW rows c)
  | 0 => .start hc
  | c + 1 => (EW.all hc c).step
theorem sgF_zero {t : Int} (ht : t ≠ 0) : ∀ zs : List Int, sgF t zs = t
  | [] => rfl
  | z :: zs => by
    show sgF (if t = 0 then cZ z 0 else t) zs = t
    rw [if_neg ht]; exact sgF_zero ht zs

theorem sgF_lead : ∀ (z : List Int) (c : Nat), (∀ j, j < c → vc z j = 0) → vc z c ≠ 0 → sgF 0 z = cZ (vc z c) 0
  | [], c, _, h => absurd (vc_ge (by simp)) h
  | x :: z, 0, _, h => by
    have e : vc (x :: z) 0 = x := rfl
    rw [e] at h ⊢
    show sgF (if (0 : Int) = 0 then cZ x 0 else 0) z = _
    rw [if_pos rfl]
    exact sgF_zero (by unfold cZ; split <;> (try split) <;> omega) z
  | x :: z, c + 1, h0, h => by
    have e0 := h0 0 (by omega)
    have e : vc (x :: z) 0 = x := rfl
    rw [e] at e0
    subst e0
    show sgF (if (0 : Int) = 0 then cZ 0 0 else 0) z = _
    rw [if_pos rfl, cZ_eq rfl]
    exact sgF_lead z c (fun j hj => h0 (j + 1) (by omega)) h
theorem upZ_pos {z : List Int} {c : Nat} (h : ∀ j, j < c → vc z j = 0) (hc : vc z c ≠ 0) : 0 < vc (upZ z) c := by
  have hs := sgF_lead z c h hc
  unfold upZ
  by_cases hneg : vc z c < 0
  · rw [hs, cZ_lt hneg, if_pos (by decide), neg_vc]; omega
  · rw [hs, cZ_gt (by omega), if_neg (by decide)]; omega

theorem echT_RE {m : List (List (Bool × List Nat))} {cols B : Nat} (h : Mx m B) (hc : ∀ l ∈ m, l.length = cols) :
    RE (echT (m.map vals) cols) (echW (m.map vals) cols).2 cols ∧ (∀ r, rowsOf (echT (m.map vals) cols) r → Sp (rowsOf (m.map vals)) r) ∧ (∀ r, rowsOf (m.map vals) r → Sp (rowsOf (echT (m.map vals) cols)) r) := by
  have hR := h.rr hc
  have hW := EW.all (rows := m.map vals) (cols := cols) (fun z hz => by
    obtain ⟨l, hl, rfl⟩ := List.mem_map.1 hz
    rw [vals_len]; exact hc l hl) cols
  rw [List.length_map] at hW
  have hle : (echW (m.map vals) cols).2.length ≤ (echW (m.map vals) cols).1.length := by rw [hW.len]; exact hW.tle
  have hget : ∀ i, i < (echW (m.map vals) cols).2.length → (echT (m.map vals) cols).getD i [] = upZ ((echW (m.map vals) cols).1.getD i []) := fun i hi => echT_get hi hle
  have hup : ∀ z : List Int, Sp (fun r => r = vc z) (vc (upZ z)) ∧ Sp (fun r => r = vc (upZ z)) (vc z) := fun z => by
    rcases upZ_cases z with e | e
    · rw [e]; exact ⟨.mem rfl, .mem rfl⟩
    · rw [e]
      exact ⟨(Sp.mem (I := fun r => r = vc z) (r := vc z) rfl).scale (g := 1) (a := -1) (by decide) fun j => by rw [neg_vc]; omega, (Sp.mem (I := fun r => r = vc (z.map (- ·))) (r := vc (z.map (- ·))) rfl).scale (g := 1) (a := -1) (by decide) fun j => by rw [neg_vc]; omega⟩
  refine ⟨⟨hR.len, fun i hi => (hR.row i hi).1, hR.col, hR.inc, hR.piv, hR.prm, fun i hi j hj => ?_, fun i hi => ?_⟩, ?_, ?_⟩
  · rw [hget i hi]
    have := (hW.lead i hi).2 j hj
    rcases upZ_cases ((echW (m.map vals) cols).1.getD i []) with e | e
    · rw [e]; exact this
    · rw [e, neg_vc, this]; rfl
  · rw [hget i hi]
    refine upZ_pos (hW.lead i hi).2 ?_
    have := (hR.piv i i hi hi).2 rfl
    rw [hget i hi] at this
    rcases upZ_cases ((echW (m.map vals) cols).1.getD i []) with e | e
    · rwa [e] at this
    · rw [e, neg_vc] at this; omega
  · rintro r ⟨i, hi, rfl⟩
    rw [hR.len] at hi
    rw [hget i hi]
    exact Sp.trans (fun r hr => by rw [hr]; exact hW.sub i (by have := hW.tle; omega)) (hup _).1
  · rintro r ⟨i, hi, rfl⟩
    refine Sp.trans ?_ (hW.sup i (by simpa using hi))
    rintro r ⟨k, hk, rfl⟩
    by_cases hkt : k < (echW (m.map vals) cols).2.length
    · refine Sp.trans (fun r hr => ?_) (hup _).2
      rw [hr, ← hget k hkt]
      exact .mem ⟨k, by rw [hR.len]; exact hkt, rfl⟩
    · have hkn : k < m.length := by rw [hW.len] at hk; exact hk
      refine .zero fun j => ?_
      by_cases hj : j < cols
      · exact hW.low k (by omega) hkn j hj
      · exact vc_ge (by rw [hW.row k hkn]; omega)

end Go.Proofs.Ytfjdfnlkobeehaa
end

section
set_option maxRecDepth 100000
set_option linter.unusedVariables false
set_option linter.unusedSimpArgs false
namespace Go.Proofs.Ytfjdfnlkobeehaa

theorem combZ_z {a b : Int} {i j : Nat} : ∀ {z p : List Int}, Z j a → Z i b → (∀ x ∈ z, Z i x) → (∀ x ∈ p, Z j x) → ∀ x ∈ combZ a b z p, Z (i + j + 1) x
  | [], _, _, _, _, _ => fun x hx => by simp [combZ] at hx
  | _ :: _, [], _, _, _, _ => fun x hx => by simp [combZ] at hx
  | z :: zs, p :: ps, ha, hb, hz, hp => fun x hx => by
    have e : combZ a b (z :: zs) (p :: ps) = (a * z - b * p) :: combZ a b zs ps := rfl
    rw [e] at hx
    rcases List.mem_cons.1 hx with rfl | hx
    · have h1 := ha.mul (hz z (List.mem_cons_self ..))
      rw [Nat.add_comm] at h1
      exact h1.sub (hb.mul (hp p (List.mem_cons_self ..)))
    · exact combZ_z ha hb (fun y hy => hz y (List.mem_cons_of_mem _ hy)) (fun y hy => hp y (List.mem_cons_of_mem _ hy)) x hx
theorem vc_z {z : List Int} {k : Nat} (h : ∀ x ∈ z, Z k x) (j : Nat) : Z k (vc z j) := by
  by_cases hj : j < z.length
  · rw [vc_lt hj]; exact h _ (List.getElem_mem hj)
  · rw [vc_ge (by omega)]; exact Z.zero k
def insW (T : List (List Int)) (Pv : List Nat) (v : List Int) : Nat → List Int
  | 0 => v
  | k + 1 => clearZ (insW T Pv v k) (T.getD k []) (Pv.getD k 0)
def insB (T : List (List Int)) (Pv : List Nat) (v : List Int) : Bool := zeroB (insW T Pv v Pv.length)
section
variable {e : List (List (Bool × List Nat))} {Pv : List Nat} {v : List (Bool × List Nat)} {cols j k : Nat}
theorem getD_vals {i : Nat} (h : i < e.length) : (e.map vals).getD i [] = vals (e.getD i []) := by simp [h]
end
end Go.Proofs.Ytfjdfnlkobeehaa

namespace Go.Proofs.Ytfjdfnlkobeehaa


def lcP (T : List (List Int)) (Pv : List Nat) : Nat → Int
  | 0 => 1
  | i + 1 => lcP T Pv i * (vc (T.getD i []) (Pv.getD i 0) / (Int.gcd (lcP T Pv i) (vc (T.getD i []) (Pv.getD i 0)) : Nat))

end Go.Proofs.Ytfjdfnlkobeehaa

namespace Go.Proofs.Ytfjdfnlkobeehaa


theorem map_vals_CZ (W : List (List Int)) : (W.map CZ).map vals = W := by
  rw [List.map_map]
  conv => rhs; rw [← List.map_id W]
  exact List.map_congr_left fun z _ => vals_CZ z
end Go.Proofs.Ytfjdfnlkobeehaa

namespace Go.Proofs.Ytfjdfnlkobeehaa

theorem sub_len : ∀ {l m : List Nat}, l.Nodup → (∀ x ∈ l, x ∈ m) → l.length ≤ m.length
  | [], _, _, _ => Nat.zero_le _
  | x :: l, m, hn, hs => by
    rw [List.nodup_cons] at hn
    have hx := hs x (List.mem_cons_self ..)
    have h1 := sub_len (l := l) (m := m.erase x) hn.2 fun y hy => (List.mem_erase_of_ne (by rintro rfl; exact hn.1 hy)).2 (hs y (List.mem_cons_of_mem _ hy))
    rw [List.length_erase_of_mem hx] at h1
    have := List.length_pos_of_mem hx
    simp only [List.length_cons]
    omega
theorem sub_eq {l m : List Nat} (hn : l.Nodup) (hs : ∀ x ∈ l, x ∈ m) (hl : l.length = m.length) : ∀ y ∈ m, y ∈ l := by
  intro y hy
  apply Classical.byContradiction
  intro hno
  have h1 := sub_len (l := l) (m := m.erase y) hn fun x hx => (List.mem_erase_of_ne (by rintro rfl; exact hno hx)).2 (hs x hx)
  rw [List.length_erase_of_mem hy] at h1
  have := List.length_pos_of_mem hy
  omega
theorem inc_nodup {l : List Nat} (h : ∀ i j (hi : i < l.length) (hj : j < l.length), i < j → l[i] < l[j]) : l.Nodup := by
  rw [List.Nodup, List.pairwise_iff_getElem]
  intro i j hi hj hij e
  have := h i j hi hj hij
  omega
section
variable {T T' : List (List Int)} {Pv Pv' : List Nat} {cols : Nat}
theorem RE.all (h : RE T Pv cols) (h' : RE T' Pv' cols) (hs : ∀ r, rowsOf T r → Sp (rowsOf T') r) (hl : Pv'.length ≤ Pv.length) : ∀ c ∈ Pv', c ∈ Pv := by
  have h1 : ∀ c ∈ Pv, c ∈ Pv' := by
    intro c hc
    obtain ⟨i, hi, rfl⟩ := List.mem_iff_getElem.1 hc
    refine h'.first (hs _ ⟨i, by rw [h.len]; exact hi, rfl⟩) ?_ (h.lead i hi)
    have := h.pos i hi
    omega
  have h2 := sub_len (inc_nodup h.inc) h1
  exact sub_eq (inc_nodup h.inc) h1 (by omega)

end
end Go.Proofs.Ytfjdfnlkobeehaa

namespace Go.Proofs.Ytfjdfnlkobeehaa

structure EP (rows : List (List Int)) (n cols : Nat) (s : List (List Int) × List Nat) : Prop where
  len : s.1.length = n
  row : ∀ k, k < n → (s.1.getD k []).length = cols
  st : ∃ (O : Nat → Vc) (σ : Nat → Nat), EI (fun k => vc (s.1.getD k [])) O n s.2 ∧ (∀ k, k < n → σ k < n ∧ O k = vc (rows.getD (σ k) [])) ∧ ∀ a b, a < n → b < n → σ a = σ b → a = b
theorem EP.start {rows : List (List Int)} {cols : Nat} (hc : ∀ z ∈ rows, z.length = cols) : EP rows rows.length cols (rows.map primZ, []) := by
  have h0 := EZ.start (β := 2) (B := sz (fun k => ((rows.map fun z => (z.map Int.natAbs).sum).sum)) rows.length) (rows := rows) (κ := fun k => ((rows.map fun z => (z.map Int.natAbs).sum).sum)) hc (fun k hk x hx => by
    have h1 : ∀ (l : List Nat) (a : Nat), a ∈ l → a ≤ l.sum := fun l a ha => by
      induction l with
      | nil => simp at ha
      | cons b l ih =>
        rw [List.sum_cons]
        rcases List.mem_cons.1 ha with rfl | ha
        · omega
        · have := ih ha; omega
    have h2 := h1 _ _ (List.mem_map_of_mem (f := Int.natAbs) hx)
    have h3 := h1 _ _ (List.mem_map_of_mem (f := fun z => (z.map Int.natAbs).sum) (getD_mem (d := []) hk))
    have h4 := Nat.lt_two_pow_self (n := (rows.map fun z => (z.map Int.natAbs).sum).sum)
    omega) (Nat.le_refl _)
  have hg : ∀ k, k < rows.length → (rows.map primZ).getD k [] = primZ (rows.getD k []) := fun k hk => by simp [List.getD_eq_getElem?_getD, hk]
  refine ⟨h0.len, fun k hk => (h0.row k hk).1, fun k => vc (rows.getD k []), fun k => k, EI.start fun k hk => ?_, fun k hk => ⟨hk, rfl⟩, fun a b _ _ h => h⟩
  simp only [hg k hk]
  by_cases h0 : gcdL (rows.getD k []) = 0
  · refine ⟨1, by decide, fun j => ?_⟩
    have h2 := gcdL_zero.1 h0
    have h1 := primZ_vc (rows.getD k []) j
    rw [h0] at h1
    rw [← h1]
    by_cases hj : j < (primZ (rows.getD k [])).length
    · have hj' := hj
      rw [primZ_len] at hj'
      rw [vc_lt hj]
      simp only [primZ, List.getElem_map]
      rw [h2 _ (List.getElem_mem hj')]; simp
    · rw [vc_ge (by omega)]; simp
  · exact ⟨(gcdL (rows.getD k []) : Nat), by omega, fun j => primZ_vc _ j⟩
theorem EP.step {rows : List (List Int)} {n cols c : Nat} {s : List (List Int) × List Nat} (h : EP rows n cols s) : EP rows n cols (stepE c s) := by
  obtain ⟨O, σ, hE, hO, hinj⟩ := h.st
  rcases step_cases (c := c) h.len with ⟨e, hz⟩ | ⟨i, hi, hin, hne, eP, hl, hg⟩
  · rw [e]; exact h
  · have htn : s.2.length < n := by omega
    have hS := hE.swap hi hin
    refine ⟨hl, fun k hk => ?_, fun k => O (swp i s.2.length k), fun k => σ (swp i s.2.length k), ?_, fun k hk => hO _ (swp_bd hin htn hk), fun a b ha hb hab => ?_⟩
    · rw [hg k hk]
      split
      · exact h.row i hin
      · rw [clearZ_len (by rw [h.row _ (swp_bd hin htn hk), h.row i hin])]; exact h.row _ (swp_bd hin htn hk)
    · rw [eP]
      refine EI.clear hS htn (c := c) ?_ ?_ ?_
      · simp only [swp_t]; exact hne
      · simp only [hg _ htn, if_pos, swp_t]
      · intro k hk hkt
        simp only [hg k hk, if_neg hkt, swp_t]
        exact clearZ_line (by rw [h.row _ (swp_bd hin htn hk), h.row i hin]) hne
    · have := hinj _ _ (swp_bd hin htn ha) (swp_bd hin htn hb) hab
      have := congrArg (swp i s.2.length) this
      rwa [swp_swp, swp_swp] at this
theorem EP.all {rows : List (List Int)} {cols : Nat} (hc : ∀ z ∈ rows, z.length = cols) : ∀ c, EP rows rows.length cols (echW rows c)
  | 0 => .start hc
  | c + 1 => (EP.all hc c).step

end Go.Proofs.Ytfjdfnlkobeehaa

namespace Go.Proofs.Ytfjdfnlkobeehaa

end Go.Proofs.Ytfjdfnlkobeehaa

namespace Go.Proofs.Ytfjdfnlkobeehaa


structure KZ (m : List (List (Bool × List Nat))) (cols κ : Nat) : Prop where
  L : ∀ n, n ≤ (echW (m.map vals) cols).2.length → Z κ (lcP (echT (m.map vals) cols) (echW (m.map vals) cols).2 n)
  E : ∀ f i, i < (echW (m.map vals) cols).2.length → Z κ (lcP (echT (m.map vals) cols) (echW (m.map vals) cols).2 (echW (m.map vals) cols).2.length / vc ((echT (m.map vals) cols).getD i []) ((echW (m.map vals) cols).2.getD i 0) * vc ((echT (m.map vals) cols).getD i []) f)
theorem Mx.tle {m : List (List (Bool × List Nat))} {cols B : Nat} (h : Mx m B) (hc : ∀ l ∈ m, l.length = cols) : (echW (m.map vals) cols).2.length ≤ m.length := by
  obtain ⟨O, κ, hI, _⟩ := ((h.ez hc).1 cols).st
  exact hI.tle
end Go.Proofs.Ytfjdfnlkobeehaa

namespace Go.Proofs.Ytfjdfnlkobeehaa

end Go.Proofs.Ytfjdfnlkobeehaa

namespace Go.Proofs.Ytfjdfnlkobeehaa

section
variable {m : List (List (Bool × List Nat))} {T : List (List Int)} {Pv : List Nat} {cols B κ : Nat}

theorem RE.own (h : RE T Pv cols) (hM : Mx (T.map CZ) B) : echT T cols = T ∧ (echW T cols).2 = Pv := by
  have hc : ∀ l ∈ T.map CZ, l.length = cols := fun l hl => by
    obtain ⟨z, hz, rfl⟩ := List.mem_map.1 hl
    rw [CZ_len]
    obtain ⟨i, hi, rfl⟩ := mem_getD (d := []) hz
    exact h.row i hi
  obtain ⟨a1, a2, a3⟩ := echT_RE hM hc
  rw [map_vals_CZ] at a1 a2 a3
  exact a1.uniq h a2 a3
theorem RE.mx (h : RE T Pv cols) (hcols : cols ≤ 32) (hz : ∀ z ∈ T, ∀ x ∈ z, Z 32 x) : Mx (T.map CZ) 40000 ∧ (∀ l ∈ T.map CZ, l.length = cols) ∧ T.length ≤ 32 := by
  have hl : T.length ≤ 32 := by
    have h1 := sub_len (l := Pv) (m := List.range cols) (inc_nodup h.inc) fun x hx => List.mem_range.2 (h.col x hx)
    rw [List.length_range] at h1
    have := h.len
    omega
  have hr : ∀ z ∈ T, z.length = cols := fun z hz => by
    obtain ⟨i, hi, rfl⟩ := mem_getD (d := []) hz
    exact h.row i hi
  refine ⟨.C (k := 32) (cols := cols) (fun z hzm => ⟨by rw [hr z hzm]; omega, hz z hzm⟩) ?_ (by omega), fun l hl => ?_, hl⟩
  · have h1 : cols * (32 + 1) ≤ 32 * 33 := Nat.mul_le_mul_right _ hcols
    have h2 : T.length * (1 + cols * (32 + 1)) ≤ 32 * (1 + 32 * 33) := Nat.mul_le_mul hl (by omega)
    omega
  · obtain ⟨z, hz, rfl⟩ := List.mem_map.1 hl
    rw [CZ_len]; exact hr z hz

end
end Go.Proofs.Ytfjdfnlkobeehaa
end

section
set_option linter.unusedVariables false
set_option linter.unusedSimpArgs false
namespace Go.Proofs.Ytfjdfnlkobeehaa


def rw0 (W : List (List Int)) : Nat → Vc := fun i => vc (W.getD i [])

def detZ (W : List (List Int)) (n : Nat) : Int := dt (List.range n) ((List.range n).map (rw0 W))
theorem dt_set {cs : List Nat} {l : List Vc} {c p : Nat} (hcp : c < p) (hp : p < l.length) : dt cs ((l.set c (l[p])).set p (l[c]'(by omega))) = -dt cs l := by
  obtain ⟨pre, r, e1, e2⟩ : ∃ pre r, l = pre ++ r ∧ pre.length = c := ⟨l.take c, l.drop c, (List.take_append_drop c l).symm, by simp; omega⟩
  cases r with
  | nil => rw [e1, List.append_nil] at hp; omega
  | cons x r =>
    obtain ⟨mid, s, e3, e4⟩ : ∃ mid s, r = mid ++ s ∧ mid.length = p - c - 1 := ⟨r.take (p - c - 1), r.drop (p - c - 1), (List.take_append_drop _ r).symm, by
      rw [e1] at hp; simp at hp; simp; omega⟩
    cases s with
    | nil => rw [e1, e3, List.append_nil] at hp; simp at hp; omega
    | cons y post =>
      subst e3
      subst e1
      have h1 : (pre ++ x :: (mid ++ y :: post))[c]'(by simp; omega) = x := by
        rw [List.getElem_append_right (by omega)]; simp [e2]
      have h2 : (pre ++ x :: (mid ++ y :: post))[p] = y := by
        rw [List.getElem_append_right (by omega)]
        simp only [e2]
        obtain ⟨d, hd⟩ : ∃ d, p - c = d + 1 := ⟨p - c - 1, by omega⟩
        have e5 : mid.length = d := by omega
        simp only [hd, List.getElem_cons_succ]
        rw [List.getElem_append_right (by omega)]
        simp [e5]
      rw [h1, h2, List.set_append_right _ _ (by omega), e2, Nat.sub_self, List.set_cons_zero, List.set_append_right _ _ (by omega), e2]
      obtain ⟨d, hd⟩ : ∃ d, p - c = d + 1 := ⟨p - c - 1, by omega⟩
      have e5 : mid.length = d := by omega
      rw [hd, List.set_cons_succ, List.set_append_right _ _ (by omega), e5, Nat.sub_self, List.set_cons_zero]
      have := dt_exch cs pre mid post y x
      rw [this]
theorem dt_swp {cs : List Nat} {O : Nat → Vc} {n c p : Nat} (hcp : c ≤ p) (hp : p < n) : dt cs ((List.range n).map fun k => O (swp p c k)) = (if p = c then 1 else -1) * dt cs ((List.range n).map O) := by
  by_cases h : p = c
  · subst h
    rw [if_pos rfl, Int.one_mul]
    have : (fun k => O (swp p p k)) = O := funext fun k => by
      unfold swp
      by_cases hk : k = p
      · rw [if_pos hk, hk]
      · rw [if_neg hk, if_neg hk]
    rw [this]
  · rw [if_neg h]
    have hl : ((List.range n).map O).length = n := by simp
    have := dt_set (cs := cs) (l := (List.range n).map O) (c := c) (p := p) (by omega) (by omega)
    rw [show -1 * dt cs ((List.range n).map O) = -dt cs ((List.range n).map O) by omega, ← this]
    congr 1
    refine List.ext_getElem (by simp) fun k h1 h2 => ?_
    simp only [List.getElem_map, List.getElem_range, List.getElem_set]
    unfold swp
    by_cases hkp : k = p
    · subst hkp
      simp
    · have hpk : ¬ p = k := fun e => hkp e.symm
      by_cases hkc : k = c
      · subst hkc
        simp [hkp, hpk]
      · have hck : ¬ c = k := fun e => hkc e.symm
        simp [hkp, hpk, hkc, hck]

def brow (last : Int) (c : Nat) (p z : List Int) : List Int := z.mapIdx fun k x => if k ≤ c then x else (x * vc p c - vc z c * vc p k) / last
def bstep (last : Int) (c : Nat) (W : List (List Int)) : List (List Int) := W.mapIdx fun i z => if i ≤ c then z else brow last c (W.getD c []) z
def barW (W0 : List (List Int)) : Nat → Option (List (List Int) × Int × Bool)
  | 0 => some (W0, 1, false)
  | c + 1 => match barW W0 c with
    | none => none
    | some (W, last, t) => if findP W c c < W.length then some (bstep last c (swapL W c (findP W c c)), vc ((swapL W c (findP W c c)).getD c []) c, xor t (decide (findP W c c ≠ c))) else none
def barD (W0 : List (List Int)) (n : Nat) : Int := match barW W0 n with
  | none => 0
  | some (_, last, t) => if t then -last else last
theorem brow_len (last : Int) (c : Nat) (p z : List Int) : (brow last c p z).length = z.length := by simp [brow]
theorem bstep_len (last : Int) (c : Nat) (W : List (List Int)) : (bstep last c W).length = W.length := by simp [bstep]
theorem brow_vc {last : Int} {c : Nat} {p z : List Int} {k : Nat} (h : k < z.length) : vc (brow last c p z) k = if k ≤ c then vc z k else (vc z k * vc p c - vc z c * vc p k) / last := by
  rw [vc_lt (by rw [brow_len]; exact h), vc_lt h]
  simp [brow]
theorem bstep_get {last : Int} {c i : Nat} {W : List (List Int)} (h : i < W.length) : (bstep last c W).getD i [] = if i ≤ c then W.getD i [] else brow last c (W.getD c []) (W.getD i []) := by
  simp [bstep, h, List.getD_eq_getElem?_getD]

structure BI (W0 : List (List Int)) (n c : Nat) (β B : Nat) (W : List (List Int)) (last : Int) (t : Bool) : Prop where
  len : W.length = n
  row : ∀ i, i < n → (W.getD i []).length = n
  st : ∃ (O : Nat → Vc) (κ : Nat → Nat), (∀ cs, dt cs ((List.range n).map (rw0 W0)) = (if t then -1 else 1) * dt cs ((List.range n).map O)) ∧ (∀ i, i < n → ∃ j, j < n ∧ rw0 W0 i = O j) ∧
    last = DD O c ∧ (∀ j, j ≤ c → DD O j ≠ 0) ∧ (∀ i, c ≤ i → i < n → ∀ k, c ≤ k → k < n → vc (W.getD i []) k = NN O c (O i) k) ∧
    (∀ k, k < n → ∀ j, (O k j).natAbs ≤ β ^ κ k) ∧ sz κ n ≤ B
section
variable {W0 W : List (List Int)} {n c β B : Nat} {last : Int} {t : Bool}
theorem BI.start {κ : Nat → Nat} (hl : W0.length = n) (hc : ∀ i, i < n → (W0.getD i []).length = n) (hk : ∀ k, k < n → ∀ j, (rw0 W0 k j).natAbs ≤ β ^ κ k) (hB : sz κ n ≤ B) : BI W0 n 0 β B W0 1 false :=
  ⟨hl, hc, rw0 W0, κ, fun cs => by simp, fun i hi => ⟨i, hi, rfl⟩, rfl, fun j hj => by
    obtain rfl : j = 0 := by omega
    rw [DD_zero]; decide, fun i _ hi k _ hk => (NN_zero _ _ _).symm, hk, hB⟩
theorem BI.step (h : BI W0 n c β B W last t) (hcn : c < n) (hf : findP W c c < W.length) : BI W0 n (c + 1) β B (bstep last c (swapL W c (findP W c c))) (vc ((swapL W c (findP W c c)).getD c []) c) (xor t (decide (findP W c c ≠ c))) := by
  obtain ⟨O, κ, hs, hO, hla, hnz, hent, hsz, hB⟩ := h.st
  obtain ⟨hcp, hp0⟩ := findP_spec hf
  have hlen := h.len
  rw [hlen] at hf
  generalize findP W c c = p at *
  have hsl : (swapL W c p).length = n := by rw [swapL_len]; exact hlen
  have hsg : ∀ k, k < n → (swapL W c p).getD k [] = W.getD (swp p c k) [] := fun k hk => swapL_get (by omega) (by omega) (by omega)
  have hO' : ∀ i, i < c → O i = O (swp p c i) := fun i hi => by rw [swp_lt hcp hi]
  have hDc : ∀ j, j ≤ c → DD (fun k => O (swp p c k)) j = DD O j := fun j hj => (DD_congr fun i hi => hO' i (by omega)).symm
  have hNc : ∀ x, NN (fun k => O (swp p c k)) c x = NN O c x := fun x => (NN_congr fun i hi => hO' i hi) x ▸ rfl
  have hent' : ∀ i, c ≤ i → i < n → ∀ k, c ≤ k → k < n → vc ((swapL W c p).getD i []) k = NN (fun k => O (swp p c k)) c (O (swp p c i)) k := fun i hi hin k hk hkn => by
    rw [hsg i hin, hNc]
    exact hent _ (swp_ge hcp hi) (swp_bd hf hcn hin) k hk hkn
  have hpc : vc ((swapL W c p).getD c []) c ≠ 0 := by rw [hsg c hcn, swp_t]; exact hp0
  have hDD : DD (fun k => O (swp p c k)) (c + 1) = vc ((swapL W c p).getD c []) c := by
    rw [DD_succ, hent' c (Nat.le_refl _) hcn c (Nat.le_refl _) hcn]
  have hnz' : ∀ j, j ≤ c → DD (fun k => O (swp p c k)) j ≠ 0 := fun j hj => by rw [hDc j hj]; exact hnz j hj
  refine ⟨by rw [bstep_len]; exact hsl, fun i hi => ?_, fun k => O (swp p c k), fun k => κ (swp p c k), fun cs => ?_, fun i hi => ?_, hDD.symm, fun j hj => ?_, fun i hi hin k hk hkn => ?_, fun k hk j => hsz _ (swp_bd hf hcn hk) j, by rw [sz_swp hf hcn]; exact hB⟩
  · rw [bstep_get (by omega)]
    have h1 := h.row _ (swp_bd hf hcn hi)
    split
    · rw [hsg i hi]; exact h1
    · rw [brow_len, hsg i hi]; exact h1
  · rw [hs cs, dt_swp hcp hf]
    by_cases hpe : p = c
    · cases t <;> simp [hpe]
    · cases t <;> simp [hpe]
  · obtain ⟨j, hj, e⟩ := hO i hi
    refine ⟨swp p c j, swp_bd hf hcn hj, ?_⟩
    simp only [swp_swp]; exact e
  · by_cases hjc : j ≤ c
    · exact hnz' j hjc
    · rw [show j = c + 1 by omega, hDD]; exact hpc
  · have hrl := h.row _ (swp_bd hf hcn hin)
    rw [bstep_get (by omega), if_neg (by omega), brow_vc (by rw [hsg i hin, hrl]; exact hkn), if_neg (by omega)]
    rw [hent' i (by omega) hin k (by omega) hkn, hent' i (by omega) hin c (Nat.le_refl _) hcn, hent' c (Nat.le_refl _) hcn c (Nat.le_refl _) hcn, hent' c (Nat.le_refl _) hcn k (by omega) hkn]
    rw [← NN_step hnz', hDc c (Nat.le_refl _), hla]
    exact Int.mul_ediv_cancel_left _ (hnz c (Nat.le_refl _))
theorem BI.z (h : BI W0 n c β B W last t) (hn : n + 1 ≤ β) (hβ : 1 ≤ β) {i k : Nat} (hi : c ≤ i) (hin : i < n) (hk : c ≤ k) (hkn : k < n) : (vc (W.getD i []) k).natAbs ≤ β ^ B := by
  obtain ⟨O, κ, hs, hO, hla, hnz, hent, hsz, hB⟩ := h.st
  rw [hent i hi hin k hk hkn]
  have h1 := dt_bound (k :: CC c) (O i :: RRo O c) (κ i :: (CC c).map κ) ⟨fun j _ => hsz i hin j, (Bd_range (cs := k :: CC c) (CC c) fun r hr => hsz r (by have := mem_CC.1 hr; omega))⟩ (by rw [List.length_cons, RRo_len]; omega)
  refine Nat.le_trans h1 (Nat.pow_le_pow_right hβ ?_)
  have h2 : wsum ((CC c).map κ) = sz κ c := by
    unfold sz CC wsum
    rw [List.map_reverse, List.sum_reverse, List.length_reverse]
  rw [wsum_cons, h2]
  have h3 : ∀ m, c ≤ i → i < m → κ i + 1 + sz κ c ≤ sz κ m := by
    intro m hci him
    have a1 := sz_succ κ i
    have a2 := sz_mono (κ := κ) (show i + 1 ≤ m from him)
    have a3 := sz_mono (κ := κ) hci
    omega
  have := h3 n hi hin
  omega
end
end Go.Proofs.Ytfjdfnlkobeehaa
end
