/- Rows that span the same have the same echelon form. No program in sight. -/
import Derived.Test.YtfjdfnlkobeehaaMatrix1
set_option linter.unusedVariables false
set_option linter.unusedSimpArgs false
namespace Go.Proofs.Ytfjdfnlkobeehaa

/-- What some rows span. -/
inductive Sp (I : Vc → Prop) : Vc → Prop
  | zero {w : Vc} : (∀ j, w j = 0) → Sp I w
  | mem {r : Vc} : I r → Sp I r
  | comb {u v w : Vc} {a b g : Int} : Sp I u → Sp I v → g ≠ 0 → (∀ j, g * w j = a * u j + b * v j) → Sp I w
theorem Sp.trans {I J : Vc → Prop} (h : ∀ r, I r → Sp J r) {u : Vc} (hu : Sp I u) : Sp J u := by
  induction hu with
  | zero h => exact .zero h
  | mem hm => exact h _ hm
  | comb _ _ hg hw ih1 ih2 => exact .comb ih1 ih2 hg hw
theorem Sp.scale {I : Vc → Prop} {u w : Vc} {a g : Int} (hu : Sp I u) (hg : g ≠ 0) (hw : ∀ j, g * w j = a * u j) : Sp I w :=
  .comb (a := a) (b := 0) hu hu hg fun j => by rw [hw j]; omega
theorem Sp.lcs {I : Vc → Prop} : ∀ (m : List Int) (rs : List Vc), (∀ r ∈ rs, I r) → Sp I (lcs m rs)
  | [], rs, _ => .zero fun j => lcs_nil _ _
  | a :: m, [], _ => .zero fun j => lcs_nil_r _ _
  | a :: m, r :: rs, h => .comb (a := a) (b := 1) (g := 1) (.mem (h r (List.mem_cons_self ..))) (Sp.lcs m rs fun x hx => h x (List.mem_cons_of_mem _ hx)) (by decide) fun j => by rw [lcs_cons]; omega
theorem Sp.of_Spn {I : Vc → Prop} {L : List Vc} {u : Vc} (h : Spn L u) (hL : ∀ r ∈ L, I r) : Sp I u := by
  obtain ⟨q, m, hq, _, h1⟩ := h
  exact (Sp.lcs m L hL).scale hq (a := 1) fun j => by rw [h1 j]; omega

/-- In echelon form: where the first number stands, and that it is above 0. -/
structure RE (T : List (List Int)) (Pv : List Nat) (cols : Nat) : Prop where
  len : T.length = Pv.length
  row : ∀ i, i < T.length → (T.getD i []).length = cols
  col : ∀ c ∈ Pv, c < cols
  inc : ∀ i j (hi : i < Pv.length) (hj : j < Pv.length), i < j → Pv[i] < Pv[j]
  piv : ∀ i j (hj : j < Pv.length), i < Pv.length → (vc (T.getD i []) Pv[j] ≠ 0 ↔ j = i)
  prm : ∀ i, i < T.length → Prm (T.getD i [])
  lead : ∀ i (hi : i < Pv.length), ∀ j, j < Pv[i] → vc (T.getD i []) j = 0
  pos : ∀ i (hi : i < Pv.length), 0 < vc (T.getD i []) Pv[i]

/-- The sum of f over the first n. -/
def sumI (f : Nat → Int) : Nat → Int
  | 0 => 0
  | n + 1 => sumI f n + f n
theorem sumI_congr {f g : Nat → Int} : ∀ {n : Nat}, (∀ k, k < n → f k = g k) → sumI f n = sumI g n
  | 0, _ => rfl
  | n + 1, h => by rw [sumI, sumI, sumI_congr fun k hk => h k (by omega), h n (by omega)]
theorem sumI_zero {f : Nat → Int} {n : Nat} (h : ∀ k, k < n → f k = 0) : sumI f n = 0 := by
  induction n with
  | zero => rfl
  | succ n ih => rw [sumI, ih fun k hk => h k (by omega), h n (by omega)]; rfl
theorem sumI_lin {f g : Nat → Int} {a b : Int} : ∀ n, sumI (fun k => a * f k + b * g k) n = a * sumI f n + b * sumI g n
  | 0 => by simp [sumI]
  | n + 1 => by rw [sumI, sumI, sumI, sumI_lin n]; simp only [Int.mul_add]; omega
theorem sumI_one {f : Nat → Int} {i : Nat} : ∀ {n : Nat}, i < n → (∀ k, k < n → k ≠ i → f k = 0) → sumI f n = f i
  | 0, h, _ => by omega
  | n + 1, h, hz => by
    rw [sumI]
    by_cases hi : i = n
    · subst hi
      rw [sumI_zero fun k hk => hz k (by omega) (by omega)]; omega
    · rw [sumI_one (n := n) (by omega) fun k hk hne => hz k (by omega) hne, hz n (by omega) (fun e => hi e.symm)]; omega
theorem sumI_scale {f : Nat → Int} {a : Int} (n : Nat) : sumI (fun k => a * f k) n = a * sumI f n := by
  have := sumI_lin (f := f) (g := f) (a := a) (b := 0) n
  simp only [Int.zero_mul, Int.add_zero] at this
  exact this
theorem sumI_add {f g : Nat → Int} (n : Nat) : sumI (fun k => f k + g k) n = sumI f n + sumI g n := by
  have := sumI_lin (f := f) (g := g) (a := 1) (b := 1) n
  simp only [Int.one_mul] at this
  exact this

/-- Rows as a set. -/
def rowsOf (T : List (List Int)) (r : Vc) : Prop := ∃ i, i < T.length ∧ r = vc (T.getD i [])
section
variable {T : List (List Int)} {Pv : List Nat} {cols : Nat}
/-- Numbers that undo the pivots. -/
theorem exists_coef {d : Nat → Int} : ∀ n, (∀ k, k < n → d k ≠ 0) → ∃ (D : Int) (e : Nat → Int), D ≠ 0 ∧ ∀ k, k < n → e k * d k = D
  | 0, _ => ⟨1, fun _ => 0, by decide, fun k hk => by omega⟩
  | n + 1, h => by
    obtain ⟨D, e, hD, he⟩ := exists_coef n fun k hk => h k (by omega)
    refine ⟨D * d n, fun k => if k = n then D else e k * d n, Int.mul_ne_zero hD (h n (by omega)), fun k hk => ?_⟩
    by_cases hkn : k = n
    · subst hkn
      show (if k = k then D else _) * d k = _
      rw [if_pos rfl]
    · simp only [if_neg hkn]
      rw [Int.mul_right_comm, he k (by omega)]
/-- What is spanned is told by its numbers at the pivots. -/
theorem RE.expand (h : RE T Pv cols) : ∃ (D : Int) (e : Nat → Int), D ≠ 0 ∧ (∀ k, k < Pv.length → e k ≠ 0) ∧ ∀ u, Sp (rowsOf T) u → ∀ j, D * u j = sumI (fun k => e k * u (Pv.getD k 0) * vc (T.getD k []) j) Pv.length := by
  have hne : ∀ k, k < Pv.length → vc (T.getD k []) (Pv.getD k 0) ≠ 0 := fun k hk => by
    have := (h.piv k k hk hk).2 rfl
    rwa [show Pv.getD k 0 = Pv[k] by simp [hk]]
  obtain ⟨D, e, hD, he⟩ := exists_coef Pv.length hne
  refine ⟨D, e, hD, fun k hk h0 => hD (by rw [← he k hk, h0, Int.zero_mul]), fun u hu => ?_⟩
  induction hu with
  | zero hz =>
    intro j
    rw [hz j, sumI_zero fun k hk => by rw [hz]; simp]
    simp
  | mem hm =>
    obtain ⟨i, hi, rfl⟩ := hm
    intro j
    have hi' : i < Pv.length := by rw [← h.len]; exact hi
    rw [sumI_one hi' fun k hk hki => ?_]
    · rw [he i hi']
    · have : vc (T.getD i []) (Pv.getD k 0) = 0 := Classical.byContradiction fun hx => by
        rw [show Pv.getD k 0 = Pv[k] by simp [hk]] at hx
        exact hki ((h.piv i k hk hi').1 hx)
      rw [this]; simp
  | comb _ _ hg hw ih1 ih2 =>
    rename_i u v w a b g s1 s2
    intro j
    have h1 := ih1 j
    have h2 := ih2 j
    have e1 : g * (D * w j) = g * sumI (fun k => e k * w (Pv.getD k 0) * vc (T.getD k []) j) Pv.length := by
      rw [← sumI_scale]
      have : sumI (fun k => g * (e k * w (Pv.getD k 0) * vc (T.getD k []) j)) Pv.length = sumI (fun k => a * (e k * u (Pv.getD k 0) * vc (T.getD k []) j) + b * (e k * v (Pv.getD k 0) * vc (T.getD k []) j)) Pv.length := sumI_congr fun k hk => by
        have hwk := hw (Pv.getD k 0)
        have : g * (e k * w (Pv.getD k 0) * vc (T.getD k []) j) = e k * (g * w (Pv.getD k 0)) * vc (T.getD k []) j := by simp only [Int.mul_left_comm, Int.mul_assoc]
        rw [this, hwk]
        simp only [Int.mul_add, Int.add_mul]
        congr 1 <;> simp only [Int.mul_left_comm, Int.mul_assoc]
      rw [this, sumI_lin, ← h1, ← h2, Int.mul_left_comm, hw j, Int.mul_add]
      congr 1 <;> exact Int.mul_left_comm _ _ _
    exact Int.eq_of_mul_eq_mul_left hg e1
theorem RE.zero (h : RE T Pv cols) {u : Vc} (hu : Sp (rowsOf T) u) (hz : ∀ c ∈ Pv, u c = 0) (j : Nat) : u j = 0 := by
  obtain ⟨D, e, hD, _, hx⟩ := h.expand
  have := hx u hu j
  rw [sumI_zero fun k hk => by rw [hz (Pv.getD k 0) (by rw [show Pv.getD k 0 = Pv[k] by simp [hk]]; exact List.getElem_mem hk)]; simp] at this
  exact (Int.mul_eq_zero.1 this).resolve_left hD
/-- Where the first number of what is spanned stands. -/
theorem RE.first (h : RE T Pv cols) {u : Vc} (hu : Sp (rowsOf T) u) {c : Nat} (hc : u c ≠ 0) (hz : ∀ j, j < c → u j = 0) : c ∈ Pv := by
  obtain ⟨D, e, hD, hek, hx⟩ := h.expand
  apply Classical.byContradiction
  intro hcp
  -- all pivots' numbers ahead of c are 0; those behind stand in rows that begin behind c
  have := hx u hu c
  rw [sumI_zero fun k hk => ?_] at this
  · exact hc ((Int.mul_eq_zero.1 this).resolve_left hD)
  · have hpk : Pv.getD k 0 = Pv[k] := by simp [hk]
    have hne : Pv[k] ≠ c := fun e => hcp (e ▸ List.getElem_mem hk)
    rcases Nat.lt_or_ge Pv[k] c with h1 | h1
    · rw [hpk, hz _ h1]; simp
    · rw [h.lead k hk c (by omega)]; simp
end
theorem sorted_eq : ∀ {l m : List Nat}, (∀ i j (hi : i < l.length) (hj : j < l.length), i < j → l[i] < l[j]) → (∀ i j (hi : i < m.length) (hj : j < m.length), i < j → m[i] < m[j]) → (∀ x, x ∈ l ↔ x ∈ m) → l = m
  | [], [], _, _, _ => rfl
  | [], y :: m, _, _, h => by have := (h y).2 (List.mem_cons_self ..); simp at this
  | x :: l, [], _, _, h => by have := (h x).1 (List.mem_cons_self ..); simp at this
  | x :: l, y :: m, hl, hm, h => by
    have lx : ∀ z ∈ l, x < z := fun z hz => by
      obtain ⟨i, hi, rfl⟩ := List.mem_iff_getElem.1 hz
      have := hl 0 (i + 1) (by simp) (by simpa using hi) (by omega)
      simpa using this
    have my : ∀ z ∈ m, y < z := fun z hz => by
      obtain ⟨i, hi, rfl⟩ := List.mem_iff_getElem.1 hz
      have := hm 0 (i + 1) (by simp) (by simpa using hi) (by omega)
      simpa using this
    have exy : x = y := by
      have h1 := (h x).1 (List.mem_cons_self ..)
      have h2 := (h y).2 (List.mem_cons_self ..)
      rcases List.mem_cons.1 h1 with e | h1
      · exact e
      · rcases List.mem_cons.1 h2 with e | h2
        · exact e.symm
        · have := my x h1; have := lx y h2; omega
    subst exy
    congr 1
    refine sorted_eq (fun i j hi hj hij => ?_) (fun i j hi hj hij => ?_) fun z => ?_
    · have := hl (i + 1) (j + 1) (by simpa using hi) (by simpa using hj) (by omega)
      simpa using this
    · have := hm (i + 1) (j + 1) (by simpa using hi) (by simpa using hj) (by omega)
      simpa using this
    · constructor
      · intro hz
        rcases List.mem_cons.1 ((h z).1 (List.mem_cons_of_mem _ hz)) with e | h1
        · have := lx z hz; omega
        · exact h1
      · intro hz
        rcases List.mem_cons.1 ((h z).2 (List.mem_cons_of_mem _ hz)) with e | h1
        · have := my z hz; omega
        · exact h1
/-- On one line, without a divisor in common: the same but for the sign. -/
theorem prm_same {z w : List Int} {a b : Int} (hz : Prm z) (hw : Prm w) (hl : z.length = w.length) (ha : a ≠ 0) (hb : b ≠ 0) (h : ∀ j, a * vc z j = b * vc w j) : z = w ∨ z = w.map (- ·) := by
  have h1 : ∀ j, (vc z j).natAbs = (vc w j).natAbs := fun j => by
    by_cases hj : j < z.length
    · have e1 := prm_le hz ha hb h hj
      have e2 := prm_le hw hb ha (fun j => (h j).symm) (j := j) (by omega)
      omega
    · rw [vc_ge (by omega), vc_ge (by omega)]
  by_cases h0 : ∀ j, vc z j = 0
  · left
    refine List.ext_getElem hl fun i h2 h3 => ?_
    have e1 := h0 i
    have e2 := h1 i
    rw [vc_lt h2] at e1 e2
    rw [vc_lt h3] at e2
    omega
  · obtain ⟨i, hi⟩ : ∃ i, vc z i ≠ 0 := Classical.byContradiction fun hno => h0 fun j => Classical.byContradiction fun hne => hno ⟨j, hne⟩
    have hab : a = b ∨ a = -b := by
      have e1 := congrArg Int.natAbs (h i)
      rw [Int.natAbs_mul, Int.natAbs_mul, ← h1 i] at e1
      have e2 := Nat.eq_of_mul_eq_mul_right (by omega) e1
      omega
    rcases hab with rfl | rfl
    · left
      refine List.ext_getElem hl fun i h2 h3 => ?_
      have := Int.eq_of_mul_eq_mul_left ha (h i)
      rwa [vc_lt h2, vc_lt h3] at this
    · right
      refine List.ext_getElem (by simpa using hl) fun i h2 h3 => ?_
      have e1 := h i
      rw [Int.neg_mul, ← Int.mul_neg] at e1
      have := Int.eq_of_mul_eq_mul_left hb e1
      rw [vc_lt h2, vc_lt (by omega)] at this
      simp only [List.getElem_map]
      omega
theorem RE.uniq {T T' : List (List Int)} {Pv Pv' : List Nat} {cols : Nat} (h : RE T Pv cols) (h' : RE T' Pv' cols) (hs : ∀ r, rowsOf T r → Sp (rowsOf T') r) (hs' : ∀ r, rowsOf T' r → Sp (rowsOf T) r) : T = T' ∧ Pv = Pv' := by
  have key : ∀ {T T' : List (List Int)} {Pv Pv' : List Nat}, RE T Pv cols → RE T' Pv' cols → (∀ r, rowsOf T r → Sp (rowsOf T') r) → ∀ x ∈ Pv, x ∈ Pv' := by
    intro T T' Pv Pv' h h' hs x hx
    obtain ⟨i, hi, rfl⟩ := List.mem_iff_getElem.1 hx
    refine h'.first (hs _ ⟨i, by rw [h.len]; exact hi, rfl⟩) ?_ (h.lead i hi)
    exact (h.piv i i hi hi).2 rfl
  have hp : Pv = Pv' := sorted_eq h.inc h'.inc fun x => ⟨key h h' hs x, key h' h hs' x⟩
  subst hp
  refine ⟨?_, rfl⟩
  have hll : T.length = T'.length := by rw [h.len, h'.len]
  refine List.ext_getElem hll fun i h1 h2 => ?_
  have e1 : T.getD i [] = T[i] := by simp [h1]
  have e2 : T'.getD i [] = T'[i] := by simp [h2]
  have hi : i < Pv.length := by rw [← h.len]; exact h1
  have p1 := h.pos i hi
  have p2 := h'.pos i hi
  have hline : ∀ j, vc (T'.getD i []) Pv[i] * vc (T.getD i []) j = vc (T.getD i []) Pv[i] * vc (T'.getD i []) j := fun j => by
    have hsp : Sp (rowsOf T) (fun j => vc (T'.getD i []) Pv[i] * vc (T.getD i []) j - vc (T.getD i []) Pv[i] * vc (T'.getD i []) j) :=
      .comb (a := vc (T'.getD i []) Pv[i]) (b := -vc (T.getD i []) Pv[i]) (g := 1) (.mem ⟨i, h1, rfl⟩) (hs' _ ⟨i, h2, rfl⟩) (by decide) fun j => by rw [Int.neg_mul]; omega
    have := h.zero hsp (fun c hc => by
      obtain ⟨k, hk, rfl⟩ := List.mem_iff_getElem.1 hc
      by_cases hki : k = i
      · subst hki
        rw [Int.mul_comm]; omega
      · have z1 : vc (T.getD i []) Pv[k] = 0 := Classical.byContradiction fun hx => hki ((h.piv i k hk hi).1 hx)
        have z2 : vc (T'.getD i []) Pv[k] = 0 := Classical.byContradiction fun hx => hki ((h'.piv i k hk hi).1 hx)
        rw [z1, z2]; simp) j
    omega
  rw [← e1, ← e2]
  rcases prm_same (h.prm i h1) (h'.prm i h2) (by rw [h.row i h1, h'.row i h2]) (by omega) (by omega) hline with e | e
  · exact e
  · rw [e, neg_vc] at p1
    omega
end Go.Proofs.Ytfjdfnlkobeehaa
