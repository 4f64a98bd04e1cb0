/- The plain law of long division. No program here. -/
import Derived.Test.YtbbncddbdflmbaaLimbs9
set_option maxRecDepth 100000
set_option linter.unusedVariables false
set_option linter.unusedSimpArgs false
namespace Go.Proofs.Ytbbncddbdflmbaa

section
variable {f s lo t u2 wl P g r W Z : Nat}
/-- The divisor Z has the top limbs f and s, the dividend W the top t (two limbs) and u2. -/
theorem guess_top (hP : 0 < P) (hZ : Z = (f * 4294967296 + s) * P + lo) (hW : W = (t * 4294967296 + u2) * P + wl) (hs : s < 4294967296) (hlo : lo < P) (h : W < 4294967296 * Z) : t < 4294967296 * f + 4294967296 := by
  have h1 : t * 4294967296 * P ≤ W := by rw [hW, Nat.add_mul]; omega
  have h2 : Z ≤ (f + 1) * 4294967296 * P := by
    have : (f * 4294967296 + s + 1) * P ≤ (f + 1) * 4294967296 * P := Nat.mul_le_mul_right _ (by omega)
    rw [Nat.add_mul _ 1, Nat.one_mul] at this
    omega
  have h3 : t * 4294967296 * P < 4294967296 * (f + 1) * (4294967296 * P) := by
    have : 4294967296 * Z ≤ 4294967296 * ((f + 1) * 4294967296 * P) := Nat.mul_le_mul_left _ h2
    rw [Nat.mul_assoc, Nat.mul_assoc 4294967296]
    rw [Nat.mul_assoc (f + 1)] at this
    rw [Nat.mul_assoc t] at h1
    omega
  rw [Nat.mul_assoc] at h3
  have h4 := Nat.lt_of_mul_lt_mul_right h3
  omega

theorem guess_first (hP : 0 < P) (hf : 0 < f) (hZ : Z = (f * 4294967296 + s) * P + lo) (hW : W = (t * 4294967296 + u2) * P + wl) (hu2 : u2 < 4294967296) (hwl : wl < P) : W / Z ≤ t / f := by
  rw [Nat.le_div_iff_mul_le hf]
  have h0 : W / Z * Z ≤ W := Nat.div_mul_le_self W Z
  generalize W / Z = q at *
  rcases Nat.lt_or_ge t (q * f) with h | h
  · exfalso
    have h1 : (t + 1) * (4294967296 * P) ≤ q * f * (4294967296 * P) := Nat.mul_le_mul_right _ h
    have h2 : q * f * (4294967296 * P) ≤ q * Z := by
      rw [Nat.mul_assoc]
      refine Nat.mul_le_mul_left _ ?_
      rw [hZ, Nat.add_mul, Nat.mul_assoc]; omega
    have h3 : W < (t + 1) * (4294967296 * P) := by
      have : (t * 4294967296 + u2 + 1) * P ≤ (t + 1) * 4294967296 * P := Nat.mul_le_mul_right _ (by omega)
      rw [Nat.add_mul _ 1, Nat.one_mul] at this
      rw [← Nat.mul_assoc]
      omega
    omega
  · exact h

theorem guess_again (hP : 0 < P) (hZ : Z = (f * 4294967296 + s) * P + lo) (hW : W = (t * 4294967296 + u2) * P + wl) (hwl : wl < P) (hb : W < 4294967296 * Z) (hq : W / Z ≤ g) (hg : g * f + r = t)
    (h : 4294967296 ≤ g ∨ r * 4294967296 + u2 < g * s) : W / Z < g := by
  have hZ0 : 0 < Z := by rcases Nat.eq_zero_or_pos Z with h | h; subst h; omega; exact h
  have hqB : W / Z < 4294967296 := (Nat.div_lt_iff_lt_mul hZ0).2 hb
  rcases h with h | h
  · omega
  · rcases Nat.lt_or_ge (W / Z) g with h1 | h1
    · exact h1
    · exfalso
      have e : W / Z = g := by omega
      have h0 : W / Z * Z ≤ W := Nat.div_mul_le_self W Z
      rw [e] at h0
      have h2 : (t * 4294967296 + u2 + 1) * P ≤ g * Z := by
        have : (t * 4294967296 + u2 + 1) * P ≤ (g * (f * 4294967296 + s)) * P := by
          refine Nat.mul_le_mul_right _ ?_
          rw [Nat.mul_add, ← Nat.mul_assoc, ← hg, Nat.add_mul]
          omega
        refine Nat.le_trans this ?_
        rw [Nat.mul_assoc]
        have h5 : (f * 4294967296 + s) * P ≤ Z := by rw [hZ]; exact Nat.le_add_right _ _
        exact Nat.mul_le_mul_left g h5
      rw [Nat.add_mul _ 1, Nat.one_mul] at h2
      omega

theorem guess_done (hP : 0 < P) (hf : 0 < f) (hZ : Z = (f * 4294967296 + s) * P + lo) (hW : W = (t * 4294967296 + u2) * P + wl) (hs : s < 4294967296) (hlo : lo < P) (hg : g * f + r = t) (hg' : g < 4294967296)
    (h : 4294967296 ≤ r ∨ g * s ≤ r * 4294967296 + u2) : g ≤ W / Z + 1 := by
  have hZP : 4294967296 * P ≤ Z := by
    have : 1 * 4294967296 * P ≤ f * 4294967296 * P := Nat.mul_le_mul_right _ (Nat.mul_le_mul_right _ hf)
    rw [hZ, Nat.add_mul]; omega
  have hZ0 : 0 < Z := by omega
  rcases Nat.eq_zero_or_pos g with h0 | h0
  · rw [h0]; exact Nat.zero_le _
  obtain ⟨k, rfl⟩ : ∃ k, g = k + 1 := ⟨g - 1, by omega⟩
  refine Nat.succ_le_succ ?_
  rw [Nat.le_div_iff_mul_le hZ0]
  rcases h with h | h
  · have h1 : (k + 1) * Z ≤ W := by
      have : (k + 1) * Z ≤ (k + 1) * ((f * 4294967296 + 4294967296) * P) := by
        refine Nat.mul_le_mul_left _ ?_
        have : (f * 4294967296 + s + 1) * P ≤ (f * 4294967296 + 4294967296) * P := Nat.mul_le_mul_right _ (by omega)
        rw [Nat.add_mul _ 1, Nat.one_mul] at this
        omega
      refine Nat.le_trans this ?_
      rw [← Nat.mul_assoc]
      have h2 : (k + 1) * (f * 4294967296 + 4294967296) * P ≤ t * 4294967296 * P := by
        refine Nat.mul_le_mul_right _ ?_
        rw [Nat.mul_add, ← Nat.mul_assoc, ← hg, Nat.add_mul]
        omega
      have h3 : t * 4294967296 * P ≤ W := by rw [hW, Nat.add_mul, Nat.add_assoc]; exact Nat.le_add_right _ _
      exact Nat.le_trans h2 h3
    rw [Nat.add_mul] at h1
    omega
  · have h1 : (k + 1) * Z ≤ (t * 4294967296 + u2) * P + (k + 1) * lo := by
      rw [hZ, Nat.mul_add, ← Nat.mul_assoc]
      refine Nat.add_le_add_right (Nat.mul_le_mul_right _ ?_) _
      rw [Nat.mul_add, ← Nat.mul_assoc, ← hg, Nat.add_mul _ r]
      omega
    have h2 : (k + 1) * lo ≤ 4294967296 * P := Nat.mul_le_mul (by omega) (by omega)
    rw [Nat.add_mul k, Nat.one_mul] at h1
    omega
end

/-- One limb of a product taken away, and what was borrowed. -/
theorem take_sub {u v b : Nat} (hu : u < 4294967296) (hv : v < 4294967296) (hb : b ≤ 1) : ∃ z b' : Nat, z < 4294967296 ∧ b' ≤ 1 ∧ (((u : Int) - v) % 18446744073709551616 - b) % 18446744073709551616 % 4294967296 = z ∧
    (((u : Int) - v) % 18446744073709551616 - b) % 18446744073709551616 / 9223372036854775808 = b' ∧ z + v + b = u + 4294967296 * b' := by
  by_cases h : v + b ≤ u
  · exact ⟨u - v - b, 0, by omega, by omega, by omega, by omega, by omega⟩
  · exact ⟨u + 4294967296 - v - b, 1, by omega, by omega, by omega, by omega, by omega⟩

/-- Part of a list, from off on. -/
theorem seg_succ {zs : List Nat} {off i : Nat} (h : off + i < zs.length) : V ((zs.drop off).take (i + 1)) = V ((zs.drop off).take i) + 4294967296 ^ i * zs.getD (off + i) 0 := by
  rw [V_take_succ _ (by simp; omega)]
  congr 2
  rw [List.getD_eq_getElem?_getD, List.getElem?_drop, ← List.getD_eq_getElem?_getD]
theorem seg_set {zs : List Nat} {off i x : Nat} (h : off + i < zs.length) : V (((zs.set (off + i) x).drop off).take (i + 1)) = V ((zs.drop off).take i) + 4294967296 ^ i * x := by
  rw [seg_succ (by simpa using h), List.getD_eq_getElem?_getD, List.getElem?_set_self h]
  congr 2
  rw [List.drop_set, if_neg (by omega), Nat.add_sub_cancel_left, List.take_set_of_le (Nat.le_refl _)]
theorem getD_of_drop {zs ws : List Nat} {k : Nat} (h : zs.drop k = ws.drop k) : zs.getD k 0 = ws.getD k 0 := by
  have := congrArg (fun l => l[0]?) h
  simp only [List.getElem?_drop, Nat.add_zero] at this
  rw [List.getD_eq_getElem?_getD, List.getD_eq_getElem?_getD, this]
theorem drop_set_succ {zs ws : List Nat} {k x : Nat} (h : zs.drop k = ws.drop k) : (zs.set k x).drop (k + 1) = ws.drop (k + 1) := by
  rw [List.drop_set_of_lt (Nat.lt_succ_self k)]
  have := congrArg (List.drop 1) h
  simpa only [List.drop_drop] using this
theorem take_step {g v c b y z b' Sw Sv Su P : Nat} (hi : Sw + g * Sv = Su + P * (c + b)) (hz : z + (c + g * v) % 4294967296 + b = y + 4294967296 * b') :
    (Sw + P * z) + g * (Sv + P * v) = (Su + P * y) + (P * 4294967296) * ((c + g * v) / 4294967296 + b') := by
  have h2 := Nat.mod_add_div (c + g * v) 4294967296
  generalize (c + g * v) % 4294967296 = r at *
  generalize (c + g * v) / 4294967296 = q at *
  have h3 : P * (z + r + b) = P * (y + 4294967296 * b') := by rw [hz]
  have h4 : P * (r + 4294967296 * q) = P * (c + g * v) := by rw [h2]
  rw [Nat.mul_add g, Nat.mul_left_comm g P v, Nat.mul_add (P * 4294967296), Nat.mul_assoc P, Nat.mul_assoc P]
  simp only [Nat.mul_add] at h3 h4 hi
  omega
theorem take_end0 {S g Z W : Nat} (hZ : 0 < Z) (h : S + g * Z = W) (h2 : W / Z ≤ g) : W / Z = g ∧ S = W % Z := by
  have h1 : g ≤ W / Z := by rw [Nat.le_div_iff_mul_le hZ]; omega
  have e : W / Z = g := by omega
  have := Nat.div_add_mod W Z
  rw [e, Nat.mul_comm] at this
  exact ⟨e, by omega⟩
theorem take_end1 {S g Z W BB F e : Nat} (hZ : 0 < Z) (hZB : Z ≤ BB) (h : S + g * Z = W + BB) (hS : S < BB) (hg : g ≤ W / Z + 1) (hF : F < BB) (hf : F + BB * e = S + Z) : W / Z = g - 1 ∧ 0 < g ∧ F = W % Z := by
  have h1 : W < g * Z := by omega
  have h2 : W / Z < g := (Nat.div_lt_iff_lt_mul hZ).2 h1
  have hm := Nat.mod_lt W hZ
  have hd := Nat.div_add_mod W Z
  generalize W / Z = q at *
  generalize W % Z = p at *
  have eg : g = q + 1 := by omega
  rw [eg, Nat.add_mul, Nat.one_mul, Nat.mul_comm q] at h
  have h3 : F + BB * e = p + BB := by omega
  have he : e = 1 := by
    rcases Nat.lt_trichotomy e 1 with h | h | h
    · have : e = 0 := by omega
      subst this; omega
    · exact h
    · have : BB * 2 ≤ BB * e := Nat.mul_le_mul_left _ h
      omega
  subst he
  exact ⟨by omega, by omega, by omega⟩
theorem upd_upd {α : Type} (f : Nat → α) (i : Nat) (x y : α) : upd (upd f i x) i y = upd f i y := by
  funext j; unfold upd; split <;> rfl
theorem upd_id {α : Type} {f : Nat → α} {i : Nat} {x : α} (h : f i = x) : upd f i x = f := by
  funext j; unfold upd; split
  · rename_i e; subst e; exact h.symm
  · rfl
attribute [go_sem] upd_upd
theorem closedL_U (xs : List Nat) : closedL (xs.map U) = true := by
  induction xs with
  | nil => rfl
  | cons x xs ih => simp [closedL, closed, U, ih]
theorem take_Ul (xs : List Nat) (l : List PV) : List.take xs.length (xs.map U ++ l) = xs.map U := by
  rw [List.take_append_of_le_length (by simp)]; exact List.take_of_length_le (by simp)
attribute [go_sem] take_Ul
theorem frzL_U (D : Nat → Bool) (H : Nat → Option (List PV)) (d : Nat) (xs : List Nat) : (xs.map U).mapM (Ytbbncddbdflmbaa.frz D H d) = some (xs.map U) := frzL_flat D H d (flatL_U xs)
attribute [go_sem] frzL_U

theorem arith1 {a P W Z Y N B : Nat} (h : a + P * W + Z * (P * B * Y) = N) : a + P * (W % Z) + Z * (P * (W / Z + B * Y)) = N := by
  have h7 := Nat.div_add_mod W Z
  generalize W / Z = q at *
  generalize W % Z = r at *
  subst h7
  rw [← h, Nat.mul_add P, Nat.mul_add P, Nat.mul_add Z, Nat.mul_left_comm Z P q, Nat.mul_assoc P B Y]
  omega
theorem arith2 {P B a b c d x1 x0 u2 : Nat} (hb : b = u2 + B * c) (hc : c = x0 + B * d) (hd : d = x1 + B * 0) : a + P * b = ((x1 * B + x0) * B + u2) * P + a := by
  rw [Nat.mul_zero, Nat.add_zero] at hd
  rw [hb, hc, hd, Nat.add_comm a, Nat.mul_comm P, Nat.mul_comm x1, Nat.mul_comm _ B, Nat.add_comm x0, Nat.add_comm u2]
theorem arith3 {P B a b c x0 u2 : Nat} (hb : b = u2 + B * c) (hc : c = x0 + B * 0) : a + P * b = (x0 * B + u2) * P + a := by
  rw [Nat.mul_zero, Nat.add_zero] at hc
  rw [hb, hc, Nat.add_comm a, Nat.mul_comm P, Nat.mul_comm x0, Nat.add_comm u2]
theorem arith4 {a t x y Z P Q : Nat} (h1 : a < 4294967296 * Z) (h2 : Z < P) (h3 : Q = P * 4294967296) (h4 : a = t + Q * x) : x = 0 ∧ a = t := by
  rcases Nat.eq_zero_or_pos x with h | h
  · subst h; exact ⟨rfl, by rw [h4, Nat.mul_zero, Nat.add_zero]⟩
  · have h5 : Q * 1 ≤ Q * x := Nat.mul_le_mul_left _ h
    generalize Q * x = y at *
    omega
theorem arith5 {a b x Z : Nat} (h1 : a = b + 4294967296 * x) (h2 : b < 4294967296) (h : x < Z) : a < 4294967296 * Z := by omega
/-- One more limb of the quotient. -/
theorem long_tail {ws : List Nat} {j m Z : Nat} (hj : j + (m + 1) ≤ ws.length) (hwm : Lm ws) (hZ : Z < 4294967296 ^ m) (h : V (ws.drop (j + 1)) < Z) :
    V (ws.drop (j + (m + 1))) = 0 ∧ V (ws.drop j) = V ((ws.drop j).take (m + 1)) ∧ V (ws.drop j) < 4294967296 * Z := by
  have h3 : V (ws.drop j) < 4294967296 * Z := arith5 (V_drop ws (i := j) (Nat.lt_of_lt_of_le (Nat.lt_add_of_pos_right (Nat.succ_pos m)) hj)) (hwm.get j) h
  have h4 := V_split (ws.drop j) (i := m + 1) (by rw [List.length_drop]; exact Nat.le_sub_of_add_le (Nat.add_comm _ _ ▸ hj))
  rw [List.drop_drop] at h4
  obtain ⟨h6, h7⟩ := arith4 (y := 0) h3 hZ (Nat.pow_succ ..) h4
  exact ⟨h6, h7, h3⟩
theorem long_step {ws w2 qs : List Nat} {j m Z N W : Nat} (hj : j + (m + 1) ≤ ws.length) (hl : w2.length = ws.length) (hq : j < qs.length) (hZ0 : 0 < Z)
    (hp : w2.take j = ws.take j) (hd : w2.drop (j + (m + 1)) = ws.drop (j + (m + 1))) (hv : V ((w2.drop j).take (m + 1)) = W % Z) (h0 : V (ws.drop (j + (m + 1))) = 0) (hW : V (ws.drop j) = W)
    (h : V ws + Z * (4294967296 ^ (j + 1) * V (qs.drop (j + 1))) = N) :
    V w2 + Z * (4294967296 ^ j * V ((qs.set j (W / Z)).drop j)) = N ∧ V (w2.drop j) < Z := by
  have h1 := V_split ws (i := j) (by omega)
  have h2 := V_split w2 (i := j) (by omega)
  have h4 := V_split (w2.drop j) (i := m + 1) (by simp; omega)
  rw [List.drop_drop, hd, h0, hv, Nat.mul_zero, Nat.add_zero] at h4
  have h6 : V ((qs.set j (W / Z)).drop j) = W / Z + 4294967296 * V (qs.drop (j + 1)) := V_set_drop hq
  refine ⟨?_, by rw [h4]; exact Nat.mod_lt _ hZ0⟩
  rw [h4, hp] at h2
  rw [hW] at h1
  rw [Nat.pow_succ, h1] at h
  rw [h6, h2]
  exact arith1 h
theorem guess_parts {ws : List Nat} {j m : Nat} (hm : 2 ≤ m) (hj : j + (m + 1) ≤ ws.length) (h0 : V (ws.drop (j + (m + 1))) = 0) :
    V (ws.drop j) = ((ws.getD (j + m) 0 * 4294967296 + ws.getD (j + m - 1) 0) * 4294967296 + ws.getD (j + m - 2) 0) * 4294967296 ^ (m - 2) + V ((ws.drop j).take (m - 2)) := by
  have h1 := V_split (ws.drop j) (i := m - 2) (by simp; omega)
  rw [List.drop_drop] at h1
  have h2 := V_drop ws (i := j + (m - 2)) (by omega)
  have h3 := V_drop ws (i := j + (m - 2) + 1) (by omega)
  have h4 := V_drop ws (i := j + (m - 2) + 1 + 1) (by omega)
  have e1 : j + (m - 2) = j + m - 2 := by omega
  have e2 : j + (m - 2) + 1 = j + m - 1 := by omega
  have e3 : j + (m - 2) + 1 + 1 = j + m := by omega
  have e4 : j + (m - 2) + 1 + 1 + 1 = j + (m + 1) := by omega
  rw [e4, h0] at h4
  rw [e3] at h4 h3
  rw [e2] at h3 h2
  rw [e1] at h2 h1
  rw [h1]
  exact arith2 h2 h3 h4
theorem div_parts {v : List Nat} {m : Nat} (hm : 2 ≤ m) (hl : v.length = m) : V v = (v.getD (m - 1) 0 * 4294967296 + v.getD (m - 2) 0) * 4294967296 ^ (m - 2) + V (v.take (m - 2)) := by
  have h1 := V_split v (i := m - 2) (by omega)
  have h2 := V_drop v (i := m - 2) (by omega)
  have h3 := V_drop v (i := m - 2 + 1) (by omega)
  have e2 : m - 2 + 1 = m - 1 := by omega
  have e3 : m - 2 + 1 + 1 = m := by omega
  have e4 : v.drop m = [] := by rw [← hl, List.drop_length]
  rw [e3, e4, V_nil] at h3
  rw [e2] at h3 h2
  rw [h1]
  exact arith3 h2 h3
end Go.Proofs.Ytbbncddbdflmbaa
