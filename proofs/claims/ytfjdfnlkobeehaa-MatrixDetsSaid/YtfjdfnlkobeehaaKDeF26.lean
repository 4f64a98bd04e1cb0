/- Part 26 of the way to the statement: the walk and what it needs. -/
import Derived.Test.YtfjdfnlkobeehaaKDeF22
import Derived.Test.YtfjdfnlkobeehaaKDeF24
import Derived.Test.YtfjdfnlkobeehaaKDeF25
import Derived.Laws.Strings
section
set_option maxRecDepth 100000
set_option linter.unusedVariables false
set_option linter.unusedSimpArgs false
namespace Go.Proofs.Ytfjdfnlkobeehaa

section
variable {f s lo t u2 wl P g r W Z : Nat}

theorem guess_top (hP : 0 < P) (hZ : Z = (f * 4294967296 + s) * P + lo) (hW : W = (t * 4294967296 + u2) * P + wl) (hs : s < 4294967296) (hlo : lo < P) (h : W < 4294967296 * Z) : t < 4294967296 * f + 4294967296 := by
  have h1 : t * 4294967296 * P ≤ W := by rw [hW, Nat.add_mul]; omega
  have h2 : Z ≤ (f + 1) * 4294967296 * P := by
    have : (f * 4294967296 + s + 1) * P ≤ (f + 1) * 4294967296 * P := Nat.mul_le_mul_right _ (by omega)
    rw [Nat.add_mul _ 1, Nat.one_mul] at this
    omega
  have h3 : t * 4294967296 * P < 4294967296 * (f + 1) * (4294967296 * P) := by
    have : 4294967296 * Z ≤ 4294967296 * ((f + 1) * 4294967296 * P) := Nat.mul_le_mul_left _ h2
    rw [Nat.mul_assoc, Nat.mul_assoc 4294967296]
    rw [Nat.mul_assoc (f + 1)] at this
    rw [Nat.mul_assoc t] at h1
    omega
  rw [Nat.mul_assoc] at h3
  have h4 := Nat.lt_of_mul_lt_mul_right h3
  omega

theorem guess_first (hP : 0 < P) (hf : 0 < f) (hZ : Z = (f * 4294967296 + s) * P + lo) (hW : W = (t * 4294967296 + u2) * P + wl) (hu2 : u2 < 4294967296) (hwl : wl < P) : W / Z ≤ t / f := by
  rw [Nat.le_div_iff_mul_le hf]
  have h0 : W / Z * Z ≤ W := Nat.div_mul_le_self W Z
  generalize W / Z = q at *
  rcases Nat.lt_or_ge t (q * f) with h | h
  · exfalso
    have h1 : (t + 1) * (4294967296 * P) ≤ q * f * (4294967296 * P) := Nat.mul_le_mul_right _ h
    have h2 : q * f * (4294967296 * P) ≤ q * Z := by
      rw [Nat.mul_assoc]
      refine Nat.mul_le_mul_left _ ?_
      rw [hZ, Nat.add_mul, Nat.mul_assoc]; omega
    have h3 : W < (t + 1) * (4294967296 * P) := by
      have : (t * 4294967296 + u2 + 1) * P ≤ (t + 1) * 4294967296 * P := Nat.mul_le_mul_right _ (by omega)
      rw [Nat.add_mul _ 1, Nat.one_mul] at this
      rw [← Nat.mul_assoc]
      omega
    omega
  · exact h

theorem guess_again (hP : 0 < P) (hZ : Z = (f * 4294967296 + s) * P + lo) (hW : W = (t * 4294967296 + u2) * P + wl) (hwl : wl < P) (hb : W < 4294967296 * Z) (hq : W / Z ≤ g) (hg : g * f + r = t)
    (h : 4294967296 ≤ g ∨ r * 4294967296 + u2 < g * s) : W / Z < g := by
  have hZ0 : 0 < Z := by rcases Nat.eq_zero_or_pos Z with h | h; subst h; omega; exact h
  have hqB : W / Z < 4294967296 := (Nat.div_lt_iff_lt_mul hZ0).2 hb
  rcases h with h | h
  · omega
  · rcases Nat.lt_or_ge (W / Z) g with h1 | h1
    · exact h1
    · exfalso
      have e : W / Z = g := by omega
      have h0 : W / Z * Z ≤ W := Nat.div_mul_le_self W Z
      rw [e] at h0
      have h2 : (t * 4294967296 + u2 + 1) * P ≤ g * Z := by
        have : (t * 4294967296 + u2 + 1) * P ≤ (g * (f * 4294967296 + s)) * P := by
          refine Nat.mul_le_mul_right _ ?_
          rw [Nat.mul_add, ← Nat.mul_assoc, ← hg, Nat.add_mul]
          omega
        refine Nat.le_trans this ?_
        rw [Nat.mul_assoc]
        have h5 : (f * 4294967296 + s) * P ≤ Z := by rw [hZ]; exact Nat.le_add_right _ _
        exact Nat.mul_le_mul_left g h5
      rw [Nat.add_mul _ 1, Nat.one_mul] at h2
      omega

theorem guess_done (hP : 0 < P) (hf : 0 < f) (hZ : Z = (f * 4294967296 + s) * P + lo) (hW : W = (t * 4294967296 + u2) * P + wl) (hs : s < 4294967296) (hlo : lo < P) (hg : g * f + r = t) (hg' : g < 4294967296)
    (h : 4294967296 ≤ r ∨ g * s ≤ r * 4294967296 + u2) : g ≤ W / Z + 1 := by
  have hZP : 4294967296 * P ≤ Z := by
    have : 1 * 4294967296 * P ≤ f * 4294967296 * P := Nat.mul_le_mul_right _ (Nat.mul_le_mul_right _ hf)
    rw [hZ, Nat.add_mul]; omega
  have hZ0 : 0 < Z := by omega
  rcases Nat.eq_zero_or_pos g with h0 | h0
  · rw [h0]; exact Nat.zero_le _
  obtain ⟨k, rfl⟩ : ∃ k, g = k + 1 := ⟨g - 1, by omega⟩
  refine Nat.succ_le_succ ?_
  rw [Nat.le_div_iff_mul_le hZ0]
  rcases h with h | h
  · have h1 : (k + 1) * Z ≤ W := by
      have : (k + 1) * Z ≤ (k + 1) * ((f * 4294967296 + 4294967296) * P) := by
        refine Nat.mul_le_mul_left _ ?_
        have : (f * 4294967296 + s + 1) * P ≤ (f * 4294967296 + 4294967296) * P := Nat.mul_le_mul_right _ (by omega)
        rw [Nat.add_mul _ 1, Nat.one_mul] at this
        omega
      refine Nat.le_trans this ?_
      rw [← Nat.mul_assoc]
      have h2 : (k + 1) * (f * 4294967296 + 4294967296) * P ≤ t * 4294967296 * P := by
        refine Nat.mul_le_mul_right _ ?_
        rw [Nat.mul_add, ← Nat.mul_assoc, ← hg, Nat.add_mul]
        omega
      have h3 : t * 4294967296 * P ≤ W := by rw [hW, Nat.add_mul, Nat.add_assoc]; exact Nat.le_add_right _ _
      exact Nat.le_trans h2 h3
    rw [Nat.add_mul] at h1
    omega
  · have h1 : (k + 1) * Z ≤ (t * 4294967296 + u2) * P + (k + 1) * lo := by
      rw [hZ, Nat.mul_add, ← Nat.mul_assoc]
      refine Nat.add_le_add_right (Nat.mul_le_mul_right _ ?_) _
      rw [Nat.mul_add, ← Nat.mul_assoc, ← hg, Nat.add_mul _ r]
      omega
    have h2 : (k + 1) * lo ≤ 4294967296 * P := Nat.mul_le_mul (by omega) (by omega)
    rw [Nat.add_mul k, Nat.one_mul] at h1
    omega
end


theorem take_sub {u v b : Nat} (hu : u < 4294967296) (hv : v < 4294967296) (hb : b ≤ 1) : ∃ z b' : Nat, z < 4294967296 ∧ b' ≤ 1 ∧ (((u : Int) - v) % 18446744073709551616 - b) % 18446744073709551616 % 4294967296 = z ∧
    (((u : Int) - v) % 18446744073709551616 - b) % 18446744073709551616 / 9223372036854775808 = b' ∧ z + v + b = u + 4294967296 * b' := by
  by_cases h : v + b ≤ u
  · exact ⟨u - v - b, 0, by omega, by omega, by omega, by omega, by omega⟩
  · exact ⟨u + 4294967296 - v - b, 1, by omega, by omega, by omega, by omega, by omega⟩


theorem seg_succ {zs : List Nat} {off i : Nat} (h : off + i < zs.length) : V ((zs.drop off).take (i + 1)) = V ((zs.drop off).take i) + 4294967296 ^ i * zs.getD (off + i) 0 := by
  rw [V_take_succ _ (by simp; omega)]
  congr 2
  rw [List.getD_eq_getElem?_getD, List.getElem?_drop, ← List.getD_eq_getElem?_getD]
theorem seg_set {zs : List Nat} {off i x : Nat} (h : off + i < zs.length) : V (((zs.set (off + i) x).drop off).take (i + 1)) = V ((zs.drop off).take i) + 4294967296 ^ i * x := by
  rw [seg_succ (by simpa using h), List.getD_eq_getElem?_getD, List.getElem?_set_self h]
  congr 2
  rw [List.drop_set, if_neg (by omega), Nat.add_sub_cancel_left, List.take_set_of_le (Nat.le_refl _)]
theorem getD_of_drop {zs ws : List Nat} {k : Nat} (h : zs.drop k = ws.drop k) : zs.getD k 0 = ws.getD k 0 := by
  have := congrArg (fun l => l[0]?) h
  simp only [List.getElem?_drop, Nat.add_zero] at this
  rw [List.getD_eq_getElem?_getD, List.getD_eq_getElem?_getD, this]
theorem drop_set_succ {zs ws : List Nat} {k x : Nat} (h : zs.drop k = ws.drop k) : (zs.set k x).drop (k + 1) = ws.drop (k + 1) := by
  rw [List.drop_set_of_lt (Nat.lt_succ_self k)]
  have := congrArg (List.drop 1) h
  simpa only [List.drop_drop] using this
theorem take_step {g v c b y z b' Sw Sv Su P : Nat} (hi : Sw + g * Sv = Su + P * (c + b)) (hz : z + (c + g * v) % 4294967296 + b = y + 4294967296 * b') :
    (Sw + P * z) + g * (Sv + P * v) = (Su + P * y) + (P * 4294967296) * ((c + g * v) / 4294967296 + b') := by
  have h2 := Nat.mod_add_div (c + g * v) 4294967296
  generalize (c + g * v) % 4294967296 = r at *
  generalize (c + g * v) / 4294967296 = q at *
  have h3 : P * (z + r + b) = P * (y + 4294967296 * b') := by rw [hz]
  have h4 : P * (r + 4294967296 * q) = P * (c + g * v) := by rw [h2]
  rw [Nat.mul_add g, Nat.mul_left_comm g P v, Nat.mul_add (P * 4294967296), Nat.mul_assoc P, Nat.mul_assoc P]
  simp only [Nat.mul_add] at h3 h4 hi
  omega
theorem take_end0 {S g Z W : Nat} (hZ : 0 < Z) (h : S + g * Z = W) (h2 : W / Z ≤ g) : W / Z = g ∧ S = W % Z := by
  have h1 : g ≤ W / Z := by rw [Nat.le_div_iff_mul_le hZ]; omega
  have e : W / Z = g := by omega
  have := Nat.div_add_mod W Z
  rw [e, Nat.mul_comm] at this
  exact ⟨e, by omega⟩
theorem take_end1 {S g Z W BB F e : Nat} (hZ : 0 < Z) (hZB : Z ≤ BB) (h : S + g * Z = W + BB) (hS : S < BB) (hg : g ≤ W / Z + 1) (hF : F < BB) (hf : F + BB * e = S + Z) : W / Z = g - 1 ∧ 0 < g ∧ F = W % Z := by
  have h1 : W < g * Z := by omega
  have h2 : W / Z < g := (Nat.div_lt_iff_lt_mul hZ).2 h1
  have hm := Nat.mod_lt W hZ
  have hd := Nat.div_add_mod W Z
  generalize W / Z = q at *
  generalize W % Z = p at *
  have eg : g = q + 1 := by omega
  rw [eg, Nat.add_mul, Nat.one_mul, Nat.mul_comm q] at h
  have h3 : F + BB * e = p + BB := by omega
  have he : e = 1 := by
    rcases Nat.lt_trichotomy e 1 with h | h | h
    · have : e = 0 := by omega
      subst this; omega
    · exact h
    · have : BB * 2 ≤ BB * e := Nat.mul_le_mul_left _ h
      omega
  subst he
  exact ⟨by omega, by omega, by omega⟩
theorem upd_upd {α : Type} (f : Nat → α) (i : Nat) (x y : α) : upd (upd f i x) i y = upd f i y := by
  funext j; unfold upd; split <;> rfl
theorem upd_id {α : Type} {f : Nat → α} {i : Nat} {x : α} (h : f i = x) : upd f i x = f := by
  funext j; unfold upd; split
  · rename_i e; subst e; exact h.symm
  · rfl
attribute [go_sem] upd_upd
theorem frzL_U (D : Nat → Bool) (H : Nat → Option (List PV)) (d : Nat) (xs : List Nat) : (xs.map U).mapM (Ytfjdfnlkobeehaa.frz D H d) = some (xs.map U) := frzL_flat D H d (flatL_U xs)
attribute [go_sem] frzL_U

theorem arith1 {a P W Z Y N B : Nat} (h : a + P * W + Z * (P * B * Y) = N) : a + P * (W % Z) + Z * (P * (W / Z + B * Y)) = N := by
  have h7 := Nat.div_add_mod W Z
  generalize W / Z = q at *
  generalize W % Z = r at *
  subst h7
  rw [← h, Nat.mul_add P, Nat.mul_add P, Nat.mul_add Z, Nat.mul_left_comm Z P q, Nat.mul_assoc P B Y]
  omega
theorem arith2 {P B a b c d x1 x0 u2 : Nat} (hb : b = u2 + B * c) (hc : c = x0 + B * d) (hd : d = x1 + B * 0) : a + P * b = ((x1 * B + x0) * B + u2) * P + a := by
  rw [Nat.mul_zero, Nat.add_zero] at hd
  rw [hb, hc, hd, Nat.add_comm a, Nat.mul_comm P, Nat.mul_comm x1, Nat.mul_comm _ B, Nat.add_comm x0, Nat.add_comm u2]
theorem arith3 {P B a b c x0 u2 : Nat} (hb : b = u2 + B * c) (hc : c = x0 + B * 0) : a + P * b = (x0 * B + u2) * P + a := by
  rw [Nat.mul_zero, Nat.add_zero] at hc
  rw [hb, hc, Nat.add_comm a, Nat.mul_comm P, Nat.mul_comm x0, Nat.add_comm u2]
theorem arith4 {a t x y Z P Q : Nat} (h1 : a < 4294967296 * Z) (h2 : Z < P) (h3 : Q = P * 4294967296) (h4 : a = t + Q * x) : x = 0 ∧ a = t := by
  rcases Nat.eq_zero_or_pos x with h | h
  · subst h; exact ⟨rfl, by rw [h4, Nat.mul_zero, Nat.add_zero]⟩
  · have h5 : Q * 1 ≤ Q * x := Nat.mul_le_mul_left _ h
    generalize Q * x = y at *
    omega
theorem arith5 {a b x Z : Nat} (h1 : a = b + 4294967296 * x) (h2 : b < 4294967296) (h : x < Z) : a < 4294967296 * Z := by omega

theorem long_tail {ws : List Nat} {j m Z : Nat} (hj : j + (m + 1) ≤ ws.length) (hwm : Lm ws) (hZ : Z < 4294967296 ^ m) (h : V (ws.drop (j + 1)) < Z) :
    V (ws.drop (j + (m + 1))) = 0 ∧ V (ws.drop j) = V ((ws.drop j).take (m + 1)) ∧ V (ws.drop j) < 4294967296 * Z := by
  have h3 : V (ws.drop j) < 4294967296 * Z := arith5 (V_drop ws (i := j) (Nat.lt_of_lt_of_le (Nat.lt_add_of_pos_right (Nat.succ_pos m)) hj)) (hwm.get j) h
  have h4 := V_split (ws.drop j) (i := m + 1) (by rw [List.length_drop]; exact Nat.le_sub_of_add_le (Nat.add_comm _ _ ▸ hj))
  rw [List.drop_drop] at h4
  obtain ⟨h6, h7⟩ := arith4 (y := 0) h3 hZ (Nat.pow_succ ..) h4
  exact ⟨h6, h7, h3⟩
theorem long_step {ws w2 qs : List Nat} {j m Z N W : Nat} (hj : j + (m + 1) ≤ ws.length) (hl : w2.length = ws.length) (hq : j < qs.length) (hZ0 : 0 < Z)
    (hp : w2.take j = ws.take j) (hd : w2.drop (j + (m + 1)) = ws.drop (j + (m + 1))) (hv : V ((w2.drop j).take (m + 1)) = W % Z) (h0 : V (ws.drop (j + (m + 1))) = 0) (hW : V (ws.drop j) = W)
    (h : V ws + Z * (4294967296 ^ (j + 1) * V (qs.drop (j + 1))) = N) :
    V w2 + Z * (4294967296 ^ j * V ((qs.set j (W / Z)).drop j)) = N ∧ V (w2.drop j) < Z := by
  have h1 := V_split ws (i := j) (by omega)
  have h2 := V_split w2 (i := j) (by omega)
  have h4 := V_split (w2.drop j) (i := m + 1) (by simp; omega)
  rw [List.drop_drop, hd, h0, hv, Nat.mul_zero, Nat.add_zero] at h4
  have h6 : V ((qs.set j (W / Z)).drop j) = W / Z + 4294967296 * V (qs.drop (j + 1)) := V_set_drop hq
  refine ⟨?_, by rw [h4]; exact Nat.mod_lt _ hZ0⟩
  rw [h4, hp] at h2
  rw [hW] at h1
  rw [Nat.pow_succ, h1] at h
  rw [h6, h2]
  exact arith1 h
theorem guess_parts {ws : List Nat} {j m : Nat} (hm : 2 ≤ m) (hj : j + (m + 1) ≤ ws.length) (h0 : V (ws.drop (j + (m + 1))) = 0) :
    V (ws.drop j) = ((ws.getD (j + m) 0 * 4294967296 + ws.getD (j + m - 1) 0) * 4294967296 + ws.getD (j + m - 2) 0) * 4294967296 ^ (m - 2) + V ((ws.drop j).take (m - 2)) := by
  have h1 := V_split (ws.drop j) (i := m - 2) (by simp; omega)
  rw [List.drop_drop] at h1
  have h2 := V_drop ws (i := j + (m - 2)) (by omega)
  have h3 := V_drop ws (i := j + (m - 2) + 1) (by omega)
  have h4 := V_drop ws (i := j + (m - 2) + 1 + 1) (by omega)
  have e1 : j + (m - 2) = j + m - 2 := by omega
  have e2 : j + (m - 2) + 1 = j + m - 1 := by omega
  have e3 : j + (m - 2) + 1 + 1 = j + m := by omega
  have e4 : j + (m - 2) + 1 + 1 + 1 = j + (m + 1) := by omega
  rw [e4, h0] at h4
  rw [e3] at h4 h3
  rw [e2] at h3 h2
  rw [e1] at h2 h1
  rw [h1]
  exact arith2 h2 h3 h4
theorem div_parts {v : List Nat} {m : Nat} (hm : 2 ≤ m) (hl : v.length = m) : V v = (v.getD (m - 1) 0 * 4294967296 + v.getD (m - 2) 0) * 4294967296 ^ (m - 2) + V (v.take (m - 2)) := by
  have h1 := V_split v (i := m - 2) (by omega)
  have h2 := V_drop v (i := m - 2) (by omega)
  have h3 := V_drop v (i := m - 2 + 1) (by omega)
  have e2 : m - 2 + 1 = m - 1 := by omega
  have e3 : m - 2 + 1 + 1 = m := by omega
  have e4 : v.drop m = [] := by rw [← hl, List.drop_length]
  rw [e3, e4, V_nil] at h3
  rw [e2] at h3 h2
  rw [h1]
  exact arith3 h2 h3
end Go.Proofs.Ytfjdfnlkobeehaa

namespace Go.Proofs.Ytfjdfnlkobeehaa


def takeQ (H : Nat → Option (List PV)) (nx id off m Z W : Nat) (zs : List Nat) (l : List PV) (r : PV) (H' : Nat → Option (List PV)) (nx' : Nat) : Prop :=
  ∃ ws : List Nat, ws.length = zs.length ∧ Lm ws ∧ ws.take off = zs.take off ∧ ws.drop (off + (m + 1)) = zs.drop (off + (m + 1)) ∧ V ((ws.drop off).take (m + 1)) = W % Z ∧
    r = .val (.int .u32 (W / Z : Nat)) ∧ H' = upd H id (some (ws.map U ++ l)) ∧ nx' = nx

theorem take_calls {H : Nat → Option (List PV)} {nx id off m cap g W : Nat} {zs vs : List Nat} {l : List PV} (hvs : Lm vs) (hm : vs.length = m) (hzs : Lm zs) (hoff : off + (m + 1) ≤ zs.length) (hlen : zs.length ≤ 4398046511104)
    (hcap : m + 1 ≤ cap) (hH : H id = some (zs.map U ++ l)) (hW : V ((zs.drop off).take (m + 1)) = W) (hZ : 0 < V vs) (hg : g < 4294967296) (hg1 : W / V vs ≤ g) (hg2 : g ≤ W / V vs + 1) :
    PCalls Try.prog 139 [.ref id off (m + 1) cap 1, SU vs, .val (.int .u64 g)] H nx (takeQ H nx id off m (V vs) W zs l) := by
  subst hm
  refine PCalls.enter (n := 107) (rs := [.tmp 6]) (tb := [(19, [(0, []), (1, []), (2, []), (3, []), (4, []), (5, []), (6, []), (7, []), (8, []), (9, []), (10, []), (11, []), (12, []), (13, [])]), (1000019, [(0, []), (0, []), (0, []), (6, []), (14, []), (30, []), (0, []), (0, []), (192, []), (448, []), (960, []), (2046, []), (4095, []), (8191, [])])]) Try.func139 rfl rfl rfl (by kernel_rfl) (by kernel_rfl) (by simp) fun c hc ht => ?_
  simp -implicitDefEqProofs (disch := omega) only [go_sem, ht]
  refine LW.loopW hc ht (by kernel_rfl) (fun t => t.sl 0 = .ref id off (vs.length + 1) cap 1 ∧ t.sl 1 = .sl vs.length (vs.map U) ∧ t.sl 2 = .val (.int .u64 g) ∧ t.sl 13 = .sl vs.length (vs.map U) ∧ t.sl 14 = .val (.int .i64 vs.length) ∧ ∃ i : Nat, i ≤ vs.length ∧ t.sl 15 = .val (.int .i64 i) ∧
      ∃ (ws : List Nat) (c b : Nat), ws.length = zs.length ∧ t.H = upd H id (some (ws.map U ++ l)) ∧ t.nx = nx ∧ Lm ws ∧ t.sl 7 = .val (.int .u64 c) ∧ c ≤ g - 1 ∧ t.sl 8 = .val (.int .u64 b) ∧ b ≤ 1 ∧ ws.take off = zs.take off ∧ ws.drop (off + i) = zs.drop (off + i) ∧
        Hide (V ((ws.drop off).take i) + g * V (vs.take i) = V ((zs.drop off).take i) + 4294967296 ^ i * (c + b)))
      (fun t => match t.sl 15 with | .val (.int _ i) => vs.length - i.toNat | _ => 0) ?_ ?_
  · simp -implicitDefEqProofs (disch := omega) only [go_sem, ht]
    exact ⟨0, Nat.zero_le _, rfl, zs, 0, 0, rfl, (upd_id hH).symm, hzs, rfl, by omega, rfl, by omega, rfl, rfl, Hide.mk (by simp [V])⟩
  · rintro t ⟨h0, h1, h2, h13, h14, i, hi, h15, ws, c', b, hwl, eH, en, hwm, h7, hc', h8, hb, hpre, hpost, heq⟩
    have hset : ∀ k z, z < 4294967296 → Lm (ws.set k z) := fun k z hz x hx => by
      rcases List.mem_or_eq_of_mem_set hx with h | h
      · exact hwm x h
      · omega
    have hu := hwm.get (off + i)
    by_cases hil : i = vs.length
    · have hq := heq.out
      clear heq
      rw [hil, List.take_length] at hq
      obtain ⟨z, b', hz, hb', e1, e2, e3⟩ := take_sub hu (show c' < 4294967296 by omega) hb
      have e4 : V (((ws.set (off + i) z).drop off).take (i + 1)) + g * V vs = W + 4294967296 ^ (i + 1) * b' := by
        have hy := getD_of_drop hpost
        rw [seg_set (by omega), ← hW, ← hil, seg_succ (by omega), ← hy, Nat.pow_succ, Nat.mul_assoc, hil]
        rw [hil] at e3
        have : 4294967296 ^ vs.length * (z + c' + b) = 4294967296 ^ vs.length * (ws.getD (off + vs.length) 0 + 4294967296 * b') := by rw [e3]
        simp only [Nat.mul_add] at this hq ⊢
        omega
      have hp1 : (ws.set (off + i) z).take off = zs.take off := by rw [List.take_set_of_le (by omega), hpre]
      have hp2 : (ws.set (off + i) z).drop (off + (i + 1)) = zs.drop (off + (i + 1)) := drop_set_succ hpost
      subst hil
      by_cases hb0 : b' = 0
      · have e5 : V (((ws.set (off + vs.length) z).drop off).take (vs.length + 1)) + g * V vs = W := by rw [e4, hb0, Nat.mul_zero, Nat.add_zero]
        clear e4
        have ez : ws.getD (off + vs.length) 0 - c' - b = z := by omega
        rw [hb0] at e2
        obtain ⟨q1, q2⟩ := take_end0 hZ e5 hg1
        have q2 := Hide.mk q2
        clear e5 hq hg1 hg2 hW
        simp -implicitDefEqProofs (disch := omega) only [go_sem, ht, h0, h1, h2, h13, h14, h15, h7, h8, eH, e1, e2, ez]
        refine end_plain (by simp -implicitDefEqProofs (disch := omega) only [go_sem, ht] <;> rfl) ?_
        simp only [tupP_1]
        simp -implicitDefEqProofs (disch := omega) only [go_sem, ht, eH, en]
        exact ⟨_, by simp [hwl], hset _ _ hz, hp1, hp2, q2.out, by rw [q1], rfl, rfl⟩
      · have hb1 : b' = 1 := by omega
        have e5 : V (((ws.set (off + vs.length) z).drop off).take (vs.length + 1)) + g * V vs = W + 4294967296 ^ (vs.length + 1) := by rw [e4, hb1, Nat.mul_one]
        clear e4
        rw [hb1] at e2
        have e4 := Hide.mk e5
        clear e5
        clear hq hW hg1
        simp -implicitDefEqProofs (disch := omega) only [go_sem, ht, h0, h1, h2, h13, h14, h15, h7, h8, eH, e1, e2]
        have hw1 := hset (off + vs.length) z hz
        have hl1 : (ws.set (off + vs.length) z).length = zs.length := by simp [hwl]
        generalize ws.set (off + vs.length) z = w1 at *
        clear hset hu e1 e2 e3 hpost hpre hwm h7 h8 h13 h14 h15 hc' hb
        refine LW.loopW hc ht (by kernel_rfl) (fun s => s.sl 0 = .ref id off (vs.length + 1) cap 1 ∧ s.sl 1 = .sl vs.length (vs.map U) ∧ s.sl 2 = .val (.int .u64 g) ∧ s.sl 69 = .sl vs.length (vs.map U) ∧ s.sl 70 = .val (.int .i64 vs.length) ∧ ∃ i : Nat, i ≤ vs.length ∧ s.sl 71 = .val (.int .i64 i) ∧
          ∃ (ws : List Nat) (c : Nat), ws.length = zs.length ∧ s.H = upd H id (some (ws.map U ++ l)) ∧ s.nx = nx ∧ Lm ws ∧ s.sl 7 = .val (.int .u64 c) ∧ c ≤ 1 ∧ ws.take off = zs.take off ∧ ws.drop (off + i) = w1.drop (off + i) ∧
            Hide (V ((ws.drop off).take i) + 4294967296 ^ i * c = V ((w1.drop off).take i) + V (vs.take i)))
          (fun s => match s.sl 71 with | .val (.int _ i) => vs.length - i.toNat | _ => 0) ?_ ?_
        · simp -implicitDefEqProofs (disch := omega) only [go_sem, ht, h0, h1, h2, eH, en]
          exact ⟨0, Nat.zero_le _, rfl, w1, 0, hl1, rfl, hw1, rfl, by omega, hp1, rfl, Hide.mk (by simp [V])⟩
        · clear h0 h1 h2 eH en hwl ws t
          rintro t ⟨h0, h1, h2, h69, h70, i, hi, h71, ws, c', hwl, eH, en, hwm, h7, hc', hpre, hpost, heq⟩
          have hset : ∀ k z, z < 4294967296 → Lm (ws.set k z) := fun k z hz x hx => by
            rcases List.mem_or_eq_of_mem_set hx with h | h
            · exact hwm x h
            · omega
          have hu := hwm.get (off + i)
          by_cases hil : i = vs.length
          · subst hil
            have f1 : V (((ws.set (off + vs.length) ((ws.getD (off + vs.length) 0 + c') % 4294967296)).drop off).take (vs.length + 1)) + 4294967296 ^ (vs.length + 1) * ((ws.getD (off + vs.length) 0 + c') / 4294967296) = V ((w1.drop off).take (vs.length + 1)) + V vs := by
              have hy := getD_of_drop hpost
              have heq := heq.out
              rw [List.take_length] at heq
              rw [seg_set (by omega), seg_succ (zs := w1) (by omega), ← hy, Nat.pow_succ, Nat.mul_assoc, Nat.add_assoc, ← Nat.mul_add, Nat.mod_add_div, Nat.mul_add]
              omega
            have hZB : V vs ≤ 4294967296 ^ (vs.length + 1) := by
              have := V_lt hvs
              rw [Nat.pow_succ]; omega
            have hwm2 := hset (off + vs.length) _ (Nat.mod_lt (ws.getD (off + vs.length) 0 + c') (by decide))
            have hF : V (((ws.set (off + vs.length) ((ws.getD (off + vs.length) 0 + c') % 4294967296)).drop off).take (vs.length + 1)) < 4294967296 ^ (vs.length + 1) := by
              have := V_lt ((hwm2.drop off).take (vs.length + 1))
              rwa [List.length_take_of_le (by simp; omega)] at this
            have hS : V ((w1.drop off).take (vs.length + 1)) < 4294967296 ^ (vs.length + 1) := by
              have := V_lt ((hw1.drop off).take (vs.length + 1))
              rwa [List.length_take_of_le (by simp; omega)] at this
            obtain ⟨q1, q0, q2⟩ := take_end1 hZ hZB e4.out hS hg2 hF f1
            have q2 := Hide.mk q2
            have hp3 : (ws.set (off + vs.length) ((ws.getD (off + vs.length) 0 + c') % 4294967296)).take off = zs.take off := by rw [List.take_set_of_le (by omega), hpre]
            have hp4 : (ws.set (off + vs.length) ((ws.getD (off + vs.length) 0 + c') % 4294967296)).drop (off + (vs.length + 1)) = zs.drop (off + (vs.length + 1)) := (drop_set_succ hpost).trans hp2
            clear f1 hZB hF hS e4 heq hg2
            simp -implicitDefEqProofs (disch := omega) only [go_sem, ht, h0, h1, h2, h69, h70, h71, h7, eH, en]
            refine end_plain (by simp -implicitDefEqProofs (disch := omega) only [go_sem, ht] <;> rfl) ?_
            simp only [tupP_1]
            simp -implicitDefEqProofs (disch := omega) only [go_sem, ht, eH, en]
            exact ⟨_, by simp [hwl], hwm2, hp3, hp4, q2.out, by rw [q1], rfl, rfl⟩
          · have hv := hvs.get i
            have key : Hide (V (((ws.set (off + i) ((c' + (ws.getD (off + i) 0 + vs.getD i 0)) % 4294967296)).drop off).take (i + 1)) + 4294967296 ^ (i + 1) * ((c' + (ws.getD (off + i) 0 + vs.getD i 0)) / 4294967296) = V ((w1.drop off).take (i + 1)) + V (vs.take (i + 1))) := by
              have hy := getD_of_drop hpost
              have heq := heq.out
              rw [seg_set (by omega), seg_succ (zs := w1) (by omega), V_take_succ vs (by omega), ← hy, Nat.pow_succ, Nat.mul_assoc, Nat.add_assoc, ← Nat.mul_add, Nat.mod_add_div, Nat.mul_add, Nat.mul_add]
              exact Hide.mk (by omega)
            have hp3 : (ws.set (off + i) ((c' + (ws.getD (off + i) 0 + vs.getD i 0)) % 4294967296)).take off = zs.take off := by rw [List.take_set_of_le (by omega), hpre]
            have hp4 : (ws.set (off + i) ((c' + (ws.getD (off + i) 0 + vs.getD i 0)) % 4294967296)).drop (off + (i + 1)) = w1.drop (off + (i + 1)) := drop_set_succ hpost
            clear heq hg2
            simp -implicitDefEqProofs (disch := omega) only [go_sem, ht, h0, h1, h2, h69, h70, h71, h7, eH, en]
            exact ⟨⟨i + 1, by omega, rfl, _, _, by simp [hwl], rfl, hset _ _ (Nat.mod_lt _ (by decide)), rfl, by omega, hp3, hp4, key⟩, by omega⟩
    · have hv := hvs.get i
      have hgv : g * vs.getD i 0 ≤ g * 4294967295 := Nat.mul_le_mul_left _ (by omega)
      obtain ⟨z, b', hz, hb', e1, e2, e3⟩ := take_sub hu (show (c' + g * vs.getD i 0) % 4294967296 < 4294967296 from Nat.mod_lt _ (by decide)) hb
      have key : Hide (V (((ws.set (off + i) z).drop off).take (i + 1)) + g * V (vs.take (i + 1)) = V ((zs.drop off).take (i + 1)) + 4294967296 ^ (i + 1) * ((c' + g * vs.getD i 0) / 4294967296 + b')) := by
        have hy := getD_of_drop hpost
        rw [seg_set (by omega), seg_succ (zs := zs) (by omega), V_take_succ vs (by omega), Nat.pow_succ, ← hy]
        exact Hide.mk (take_step heq.out e3)
      have hp1 : (ws.set (off + i) z).take off = zs.take off := by rw [List.take_set_of_le (by omega), hpre]
      have hp2 : (ws.set (off + i) z).drop (off + (i + 1)) = zs.drop (off + (i + 1)) := drop_set_succ hpost
      clear heq hg1 hg2 hW e3
      simp -implicitDefEqProofs (disch := omega) only [go_sem, ht, h0, h1, h2, h13, h14, h15, h7, h8, eH, en, e1, e2]
      exact ⟨⟨i + 1, by omega, rfl, _, _, _, by simp [hwl], rfl, hset _ _ hz, rfl, by omega, rfl, hb', hp1, hp2, key⟩, by omega⟩
end Go.Proofs.Ytfjdfnlkobeehaa

namespace Go.Proofs.Ytfjdfnlkobeehaa


def Bt (x : Nat) : PV := .val (.int .u8 x)
theorem Bt_def (x : Nat) : Bt x = .val (.int .u8 x) := rfl
theorem flatL_B (xs : List Nat) : flatL (xs.map Bt) = true := by
  induction xs with
  | nil => rfl
  | cons x xs ih => simp [flatL, flat, Bt, ih]
theorem oneP_B (xs : List Nat) : (xs.map Bt).all oneP = true := by
  induction xs with
  | nil => rfl
  | cons x xs ih => simp [oneP, Bt, Value.oneCell', ih]
theorem repl_B (n : Nat) : repl n [PV.val (.int .u8 0)] = (List.replicate n 0).map Bt := by rw [repl_one]; simp [Bt]
theorem get_B {xs : List Nat} {i : Nat} (l : List PV) (h : i < xs.length) : (xs.map Bt ++ l)[i]? = some (.val (.int .u8 (xs.getD i 0 : Nat))) := by
  rw [List.getElem?_append_left (by simpa using h)]
  simp [h, Bt]
theorem get_B' {xs : List Nat} {i : Nat} (h : i < xs.length) : (xs.map Bt)[i]? = some (.val (.int .u8 (xs.getD i 0 : Nat))) := by
  simp [h, Bt]
theorem set_B' {xs : List Nat} {i x : Nat} (h : i < xs.length) : spl (xs.map Bt) i [.val (.int .u8 (x : Nat))] = (xs.set i x).map Bt := by
  unfold spl
  simp only [List.length_singleton]
  rw [List.set_eq_take_append_cons_drop, if_pos h]
  simp [Bt]
theorem bytesP_B (ys : List Nat) : bytesP (ys.map Bt) = some (ys.map UInt8.ofNat) := by
  induction ys with
  | nil => rfl
  | cons y ys ih =>
    simp only [List.map_cons, Bt, bytesP] at ih ⊢
    simp [ih]
theorem convP_ref {P : Program} {H : Nat → Option (List PV)} {s d : TypeId} {id off n cap z : Nat} : convP P H s d (.ref id off n cap z) = if strT P d = true ∧ (elemT P s).bind (kindT P) = some .u8 then
    (H id).bind fun cs => if off + n ≤ cs.length then (bytesP ((cs.drop off).take n)).map fun l => .val (.string ⟨l.toArray⟩) else none else none := by
  simp only [convP]; cases H id <;> rfl
attribute [go_sem] flatL_B oneP_B get_B get_B' set_B' convP_ref Bt_def bytesP_B
attribute [go_sem low] repl_B


def unU : PV → Nat
  | .val (.int _ z) => z.toNat
  | _ => 0
theorem unU_U (xs : List Nat) : (xs.map U).map unU = xs := by
  induction xs with
  | nil => rfl
  | cons x xs ih => simpa [U, unU] using ih


end Go.Proofs.Ytfjdfnlkobeehaa

namespace Go.Proofs.Ytfjdfnlkobeehaa

theorem lz_calls {x : Nat} (hx : x < 4294967296) : PT Try.prog 137 [.val (.int .u32 x)] (isV (.val (.int .i64 (32 - bl x : Nat)))) := by
  have hb : bl x ≤ 32 := bl_le.2 hx
  refine PCalls.enter (n := 6) (rs := [.tmp 2]) (tb := []) Try.func137 rfl rfl rfl (by kernel_rfl) (by kernel_rfl) (by simp) fun c hc ht => ?_
  simp -implicitDefEqProofs (disch := omega) only [go_sem, ht]
  (refine pCall_vw (by refine ⟨⟨?_, ?_⟩, ?_, ?_⟩; rotate_left 2; (first | (right; rintro r rfl; rfl) | left); all_goals ((try simp -implicitDefEqProofs (disch := omega) only [go_sem, ht]) <;> rfl)) (len32_calls hx) ?_; rintro _ nx - rfl hnx; simp -implicitDefEqProofs (disch := omega) only [go_sem, ht])
  (refine end_treeW 0 ?_; simp -implicitDefEqProofs (disch := omega) only [go_sem, ht])
  congr 2
  omega

theorem take_U {ws : List Nat} {l : List PV} {m : Nat} (h : m ≤ ws.length) : List.take m (ws.map U ++ l) = (ws.take m).map U := by
  rw [List.take_append_of_le_length (by simpa using h), List.map_take]

theorem norm_top {B m s : Nat} (hB : B ≠ 0) (hm : (D B).length = m) (hs : s = 32 - bl ((D B).getD (m - 1) 0)) : s < 32 ∧ B * 2 ^ s < 4294967296 ^ m ∧ 2147483648 ≤ (pad m (B * 2 ^ s)).getD (m - 1) 0 := by
  have hl := D_len_pos hB
  have hg := (Lm_D B).get (m - 1)
  have hb : bl ((D B).getD (m - 1) 0) ≤ 32 := bl_le.2 hg
  have hne := D_last B hB
  rw [hm] at hne
  have hb1 : bl ((D B).getD (m - 1) 0) ≠ 0 := fun h => hne (by have := bl_lt (n := (D B).getD (m - 1) 0); rw [h] at this; omega)
  have ht := bl_top hB
  rw [hm] at ht
  have e1 : bl B + s = 32 * m := by omega
  have h1 : B * 2 ^ s < 4294967296 ^ m := by
    rw [pow32, ← e1, Nat.pow_add]
    exact Nat.mul_lt_mul_of_pos_right bl_lt (Nat.pow_pos (by decide))
  refine ⟨by omega, h1, ?_⟩
  
  have h2 : 2 ^ (bl B - 1) ≤ B := bl_ge hB
  have h3 : 2 ^ (32 * m - 1) ≤ B * 2 ^ s := by
    rw [show 32 * m - 1 = (bl B - 1) + s by omega, Nat.pow_add]
    exact Nat.mul_le_mul_right _ h2
  have hv := pad_V m (B * 2 ^ s)
  rw [Nat.mod_eq_of_lt h1] at hv
  rw [← hv] at h3
  have hp := pad_len m (B * 2 ^ s)
  have hpm := pad_lm m (B * 2 ^ s)
  generalize pad m (B * 2 ^ s) = ps at *
  obtain ⟨k, rfl⟩ : ∃ k, m = k + 1 := ⟨m - 1, by omega⟩
  have h4 := V_take_succ ps (i := k) (by omega)
  rw [← hp, List.take_length] at h4
  have h5 := V_lt (hpm.take k)
  rw [List.length_take_of_le (by omega), pow32] at h5
  rw [h4, show 32 * (k + 1) - 1 = 32 * k + 31 by omega, Nat.pow_add, pow32] at h3
  rw [Nat.add_sub_cancel]
  generalize 2 ^ (32 * k) = P at *
  rcases Nat.lt_or_ge (ps.getD k 0) 2147483648 with h | h
  · exfalso
    have h6 : P * (ps.getD k 0 + 1) ≤ P * 2147483648 := Nat.mul_le_mul_left _ h
    rw [Nat.mul_add, Nat.mul_one] at h6
    have e : 2 ^ 31 = 2147483648 := by decide
    rw [e] at h3
    omega
  · exact h

theorem long_top {u v : List Nat} {la A s : Nat} (hu : u.length = la + 1) (hm : 2 ≤ v.length) (hml : v.length ≤ la) (hA : A < 4294967296 ^ la) (hs : s < 32) (h : V u = A * 2 ^ s) (htop : 2147483648 ≤ v.getD (v.length - 1) 0) :
    V (u.drop (u.length - v.length)) < V v := by
  have h1 : 2 ^ s ≤ 2147483648 := Nat.pow_le_pow_right (n := 2) (by decide) (show s ≤ 31 by omega)
  have h2 : V u < 4294967296 ^ la * 2147483648 := by
    rw [h]
    exact Nat.lt_of_le_of_lt (Nat.mul_le_mul_left _ h1) (Nat.mul_lt_mul_of_pos_right hA (Nat.succ_pos _))
  have h3 := V_split u (i := u.length - v.length) (Nat.sub_le _ _)
  have e : la = (u.length - v.length) + (v.length - 1) := by omega
  have h4 : 4294967296 ^ la = 4294967296 ^ (u.length - v.length) * 4294967296 ^ (v.length - 1) := by
    conv => lhs; rw [e, Nat.pow_add]
  rw [h4, Nat.mul_assoc] at h2
  have h5 : 4294967296 ^ (u.length - v.length) * V (u.drop (u.length - v.length)) < 4294967296 ^ (u.length - v.length) * (4294967296 ^ (v.length - 1) * 2147483648) := Nat.lt_of_le_of_lt (h3 ▸ Nat.le_add_left _ _) h2
  have h6 := Nat.lt_of_mul_lt_mul_left h5
  have h7 := V_take_succ v (i := v.length - 1) (by omega)
  rw [show v.length - 1 + 1 = v.length by omega, List.take_length] at h7
  refine Nat.lt_of_lt_of_le h6 (Nat.le_trans (Nat.mul_le_mul_left _ htop) ?_)
  rw [h7]
  exact Nat.le_add_left _ _

theorem dec_eq {g F r T : Nat} (h : g * F + r = T) (hg : 0 < g) : (g - 1) * F + (r + F) = T := by
  obtain ⟨k, rfl⟩ : ∃ k, g = k + 1 := ⟨g - 1, by omega⟩
  rw [Nat.add_mul, Nat.one_mul] at h
  rw [Nat.add_sub_cancel]; omega
theorem guess_lt {g F r T : Nat} (h : g * F + r = T) (ht : T < 4294967296 * F + 4294967296) (hr : 4294967296 ≤ r) : g < 4294967296 :=
  Nat.lt_of_mul_lt_mul_right (a := F) (by omega)

theorem long_calls {A B : Nat} (hA : Ok (D A)) (hB : Ok (D B)) (h2 : 4294967296 ≤ B) (hBA : B ≤ A) : PO2 Try.prog 127 [SU (D A), SU (D B)] (fun p q => .tup [p, q]) ((D (A / B)).map U) ((D (A % B)).map U) := by
  have hm2 := D_two h2
  have hla := D_len_mono hBA
  have hAl := hA.len
  have hBl := hB.len
  have hlz := lz_calls ((Lm_D B).get ((D B).length - 1))
  obtain ⟨hs, hBs, htop⟩ := norm_top (B := B) (m := (D B).length) (s := 32 - bl ((D B).getD ((D B).length - 1) 0)) (by omega) rfl rfl
  generalize hes : 32 - bl ((D B).getD ((D B).length - 1) 0) = s at *
  have hmu := moved_calls (n := (D A).length + 1) hA hs (by omega)
  have hmv := PLtree (moved_calls (n := (D B).length) hB hs (by omega))
  rw [V_D] at hmu hmv
  have hAs : A * 2 ^ s < 4294967296 ^ ((D A).length + 1) := by
    have h1 := V_lt (Lm_D A)
    rw [V_D] at h1
    rw [Nat.pow_succ]
    have h2 : 2 ^ s ≤ 4294967296 := by
      have := Nat.pow_le_pow_right (n := 2) (by decide) (show s ≤ 32 by omega)
      simpa using this
    exact Nat.lt_of_le_of_lt (Nat.mul_le_mul_left _ h2) (Nat.mul_lt_mul_of_pos_right h1 (by decide))
  have huV := pad_V ((D A).length + 1) (A * 2 ^ s)
  rw [Nat.mod_eq_of_lt hAs] at huV
  have huL := pad_len ((D A).length + 1) (A * 2 ^ s)
  have hum := pad_lm ((D A).length + 1) (A * 2 ^ s)
  have hvV := pad_V (D B).length (B * 2 ^ s)
  rw [Nat.mod_eq_of_lt hBs] at hvV
  have hvL := pad_len (D B).length (B * 2 ^ s)
  have hvm := pad_lm (D B).length (B * 2 ^ s)
  generalize hu0 : pad ((D A).length + 1) (A * 2 ^ s) = u0 at *
  generalize hv0 : pad (D B).length (B * 2 ^ s) = v at *
  have hAs := Hide.mk hAs
  have hBs := Hide.mk hBs
  have hvg := hvm.get (v.length - 1)
  have hvg2 := hvm.get (v.length - 2)
  have hZ0 : 0 < V v := by rw [hvV]; exact Nat.mul_pos (by omega) (Nat.pow_pos (by decide))
  have hZm : Hide (V v < 4294967296 ^ v.length) := Hide.mk (by rw [hvV, hvL]; exact hBs.out)
  have htop' : 2147483648 ≤ v.getD (v.length - 1) 0 := by rw [hvL]; exact htop
  have hu0t : Hide (V (u0.drop (u0.length - v.length)) < V v) := Hide.mk (long_top (A := A) huL (by omega) (by omega) (by have h1 := V_lt (Lm_D A); rwa [V_D] at h1) hs huV htop')
  have hdv := Hide.mk (div_parts (v := v) (m := v.length) (by omega) rfl)
  have hm3 : 2 ≤ v.length := by omega
  have hml : v.length ≤ (D A).length := by omega
  have hqe : A / B = V u0 / V v := by rw [huV, hvV, Nat.mul_div_mul_right _ _ (Nat.pow_pos (by decide))]
  have hre : A % B = (V u0 % V v) / 2 ^ s := by rw [huV, hvV, Nat.mul_mod_mul_right, Nat.mul_div_cancel _ (Nat.pow_pos (by decide))]
  refine PCalls.enter (n := 137) (rs := [.tmp 4, .tmp 5]) (tb := [(5, [(0, []), (1, []), (2, []), (3, []), (4, []), (5, []), (6, []), (7, []), (8, []), (9, []), (10, []), (11, []), (12, []), (13, [])]), (1000005, [(0, []), (0, []), (2, []), (7, []), (15, []), (31, []), (0, []), (0, []), (128, []), (448, []), (960, []), (1984, []), (63, []), (8191, [])]), (9, [(0, []), (1, []), (2, []), (3, []), (4, []), (5, []), (6, []), (7, []), (8, []), (9, []), (10, []), (11, []), (12, []), (13, []), (14, []), (15, []), (16, []), (17, [])]), (1000009, [(0, []), (0, []), (0, []), (6, []), (15, []), (31, []), (63, []), (127, []), (0, []), (0, []), (0, []), (1536, []), (3584, []), (7936, []), (16128, []), (32512, []), (65535, []), (131071, [])]), (10, [(0, []), (1, []), (2, []), (3, []), (4, []), (5, []), (6, []), (7, [])])]) Try.func127 rfl rfl rfl (by kernel_rfl) (by kernel_rfl) (by simp) fun c hc ht => ?_
  simp -implicitDefEqProofs (disch := omega) only [go_sem, ht]
  (refine pCall_vw (by refine ⟨⟨?_, ?_⟩, ?_, ?_⟩; rotate_left 2; (first | (right; rintro r rfl; rfl) | left); all_goals ((try simp -implicitDefEqProofs (disch := omega) only [go_sem, ht]) <;> rfl)) (hlz) ?_; rintro _ nx - rfl hnx; simp -implicitDefEqProofs (disch := omega) only [go_sem, ht])
  (refine pCall_own1 (mk := fun p => p) (mk_id) (by simp -implicitDefEqProofs (disch := omega) only [go_sem, ht] <;> rfl) (by simp -implicitDefEqProofs (disch := omega) only [go_sem, ht]) (closedL_U _) (flatL_U _) (hmu) ?_; intro id1 cap1 rest1 nx1 hid1 hnx1 hcap1; simp only [put_nx, withH_nx, begP_nx, List.length_map] at hid1 hcap1; simp -implicitDefEqProofs (disch := omega) only [go_sem, ht])
  (refine pCall_vw (by refine ⟨⟨?_, ?_⟩, ?_, ?_⟩; rotate_left 2; (first | (right; rintro r rfl; rfl) | left); all_goals ((try simp -implicitDefEqProofs (disch := omega) only [go_sem, ht]) <;> rfl)) (hmv) ?_; rintro _ nx - rfl hnx; simp -implicitDefEqProofs (disch := omega) only [go_sem, ht])
  clear hlz hmu hmv hv0 hu0 htop hes hBs hAs hvV hBA h2 hA hB
  rw [hqe, hre]
  have huV := Hide.mk huV
  clear hqe hre
  refine LW.loopW hc ht (by kernel_rfl) (fun t => t.sl 6 = .val (.int .i64 s) ∧ t.sl 8 = .sl v.length (v.map U) ∧ t.sl 9 = .val (.int .i64 v.length) ∧ t.sl 10 = .val (.int .u64 (v.getD (v.length - 1) 0 : Nat)) ∧ t.sl 11 = .val (.int .u64 (v.getD (v.length - 2) 0 : Nat)) ∧
      ∃ k : Nat, k ≤ u0.length - v.length ∧ t.sl 12 = .val (.int .i64 ((k : Int) - 1)) ∧ ∃ (idq idu : Nat) (qs ws : List Nat) (rest : List Value), idq ≠ idu ∧ idq < t.nx ∧ idu < t.nx ∧ qs.length = u0.length - v.length ∧ ws.length = u0.length ∧ Lm qs ∧ Lm ws ∧
        t.sl 4 = .ref idq 0 (u0.length - v.length) (u0.length - v.length) 1 ∧ t.sl 7 = .ref idu 0 u0.length cap1 1 ∧ t.H idq = some (qs.map U) ∧ t.H idu = some (ws.map U ++ List.map PV.val rest) ∧
        Hide (V ws + V v * (4294967296 ^ k * V (qs.drop k)) = V u0) ∧ Hide (V (ws.drop k) < V v))
      (fun t => match t.sl 12 with | .val (.int _ k) => (k + 1).toNat | _ => 0) ?_ ?_
  · simp -implicitDefEqProofs (disch := omega) only [go_sem, ht]
    exact ⟨u0.length - v.length, Nat.le_refl _, by congr 2; omega, nx, id1, List.replicate (u0.length - v.length) 0, u0, rest1, by omega, by omega, by omega, by simp, rfl, Lm_repl _, hum, by congr 1 <;> omega, rfl, by rw [upd_self], by rw [upd_ne _ _ (by omega)]; exact upd_self _ _ _, Hide.mk (by rw [List.drop_of_length_le (by simp)]; simp [V]), hu0t⟩
  · rintro t ⟨h6, h8, h9, h10, h11, k, hk, h12, idq, idu, qs, ws, rest, hne, hiq, hiu, hql, hwl, hqm, hwm, h4, h7, hHq, hHu, heq, hlt⟩
    by_cases hk0 : k = 0
    · subst hk0
      have hlt := hlt.out
      have heq := heq.out
      rw [List.drop_zero] at hlt heq
      rw [Nat.pow_zero, Nat.one_mul] at heq
      have q1 : V u0 / V v = V qs := by rw [← heq, Nat.add_comm, Nat.mul_add_div hZ0, Nat.div_eq_of_lt hlt, Nat.add_zero]
      have q2 : V u0 % V v = V ws := by rw [← heq, Nat.add_comm, Nat.mul_add_mod, Nat.mod_eq_of_lt hlt]
      have q3 : V (ws.take v.length) = V ws := by rw [V_take_mod hwm (by omega), Nat.mod_eq_of_lt (Nat.lt_trans hlt hZm.out)]
      rw [q1, q2]
      have hr := right_calls (xs := ws.take v.length) (s := (s : Int)) ⟨hwm.take _, by simp; omega⟩ (by omega) (by omega)
      rw [q3, if_neg (by omega), if_neg (by omega), Int.toNat_natCast, SU_def, List.length_take_of_le (show v.length ≤ ws.length by omega)] at hr
      have et := take_U (l := List.map PV.val rest) (show v.length ≤ ws.length by omega)
      have hqs : (qs.map U).take (D (V qs)).length = (D (V qs)).map U := by
        have := take_Ul (D (V qs)) ((List.replicate (qs.length - (D (V qs)).length) (Value.int .u32 0)).map .val)
        rwa [← own_split' hqm] at this
      have hql2 := D_len_V hqm
      have hrl : (D (V ws / 2 ^ s)).length ≤ u0.length := Nat.le_trans (D_len_mono (Nat.div_le_self _ _)) (by have := D_len_V hwm; omega)
      clear q1 q2 q3 hlt heq
      simp -implicitDefEqProofs (disch := omega) only [go_sem, ht, h6, h8, h9, h10, h11, h12, h4, h7, hHq, hHu]
      (refine pCall_own1 (mk := fun p => .tup [p, .val (.int .i64 0)]) (mk_b _) (by simp -implicitDefEqProofs (disch := omega) only [h6, h8, h9, h10, h11, h12, h4, h7, hHq, hHu, et, if_pos, go_sem, ht] <;> rfl) (by simp -implicitDefEqProofs (disch := omega) only [h6, h8, h9, h10, h11, h12, h4, h7, hHq, hHu, et, if_pos, go_sem, ht]) (closedL_U _) (flatL_U _) (hr) ?_; intro id2 cap2 rest2 nx2 hid2 hnx2 hcap2; simp only [put_nx, withH_nx, begP_nx, List.length_map] at hid2 hcap2; simp -implicitDefEqProofs (disch := omega) only [h6, h8, h9, h10, h11, h12, h4, h7, hHq, hHu, et, if_pos, go_sem, ht])
      (apply pCall_mem; exact (short_own (xs := qs) (rest := []) hqm hql (by omega) (Nat.le_refl _) (by simp -implicitDefEqProofs (disch := omega) only [hHq, List.map_nil, go_sem, ht] <;> rfl)); rintro _ _ _ ⟨rfl, rfl, rfl⟩ -; simp -implicitDefEqProofs (disch := omega) only [hHq, List.map_nil, go_sem, ht])
      have hqo := own_split' hqm
      exact end_own2 (by simp -implicitDefEqProofs (disch := omega) only [go_sem, ht] <;> rfl) (by omega) (by simp -implicitDefEqProofs (disch := omega) only [go_sem, ht, hHq]; rw [hqo]) (by simp -implicitDefEqProofs (disch := omega) only [go_sem, ht] <;> rfl) (by simp <;> omega) (by simp <;> omega) (by simp <;> omega) (by simp <;> omega)
    · obtain ⟨j, rfl⟩ : ∃ j, k = j + 1 := ⟨k - 1, by omega⟩
      have e1 : (((j + 1 : Nat) : Int) - 1) = (j : Int) := by omega
      rw [e1] at h12
      obtain ⟨g1, g2, g3⟩ := long_tail (m := v.length) (by omega) hwm hZm.out hlt.out
      have hparts := guess_parts (m := v.length) (by omega) (by omega) g1
      have hx1 := hwm.get (j + v.length)
      have hx0 := hwm.get (j + v.length - 1)
      have hx2 := hwm.get (j + v.length - 2)
      have hwl2 := V_lt ((hwm.drop j).take (v.length - 2))
      rw [List.length_take_of_le (by simp; omega)] at hwl2
      have hlo2 := V_lt (hvm.take (v.length - 2))
      rw [List.length_take_of_le (by omega)] at hlo2
      have hfirst := Hide.mk (guess_first (Nat.pow_pos (by decide)) (by omega) hdv.out hparts hx2 hwl2)
      have htopb := guess_top (Nat.pow_pos (by decide)) hdv.out hparts hvg2 hlo2 g3
      have hagain : ∀ g r, V (ws.drop j) / V v ≤ g → g * v.getD (v.length - 1) 0 + r = ws.getD (j + v.length) 0 * 4294967296 + ws.getD (j + v.length - 1) 0 → (4294967296 ≤ g ∨ r * 4294967296 + ws.getD (j + v.length - 2) 0 < g * v.getD (v.length - 2) 0) → V (ws.drop j) / V v < g :=
        fun g r h1 h2 h3 => guess_again (Nat.pow_pos (by decide)) hdv.out hparts hwl2 g3 h1 h2 h3
      have hdone : ∀ g r, g * v.getD (v.length - 1) 0 + r = ws.getD (j + v.length) 0 * 4294967296 + ws.getD (j + v.length - 1) 0 → g < 4294967296 → (4294967296 ≤ r ∨ g * v.getD (v.length - 2) 0 ≤ r * 4294967296 + ws.getD (j + v.length - 2) 0) → g ≤ V (ws.drop j) / V v + 1 :=
        fun g r h1 h2 h3 => guess_done (Nat.pow_pos (by decide)) (by omega) hdv.out hparts hvg2 hlo2 h1 h2 h3
      have hstep := fun (w2 : List Nat) hl hp hd hv => long_step (N := V u0) (m := v.length) (qs := qs) (ws := ws) (w2 := w2) (W := V (ws.drop j)) (Z := V v) (by omega) hl (by omega) hZ0 hp hd hv g1 rfl heq.out
      clear hparts hwl2 hlo2
      have g2 := Hide.mk g2
      have g3 := Hide.mk g3
      clear heq hlt
      have hset : ∀ z, z < 4294967296 → Lm (qs.set j z) := fun z hz x hx => by
        rcases List.mem_or_eq_of_mem_set hx with h | h
        · exact hqm x h
        · omega
      have hTl : ws.getD (j + v.length) 0 * 4294967296 + ws.getD (j + v.length - 1) 0 < 18446744073709551616 := by omega
      have hTF := Nat.lt_of_le_of_lt (Nat.div_le_self (ws.getD (j + v.length) 0 * 4294967296 + ws.getD (j + v.length - 1) 0) (v.getD (v.length - 1) 0)) hTl
      have eTF := Nat.mod_eq_of_lt hTF
      have hTm := Nat.mod_lt (ws.getD (j + v.length) 0 * 4294967296 + ws.getD (j + v.length - 1) 0) (y := v.getD (v.length - 1) 0) (by omega)
      simp -implicitDefEqProofs (disch := omega) only [go_sem, ht, h6, h8, h9, h10, h11, h12, h4, h7, hHq, hHu]
      refine LW.loopW hc ht (by kernel_rfl) (fun s' => s'.sl 6 = .val (.int .i64 s) ∧ s'.sl 8 = .sl v.length (v.map U) ∧ s'.sl 9 = .val (.int .i64 v.length) ∧ s'.sl 10 = .val (.int .u64 (v.getD (v.length - 1) 0 : Nat)) ∧ s'.sl 11 = .val (.int .u64 (v.getD (v.length - 2) 0 : Nat)) ∧
          s'.sl 12 = .val (.int .i64 j) ∧ idq < s'.nx ∧ idu < s'.nx ∧ s'.sl 4 = .ref idq 0 (u0.length - v.length) (u0.length - v.length) 1 ∧ s'.sl 7 = .ref idu 0 u0.length cap1 1 ∧ s'.H idq = some (qs.map U) ∧ s'.H idu = some (ws.map U ++ List.map PV.val rest) ∧
          ∃ g r : Nat, s'.sl 14 = .val (.int .u64 g) ∧ s'.sl 15 = .val (.int .u64 r) ∧ g ≤ 18446744073709551615 ∧ r < 8589934592 ∧ Hide (g * v.getD (v.length - 1) 0 + r = ws.getD (j + v.length) 0 * 4294967296 + ws.getD (j + v.length - 1) 0) ∧ Hide (V (ws.drop j) / V v ≤ g))
        (fun s' => match s'.sl 14 with | .val (.int _ g) => g.toNat | _ => 0) ?_ ?_
      · simp -implicitDefEqProofs (disch := omega) only [go_sem, ht, h6, h8, h9, h10, h11, h12, h4, h7, hHq, hHu]
        try rw [eTF]
        exact ⟨hiq, hiu, _, _, rfl, rfl, Nat.le_of_lt_succ hTF, Nat.lt_trans hTm (by omega), Hide.mk (by rw [Nat.mul_comm]; exact Nat.div_add_mod _ _), hfirst⟩
      · clear hTl hTF eTF hTm hfirst
        rintro s' ⟨h6, h8, h9, h10, h11, h12', hiq, hiu, h4, h7, hHq, hHu, g, r, h14, h15, hg, hr, hgr, hqg⟩
        by_cases hrB : r < 4294967296
        · by_cases hgB : 4294967296 ≤ g
          · have := hagain g r hqg.out hgr.out (.inl hgB)
            have hg0 : 0 < g := Nat.lt_of_le_of_lt (Nat.zero_le _) this
            have k1 := Hide.mk (dec_eq hgr.out hg0)
            have k2 := Hide.mk (Nat.le_sub_one_of_lt this)
            clear this hgr hqg hagain hdone hstep htopb
            simp -implicitDefEqProofs (disch := omega) only [go_sem, ht, h6, h8, h9, h10, h11, h12', h4, h7, hHq, hHu, h14, h15]
            exact ⟨⟨hiq, hiu, _, _, rfl, rfl, by omega, by omega, k1, k2⟩, by omega⟩
          · have hgs : g * v.getD (v.length - 2) 0 ≤ 4294967295 * 4294967295 := Nat.mul_le_mul (by omega) (by omega)
            by_cases hcm : r * 4294967296 + ws.getD (j + v.length - 2) 0 < g * v.getD (v.length - 2) 0
            · have := hagain g r hqg.out hgr.out (.inr hcm)
              have hg0 : 0 < g := Nat.lt_of_le_of_lt (Nat.zero_le _) this
              have k1 := Hide.mk (dec_eq hgr.out hg0)
              have k2 := Hide.mk (Nat.le_sub_one_of_lt this)
              clear this hgr hqg hagain hdone hstep htopb
              simp -implicitDefEqProofs (disch := omega) only [go_sem, ht, h6, h8, h9, h10, h11, h12', h4, h7, hHq, hHu, h14, h15]
              exact ⟨⟨hiq, hiu, _, _, rfl, rfl, by omega, by omega, k1, k2⟩, by omega⟩
            · have := hdone g r hgr.out (by omega) (.inr (by omega))
              have k3 := Hide.mk this
              have hqB := Nat.lt_of_le_of_lt hqg.out (show g < 4294967296 by omega)
              clear this hgr hagain hdone htopb
              simp -implicitDefEqProofs (disch := omega) only [go_sem, ht, h6, h8, h9, h10, h11, h12', h4, h7, hHq, hHu, h14, h15]
              rw [if_neg (show ¬ cap1 = j by omega), show j + v.length + 1 - j = v.length + 1 by omega]
              apply pCall_mem
              exact take_calls (W := V (ws.drop j)) (zs := ws) (l := List.map PV.val rest) hvm rfl hwm (by omega) (by omega) (by omega) (by simp -implicitDefEqProofs (disch := omega) only [go_sem, ht, hHu]) g2.out.symm hZ0 (by omega) hqg.out k3.out
              rintro _ _ _ ⟨w2, hl2, hm2, hp2, hd2, hv2, rfl, rfl, rfl⟩ -
              obtain ⟨z1, z2⟩ := hstep w2 hl2 hp2 hd2 hv2
              have z1 := Hide.mk z1
              have z2 := Hide.mk z2
              clear hstep hp2 hd2 hv2 g2
              generalize V (ws.drop j) / V v = q at *
              simp -implicitDefEqProofs (disch := omega) only [go_sem, ht, h6, h8, h9, h10, h11, h12', h4, h7, hHq, hHu, h14, h15]
              exact ⟨⟨j, by omega, rfl, idq, idu, qs.set j q, w2, rest, hne, hiq, hiu, by simp [hql], by omega, hset q hqB, hm2, rfl, rfl, upd_self _ _ _, by rw [upd_ne _ _ (Ne.symm hne)]; exact upd_self _ _ _, z1, z2⟩, by omega⟩
        · have hgB := guess_lt hgr.out htopb (by omega)
          have this := hdone g r hgr.out hgB (.inl (by omega))
          have k3 := Hide.mk this
          have hqB := Nat.lt_of_le_of_lt hqg.out (show g < 4294967296 by omega)
          clear this hgr hagain hdone htopb
          simp -implicitDefEqProofs (disch := omega) only [go_sem, ht, h6, h8, h9, h10, h11, h12', h4, h7, hHq, hHu, h14, h15]
          rw [if_neg (show ¬ cap1 = j by omega), show j + v.length + 1 - j = v.length + 1 by omega]
          apply pCall_mem
          exact take_calls (W := V (ws.drop j)) (zs := ws) (l := List.map PV.val rest) hvm rfl hwm (by omega) (by omega) (by omega) (by simp -implicitDefEqProofs (disch := omega) only [go_sem, ht, hHu]) g2.out.symm hZ0 (by omega) hqg.out k3.out
          rintro _ _ _ ⟨w2, hl2, hm2, hp2, hd2, hv2, rfl, rfl, rfl⟩ -
          obtain ⟨z1, z2⟩ := hstep w2 hl2 hp2 hd2 hv2
          have z1 := Hide.mk z1
          have z2 := Hide.mk z2
          clear hstep hp2 hd2 hv2 g2
          generalize V (ws.drop j) / V v = q at *
          simp -implicitDefEqProofs (disch := omega) only [go_sem, ht, h6, h8, h9, h10, h11, h12', h4, h7, hHq, hHu, h14, h15]
          exact ⟨⟨j, by omega, rfl, idq, idu, qs.set j q, w2, rest, hne, hiq, hiu, by simp [hql], by omega, hset q hqB, hm2, rfl, rfl, upd_self _ _ _, by rw [upd_ne _ _ (Ne.symm hne)]; exact upd_self _ _ _, z1, z2⟩, by omega⟩
end Go.Proofs.Ytfjdfnlkobeehaa

namespace Go.Proofs.Ytfjdfnlkobeehaa

theorem divmod_calls {xs ys : List Nat} (hx : Ok xs) (hy : Ok ys) : PT Try.prog 104 [SU xs, SU ys] (isV (divP (V xs) (V ys))) :=
  divmod_of hx hy fun h1 h2 => long_calls hx.short hy.short h1 h2


def uintP (n : Nat) : PV := if n < 18446744073709551616 then .tup [.val (.int .u64 n), .val (.bool true)] else .tup [.val (.int .u64 0), .val (.bool false)]

theorem uint_calls {xs : List Nat} (h : Ok xs) : PT Try.prog 133 [SU xs] (isV (uintP (V xs))) := by
  have := h.short.len
  have hs := short_calls h
  unfold uintP
  generalize V xs = n at *
  refine PCalls.enter (n := 30) (rs := [.tmp 2, .tmp 3]) (tb := [(9, [(0, []), (1, []), (2, []), (3, []), (4, []), (5, []), (6, []), (7, []), (8, []), (9, []), (10, [])])]) Try.func133 rfl rfl rfl (by kernel_rfl) (by kernel_rfl) (by simp) fun c hc ht => ?_
  simp -implicitDefEqProofs (disch := omega) only [go_sem, ht]
  by_cases h0 : n = 0
  · subst h0
    have hl : (D 0).length = 0 := by rw [D_zero]; rfl
    (refine pCall_vw (by refine ⟨⟨?_, ?_⟩, ?_, ?_⟩; rotate_left 2; (first | (right; rintro r rfl; rfl) | left); all_goals ((try simp -implicitDefEqProofs (disch := omega) only [go_sem, ht]) <;> rfl)) (hs) ?_; rintro _ nx - rfl hnx; simp -implicitDefEqProofs (disch := omega) only [go_sem, ht])
    (refine end_treeW 0 ?_; simp -implicitDefEqProofs (disch := omega) only [go_sem, ht])
    rfl
  by_cases h1 : n < 4294967296
  · have e := D_one h0 h1
    have hl : (D n).length = 1 := by rw [e]; rfl
    have hg : (D n).getD 0 0 = n := by rw [e]; rfl
    rw [if_pos (by omega)]
    (refine pCall_vw (by refine ⟨⟨?_, ?_⟩, ?_, ?_⟩; rotate_left 2; (first | (right; rintro r rfl; rfl) | left); all_goals ((try simp -implicitDefEqProofs (disch := omega) only [go_sem, ht]) <;> rfl)) (hs) ?_; rintro _ nx - rfl hnx; simp -implicitDefEqProofs (disch := omega) only [go_sem, ht])
    rw [hg]
    (refine end_treeW 0 ?_; simp -implicitDefEqProofs (disch := omega) only [go_sem, ht])
  by_cases h2 : n < 18446744073709551616
  · have e : D n = [n % 4294967296, n / 4294967296] := by
      rw [D_pos h0, D_one (by omega) (by omega)]
    have hl : (D n).length = 2 := by rw [e]; rfl
    have hg : (D n).getD 0 0 = n % 4294967296 := by rw [e]; rfl
    have hg1 : (D n).getD 1 0 = n / 4294967296 := by rw [e]; rfl
    rw [if_pos h2]
    have e2 : n / 4294967296 * 4294967296 + n % 4294967296 = n := by omega
    (refine pCall_vw (by refine ⟨⟨?_, ?_⟩, ?_, ?_⟩; rotate_left 2; (first | (right; rintro r rfl; rfl) | left); all_goals ((try simp -implicitDefEqProofs (disch := omega) only [go_sem, ht]) <;> rfl)) (hs) ?_; rintro _ nx - rfl hnx; simp -implicitDefEqProofs (disch := omega) only [go_sem, ht])
    (refine end_treeW 0 ?_; simp -implicitDefEqProofs (disch := omega) only [go_sem, ht, hg, hg1, e2])
  · have hl : 3 ≤ (D n).length := by
      rcases Nat.lt_or_ge (D n).length 3 with h | h
      · exact absurd (D_len_le.1 (show (D n).length ≤ 2 by omega)) (by omega)
      · exact h
    rw [if_neg h2]
    (refine pCall_vw (by refine ⟨⟨?_, ?_⟩, ?_, ?_⟩; rotate_left 2; (first | (right; rintro r rfl; rfl) | left); all_goals ((try simp -implicitDefEqProofs (disch := omega) only [go_sem, ht]) <;> rfl)) (hs) ?_; rintro _ nx - rfl hnx; simp -implicitDefEqProofs (disch := omega) only [go_sem, ht])
    (refine end_treeW 0 ?_; simp -implicitDefEqProofs (disch := omega) only [go_sem, ht])

theorem gcd_calls {xs ys : List Nat} (hx : Ok xs) (hy : Ok ys) : PL 118 [SU xs, SU ys] (D (Nat.gcd (V xs) (V ys))) := by
  have hx' := hx.short
  have hy' := hy.short
  have hs := short_calls hx
  have hs2 := short_calls hy
  clear hx hy
  generalize V xs = A at *
  generalize V ys = B at *
  refine PCalls.enter (n := 52) (rs := [.tmp 4]) (tb := [(7, [(0, []), (1, []), (2, []), (3, []), (4, []), (5, [])])]) Try.func118 rfl rfl rfl (by kernel_rfl) (by kernel_rfl) (by simp) fun c hc ht => ?_
  simp -implicitDefEqProofs (disch := omega) only [go_sem, ht]
  (refine pCall_vw (by refine ⟨⟨?_, ?_⟩, ?_, ?_⟩; rotate_left 2; (first | (right; rintro r rfl; rfl) | left); all_goals ((try simp -implicitDefEqProofs (disch := omega) only [go_sem, ht]) <;> rfl)) (hs) ?_; rintro _ nx - rfl hnx; simp -implicitDefEqProofs (disch := omega) only [go_sem, ht])
  (refine pCall_vw (by refine ⟨⟨?_, ?_⟩, ?_, ?_⟩; rotate_left 2; (first | (right; rintro r rfl; rfl) | left); all_goals ((try simp -implicitDefEqProofs (disch := omega) only [go_sem, ht]) <;> rfl)) (hs2) ?_; rintro _ nx - rfl hnx; simp -implicitDefEqProofs (disch := omega) only [go_sem, ht])
  refine LW.loopW hc ht (by kernel_rfl) (fun t => ∃ a b : Nat, Ok (D a) ∧ Ok (D b) ∧ t.sl 0 = .sl (D a).length ((D a).map U) ∧ t.sl 1 = .sl (D b).length ((D b).map U) ∧ t.H = (fun _ => none) ∧ Hide (Nat.gcd a b = Nat.gcd A B))
    (fun t => match t.sl 1 with | .sl _ cs => V (cs.map unU) | _ => 0) ?_ ?_
  · simp -implicitDefEqProofs (disch := omega) only [go_sem, ht]
    exact ⟨A, B, hx', hy', rfl, rfl, Hide.mk rfl⟩
  · rintro t ⟨a, b, ha, hb, h0, h1, hH, hg⟩
    have hal := ha.len
    have hbl := hb.len
    by_cases hb0 : b = 0
    · subst hb0
      have hl : (D 0).length = 0 := by rw [D_zero]; rfl
      have hg := hg.out
      rw [Nat.gcd_zero_right] at hg
      subst hg
      have htr := trim_calls ha
      rw [V_D] at htr
      simp -implicitDefEqProofs (disch := omega) only [go_sem, ht, h0, h1, hl]
      (refine pCall_own1 (mk := fun p => p) (mk_id) (by simp -implicitDefEqProofs (disch := omega) only [go_sem, ht] <;> rfl) (by simp -implicitDefEqProofs (disch := omega) only [go_sem, ht]) (closedL_U _) (flatL_U _) (htr) ?_; intro id1 cap1 rest1 nx1 hid1 hnx1 hcap1; simp only [put_nx, withH_nx, begP_nx, List.length_map] at hid1 hcap1; simp -implicitDefEqProofs (disch := omega) only [go_sem, ht])
      exact end_own1 (mk := fun p => p) (by simp -implicitDefEqProofs (disch := omega) only [go_sem, ht] <;> rfl) (by simp -implicitDefEqProofs (disch := omega) only [go_sem, ht] <;> rfl) (by simp <;> omega) (by simp <;> omega)
    · have hbp := D_len_pos hb0
      have hua := uint_calls ha
      have hub := uint_calls hb
      rw [V_D] at hua hub
      unfold uintP at hua hub
      by_cases hs : a < 18446744073709551616 ∧ b < 18446744073709551616
      · rw [if_pos hs.1] at hua
        rw [if_pos hs.2] at hub
        simp -implicitDefEqProofs (disch := omega) only [go_sem, ht, h0, h1]
        (refine pCall_vw (by refine ⟨⟨?_, ?_⟩, ?_, ?_⟩; rotate_left 2; (first | (right; rintro r rfl; rfl) | left); all_goals ((try simp -implicitDefEqProofs (disch := omega) only [h0, h1, go_sem, ht]) <;> rfl)) (hua) ?_; rintro _ nx - rfl hnx; simp -implicitDefEqProofs (disch := omega) only [h0, h1, go_sem, ht])
        (refine pCall_vw (by refine ⟨⟨?_, ?_⟩, ?_, ?_⟩; rotate_left 2; (first | (right; rintro r rfl; rfl) | left); all_goals ((try simp -implicitDefEqProofs (disch := omega) only [h0, h1, go_sem, ht]) <;> rfl)) (hub) ?_; rintro _ nx - rfl hnx; simp -implicitDefEqProofs (disch := omega) only [h0, h1, go_sem, ht])
        have hg := hg.out
        rw [← hg]
        refine LW.loopW hc ht (by kernel_rfl) (fun s => s.H = (fun _ => none) ∧ ∃ x y : Nat, s.sl 5 = .val (.int .u64 x) ∧ s.sl 7 = .val (.int .u64 y) ∧ x < 18446744073709551616 ∧ y < 18446744073709551616 ∧ Nat.gcd x y = Nat.gcd a b)
          (fun s => match s.sl 7 with | .val (.int _ y) => y.toNat | _ => 0) ?_ ?_
        · simp -implicitDefEqProofs (disch := omega) only [go_sem, ht, hH]
          exact ⟨a, b, rfl, rfl, hs.1, hs.2, rfl⟩
        · clear hH h0 h1 hua hub
          rintro t2 ⟨hH, x, y, h5, h7, hx, hy, hg2⟩
          by_cases hy0 : y = 0
          · subst hy0
            rw [Nat.gcd_zero_right] at hg2
            subst hg2
            simp -implicitDefEqProofs (disch := omega) only [go_sem, ht, h5, h7]
            (refine pCall_own1 (mk := fun p => p) (mk_id) (by simp -implicitDefEqProofs (disch := omega) only [h5, h7, go_sem, ht] <;> rfl) (by simp -implicitDefEqProofs (disch := omega) only [h5, h7, go_sem, ht]) (closedL_U _) (flatL_U _) (small_calls hx) ?_; intro id1 cap1 rest1 nx1 hid1 hnx1 hcap1; simp only [put_nx, withH_nx, begP_nx, List.length_map] at hid1 hcap1; simp -implicitDefEqProofs (disch := omega) only [h5, h7, go_sem, ht])
            exact end_own1 (mk := fun p => p) (by simp -implicitDefEqProofs (disch := omega) only [go_sem, ht] <;> rfl) (by simp -implicitDefEqProofs (disch := omega) only [go_sem, ht] <;> rfl) (by simp <;> omega) (by simp <;> omega)
          · have hm := Nat.mod_lt x (Nat.pos_of_ne_zero hy0)
            have hg3 : Nat.gcd y (x % y) = Nat.gcd a b := by rw [← hg2, Nat.gcd_comm x y, Nat.gcd_rec y x, Nat.gcd_comm]
            simp -implicitDefEqProofs (disch := omega) only [go_sem, ht, h5, h7, hH]
            exact ⟨⟨y, x % y, rfl, rfl, hy, by omega, hg3⟩, hm⟩
      · have hdm := divmod_calls ha hb
        rw [V_D, V_D] at hdm
        unfold divP at hdm
        rw [if_neg hb0] at hdm
        have hrm : Ok (D (a % b)) := ⟨Lm_D _, Nat.le_trans (D_len_mono (Nat.mod_le a b)) hal⟩
        have hgr : Hide (Nat.gcd b (a % b) = Nat.gcd A B) := Hide.mk (by rw [← hg.out, Nat.gcd_comm a b, Nat.gcd_rec b a, Nat.gcd_comm])
        clear hg
        by_cases ha2 : a < 18446744073709551616
        · rw [if_pos ha2] at hua
          rw [if_neg (by omega)] at hub
          simp -implicitDefEqProofs (disch := omega) only [go_sem, ht, h0, h1]
          (refine pCall_vw (by refine ⟨⟨?_, ?_⟩, ?_, ?_⟩; rotate_left 2; (first | (right; rintro r rfl; rfl) | left); all_goals ((try simp -implicitDefEqProofs (disch := omega) only [h0, h1, go_sem, ht]) <;> rfl)) (hua) ?_; rintro _ nx - rfl hnx; simp -implicitDefEqProofs (disch := omega) only [h0, h1, go_sem, ht])
          (refine pCall_vw (by refine ⟨⟨?_, ?_⟩, ?_, ?_⟩; rotate_left 2; (first | (right; rintro r rfl; rfl) | left); all_goals ((try simp -implicitDefEqProofs (disch := omega) only [h0, h1, go_sem, ht]) <;> rfl)) (hub) ?_; rintro _ nx - rfl hnx; simp -implicitDefEqProofs (disch := omega) only [h0, h1, go_sem, ht])
          (refine pCall_vw (by refine ⟨⟨?_, ?_⟩, ?_, ?_⟩; rotate_left 2; (first | (right; rintro r rfl; rfl) | left); all_goals ((try simp -implicitDefEqProofs (disch := omega) only [h0, h1, go_sem, ht]) <;> rfl)) (hdm) ?_; rintro _ nx - rfl hnx; simp -implicitDefEqProofs (disch := omega) only [h0, h1, go_sem, ht])
          exact ⟨⟨b, a % b, hb, hrm, rfl, rfl, hH, hgr⟩, by simpa only [unU_U, V_D] using Nat.mod_lt a (Nat.pos_of_ne_zero hb0)⟩
        · rw [if_neg ha2] at hua
          by_cases hb2 : b < 18446744073709551616
          · rw [if_pos hb2] at hub
            simp -implicitDefEqProofs (disch := omega) only [go_sem, ht, h0, h1]
            (refine pCall_vw (by refine ⟨⟨?_, ?_⟩, ?_, ?_⟩; rotate_left 2; (first | (right; rintro r rfl; rfl) | left); all_goals ((try simp -implicitDefEqProofs (disch := omega) only [h0, h1, go_sem, ht]) <;> rfl)) (hua) ?_; rintro _ nx - rfl hnx; simp -implicitDefEqProofs (disch := omega) only [h0, h1, go_sem, ht])
            (refine pCall_vw (by refine ⟨⟨?_, ?_⟩, ?_, ?_⟩; rotate_left 2; (first | (right; rintro r rfl; rfl) | left); all_goals ((try simp -implicitDefEqProofs (disch := omega) only [h0, h1, go_sem, ht]) <;> rfl)) (hub) ?_; rintro _ nx - rfl hnx; simp -implicitDefEqProofs (disch := omega) only [h0, h1, go_sem, ht])
            (refine pCall_vw (by refine ⟨⟨?_, ?_⟩, ?_, ?_⟩; rotate_left 2; (first | (right; rintro r rfl; rfl) | left); all_goals ((try simp -implicitDefEqProofs (disch := omega) only [h0, h1, go_sem, ht]) <;> rfl)) (hdm) ?_; rintro _ nx - rfl hnx; simp -implicitDefEqProofs (disch := omega) only [h0, h1, go_sem, ht])
            exact ⟨⟨b, a % b, hb, hrm, rfl, rfl, hH, hgr⟩, by simpa only [unU_U, V_D] using Nat.mod_lt a (Nat.pos_of_ne_zero hb0)⟩

          · rw [if_neg hb2] at hub
            simp -implicitDefEqProofs (disch := omega) only [go_sem, ht, h0, h1]
            (refine pCall_vw (by refine ⟨⟨?_, ?_⟩, ?_, ?_⟩; rotate_left 2; (first | (right; rintro r rfl; rfl) | left); all_goals ((try simp -implicitDefEqProofs (disch := omega) only [h0, h1, go_sem, ht]) <;> rfl)) (hua) ?_; rintro _ nx - rfl hnx; simp -implicitDefEqProofs (disch := omega) only [h0, h1, go_sem, ht])
            (refine pCall_vw (by refine ⟨⟨?_, ?_⟩, ?_, ?_⟩; rotate_left 2; (first | (right; rintro r rfl; rfl) | left); all_goals ((try simp -implicitDefEqProofs (disch := omega) only [h0, h1, go_sem, ht]) <;> rfl)) (hub) ?_; rintro _ nx - rfl hnx; simp -implicitDefEqProofs (disch := omega) only [h0, h1, go_sem, ht])
            (refine pCall_vw (by refine ⟨⟨?_, ?_⟩, ?_, ?_⟩; rotate_left 2; (first | (right; rintro r rfl; rfl) | left); all_goals ((try simp -implicitDefEqProofs (disch := omega) only [h0, h1, go_sem, ht]) <;> rfl)) (hdm) ?_; rintro _ nx - rfl hnx; simp -implicitDefEqProofs (disch := omega) only [h0, h1, go_sem, ht])
            exact ⟨⟨b, a % b, hb, hrm, rfl, rfl, hH, hgr⟩, by simpa only [unU_U, V_D] using Nat.mod_lt a (Nat.pos_of_ne_zero hb0)⟩

end Go.Proofs.Ytfjdfnlkobeehaa

namespace Go.Proofs.Ytfjdfnlkobeehaa

end Go.Proofs.Ytfjdfnlkobeehaa

namespace Go.Proofs.Ytfjdfnlkobeehaa


end Go.Proofs.Ytfjdfnlkobeehaa

namespace Go.Proofs.Ytfjdfnlkobeehaa


def dv (l : List UInt8) : Nat := l.foldl (fun v b => 10 * v + (b.toNat - 48)) 0
end Go.Proofs.Ytfjdfnlkobeehaa

namespace Go.Proofs.Ytfjdfnlkobeehaa

end Go.Proofs.Ytfjdfnlkobeehaa
end

section
set_option maxRecDepth 100000
set_option linter.unusedVariables false
set_option linter.unusedSimpArgs false
namespace Go.Proofs.Ytfjdfnlkobeehaa

end Go.Proofs.Ytfjdfnlkobeehaa
end
