/- Part 2 of the way to the statement: the walk and what it needs. -/
import Derived.Test.YtfjdfnlkobeehaaKDeF1
section
set_option linter.unusedVariables false
set_option linter.unusedSimpArgs false
namespace Go.Proofs.Ytfjdfnlkobeehaa


def V : List Nat → Nat
  | [] => 0
  | x :: xs => x + 4294967296 * V xs

def Lm (xs : List Nat) : Prop := ∀ x ∈ xs, x < 4294967296

def D (n : Nat) : List Nat := if h : n = 0 then [] else n % 4294967296 :: D (n / 4294967296)
termination_by n
decreasing_by omega


def Hide (p : Prop) : Prop := p
theorem Hide.mk {p : Prop} (h : p) : Hide p := h
theorem Hide.out {p : Prop} (h : Hide p) : p := h

theorem V_nil : V [] = 0 := rfl
theorem V_cons (x : Nat) (xs : List Nat) : V (x :: xs) = x + 4294967296 * V xs := rfl
theorem D_zero : D 0 = [] := by rw [D]; simp
theorem D_pos {n : Nat} (h : n ≠ 0) : D n = n % 4294967296 :: D (n / 4294967296) := by rw [D]; simp [h]

theorem Lm_nil : Lm [] := fun x hx => by simp at hx
theorem Lm_cons {x : Nat} {xs : List Nat} : Lm (x :: xs) ↔ x < 4294967296 ∧ Lm xs := by simp [Lm]
theorem Lm_append {xs ys : List Nat} : Lm (xs ++ ys) ↔ Lm xs ∧ Lm ys := by
  simp only [Lm, List.mem_append]
  exact ⟨fun h => ⟨fun x hx => h x (.inl hx), fun x hx => h x (.inr hx)⟩, fun h x hx => hx.elim (h.1 x) (h.2 x)⟩
theorem Lm.take {xs : List Nat} (h : Lm xs) (i : Nat) : Lm (xs.take i) := fun x hx => h x (List.mem_of_mem_take hx)
theorem Lm.drop {xs : List Nat} (h : Lm xs) (i : Nat) : Lm (xs.drop i) := fun x hx => h x (List.mem_of_mem_drop hx)
theorem Lm.get {xs : List Nat} (h : Lm xs) (i : Nat) : xs.getD i 0 < 4294967296 := by
  rw [List.getD_eq_getElem?_getD]
  cases hx : xs[i]? with
  | none => simp
  | some x => simpa using h x (List.mem_of_getElem? hx)

theorem V_append (xs ys : List Nat) : V (xs ++ ys) = V xs + 4294967296 ^ xs.length * V ys := by
  induction xs with
  | nil => simp [V]
  | cons x xs ih => simp only [List.cons_append, V, ih, List.length_cons, Nat.pow_succ]; rw [Nat.mul_add, Nat.add_assoc, Nat.mul_comm (4294967296 ^ xs.length) 4294967296, Nat.mul_assoc]
theorem V_lt {xs : List Nat} (h : Lm xs) : V xs < 4294967296 ^ xs.length := by
  induction xs with
  | nil => simp [V]
  | cons x xs ih =>
    rw [Lm_cons] at h
    have := ih h.2
    simp only [V, List.length_cons, Nat.pow_succ]
    omega
theorem V_split (xs : List Nat) {i : Nat} (h : i ≤ xs.length) : V xs = V (xs.take i) + 4294967296 ^ i * V (xs.drop i) := by
  have := V_append (xs.take i) (xs.drop i)
  rwa [List.take_append_drop, List.length_take_of_le h] at this
theorem take_getD (xs : List Nat) {i : Nat} (h : i < xs.length) : xs.take (i + 1) = xs.take i ++ [xs.getD i 0] := by
  rw [List.take_add_one]; simp [h]
theorem drop_getD (xs : List Nat) {i : Nat} (h : i < xs.length) : xs.drop i = xs.getD i 0 :: xs.drop (i + 1) := by
  rw [List.drop_eq_getElem_cons h]; simp [h]
theorem V_take_succ (xs : List Nat) {i : Nat} (h : i < xs.length) : V (xs.take (i + 1)) = V (xs.take i) + 4294967296 ^ i * xs.getD i 0 := by
  rw [take_getD xs h, V_append, List.length_take_of_le (Nat.le_of_lt h)]; simp [V]
theorem V_drop (xs : List Nat) {i : Nat} (h : i < xs.length) : V (xs.drop i) = xs.getD i 0 + 4294967296 * V (xs.drop (i + 1)) := by
  rw [drop_getD xs h, V]
theorem V_drop_div {xs : List Nat} (h : Lm xs) {i : Nat} (hi : i ≤ xs.length) : V (xs.drop i) = V xs / 4294967296 ^ i := by
  have h1 := V_split xs hi
  have h2 := V_lt (h.take i)
  rw [List.length_take_of_le hi] at h2
  rw [h1, Nat.add_mul_div_left _ _ (Nat.pow_pos (by decide)), Nat.div_eq_of_lt h2, Nat.zero_add]
theorem V_take_mod {xs : List Nat} (h : Lm xs) {i : Nat} (hi : i ≤ xs.length) : V (xs.take i) = V xs % 4294967296 ^ i := by
  have h1 := V_split xs hi
  have h2 := V_lt (h.take i)
  rw [List.length_take_of_le hi] at h2
  rw [h1, Nat.add_mul_mod_self_left, Nat.mod_eq_of_lt h2]
theorem V_zero_of {xs : List Nat} (h : ∀ i, i < xs.length → xs.getD i 0 = 0) : V xs = 0 := by
  induction xs with
  | nil => rfl
  | cons x xs ih =>
    have h0 := h 0 (by simp)
    have := ih fun i hi => by have := h (i + 1) (by simp; omega); simpa using this
    simp at h0
    simp [V, this, h0]
theorem V_repl (n : Nat) : V (List.replicate n 0) = 0 := V_zero_of fun i hi => by
  rw [List.getD_eq_getElem?_getD, List.getElem?_replicate]; split <;> rfl
theorem Lm_repl (n : Nat) : Lm (List.replicate n 0) := fun x hx => by simp at hx; omega

theorem Lm_D (n : Nat) : Lm (D n) := by
  induction n using Nat.strongRecOn with
  | _ n ih =>
    by_cases h : n = 0
    · subst h; rw [D_zero]; exact Lm_nil
    · rw [D_pos h, Lm_cons]; exact ⟨Nat.mod_lt _ (by decide), ih _ (by omega)⟩
theorem V_D (n : Nat) : V (D n) = n := by
  induction n using Nat.strongRecOn with
  | _ n ih =>
    by_cases h : n = 0
    · subst h; rw [D_zero]; rfl
    · rw [D_pos h, V, ih _ (by omega)]; omega
theorem D_last (n : Nat) (h : n ≠ 0) : (D n).getD ((D n).length - 1) 0 ≠ 0 := by
  induction n using Nat.strongRecOn with
  | _ n ih =>
    rw [D_pos h]
    by_cases h2 : n / 4294967296 = 0
    · rw [h2, D_zero]; simp; omega
    · have := ih _ (by omega) h2
      have hl : (D (n / 4294967296)).length ≠ 0 := by
        rw [D_pos h2]; simp
      simp only [List.length_cons, Nat.add_sub_cancel]
      obtain ⟨k, hk⟩ : ∃ k, (D (n / 4294967296)).length = k + 1 := ⟨_, (Nat.succ_pred hl).symm⟩
      rw [hk] at this ⊢
      simpa using this
theorem D_nil {n : Nat} : D n = [] ↔ n = 0 := by
  constructor
  · intro h
    have := V_D n
    rw [h] at this; exact this.symm
  · rintro rfl; exact D_zero
theorem D_len_pos {n : Nat} (h : n ≠ 0) : 0 < (D n).length := by
  rw [D_pos h]; simp
theorem D_len_zero {n : Nat} : (D n).length = 0 ↔ n = 0 := by
  rw [List.length_eq_zero_iff, D_nil]

theorem D_V {xs : List Nat} (h : Lm xs) (ht : xs = [] ∨ xs.getD (xs.length - 1) 0 ≠ 0) : D (V xs) = xs := by
  induction xs with
  | nil => exact D_zero
  | cons x xs ih =>
    rw [Lm_cons] at h
    have hrec : D (V xs) = xs := ih h.2 (by
      cases xs with
      | nil => exact .inl rfl
      | cons y ys => right; simpa using ht)
    have hne : V (x :: xs) ≠ 0 := by
      simp only [V]
      cases xs with
      | nil => simp at ht; simp [V]; exact ht
      | cons y ys =>
        intro h0
        have hv : V (y :: ys) = 0 := by omega
        rw [hv, D_zero] at hrec
        simp at hrec
    rw [D_pos hne]
    have e1 : V (x :: xs) % 4294967296 = x := by simp only [V]; omega
    have e2 : V (x :: xs) / 4294967296 = V xs := by simp only [V]; omega
    rw [e1, e2, hrec]

theorem D_take {xs : List Nat} (h : Lm xs) {k : Nat} (hk : k ≤ xs.length) (h0 : ∀ i, k ≤ i → i < xs.length → xs.getD i 0 = 0) (h1 : k = 0 ∨ xs.getD (k - 1) 0 ≠ 0) : xs.take k = D (V xs) := by
  have hv : V xs = V (xs.take k) := by
    rw [V_split xs hk, V_zero_of (xs := xs.drop k) fun i hi => by
      rw [List.length_drop] at hi
      have := h0 (k + i) (by omega) (by omega)
      rw [List.getD_eq_getElem?_getD] at this ⊢
      rw [List.getElem?_drop]; exact this]
    simp
  rw [hv]
  refine (D_V (h.take k) ?_).symm
  rcases h1 with rfl | h1
  · simp
  · by_cases hk0 : k = 0
    · subst hk0; simp
    · right
      rw [List.length_take_of_le hk, List.getD_eq_getElem?_getD, List.getElem?_take, if_pos (by omega)]
      rw [List.getD_eq_getElem?_getD] at h1; exact h1
theorem D_len_le {n k : Nat} : (D n).length ≤ k ↔ n < 4294967296 ^ k := by
  constructor
  · intro h
    have h1 := V_lt (Lm_D n)
    rw [V_D] at h1
    exact Nat.lt_of_lt_of_le h1 (Nat.pow_le_pow_right (by decide) h)
  · intro h
    induction k generalizing n with
    | zero => simp at h; subst h; rw [D_zero]; simp
    | succ k ih =>
      by_cases h0 : n = 0
      · subst h0; rw [D_zero]; simp
      · rw [D_pos h0, List.length_cons]
        have : n / 4294967296 < 4294967296 ^ k := by
          rw [Nat.pow_succ] at h
          omega
        have := ih this
        omega
theorem D_len_V {xs : List Nat} (h : Lm xs) : (D (V xs)).length ≤ xs.length := D_len_le.2 (V_lt h)
theorem V_inj {xs ys : List Nat} (hx : Lm xs) (hy : Lm ys) (hl : xs.length = ys.length) (h : V xs = V ys) : xs = ys := by
  induction xs generalizing ys with
  | nil => cases ys with
    | nil => rfl
    | cons y ys => simp at hl
  | cons x xs ih => cases ys with
    | nil => simp at hl
    | cons y ys =>
      rw [Lm_cons] at hx hy
      simp only [V] at h
      have e1 : x = y := by omega
      have e2 : V xs = V ys := by omega
      rw [e1, ih hx.2 hy.2 (by simpa using hl) e2]
theorem D_of_len {xs : List Nat} (h : Lm xs) (hl : xs.length ≤ (D (V xs)).length) : D (V xs) = xs :=
  V_inj (Lm_D _) h (Nat.le_antisymm (D_len_V h) hl) (V_D _)
theorem D_len_mono {a b : Nat} (h : a ≤ b) : (D a).length ≤ (D b).length := by
  have := V_lt (Lm_D b)
  rw [V_D] at this
  exact D_len_le.2 (Nat.lt_of_le_of_lt h this)
theorem D_lt_of_len {a b : Nat} (h : (D a).length < (D b).length) : a < b := Nat.lt_of_not_le fun hh => by have := D_len_mono hh; omega
theorem D_len_gt {n k : Nat} : k < (D n).length ↔ 4294967296 ^ k ≤ n := by
  have := D_len_le (n := n) (k := k)
  omega


theorem V_lt_of_top {xs ys : List Nat} (hx : Lm xs) (hl : xs.length = ys.length) {i : Nat} (hi : i < xs.length) (ht : V (xs.drop (i + 1)) = V (ys.drop (i + 1))) (hlt : xs.getD i 0 < ys.getD i 0) : V xs < V ys := by
  rw [V_split xs (Nat.le_of_lt hi), V_split ys (by omega : i ≤ ys.length), V_drop xs hi, V_drop ys (by omega), ht]
  have h1 := V_lt (hx.take i)
  rw [List.length_take_of_le (Nat.le_of_lt hi)] at h1
  calc V (xs.take i) + 4294967296 ^ i * (xs.getD i 0 + 4294967296 * V (ys.drop (i + 1))) < 4294967296 ^ i + 4294967296 ^ i * (xs.getD i 0 + 4294967296 * V (ys.drop (i + 1))) := by omega
    _ = 4294967296 ^ i * (xs.getD i 0 + 1 + 4294967296 * V (ys.drop (i + 1))) := by rw [Nat.add_right_comm, Nat.mul_add _ _ 1]; omega
    _ ≤ 4294967296 ^ i * (ys.getD i 0 + 4294967296 * V (ys.drop (i + 1))) := Nat.mul_le_mul_left _ (by omega)
    _ ≤ _ := by omega

theorem list_ext0 {xs ys : List Nat} (hl : xs.length = ys.length) (h : ∀ i, i < xs.length → xs.getD i 0 = ys.getD i 0) : xs = ys := by
  apply List.ext_getElem hl
  intro i h1 h2
  have := h i h1
  simpa [h1, h2] using this


def cmpI (a b : Nat) : Int := if a < b then -1 else if b < a then 1 else 0
theorem cmpI_lt {a b : Nat} (h : a < b) : cmpI a b = -1 := by simp [cmpI, h]
theorem cmpI_gt {a b : Nat} (h : b < a) : cmpI a b = 1 := by simp [cmpI, h, Nat.lt_asymm h]
theorem cmpI_eq {a b : Nat} (h : a = b) : cmpI a b = 0 := by simp [cmpI, h]

end Go.Proofs.Ytfjdfnlkobeehaa

namespace Go.Proofs.Ytfjdfnlkobeehaa

def bl (n : Nat) : Nat := if h : n = 0 then 0 else bl (n / 2) + 1
termination_by n
decreasing_by omega
theorem bl_zero : bl 0 = 0 := by rw [bl]; simp
theorem bl_pos {n : Nat} (h : n ≠ 0) : bl n = bl (n / 2) + 1 := by rw [bl]; simp [h]
theorem bl_le {n k : Nat} : bl n ≤ k ↔ n < 2 ^ k := by
  induction k generalizing n with
  | zero =>
    constructor
    · intro h
      by_cases h0 : n = 0
      · omega
      · rw [bl_pos h0] at h; omega
    · intro h; have : n = 0 := by simpa using h
      subst this; rw [bl_zero]; omega
  | succ k ih =>
    by_cases h0 : n = 0
    · subst h0; rw [bl_zero]; simp; exact Nat.pow_pos (by decide)
    · rw [bl_pos h0, Nat.pow_succ]
      have := ih (n := n / 2)
      constructor
      · intro h; have := this.1 (by omega); omega
      · intro h; have := this.2 (by omega); omega
theorem bl_eq {n k : Nat} (h1 : 2 ^ k ≤ n) (h2 : n < 2 ^ (k + 1)) : bl n = k + 1 := by
  have := bl_le.2 h2
  have : ¬ bl n ≤ k := fun h => by have := bl_le.1 h; omega
  omega
theorem bl_lt {n : Nat} : n < 2 ^ bl n := bl_le.1 (Nat.le_refl _)
theorem bl_ge {n : Nat} (h : n ≠ 0) : 2 ^ (bl n - 1) ≤ n := by
  have : 0 < bl n := by rw [bl_pos h]; omega
  have h1 : ¬ bl n ≤ bl n - 1 := by omega
  exact Nat.le_of_not_lt fun hh => h1 (bl_le.2 hh)
theorem bl_shift {n r k : Nat} (hn : n ≠ 0) (hr : r < 2 ^ k) : bl (r + 2 ^ k * n) = k + bl n := by
  obtain ⟨m, hm⟩ : ∃ m, bl n = m + 1 := ⟨bl n - 1, by have := bl_pos hn; omega⟩
  have h1 := bl_ge hn
  have h2 := bl_lt (n := n)
  rw [hm] at h1 h2 ⊢
  simp only [Nat.add_sub_cancel] at h1
  refine bl_eq (k := k + m) ?_ ?_
  · rw [Nat.pow_add]
    have := Nat.mul_le_mul_left (2 ^ k) h1
    omega
  · rw [Nat.add_assoc, Nat.pow_add]
    have := Nat.mul_le_mul_left (2 ^ k) (show n + 1 ≤ 2 ^ (m + 1) by omega)
    rw [Nat.mul_add] at this
    omega
theorem bl_div {n : Nat} (k : Nat) (h : 2 ^ k ≤ n) : bl n = k + bl (n / 2 ^ k) := by
  have h0 : 0 < 2 ^ k := Nat.pow_pos (by decide)
  have := bl_shift (n := n / 2 ^ k) (r := n % 2 ^ k) (k := k) (by have := Nat.div_pos h h0; omega) (Nat.mod_lt _ h0)
  rwa [Nat.mod_add_div] at this
theorem pow32 (k : Nat) : 4294967296 ^ k = 2 ^ (32 * k) := by rw [Nat.pow_mul]

theorem bl_top {n : Nat} (h : n ≠ 0) : bl n = 32 * ((D n).length - 1) + bl ((D n).getD ((D n).length - 1) 0) := by
  have hl := D_len_pos h
  have ht := D_last n h
  have hs := V_split (D n) (i := (D n).length - 1) (by omega)
  have hd := V_drop (D n) (i := (D n).length - 1) (by omega)
  rw [show (D n).length - 1 + 1 = (D n).length by omega, List.drop_length] at hd
  simp only [V, Nat.mul_zero, Nat.add_zero] at hd
  rw [hd, V_D, pow32] at hs
  have hlt := V_lt ((Lm_D n).take ((D n).length - 1))
  rw [List.length_take_of_le (by omega), pow32] at hlt
  conv => lhs; rw [hs]
  exact bl_shift ht hlt

end Go.Proofs.Ytfjdfnlkobeehaa

namespace Go.Proofs.Ytfjdfnlkobeehaa


def pad : Nat → Nat → List Nat
  | 0, _ => []
  | n + 1, v => v % 4294967296 :: pad n (v / 4294967296)
theorem pad_len (n v : Nat) : (pad n v).length = n := by
  induction n generalizing v with
  | zero => rfl
  | succ n ih => simp [pad, ih]
theorem pad_lm (n v : Nat) : Lm (pad n v) := by
  induction n generalizing v with
  | zero => exact Lm_nil
  | succ n ih => exact Lm_cons.2 ⟨Nat.mod_lt _ (by decide), ih _⟩
theorem pad_V (n v : Nat) : V (pad n v) = v % 4294967296 ^ n := by
  induction n generalizing v with
  | zero => simp [pad, V, Nat.mod_one]
  | succ n ih =>
    simp only [pad, V, ih, Nat.pow_succ]
    rw [Nat.mul_comm (4294967296 ^ n), Nat.mod_mul]
theorem right_step {r : Nat} (hr : r < 32) (v w : Nat) : (v + 18446744073709551616 * w) / 2 ^ r % 4294967296 = v / 2 ^ r % 4294967296 := by
  have hp : 0 < 2 ^ r := Nat.pow_pos (by decide)
  obtain ⟨m, hm⟩ : ∃ m, 18446744073709551616 = 2 ^ r * (m * 4294967296) := by
    refine ⟨2 ^ (32 - r), ?_⟩
    have h : 2 ^ r * 2 ^ (32 - r) = 4294967296 := by
      rw [← Nat.pow_add, show r + (32 - r) = 32 by omega]
    rw [← Nat.mul_assoc, h]
  generalize 18446744073709551616 = c at hm
  subst hm
  rw [Nat.mul_assoc, Nat.add_mul_div_left _ _ hp, Nat.mul_right_comm, Nat.mul_comm _ 4294967296, Nat.add_mul_mod_self_left]

end Go.Proofs.Ytfjdfnlkobeehaa
end
