/- Part 29 of the way to the statement: the walk and what it needs. -/
import Derived.Test.YtfjdfnlkobeehaaKDeF2
section
set_option linter.unusedVariables false
set_option linter.unusedSimpArgs false
namespace Go.Proofs.Ytfjdfnlkobeehaa.Ref

def V : List Nat → Nat
  | [] => 0
  | x :: xs => x + 10000 * V xs
def Lm (xs : List Nat) : Prop := ∀ x ∈ xs, x < 10000
def D (n : Nat) : List Nat := if h : n = 0 then [] else n % 10000 :: D (n / 10000)
termination_by n
decreasing_by omega

theorem V_nil : V [] = 0 := rfl
theorem V_cons (x : Nat) (xs : List Nat) : V (x :: xs) = x + 10000 * V xs := rfl
theorem D_zero : D 0 = [] := by rw [D]; simp
theorem D_pos {n : Nat} (h : n ≠ 0) : D n = n % 10000 :: D (n / 10000) := by rw [D]; simp [h]

theorem Lm_nil : Lm [] := fun x hx => by simp at hx
theorem Lm_cons {x : Nat} {xs : List Nat} : Lm (x :: xs) ↔ x < 10000 ∧ Lm xs := by simp [Lm]
theorem Lm_append {xs ys : List Nat} : Lm (xs ++ ys) ↔ Lm xs ∧ Lm ys := by
  simp only [Lm, List.mem_append]
  exact ⟨fun h => ⟨fun x hx => h x (.inl hx), fun x hx => h x (.inr hx)⟩, fun h x hx => hx.elim (h.1 x) (h.2 x)⟩
theorem Lm.take {xs : List Nat} (h : Lm xs) (i : Nat) : Lm (xs.take i) := fun x hx => h x (List.mem_of_mem_take hx)
theorem Lm.drop {xs : List Nat} (h : Lm xs) (i : Nat) : Lm (xs.drop i) := fun x hx => h x (List.mem_of_mem_drop hx)
theorem Lm.get {xs : List Nat} (h : Lm xs) (i : Nat) : xs.getD i 0 < 10000 := by
  rw [List.getD_eq_getElem?_getD]
  cases hx : xs[i]? with
  | none => simp
  | some x => simpa using h x (List.mem_of_getElem? hx)

theorem V_append (xs ys : List Nat) : V (xs ++ ys) = V xs + 10000 ^ xs.length * V ys := by
  induction xs with
  | nil => simp [V]
  | cons x xs ih => simp only [List.cons_append, V, ih, List.length_cons, Nat.pow_succ]; rw [Nat.mul_add, Nat.add_assoc, Nat.mul_comm (10000 ^ xs.length) 10000, Nat.mul_assoc]
theorem V_lt {xs : List Nat} (h : Lm xs) : V xs < 10000 ^ xs.length := by
  induction xs with
  | nil => simp [V]
  | cons x xs ih =>
    rw [Lm_cons] at h
    have := ih h.2
    simp only [V, List.length_cons, Nat.pow_succ]
    omega
theorem V_split (xs : List Nat) {i : Nat} (h : i ≤ xs.length) : V xs = V (xs.take i) + 10000 ^ i * V (xs.drop i) := by
  have := V_append (xs.take i) (xs.drop i)
  rwa [List.take_append_drop, List.length_take_of_le h] at this
theorem V_take_succ (xs : List Nat) {i : Nat} (h : i < xs.length) : V (xs.take (i + 1)) = V (xs.take i) + 10000 ^ i * xs.getD i 0 := by
  rw [take_getD xs h, V_append, List.length_take_of_le (Nat.le_of_lt h)]; simp [V]
theorem V_drop (xs : List Nat) {i : Nat} (h : i < xs.length) : V (xs.drop i) = xs.getD i 0 + 10000 * V (xs.drop (i + 1)) := by
  rw [drop_getD xs h, V]
theorem V_drop_div {xs : List Nat} (h : Lm xs) {i : Nat} (hi : i ≤ xs.length) : V (xs.drop i) = V xs / 10000 ^ i := by
  have h1 := V_split xs hi
  have h2 := V_lt (h.take i)
  rw [List.length_take_of_le hi] at h2
  rw [h1, Nat.add_mul_div_left _ _ (Nat.pow_pos (by decide)), Nat.div_eq_of_lt h2, Nat.zero_add]
theorem V_take_mod {xs : List Nat} (h : Lm xs) {i : Nat} (hi : i ≤ xs.length) : V (xs.take i) = V xs % 10000 ^ i := by
  have h1 := V_split xs hi
  have h2 := V_lt (h.take i)
  rw [List.length_take_of_le hi] at h2
  rw [h1, Nat.add_mul_mod_self_left, Nat.mod_eq_of_lt h2]
theorem V_zero_of {xs : List Nat} (h : ∀ i, i < xs.length → xs.getD i 0 = 0) : V xs = 0 := by
  induction xs with
  | nil => rfl
  | cons x xs ih =>
    have h0 := h 0 (by simp)
    have := ih fun i hi => by have := h (i + 1) (by simp; omega); simpa using this
    simp at h0
    simp [V, this, h0]
theorem V_repl (n : Nat) : V (List.replicate n 0) = 0 := V_zero_of fun i hi => by
  rw [List.getD_eq_getElem?_getD, List.getElem?_replicate]; split <;> rfl
theorem Lm_repl (n : Nat) : Lm (List.replicate n 0) := fun x hx => by simp at hx; omega

theorem Lm_D (n : Nat) : Lm (D n) := by
  induction n using Nat.strongRecOn with
  | _ n ih =>
    by_cases h : n = 0
    · subst h; rw [D_zero]; exact Lm_nil
    · rw [D_pos h, Lm_cons]; exact ⟨Nat.mod_lt _ (by decide), ih _ (by omega)⟩
theorem V_D (n : Nat) : V (D n) = n := by
  induction n using Nat.strongRecOn with
  | _ n ih =>
    by_cases h : n = 0
    · subst h; rw [D_zero]; rfl
    · rw [D_pos h, V, ih _ (by omega)]; omega
theorem D_last (n : Nat) (h : n ≠ 0) : (D n).getD ((D n).length - 1) 0 ≠ 0 := by
  induction n using Nat.strongRecOn with
  | _ n ih =>
    rw [D_pos h]
    by_cases h2 : n / 10000 = 0
    · rw [h2, D_zero]; simp; omega
    · have := ih _ (by omega) h2
      have hl : (D (n / 10000)).length ≠ 0 := by
        rw [D_pos h2]; simp
      simp only [List.length_cons, Nat.add_sub_cancel]
      obtain ⟨k, hk⟩ : ∃ k, (D (n / 10000)).length = k + 1 := ⟨_, (Nat.succ_pred hl).symm⟩
      rw [hk] at this ⊢
      simpa using this
theorem D_nil {n : Nat} : D n = [] ↔ n = 0 := by
  constructor
  · intro h
    have := V_D n
    rw [h] at this; exact this.symm
  · rintro rfl; exact D_zero
theorem D_len_pos {n : Nat} (h : n ≠ 0) : 0 < (D n).length := by
  rw [D_pos h]; simp
theorem D_len_zero {n : Nat} : (D n).length = 0 ↔ n = 0 := by
  rw [List.length_eq_zero_iff, D_nil]
theorem D_V {xs : List Nat} (h : Lm xs) (ht : xs = [] ∨ xs.getD (xs.length - 1) 0 ≠ 0) : D (V xs) = xs := by
  induction xs with
  | nil => exact D_zero
  | cons x xs ih =>
    rw [Lm_cons] at h
    have hrec : D (V xs) = xs := ih h.2 (by
      cases xs with
      | nil => exact .inl rfl
      | cons y ys => right; simpa using ht)
    have hne : V (x :: xs) ≠ 0 := by
      simp only [V]
      cases xs with
      | nil => simp at ht; simp [V]; exact ht
      | cons y ys =>
        intro h0
        have hv : V (y :: ys) = 0 := by omega
        rw [hv, D_zero] at hrec
        simp at hrec
    rw [D_pos hne]
    have e1 : V (x :: xs) % 10000 = x := by simp only [V]; omega
    have e2 : V (x :: xs) / 10000 = V xs := by simp only [V]; omega
    rw [e1, e2, hrec]
theorem D_take {xs : List Nat} (h : Lm xs) {k : Nat} (hk : k ≤ xs.length) (h0 : ∀ i, k ≤ i → i < xs.length → xs.getD i 0 = 0) (h1 : k = 0 ∨ xs.getD (k - 1) 0 ≠ 0) : xs.take k = D (V xs) := by
  have hv : V xs = V (xs.take k) := by
    rw [V_split xs hk, V_zero_of (xs := xs.drop k) fun i hi => by
      rw [List.length_drop] at hi
      have := h0 (k + i) (by omega) (by omega)
      rw [List.getD_eq_getElem?_getD] at this ⊢
      rw [List.getElem?_drop]; exact this]
    simp
  rw [hv]
  refine (D_V (h.take k) ?_).symm
  rcases h1 with rfl | h1
  · simp
  · by_cases hk0 : k = 0
    · subst hk0; simp
    · right
      rw [List.length_take_of_le hk, List.getD_eq_getElem?_getD, List.getElem?_take, if_pos (by omega)]
      rw [List.getD_eq_getElem?_getD] at h1; exact h1
theorem D_len_le {n k : Nat} : (D n).length ≤ k ↔ n < 10000 ^ k := by
  constructor
  · intro h
    have h1 := V_lt (Lm_D n)
    rw [V_D] at h1
    exact Nat.lt_of_lt_of_le h1 (Nat.pow_le_pow_right (by decide) h)
  · intro h
    induction k generalizing n with
    | zero => simp at h; subst h; rw [D_zero]; simp
    | succ k ih =>
      by_cases h0 : n = 0
      · subst h0; rw [D_zero]; simp
      · rw [D_pos h0, List.length_cons]
        have : n / 10000 < 10000 ^ k := by
          rw [Nat.pow_succ] at h
          omega
        have := ih this
        omega
theorem D_len_V {xs : List Nat} (h : Lm xs) : (D (V xs)).length ≤ xs.length := D_len_le.2 (V_lt h)
theorem V_inj {xs ys : List Nat} (hx : Lm xs) (hy : Lm ys) (hl : xs.length = ys.length) (h : V xs = V ys) : xs = ys := by
  induction xs generalizing ys with
  | nil => cases ys with
    | nil => rfl
    | cons y ys => simp at hl
  | cons x xs ih => cases ys with
    | nil => simp at hl
    | cons y ys =>
      rw [Lm_cons] at hx hy
      simp only [V] at h
      have e1 : x = y := by omega
      have e2 : V xs = V ys := by omega
      rw [e1, ih hx.2 hy.2 (by simpa using hl) e2]
theorem D_of_len {xs : List Nat} (h : Lm xs) (hl : xs.length ≤ (D (V xs)).length) : D (V xs) = xs :=
  V_inj (Lm_D _) h (Nat.le_antisymm (D_len_V h) hl) (V_D _)
theorem D_len_mono {a b : Nat} (h : a ≤ b) : (D a).length ≤ (D b).length := by
  have := V_lt (Lm_D b)
  rw [V_D] at this
  exact D_len_le.2 (Nat.lt_of_le_of_lt h this)
theorem D_lt_of_len {a b : Nat} (h : (D a).length < (D b).length) : a < b := Nat.lt_of_not_le fun hh => by have := D_len_mono hh; omega
theorem D_len_gt {n k : Nat} : k < (D n).length ↔ 10000 ^ k ≤ n := by
  have := D_len_le (n := n) (k := k)
  omega

theorem V_lt_of_top {xs ys : List Nat} (hx : Lm xs) (hl : xs.length = ys.length) {i : Nat} (hi : i < xs.length) (ht : V (xs.drop (i + 1)) = V (ys.drop (i + 1))) (hlt : xs.getD i 0 < ys.getD i 0) : V xs < V ys := by
  rw [V_split xs (Nat.le_of_lt hi), V_split ys (by omega : i ≤ ys.length), V_drop xs hi, V_drop ys (by omega), ht]
  have h1 := V_lt (hx.take i)
  rw [List.length_take_of_le (Nat.le_of_lt hi)] at h1
  calc V (xs.take i) + 10000 ^ i * (xs.getD i 0 + 10000 * V (ys.drop (i + 1))) < 10000 ^ i + 10000 ^ i * (xs.getD i 0 + 10000 * V (ys.drop (i + 1))) := by omega
    _ = 10000 ^ i * (xs.getD i 0 + 1 + 10000 * V (ys.drop (i + 1))) := by rw [Nat.add_right_comm, Nat.mul_add _ _ 1]; omega
    _ ≤ 10000 ^ i * (ys.getD i 0 + 10000 * V (ys.drop (i + 1))) := Nat.mul_le_mul_left _ (by omega)
    _ ≤ _ := by omega

theorem V_set_drop {zs : List Nat} {k v : Nat} (hk : k < zs.length) : V ((zs.set k v).drop k) = v + 10000 * V (zs.drop (k + 1)) := by
  rw [V_drop _ (by simpa using hk), List.getD_eq_getElem?_getD, List.getElem?_set_self hk, List.drop_set_of_lt (Nat.lt_succ_self k)]
  rfl

end Go.Proofs.Ytfjdfnlkobeehaa.Ref
end
